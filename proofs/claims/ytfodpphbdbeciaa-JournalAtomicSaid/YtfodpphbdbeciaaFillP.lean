/- field.Fill, whatever comes in. -/
import Derived.Test.YtfodpphbdbeciaaField
import Derived.Test.YtfodpphbdbeciaaGv
namespace Go.Proofs.Ytfodpphbdbeciaa.Field
open Go.RowKit Words Mem Plain Ops
set_option maxRecDepth 100000
set_option linter.unusedVariables false
set_option linter.unusedSimpArgs false

def filled (xs : List Int) (s : Nat) : List Int := xs ++ List.replicate (s - xs.length) 0
theorem splice_zeros (xs : List Int) (s : Nat) (h : xs.length ≤ s) : splice (ints .u8 (List.replicate s 0)) 0 ((ints .u8 xs).take s) = ints .u8 (filled xs s) := by
  unfold splice filled
  rw [show (ints .u8 xs).take s = ints .u8 xs from List.take_of_length_le (by rw [ints_length]; exact h), ints_append, ints_length, ints_drop]
  simp
theorem Fill_ok (a : Option Addr) (n cap s : Nat) (xs : List Int) (w : World) (hl : xs.length = n) (hx : Sl w a (ints .u8 xs)) (hns : n ≤ s) (hs : s ≤ 4096) :
    Calls Try.prog 41 #[.slice a n cap, .int .i64 s] w fun e w' => e = .returned (.tuple #[.slice (some ⟨w.heap.size, 0, none⟩) s s, .int .i64 0]) ∧ w' = w.alloc (.cells (ints .u8 (filled xs s)).toArray 5) := by
  have hmk := make8 w s s rfl (by omega)
  have hr := Row.new w 5 (ints .u8 (List.replicate s 0))
  have hcp := run_copy_sl (P := Try.prog) (w.alloc (.cells (ints .u8 (List.replicate s 0)).toArray 5)) 34 34 3 5 (o := 0) s s n cap Try.underlying34 size8 hr (hx.ext ((Ext.refl w).alloc _)) (by rw [ints_length]; exact hl) (by simp [ints_length]; omega) (ints_oneCell' _ _)
  rw [splice_zeros _ _ (by omega), setRow_new] at hcp
  clear hr
  go_enter Try.func41, Try.ntmps41
  go_wp2
  go_ret2
  exact ⟨rfl, rfl⟩
theorem Fill_no (a : Option Addr) (n cap : Nat) (s : Int) (w : World) (b0 : -9223372036854775808 ≤ s) (b1 : s ≤ 9223372036854775807) (h : s < 0 ∨ 4096 < s ∨ s < n) (hm : n ≤ maxLen) :
    Calls Try.prog 41 #[.slice a n cap, .int .i64 s] w fun e w' => e = .returned (.tuple #[.slice none 0 0, .int .i64 (if s < 0 then 1 else 4)]) ∧ w = w' := by
  unfold maxLen at hm
  by_cases h0 : s < 0
  · rw [if_pos h0]
    clear h
    go_enter Try.func41, Try.ntmps41
    go_wp2
    go_ret2
    exact ⟨rfl, rfl⟩
  · rw [if_neg h0]
    by_cases h1 : 4096 < s
    · clear h
      go_enter Try.func41, Try.ntmps41
      go_wp2
      go_ret2
      exact ⟨rfl, rfl⟩
    · have h2 : s < n := by omega
      clear h
      go_enter Try.func41, Try.ntmps41
      go_wp2
      go_ret2
      exact ⟨rfl, rfl⟩
theorem filled_more (xs : List Int) (k : Nat) (h : xs.length ≤ k) : filled xs k ++ [0] = filled xs (k + 1) := by
  unfold filled
  rw [List.append_assoc]
  congr 1
  rw [show k + 1 - xs.length = (k - xs.length) + 1 by omega, List.replicate_succ']
theorem length_filled (xs : List Int) (s : Nat) (h : xs.length ≤ s) : (filled xs s).length = s := by unfold filled; rw [List.length_append, List.length_replicate]; omega
theorem isBytes_filled (xs : List Int) (s : Nat) (h : isBytes xs) : isBytes (filled xs s) := by
  unfold filled
  refine isBytes_append.2 ⟨h, fun x hx => ?_⟩
  rw [List.eq_of_mem_replicate hx]; omega
theorem filled_self (xs : List Int) (n : Nat) (h : xs.length = n) : filled xs n = xs := by unfold filled; rw [h]; simp
def fillR (xs : List Int) (s : Int) : List Int × Int :=
  if s < 0 then ([], 1) else if 4096 < s ∨ s < xs.length then ([], 4) else (filled xs s.toNat, 0)
theorem Fill_gave (a : Option Addr) (n cap : Nat) (xs : List Int) (w : World) (s : Int) (b0 : -9223372036854775808 ≤ s) (b1 : s ≤ 9223372036854775807) (hl : xs.length = n) (hn : n ≤ 9223372036854775807) (hs : Sl w a (ints .u8 xs)) :
    Calls Try.prog 41 #[.slice a n cap, .int .i64 s] w (Gave .u8 5 w (fillR xs s)) := by
  unfold fillR
  rw [hl]
  by_cases h : s < 0 ∨ 4096 < s ∨ s < n
  · refine (Fill_no a n cap s w b0 b1 h (by unfold maxLen; omega)).mono fun e w' ⟨h1, h2⟩ => ?_
    by_cases h0 : s < 0
    · rw [if_pos h0] at h1 ⊢
      exact Gave.nil h1 (by subst h2; exact Ext.refl _)
    · rw [if_neg h0] at h1 ⊢
      rw [if_pos (by omega)]
      exact Gave.nil h1 (by subst h2; exact Ext.refl _)
  · rw [if_neg (by omega), if_neg (by omega)]
    obtain ⟨q, rfl⟩ : ∃ q : Nat, s = q := ⟨s.toNat, by omega⟩
    rw [Int.toNat_natCast]
    refine (Fill_ok a n cap q xs w hl hs (by omega) (by omega)).mono fun e w' ⟨h1, h2⟩ => ?_
    subst h2
    exact Gave.row h1 (length_filled _ _ (by omega)) (by unfold maxLen; omega) (Row.new w 5 (ints .u8 (filled xs q))) ((Ext.refl w).alloc _)
end Go.Proofs.Ytfodpphbdbeciaa.Field
