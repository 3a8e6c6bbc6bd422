/- The contract of field.Fill. -/
import Derived.Test.YtgflpbbdohmhiaaField
namespace Go.Proofs.Ytgflpbbdohmhiaa.Field
open Go.RowKit Words Mem Plain Ops
set_option linter.unusedVariables false
set_option linter.unusedSimpArgs false

/-- Filled up with 0. -/
def filled (xs : List Int) (s : Nat) : List Int := xs ++ List.replicate (s - xs.length) 0
theorem splice_zeros (xs : List Int) (s : Nat) (h : xs.length ≤ s) : splice (ints .u8 (List.replicate s 0)) 0 ((ints .u8 xs).take s) = ints .u8 (filled xs s) := by
  unfold splice filled
  rw [show (ints .u8 xs).take s = ints .u8 xs from List.take_of_length_le (by rw [ints_length]; exact h), ints_append, ints_length, ints_drop]
  simp

set_option maxHeartbeats 400000 in
theorem Fill_ok (a : Option Addr) (n cap s : Nat) (xs : List Int) (w : World) (hl : xs.length = n) (hx : Sl w a (ints .u8 xs)) (hns : n ≤ s) (hs : s ≤ 4096) :
    Calls Try.prog 18 #[.slice a n cap, .int .i64 s] w fun e w' => e = .returned (.tuple #[.slice (some ⟨w.heap.size, 0, none⟩) s s, .int .i64 0]) ∧ w' = w.alloc (.cells (ints .u8 (filled xs s)).toArray 5) := by
  have hmk := make8 w s s rfl (by omega)
  have hr := Row.new w 5 (ints .u8 (List.replicate s 0))
  have hcp := run_copy_sl (P := Try.prog) (w.alloc (.cells (ints .u8 (List.replicate s 0)).toArray 5)) 22 22 3 5 (o := 0) s s n cap Try.underlying22 size8 hr (hx.ext ((Ext.refl w).alloc _)) (by rw [ints_length]; exact hl) (by simp [ints_length]; omega) (ints_oneCell' _ _)
  rw [splice_zeros _ _ (by omega), setRow_new] at hcp
  clear hr
  go_enter Try.func18, Try.ntmps18
  go_wp2
  go_ret2
  exact ⟨rfl, rfl⟩
theorem Fill_no (a : Option Addr) (n cap : Nat) (s : Int) (w : World) (b0 : -9223372036854775808 ≤ s) (b1 : s ≤ 9223372036854775807) (h : s < 0 ∨ 4096 < s ∨ s < n) (hm : n ≤ maxLen) :
    Calls Try.prog 18 #[.slice a n cap, .int .i64 s] w fun e w' => e = .returned (.tuple #[.slice none 0 0, .int .i64 (if s < 0 then 1 else 4)]) ∧ w = w' := by
  unfold maxLen at hm
  by_cases h0 : s < 0
  · rw [if_pos h0]
    clear h
    go_enter Try.func18, Try.ntmps18
    go_wp2
    go_ret2
    exact ⟨rfl, rfl⟩
  · rw [if_neg h0]
    by_cases h1 : 4096 < s
    · clear h
      go_enter Try.func18, Try.ntmps18
      go_wp2
      go_ret2
      exact ⟨rfl, rfl⟩
    · have h2 : s < n := by omega
      clear h
      go_enter Try.func18, Try.ntmps18
      go_wp2
      go_ret2
      exact ⟨rfl, rfl⟩

end Go.Proofs.Ytgflpbbdohmhiaa.Field
