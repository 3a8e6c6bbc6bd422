/- field.stands and field.Get. -/
import Derived.Test.YtfodpphbdbeciaaAtP
import Derived.Test.YtfodpphbdbeciaaGv
namespace Go.Proofs.Ytfodpphbdbeciaa.Field
open Go.RowKit Words Mem Plain Ops
set_option maxRecDepth 100000
set_option linter.unusedVariables false
set_option linter.unusedSimpArgs false

theorem stands_ok (m : Nat) (a s : Int) (w : World) (hm : m ≤ 9223372036854775807) (ha : -9223372036854775808 ≤ a) :
    Calls Try.prog 47 #[.int .i64 m, .int .i64 a, .int .i64 s] w fun e w' => e = .returned (.bool (standsB m a s)) ∧ w = w' := by
  unfold standsB
  by_cases h1 : 1 ≤ s
  · by_cases h2 : s ≤ 8
    · by_cases h3 : 0 ≤ a
      · by_cases h4 : a ≤ m
        · rw [decide_eq_true h1, decide_eq_true h2, decide_eq_true h3, decide_eq_true h4]
          go_enter Try.func47, Try.ntmps47
          go_wp2
          go_ret
          exact ⟨rfl, rfl⟩
        · rw [decide_eq_true h1, decide_eq_true h2, decide_eq_true h3, decide_eq_false h4]
          go_enter Try.func47, Try.ntmps47
          go_wp2
          go_ret
          exact ⟨rfl, rfl⟩
      · rw [decide_eq_true h1, decide_eq_true h2, decide_eq_false h3]
        go_enter Try.func47, Try.ntmps47
        go_wp2
        go_ret
        exact ⟨rfl, rfl⟩
    · rw [decide_eq_true h1, decide_eq_false h2]
      go_enter Try.func47, Try.ntmps47
      go_wp2
      go_ret
      exact ⟨rfl, rfl⟩
  · rw [decide_eq_false h1]
    go_enter Try.func47, Try.ntmps47
    go_wp2
    go_ret
    exact ⟨rfl, rfl⟩
theorem Get_no (a : Option Addr) (n cap : Nat) (k s : Int) (w : World) (hn : n ≤ 9223372036854775807) (hk : -9223372036854775808 ≤ k) (h : standsB n k s = false) :
    Calls Try.prog 37 #[.slice a n cap, .int .i64 k, .int .i64 s] w fun e w' => e = .returned (.tuple #[.int .u64 0, .int .i64 1]) ∧ w = w' := by
  go_enter Try.func37, Try.ntmps37
  go_wp2_with (go_at_call 47; refine (stands_ok _ _ _ _ hn hk).mono ?_; rintro e w' ⟨rfl, rfl⟩; rw [h])
  go_ret2
  exact ⟨rfl, rfl⟩
theorem Get_yes (a : Option Addr) (n cap : Nat) (xs : List Int) (k s : Nat) (w : World) (hl : xs.length = n) (hn : n ≤ 9223372036854775807) (hc : n ≤ cap) (hcm : cap ≤ 9223372036854775807) (hb : isBytes xs) (hs : Sl w a (ints .u8 xs)) (h : standsB n k s = true) :
    Calls Try.prog 37 #[.slice a n cap, .int .i64 k, .int .i64 s] w fun e w' => e = .returned (.tuple #[.int .u64 (numOf ((xs.drop k).take s)), .int .i64 0]) ∧ w = w' := by
  obtain ⟨h1, h2, h3, h4, h5⟩ := standsB_true h
  have hds := (hs.take (k + s)).cut cap k (by intro e; rw [List.length_take, ints_length]; omega)
  rw [ints_take, ints_drop] at hds
  rw [if_neg (by omega), List.drop_take, Nat.add_sub_cancel_left] at hds
  have hdb : isBytes ((xs.drop k).take s) := isBytes_take (isBytes_drop hb _) _
  have hdl : ((xs.drop k).take s).length = s := by rw [List.length_take, List.length_drop]; omega
  generalize (xs.drop k).take s = P at *
  go_enter Try.func37, Try.ntmps37
  go_wp2_with (go_at_call 47; refine (stands_ok _ _ _ _ hn (by omega)).mono ?_; rintro e w' ⟨rfl, rfl⟩; rw [h])
  refine (get_ok _ s _ P w hdl (by omega) hdb hds).mono ?_
  rintro e w' ⟨rfl, rfl⟩
  go_wp2
  go_ret2
  exact ⟨rfl, rfl⟩
def getR (xs : List Int) (k s : Int) : Int × Int :=
  if standsB xs.length k s = false then (0, 1) else (numOf ((xs.drop k.toNat).take s.toNat), 0)
theorem Get_gave (a : Option Addr) (n cap : Nat) (xs : List Int) (w : World) (k s : Int) (b0 : -9223372036854775808 ≤ k) (hl : xs.length = n) (hn : n ≤ 9223372036854775807) (hb : isBytes xs) (hs : Sl w a (ints .u8 xs)) (hcap : n ≤ cap) (hcm : cap ≤ 9223372036854775807) :
    Calls Try.prog 37 #[.slice a n cap, .int .i64 k, .int .i64 s] w fun e w' => e = .returned (.tuple #[.int .u64 (getR xs k s).1, .int .i64 (getR xs k s).2]) ∧ w = w' := by
  unfold getR
  rw [hl]
  by_cases h : standsB n k s = false
  · rw [if_pos h]
    exact Get_no a n cap k s w hn b0 h
  · rw [if_neg h]
    have ht : standsB n k s = true := by simpa using h
    obtain ⟨g1, g2, g3, g4, g5⟩ := standsB_true ht
    obtain ⟨q, rfl⟩ : ∃ q : Nat, s = q := ⟨s.toNat, by omega⟩
    obtain ⟨i, rfl⟩ : ∃ i : Nat, k = i := ⟨k.toNat, by omega⟩
    rw [Int.toNat_natCast, Int.toNat_natCast]
    exact Get_yes a n cap xs i q w hl hn hcap hcm hb hs ht
end Go.Proofs.Ytfodpphbdbeciaa.Field
