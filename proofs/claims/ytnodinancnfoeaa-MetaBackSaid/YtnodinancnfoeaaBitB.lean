/- Contracts of bits.Count, First (both), SameInts, few. -/
import Derived.Test.YtnodinancnfoeaaBit
import Derived.BigQuiet
import Derived.Deep.QuietTactic
namespace Go.Proofs.Ytnodinancnfoeaa.Bit
open Go.RowKit Words Mem Plain Ops
set_option linter.unusedVariables false
set_option linter.unusedSimpArgs false

theorem lo_zero (xs : List Int) (x y : Int) (k : Nat) (h : (k : Int) ≤ mx x) : countTo xs x y k = 0 := by
  have := countTo_same xs x y 0 k (fun j _ h2 => by
    unfold inR; unfold mx at h
    rw [decide_eq_false (p := x ≤ j) (by split at h <;> omega)]; rfl)
  rw [Nat.zero_add] at this
  rw [this]; rfl
theorem hi_same (xs : List Int) (x y : Int) (k : Nat) (hk : k ≤ 8 * xs.length) (h : mn y (8 * xs.length) ≤ k) : countTo xs x y k = countN xs x y := by
  unfold countN
  obtain ⟨d, hd⟩ := Nat.exists_eq_add_of_le hk
  rw [hd, countTo_same xs x y k d (fun j h1 h2 => by
    unfold inR; unfold mn at h
    rw [decide_eq_false (p := (j : Int) < y) (by split at h <;> omega)]; simp)]

set_option maxHeartbeats 1000000 in
theorem Count_ok (a : Option Addr) (n cap : Nat) (xs : List Int) (x y : Int) (w : World) (hl : xs.length = n) (hn : n ≤ 1152921504606846975) (hb : isBytes xs) (hs : Sl w a (ints .u8 xs)) : Calls Try.prog 34 #[.slice a n cap, .int .i64 x, .int .i64 y] w fun e w' => e = .returned (.int .i64 (countN xs x y)) ∧ w = w' := by
  have HL := Lib.hid hl
  have hlo : 0 ≤ mx x := by unfold mx; split <;> omega
  obtain ⟨lo, hlo'⟩ := Int.eq_ofNat_of_zero_le hlo
  have hhi : mn y (8 * n) ≤ 8 * n := by unfold mn; split <;> omega
  by_cases hbig : 8 * n < lo
  · -- the first bit lies behind the last one
    have hz : countN xs x y = 0 := by unfold countN; exact lo_zero xs x y _ (by rw [hlo', hl]; omega)
    rw [hz]
    clear hl hz
    go_enter Try.func34, Try.ntmps34
    go_wp2_with (go_at_call 54; refine (within_ok _ _ _ _ _ _ hn).mono ?_; rintro e w' ⟨rfl, rfl⟩; rw [hlo'])
    refine wp_loop_once ?_
    go_wp2
    go_ret
    exact ⟨rfl, rfl⟩
  · have HLO := Lib.hid hlo'
    have hx1 : ∀ k : Nat, lo ≤ k → x ≤ k := by intro k hk; unfold mx at hlo'; split at hlo' <;> omega
    have HX1 := Lib.hid hx1
    clear hl hx1
    go_enter Try.func34, Try.ntmps34
    go_wp2_with (go_at_call 54; refine (within_ok _ _ _ _ _ _ hn).mono ?_; rintro e w' ⟨rfl, rfl⟩; rw [hlo'])
    clear hlo'
    generalize hhe : mn y (8 * n) = hi at *
    have HHE := Lib.hid hhe; clear hhe
    go_loop [7, 10] (fun u v => ∃ k : Nat, lo ≤ k ∧ k ≤ 8 * n ∧ v = .int .i64 k ∧ u = .int .i64 (countTo xs x y k)) (fun _ v => 8 * n - (intOf v).toNat)
    case atStart => exact ⟨lo, Nat.le_refl _, by omega, rfl, by rw [lo_zero xs x y lo (by rw [HLO.out]; omega)]; rfl⟩
    case round =>
      obtain ⟨k, hk0, hk, rfl, rfl⟩ := hrel
      have hcl := countTo_le xs x y k
      by_cases hlt : (k : Int) < hi
      · have hst := countTo_succ xs x y k
        have hk8 : k < 8 * n := by omega
        rw [rCount_step xs x y k (by rw [HL.out]; exact hk8), decide_eq_true (HX1.out k hk0), decide_eq_true (p := (k : Int) < y) (by have := HHE.out; unfold mn at this; split at this <;> omega)] at hst
        have HST := Lib.hid hst; clear hst
        generalize countTo xs x y k = c at *
        cases h3 : bitB xs k
        · go_wp2_with (go_at_call 55; refine (Has_ok _ _ _ xs _ _ HL.out hn hb hs).mono ?_; rintro e w' ⟨rfl, rfl⟩)
          go_round
          case rel => exact ⟨k + 1, by omega, hk8, by go_num, by rw [HST.out, h3]; simp⟩
          case measure => simp [intOf]; omega
        · go_wp2_with (go_at_call 55; refine (Has_ok _ _ _ xs _ _ HL.out hn hb hs).mono ?_; rintro e w' ⟨rfl, rfl⟩)
          go_round
          case rel => exact ⟨k + 1, by omega, hk8, by go_num, by rw [HST.out, h3]; simp⟩
          case measure => simp [intOf]; omega
      · go_wp2
        go_ret
        exact ⟨by rw [← hi_same xs x y k (by rw [HL.out]; exact hk) (by rw [HL.out, HHE.out]; omega)]; rfl, rfl⟩

/-- The first bit that is so, from one on up to another one. -/
def firstN (xs : List Int) (x y : Int) (on : Bool) : Option Nat := (List.range (8 * xs.length)).find? (inR xs x y on)
def firstV (xs : List Int) (x y : Int) (on : Bool) : Value := match firstN xs x y on with | some k => .tuple #[.int .i64 k, .bool true] | none => .tuple #[.int .i64 0, .bool false]
theorem find_some {p : Nat → Bool} {m i : Nat} (hi : i < m) (hp : p i = true) (h : ∀ k, k < i → p k = false) : (List.range m).find? p = some i := by
  rw [List.find?_range_eq_some]
  exact ⟨hp, by simpa using hi, fun k hk => by simp [h k hk]⟩
theorem find_none {p : Nat → Bool} {m : Nat} (h : ∀ k, k < m → p k = false) : (List.range m).find? p = none := by
  rw [List.find?_eq_none]
  intro k hk
  simp [h k (List.mem_range.1 hk)]
end Go.Proofs.Ytnodinancnfoeaa.Bit
