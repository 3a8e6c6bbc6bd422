/- Contracts of bits.First (both), SameInts, few. -/
import Derived.Test.YtcepelagadpcnaaBitB
namespace Go.Proofs.Ytcepelagadpcnaa.Bit
open Go.RowKit Words Mem Plain Ops
set_option linter.unusedVariables false
set_option linter.unusedSimpArgs false

theorem inR_yes {xs : List Int} {x y : Int} {on : Bool} {k : Nat} (h8 : k < 8 * xs.length) (h1 : x ≤ k) (h2 : (k : Int) < y) (h3 : (bitB xs k == on) = true) : inR xs x y on k = true := by
  rw [bitB_nat xs k h8] at h3
  unfold inR; rw [decide_eq_true h1, decide_eq_true h2, h3]; rfl
theorem inR_no {xs : List Int} {x y : Int} {on : Bool} {k : Nat} (h8 : k < 8 * xs.length) (h : ¬ x ≤ k ∨ ¬ (k : Int) < y ∨ (bitB xs k == on) = false) : inR xs x y on k = false := by
  rw [bitB_nat xs k h8] at h
  unfold inR
  rcases h with h | h | h
  · rw [decide_eq_false h]; rfl
  · rw [decide_eq_false h]; simp
  · rw [h]; simp
theorem snoc_no {p : Nat → Bool} {k : Nat} (h : ∀ j, j < k → p j = false) (hk : p k = false) : ∀ j, j < k + 1 → p j = false := by
  intro j hj
  by_cases e : j = k
  · subst e; exact hk
  · exact h j (by omega)

set_option maxHeartbeats 1000000 in
theorem rFirst_ok (a : Option Addr) (n cap : Nat) (xs : List Int) (x y : Int) (on : Bool) (w : World) (hl : xs.length = n) (hn : n ≤ 1152921504606846975) (hb : isBytes xs) (hs : Sl w a (ints .u8 xs)) : Calls Try.prog 16 #[.slice a n cap, .int .i64 x, .int .i64 y, .bool on] w fun e w' => e = .returned (firstV xs x y on) ∧ w = w' := by
  have HL := Lib.hid hl
  go_enter Try.func16, Try.ntmps16
  clear hl
  go_wp2
  go_loop [10] (fun v => ∃ k : Nat, k ≤ 8 * n ∧ v = .int .i64 k ∧ Hid (∀ j, j < k → inR xs x y on j = false)) (fun v => 8 * n - (intOf v).toNat)
  case atStart => exact ⟨0, by omega, rfl, fun j hj => by omega⟩
  case round =>
    obtain ⟨k, hk, rfl, hno⟩ := hrel
    by_cases hlt : k < 8 * n
    · have h8 : k < 8 * xs.length := by rw [HL.out]; exact hlt
      by_cases h1 : x ≤ k
      · by_cases h2 : (k : Int) < y
        · cases h3 : (bitB xs k == on)
          · have hno' := Lib.hid (snoc_no hno.out (inR_no h8 (.inr (.inr h3))))
            clear h8
            go_wp2_with (go_at_call 14; refine (rHas_ok _ _ _ xs _ _ HL.out hn hb hs).mono ?_; rintro e w' ⟨rfl, rfl⟩)
            go_round
            case rel => exact ⟨k + 1, hlt, by go_num, hno'⟩
            case measure => simp [intOf]; omega
          · have hv : firstV xs x y on = .tuple #[.int .i64 k, .bool true] := by unfold firstV firstN; rw [find_some h8 (inR_yes h8 h1 h2 h3) hno.out]
            have HV := Lib.hid hv; clear h8 hv
            go_wp2_with (go_at_call 14; refine (rHas_ok _ _ _ xs _ _ HL.out hn hb hs).mono ?_; rintro e w' ⟨rfl, rfl⟩)
            go_ret2
            exact ⟨by rw [HV.out]; rfl, rfl⟩
        · have hno' := Lib.hid (snoc_no hno.out (inR_no h8 (.inr (.inl h2))))
          clear h8
          go_wp2
          go_round
          case rel => exact ⟨k + 1, hlt, by go_num, hno'⟩
          case measure => simp [intOf]; omega
      · have hno' := Lib.hid (snoc_no hno.out (inR_no h8 (.inl h1)))
        clear h8
        go_wp2
        go_round
        case rel => exact ⟨k + 1, hlt, by go_num, hno'⟩
        case measure => simp [intOf]; omega
    · have : k = 8 * n := by omega
      subst this
      have hv : firstV xs x y on = .tuple #[.int .i64 0, .bool false] := by unfold firstV firstN; rw [HL.out, find_none hno.out]
      have HV := Lib.hid hv; clear hv
      go_wp2
      go_ret2
      exact ⟨by rw [HV.out]; rfl, rfl⟩

set_option maxHeartbeats 1000000 in
theorem First_ok (a : Option Addr) (n cap : Nat) (xs : List Int) (x y : Int) (on : Bool) (w : World) (hl : xs.length = n) (hn : n ≤ 1152921504606846975) (hb : isBytes xs) (hs : Sl w a (ints .u8 xs)) : Calls Try.prog 15 #[.slice a n cap, .int .i64 x, .int .i64 y, .bool on] w fun e w' => e = .returned (firstV xs x y on) ∧ w = w' := by
  have HL := Lib.hid hl
  have hlo : 0 ≤ mx x := by unfold mx; split <;> omega
  obtain ⟨lo, hlo'⟩ := Int.eq_ofNat_of_zero_le hlo
  have hhi : mn y (8 * n) ≤ 8 * n := by unfold mn; split <;> omega
  have hx0 : ∀ j : Nat, j < lo → ¬ x ≤ j := by intro j hj; unfold mx at hlo'; split at hlo' <;> omega
  by_cases hbig : 8 * n < lo
  · have hv : firstV xs x y on = .tuple #[.int .i64 0, .bool false] := by
      unfold firstV firstN
      rw [find_none (fun k hk => inR_no hk (.inl (hx0 k (by rw [hl] at hk; omega))))]
    rw [hv]
    clear hl hv hx0
    go_enter Try.func15, Try.ntmps15
    go_wp2_with (go_at_call 22; refine (within_ok _ _ _ _ _ _ hn).mono ?_; rintro e w' ⟨rfl, rfl⟩; rw [hlo'])
    refine wp_loop_once ?_
    go_wp2
    go_ret2
    exact ⟨rfl, rfl⟩
  · have hx1 : ∀ k : Nat, lo ≤ k → x ≤ k := by intro k hk; unfold mx at hlo'; split at hlo' <;> omega
    have HX1 := Lib.hid hx1
    have HX0 := Lib.hid hx0
    clear hl hx1 hx0
    go_enter Try.func15, Try.ntmps15
    go_wp2_with (go_at_call 22; refine (within_ok _ _ _ _ _ _ hn).mono ?_; rintro e w' ⟨rfl, rfl⟩; rw [hlo'])
    clear hlo'
    generalize hhe : mn y (8 * n) = hi at *
    have HHE := Lib.hid hhe; clear hhe
    go_loop [12] (fun v => ∃ k : Nat, lo ≤ k ∧ k ≤ 8 * n ∧ v = .int .i64 k ∧ Hid (∀ j, j < k → inR xs x y on j = false)) (fun v => 8 * n - (intOf v).toNat)
    case atStart => exact ⟨lo, Nat.le_refl _, by omega, rfl, fun j hj => inR_no (by rw [HL.out]; omega) (.inl (by have := HX0.out j hj; omega))⟩
    case round =>
      obtain ⟨k, hk0, hk, rfl, hno⟩ := hrel
      by_cases hlt : (k : Int) < hi
      · have hk8 : k < 8 * n := by omega
        have h8 : k < 8 * xs.length := by rw [HL.out]; exact hk8
        have h1 := HX1.out k hk0
        have h2 : (k : Int) < y := by have := HHE.out; unfold mn at this; split at this <;> omega
        cases h3 : (bitB xs k == on)
        · have hno' := Lib.hid (snoc_no hno.out (inR_no h8 (.inr (.inr h3))))
          clear h8
          go_wp2_with (go_at_call 13; refine (Has_ok _ _ _ xs _ _ HL.out hn hb hs).mono ?_; rintro e w' ⟨rfl, rfl⟩)
          go_round
          case rel => exact ⟨k + 1, by omega, hk8, by go_num, hno'⟩
          case measure => simp [intOf]; omega
        · have hv : firstV xs x y on = .tuple #[.int .i64 k, .bool true] := by unfold firstV firstN; rw [find_some h8 (inR_yes h8 h1 h2 h3) hno.out]
          have HV := Lib.hid hv; clear h8 hv
          go_wp2_with (go_at_call 13; refine (Has_ok _ _ _ xs _ _ HL.out hn hb hs).mono ?_; rintro e w' ⟨rfl, rfl⟩)
          go_ret2
          exact ⟨by rw [HV.out]; rfl, rfl⟩
      · have hv : firstV xs x y on = .tuple #[.int .i64 0, .bool false] := by
          unfold firstV firstN
          rw [find_none (fun j hj => by
            by_cases e : j < k
            · exact hno.out j e
            · exact inR_no hj (.inr (.inl (by have := HHE.out; have h9 := HL.out; unfold mn at this; split at this <;> omega))))]
        have HV := Lib.hid hv; clear hv
        go_wp2
        go_ret2
        exact ⟨by rw [HV.out]; rfl, rfl⟩

theorem few_ok (a : Option Addr) (n cap : Nat) (xs : List Int) (w : World) (hl : xs.length = n) (hn : n ≤ 9223372036854775807) (hcap : n ≤ cap) (hs : Sl w a (ints .u8 xs)) : Calls Try.prog 10 #[.slice a n cap] w fun e w' => (e = .returned (.slice a (min n 600) cap) ∧ Sl w a (ints .u8 (xs.take 600))) ∧ w = w' := by
  by_cases h : n ≤ 600
  · rw [Nat.min_eq_left h, List.take_of_length_le (by omega)]
    go_enter Try.func10, Try.ntmps10
    go_wp2
    go_ret
    exact ⟨⟨rfl, hs⟩, rfl⟩
  · rw [Nat.min_eq_right (by omega)]
    go_enter Try.func10, Try.ntmps10
    go_wp2
    go_ret
    exact ⟨⟨rfl, by rw [← ints_take]; exact hs.take 600⟩, rfl⟩
end Go.Proofs.Ytcepelagadpcnaa.Bit
