/- Contracts of the reference of numbers: right, power, fits, At, Get. -/
import Derived.Test.YtgflpbbdohmhiaaGet
namespace Go.Proofs.Ytgflpbbdohmhiaa.Field
open Go.RowKit Words Mem Plain Ops
set_option linter.unusedVariables false
set_option linter.unusedSimpArgs false

theorem rright_ok (a : Option Addr) (n cap : Nat) (k s : Int) (w : World) (hm : n ≤ 9223372036854775807) (ha : -9223372036854775808 ≤ k) :
    Calls Try.prog 25 #[.slice a n cap, .int .i64 k, .int .i64 s] w fun e w' => e = .returned (.bool (standsB n k s)) ∧ w = w' := by
  unfold standsB
  by_cases h1 : 1 ≤ s
  · by_cases h2 : s ≤ 8
    · by_cases h3 : 0 ≤ k
      · by_cases h4 : k ≤ n
        · rw [decide_eq_true h1, decide_eq_true h2, decide_eq_true h3, decide_eq_true h4]
          go_enter Try.func25, Try.ntmps25
          go_wp2
          go_ret
          exact ⟨rfl, rfl⟩
        · rw [decide_eq_true h1, decide_eq_true h2, decide_eq_true h3, decide_eq_false h4]
          go_enter Try.func25, Try.ntmps25
          go_wp2
          go_ret
          exact ⟨rfl, rfl⟩
      · rw [decide_eq_true h1, decide_eq_true h2, decide_eq_false h3]
        go_enter Try.func25, Try.ntmps25
        go_wp2
        go_ret
        exact ⟨rfl, rfl⟩
    · rw [decide_eq_true h1, decide_eq_false h2]
      go_enter Try.func25, Try.ntmps25
      go_wp2
      go_ret
      exact ⟨rfl, rfl⟩
  · rw [decide_eq_false h1]
    go_enter Try.func25, Try.ntmps25
    go_wp2
    go_ret
    exact ⟨rfl, rfl⟩

set_option maxHeartbeats 400000 in
theorem power_ok (s : Nat) (hs : s ≤ 7) (w : World) :
    Calls Try.prog 31 #[.int .i64 s] w fun e w' => e = .returned (.int .u64 (256 ^ s)) ∧ w = w' := by
  go_enter Try.func31, Try.ntmps31
  go_wp2
  go_loop [3, 4] (fun p v => ∃ k : Nat, k ≤ s ∧ v = .int .i64 k ∧ p = .int .u64 (256 ^ k)) (fun _ v => s - (intOf v).toNat)
  case atStart => exact ⟨0, by omega, rfl, by simp⟩
  case round =>
    obtain ⟨k, hk, rfl, rfl⟩ := hrel
    by_cases hlt : k < s
    · have hp := pow_pos k
      have hm : (256 : Int) ^ (k + 1) ≤ 256 ^ 7 := pow_mono (by omega)
      rw [p7, Int.pow_succ] at hm
      have HS := Lib.hid (Int.pow_succ (256 : Int) k)
      generalize (256 : Int) ^ k = y at *
      go_wp2
      go_round
      case rel => exact ⟨k + 1, hlt, by go_num, by rw [HS.out]⟩
      case measure => simp [intOf]; omega
    · have : k = s := by omega
      subst this
      go_wp2
      go_ret
      exact ⟨rfl, rfl⟩

theorem rfits_ok (n : Int) (s : Nat) (h0 : 0 ≤ n) (h : n < 18446744073709551616) (h1 : 1 ≤ s) (h8 : s ≤ 8) (w : World) :
    Calls Try.prog 29 #[.int .u64 n, .int .i64 s] w fun e w' => e = .returned (.bool (fitsB n s)) ∧ w = w' := by
  by_cases hs : s = 8
  · subst hs
    have : fitsB n 8 = true := by unfold fitsB; rw [p8]; simp; omega
    rw [this]
    go_enter Try.func29, Try.ntmps29
    go_wp2
    go_ret
    exact ⟨rfl, rfl⟩
  · have hs' : ((s : Int) == 8) = false := by simp; omega
    unfold fitsB
    go_enter Try.func29, Try.ntmps29
    go_wp2_with fail
    refine (power_ok s (by omega) w).mono ?_
    rintro e w' ⟨rfl, rfl⟩
    go_wp2
    go_ret
    exact ⟨rfl, rfl⟩

/-- What stands from i on. -/
theorem numOf_drop (P : List Int) (i : Nat) (h : i < P.length) : numOf (P.drop i) = numOf (P.drop (i + 1)) * 256 + P[i] := by
  rw [List.drop_eq_getElem_cons h]; simp only [numOf]; omega

set_option maxHeartbeats 1000000 in
theorem At_ok (a : Option Addr) (n cap : Nat) (xs : List Int) (k s : Nat) (w : World) (hl : xs.length = n) (hn : n ≤ 9223372036854775807) (hb : isBytes xs) (hs : Sl w a (ints .u8 xs)) (h : standsB n k s = true) :
    Calls Try.prog 26 #[.slice a n cap, .int .i64 k, .int .i64 s] w fun e w' => e = .returned (.int .u64 (numOf ((xs.drop k).take s))) ∧ w = w' := by
  obtain ⟨h1, h2, h3, h4, h5⟩ := standsB_true h
  have hds := (hs.take (k + s)).drop k
  rw [ints_take, ints_drop, List.drop_take, Nat.add_sub_cancel_left] at hds
  have hdb : isBytes ((xs.drop k).take s) := isBytes_take (isBytes_drop hb _) _
  have hdl : ((xs.drop k).take s).length = s := by rw [List.length_take, List.length_drop]; omega
  obtain ⟨bb, oo, rfl, hc⟩ := hs.ints (by omega)
  have hc' : ∀ j (hj : j < ((xs.drop k).take s).length), w.cell? ⟨bb, oo + (k + j), none⟩ = some (.int .u8 ((xs.drop k).take s)[j]) := by
    intro j hj
    rw [hdl] at hj
    rw [hc (k + j) (by omega)]
    simp
  generalize (xs.drop k).take s = P at *
  have HC := Lib.hid hc'; have HL := Lib.hid hdl; have HB := Lib.hid hdb
  clear hc hc' hds hs hl hb h hdl hdb
  go_enter Try.func26, Try.ntmps26
  go_wp2
  go_loop [7, 8] (fun y v => ∃ i : Nat, i ≤ s ∧ v = .int .i64 ((i : Int) - 1) ∧ y = .int .u64 (numOf (P.drop i))) (fun _ v => (intOf v + 1).toNat)
  case atStart => exact ⟨s, by omega, rfl, by rw [List.drop_of_length_le (by rw [HL.out]; exact Nat.le_refl _)]; rfl⟩
  case round =>
    obtain ⟨i, hi, rfl, rfl⟩ := hrel
    by_cases hlt : 1 ≤ i
    · obtain ⟨j, rfl⟩ : ∃ j, i = j + 1 := ⟨i - 1, by omega⟩
      have hjl : j < P.length := by rw [HL.out]; omega
      have hcell := HC.out j hjl
      have hst := numOf_drop P j hjl
      have hbd := HB.out P[j] (List.getElem_mem hjl)
      have n0 := numOf_nonneg (isBytes_drop HB.out (j + 1))
      have n1 := numOf_lt (isBytes_drop HB.out j)
      have n2 : (256 : Int) ^ (P.drop j).length ≤ 256 ^ 8 := pow_mono (by rw [List.length_drop, HL.out]; omega)
      rw [p8] at n2
      rw [hst] at n1
      have HS := Lib.hid hst; clear hst
      have e1 : ((j + 1 : Nat) : Int) - 1 = j := by omega
      rw [e1]
      generalize P[j] = x at *
      generalize numOf (P.drop (j + 1)) = y at *
      have n3 : y * 256 + x < 18446744073709551616 := by omega
      clear n1 n2 e1 hjl
      obtain ⟨b0, b1⟩ := hbd
      have k0 : 0 ≤ (k : Int) + j := by omega
      go_wp2
      go_round
      case rel => exact ⟨j, by omega, rfl, by rw [HS.out]⟩
      case measure => simp [intOf]
    · have : i = 0 := by omega
      subst this
      go_wp2
      go_ret
      exact ⟨rfl, rfl⟩

theorem rGet_no (a : Option Addr) (n cap : Nat) (k s : Int) (w : World) (hn : n ≤ 9223372036854775807) (hk : -9223372036854775808 ≤ k) (h : standsB n k s = false) :
    Calls Try.prog 13 #[.slice a n cap, .int .i64 k, .int .i64 s] w fun e w' => e = .returned (.tuple #[.int .u64 0, .int .i64 1]) ∧ w = w' := by
  go_enter Try.func13, Try.ntmps13
  go_wp2_with (go_at_call 25; refine (rright_ok _ _ _ _ _ _ hn hk).mono ?_; rintro e w' ⟨rfl, rfl⟩; rw [h])
  go_ret2
  exact ⟨rfl, rfl⟩
theorem rGet_yes (a : Option Addr) (n cap : Nat) (xs : List Int) (k s : Nat) (w : World) (hl : xs.length = n) (hn : n ≤ 9223372036854775807) (hb : isBytes xs) (hs : Sl w a (ints .u8 xs)) (h : standsB n k s = true) :
    Calls Try.prog 13 #[.slice a n cap, .int .i64 k, .int .i64 s] w fun e w' => e = .returned (.tuple #[.int .u64 (numOf ((xs.drop k).take s)), .int .i64 0]) ∧ w = w' := by
  go_enter Try.func13, Try.ntmps13
  go_wp2_with (first | (go_at_call 25; refine (rright_ok _ _ _ _ _ _ hn (by omega)).mono ?_; rintro e w' ⟨rfl, rfl⟩; rw [h]) | (go_at_call 26; refine (At_ok a n cap xs k s w hl hn hb hs h).mono ?_; rintro e w' ⟨rfl, rfl⟩))
  go_ret2
  exact ⟨rfl, rfl⟩
end Go.Proofs.Ytgflpbbdohmhiaa.Field
