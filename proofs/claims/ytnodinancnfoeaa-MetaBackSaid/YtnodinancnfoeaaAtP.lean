/- The reference's At. -/
import Derived.Test.YtnodinancnfoeaaField
namespace Go.Proofs.Ytnodinancnfoeaa.Field
open Go.RowKit Words Mem Plain Ops
set_option linter.unusedVariables false
set_option linter.unusedSimpArgs false

def standsB (m a s : Int) : Bool := decide (1 ≤ s) && (decide (s ≤ 8) && (decide (0 ≤ a) && (decide (a ≤ m) && decide (s ≤ m - a))))
theorem standsB_true {m a s : Int} (h : standsB m a s = true) : 1 ≤ s ∧ s ≤ 8 ∧ 0 ≤ a ∧ a ≤ m ∧ s ≤ m - a := by
  simpa [standsB] using h
theorem numOf_drop (P : List Int) (i : Nat) (h : i < P.length) : numOf (P.drop i) = numOf (P.drop (i + 1)) * 256 + P[i] := by
  rw [List.drop_eq_getElem_cons h]; simp only [numOf]; omega
theorem At_ok (a : Option Addr) (n cap : Nat) (xs : List Int) (k s : Nat) (w : World) (hl : xs.length = n) (hn : n ≤ 9223372036854775807) (hb : isBytes xs) (hs : Sl w a (ints .u8 xs)) (h : standsB n k s = true) :
    Calls Try.prog 59 #[.slice a n cap, .int .i64 k, .int .i64 s] w fun e w' => e = .returned (.int .u64 (numOf ((xs.drop k).take s))) ∧ w = w' := by
  obtain ⟨h1, h2, h3, h4, h5⟩ := standsB_true h
  have hds := (hs.take (k + s)).drop k
  rw [ints_take, ints_drop, List.drop_take, Nat.add_sub_cancel_left] at hds
  have hdb : isBytes ((xs.drop k).take s) := isBytes_take (isBytes_drop hb _) _
  have hdl : ((xs.drop k).take s).length = s := by rw [List.length_take, List.length_drop]; omega
  obtain ⟨bb, oo, rfl, hc⟩ := hs.ints (by omega)
  have hc' : ∀ j (hj : j < ((xs.drop k).take s).length), w.cell? ⟨bb, oo + (k + j), none⟩ = some (.int .u8 ((xs.drop k).take s)[j]) := by
    intro j hj
    rw [hdl] at hj
    rw [hc (k + j) (by omega)]
    simp
  generalize (xs.drop k).take s = P at *
  have HC := Lib.hid hc'; have HL := Lib.hid hdl; have HB := Lib.hid hdb
  clear hc hc' hds hs hl hb h hdl hdb
  go_enter Try.func59, Try.ntmps59
  go_wp2
  go_loop [7, 8] (fun y v => ∃ i : Nat, i ≤ s ∧ v = .int .i64 ((i : Int) - 1) ∧ y = .int .u64 (numOf (P.drop i))) (fun _ v => (intOf v + 1).toNat)
  case atStart => exact ⟨s, by omega, rfl, by rw [List.drop_of_length_le (by rw [HL.out]; exact Nat.le_refl _)]; rfl⟩
  case round =>
    obtain ⟨i, hi, rfl, rfl⟩ := hrel
    by_cases hlt : 1 ≤ i
    · obtain ⟨j, rfl⟩ : ∃ j, i = j + 1 := ⟨i - 1, by omega⟩
      have hjl : j < P.length := by rw [HL.out]; omega
      have hcell := HC.out j hjl
      have hst := numOf_drop P j hjl
      have hbd := HB.out P[j] (List.getElem_mem hjl)
      have n0 := numOf_nonneg (isBytes_drop HB.out (j + 1))
      have n1 := numOf_lt (isBytes_drop HB.out j)
      have n2 : (256 : Int) ^ (P.drop j).length ≤ 256 ^ 8 := pow_mono (by rw [List.length_drop, HL.out]; omega)
      rw [p8] at n2
      rw [hst] at n1
      have HS := Lib.hid hst; clear hst
      have e1 : ((j + 1 : Nat) : Int) - 1 = j := by omega
      rw [e1]
      generalize P[j] = x at *
      generalize numOf (P.drop (j + 1)) = y at *
      have n3 : y * 256 + x < 18446744073709551616 := by omega
      clear n1 n2 e1 hjl
      obtain ⟨b0, b1⟩ := hbd
      have k0 : 0 ≤ (k : Int) + j := by omega
      go_wp2
      go_round
      case rel => exact ⟨j, by omega, rfl, by rw [HS.out]⟩
      case measure => simp [intOf]
    · have : i = 0 := by omega
      subst this
      go_wp2
      go_ret
      exact ⟨rfl, rfl⟩
theorem standsB_of {m k s : Int} (h1 : 1 ≤ s) (h2 : s ≤ 8) (h3 : 0 ≤ k) (h4 : k ≤ m) (h5 : s ≤ m - k) : standsB m k s = true := by
  unfold standsB
  rw [decide_eq_true h1, decide_eq_true h2, decide_eq_true h3, decide_eq_true h4, decide_eq_true h5]; rfl
end Go.Proofs.Ytnodinancnfoeaa.Field
