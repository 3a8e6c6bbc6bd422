/- The walk of the law SumPieces. -/
import Derived.Test.YtafkpjgkghnipaaOfs
namespace Go.Proofs.Ytafkpjgkghnipaa.Sum
open Go.RowKit Words Mem Plain Ops
set_option linter.unusedVariables false
set_option linter.unusedSimpArgs false

theorem more_piece (ys : List Int) (j h : Nat) (hj : j ≤ h) : moreN (moreN 1 (ys.take j)) ((ys.take h).drop j) = moreN 1 (ys.take h) := by
  rw [← more_append]
  congr 1
  have e : ys.take j = (ys.take h).take j := by rw [List.take_take, Nat.min_eq_left hj]
  rw [e, List.take_append_drop]

set_option maxHeartbeats 2000000 in
theorem pieces_walk (a0 : Option Addr) (len0 cap0 : Nat) (z0 : List Int) (a1 : Int) (w : World) (w0 : RowIn .u8 w a0 len0 cap0 z0) (w1 : (Lit.int .u8 a1).wf = true) :
    Calls Try.prog 6 #[.slice a0 len0 cap0, .int .u8 a1] w fun e w' => e = .returned (.bool true) ∧ Below w.heap.size w w' := by
  obtain ⟨xs, hl, hb, hs, hlc, hc, hnil⟩ := bytesIn w0
  have ha := bounds_u8 w1
  clear w0 w1
  obtain ⟨c, rfl⟩ := Int.eq_ofNat_of_zero_le (a := a1) (by omega)
  go_enter Try.func6, Try.ntmps6
  go_wp2_with fail
  refine (shown_ok _).mono ?_
  rintro e w1 ⟨rfl, hX1⟩
  have hs1 := hs.ext hX1
  go_wp2_with fail
  refine (few_ok a0 len0 cap0 xs _ hl (by omega) hlc hs1).mono ?_
  rintro e w' ⟨⟨rfl, hs'⟩, rfl⟩
  have hl' : (xs.take 50000).length = min len0 50000 := by rw [List.length_take]; omega
  have hn : min len0 50000 ≤ 50000 := Nat.min_le_right _ _
  have hb' := isBytes_take hb 50000
  have hnc : min len0 50000 ≤ cap0 := by omega
  generalize xs.take 50000 = ys at *
  generalize min len0 50000 = n at *
  clear hl hb hs hs1 hlc hnil
  have HL := Lib.hid hl'
  go_wp2
  go_loop [7, 9] (fun s t => ∃ j : Nat, j ≤ n + 256 ∧ t = .int .i64 j ∧ s = .int .u32 (moreN 1 (ys.take j))) (fun _ t => n + 256 - (intOf t).toNat)
  case atStart => exact ⟨0, by omega, rfl, by rw [List.take_zero]; rfl⟩
  case round =>
    obtain ⟨j, hj, rfl, rfl⟩ := hrel
    by_cases hlt : j < n
    · have hsb := more_bd 1 (ys.take j)
      obtain ⟨h, hh⟩ : ∃ h, h = min (j + (c + 1)) n := ⟨_, rfl⟩
      have hjh : j ≤ h := by omega
      have hpc := more_piece ys j h hjh
      have htk : ys.take h = ys.take (j + (c + 1)) := by
        rw [hh]
        by_cases e : j + (c + 1) ≤ n
        · rw [Nat.min_eq_left e]
        · rw [Nat.min_eq_right (by omega), List.take_of_length_le (by omega), List.take_of_length_le (by omega)]
      rw [htk] at hpc
      have HPC := Lib.hid hpc
      have hdl : Hid (((ys.take h).drop j).length = h - j) := by rw [List.length_drop, List.length_take, HL.out, Nat.min_eq_left (by omega)]; exact rfl
      have hdb : isBytes ((ys.take h).drop j) := isBytes_drop (isBytes_take hb' _) _
      have hds := (hs'.take h).cut cap0 j (by intro e; rw [List.length_take, ints_length, HL.out]; omega)
      rw [ints_take, ints_drop] at hds
      rw [htk] at hdl hdb hds
      rw [if_neg (by omega)] at hds
      clear hpc htk
      generalize (ys.take (j + (c + 1))).drop j = P at *
      by_cases hm : j + (c + 1) ≤ n
      · have : h = j + (c + 1) := by omega
        subst this
        clear hh
        have hdl2 : P.length = c + 1 := by rw [hdl.out]; omega
        go_wp2_with fail
        refine (More_ok _ (c + 1) _ P _ w1 hdl2 (by omega) hdb hds (by omega) (by omega) hsb.1 hsb.2).mono ?_
        rintro e w' ⟨rfl, rfl⟩
        rw [HPC.out]
        go_wp2
        go_round
        case rel => exact ⟨j + (c + 1), by omega, by congr 1, rfl⟩
        case measure => simp [intOf]; omega
      · have : h = n := by omega
        subst this
        clear hh
        have hdl2 : P.length = h - j := hdl.out
        go_wp2_with fail
        refine (More_ok _ (h - j) _ P _ w1 hdl2 (by omega) hdb hds (by omega) (by omega) hsb.1 hsb.2).mono ?_
        rintro e w' ⟨rfl, rfl⟩
        rw [HPC.out]
        go_wp2
        go_round
        case rel => exact ⟨j + (c + 1), by omega, by congr 1, rfl⟩
        case measure => simp [intOf]; omega
    · have htk : ys.take j = ys := List.take_of_length_le (by rw [HL.out]; omega)
      rw [htk]
      go_wp2_with fail
      refine (Of_ok _ n _ ys w1 HL.out (by omega) hb' hs' hnc hc).mono ?_
      rintro e w' ⟨rfl, rfl⟩
      go_wp2
      go_ret
      exact ⟨rfl, hX1⟩
end Go.Proofs.Ytafkpjgkghnipaa.Sum
