/- The walk of the law InodeBlocks. -/
import Derived.Test.YtdimnnnklhjnfaaPtrs
import Derived.Test.YtdimnnnklhjnfaaWays
import Derived.Test.YtdimnnnklhjnfaaSame
namespace Go.Proofs.Ytdimnnnklhjnfaa.Ino
open Go.RowKit Words Mem Plain Ops Base
open Go.Proofs.Ytdimnnnklhjnfaa.Field
set_option linter.ambiguousOpen false
set_option linter.unusedVariables false
set_option linter.unusedSimpArgs false

theorem sameB_self (L : List Int) : Same.sameB L L = true := by unfold Same.sameB; simp

set_option maxRecDepth 4000 in
set_option maxHeartbeats 4000000 in
theorem walk_InodeBlocks (a0 : Option Addr) (len0 cap0 : Nat) (z0 : List Int) (a1 : Option Addr) (len1 cap1 : Nat) (z1 : List Int) (w : World) (w0 : RowIn .i64 w a0 len0 cap0 z0) (w1 : RowIn .u8 w a1 len1 cap1 z1) :
    Calls Try.prog 7 #[.slice a0 len0 cap0, .slice a1 len1 cap1] w fun e w' => e = .returned (.bool true) ∧ Below w.heap.size w w' := by
  obtain ⟨m, km, ku, ks, klc, kc, knil⟩ := i64sIn w0
  obtain ⟨l, hl, hb, hs, hlc, hc, hnil⟩ := bytesIn w1
  clear w0 w1
  by_cases h200 : 200 < len1
  · go_enter Try.func7, Try.ntmps7
    go_wp2_with fail
    refine (shown_ok w).mono ?_
    rintro e w1 ⟨rfl, hX1⟩
    have h2 : (200 : Int) < len1 := by omega
    go_wp2_with fail
    go_ret
    exact ⟨rfl, hX1⟩
  have h2 : ¬ (200 : Int) < len1 := by omega
  have ks' := ks.take 100
  rw [ints_take] at ks'
  obtain ⟨q, hq⟩ : ∃ q, q = min len0 100 := ⟨_, rfl⟩
  have km' : (m.take 100).length = q := by rw [List.length_take]; omega
  have kqc : q ≤ cap0 := by omega
  have hbc := block_cases (m.take 100)
  have hpc := ptrs_cases l hb
  generalize m.take 100 = Y at *
  have HL := Lib.hid km'; have HLB := Lib.hid hl
  have hlen : len1 ≤ 200 := by omega
  have hmin : (q = 100 ∧ q < len0) ∨ (q = len0 ∧ len0 ≤ 100) := by omega
  have hq100 : q ≤ 100 := by omega
  clear km ku ks knil km' hq h200 hl hnil
  have hsl : (∀ v : World, (Instr.slice 29 (.slice a0 len0 cap0) none (some (.int .i64 (if (100 : Int) < len0 then 100 else (len0 : Int)))) none).run Try.prog v = .ok (.slice a0 q cap0) v) := fun v =>
    run_slice_upto v _ _ Try.underlying29 sizeI a0 len0 cap0 q _ _ (by split <;> omega) kqc
  have hp0 : ptrsR [] = ([], 1) := ptrsR_len (by decide)
  have hb0 : blockR [] = ([], 1) := blockR_len (by decide)
  have HP0 := Lib.hid hp0; have HB0 := Lib.hid hb0; have HBC := Lib.hid hbc; have HPC := Lib.hid hpc
  have hS : Hid (Sl w a0 (ints .i64 Y)) := ks'
  have hSB : Hid (Sl w a1 (ints .u8 l)) := hs
  have hBB : Hid (isBytes l) := hb
  clear hp0 hb0 hbc hpc ks' hs hb
  rcases hmin with ⟨h1, h3⟩ | ⟨h3, h1⟩
  case' inl => have kl : (100 : Int) < len0 := by omega
  case' inr =>
    have kl : ¬ (100 : Int) < len0 := by omega
    subst h3
  case' inl => rw [if_pos kl] at hsl
  case' inl => clear h3
  case' inr => rw [if_neg kl] at hsl
  all_goals
    clear h1
    go_enter Try.func7, Try.ntmps7
    go_wp2_with fail
    refine (shown_ok w).mono ?_
    rintro e w1 ⟨rfl, hX1⟩
    go_wp2_with fail
    refine (Block_ok a0 q cap0 Y w1 HL.out (hS.out.ext hX1)).mono ?_
    rintro e w2 ⟨a4, c4, rfl, ho4, hX2⟩
    have XX2 := hX1.trans hX2
    clear hsl hX1 hX2
    rcases HBC.out with ⟨e1, e2, e3, e4⟩ | e1
    · rw [e1] at ho4 ⊢
      dsimp only at ho4 ⊢
      rw [e3] at ho4 ⊢
      have k4 := own_cap ho4
      have k0 : Calls Try.prog 22 #[.slice a4 64 c4] w2 _ := Ptrs_ok a4 64 c4 (layed 2 Y) w2 e3 (by decide) e4 (ownsRow_sl ho4) k4.1 k4.2
      rw [e2] at k0
      clear e1 e2 e3 e4 HBC ho4
      have HK := Lib.hid k0
      clear k0
      go_wp2_with fail
      refine HK.out.mono ?_
      rintro e w3 ⟨a5, c5, rfl, ho5, hX3⟩
      dsimp only at ho5 ⊢
      rw [HL.out] at ho5 ⊢
      have XX3 := XX2.trans hX3
      have s5 := Lib.hid (ownsRow_sl ho5)
      clear HK ho5 hX3 XX2 k4
      go_wp2_with fail
      refine (Same.Same_ok a0 a5 q q cap0 c5 Y Y w3 HL.out HL.out (by omega) (hS.out.ext XX3) s5.out).mono ?_
      rintro e w4 ⟨rfl, hX4⟩
      rw [sameB_self]
      have XX4 := XX3.trans hX4
      clear hX4 XX3 s5
      go_wp2_with fail
      refine (Ptrs_ok a1 len1 cap1 l w4 HLB.out (by omega) hBB.out (hSB.out.ext XX4) hlc hc).mono ?_
      rintro e w5 ⟨a6, c6, rfl, ho6, hX5⟩
      have XX5 := XX4.trans hX5
      clear hX5 XX4
      rcases HPC.out with ⟨Z, f1, f2⟩ | f1
      · rw [f1] at ho6 ⊢
        dsimp only at ho6 ⊢
        have s6 := ownsRow_sl ho6
        have k0 : Calls Try.prog 15 #[.slice a6 Z.length c6] w5 _ := Block_ok a6 Z.length c6 Z w5 rfl s6
        rw [f2] at k0
        have HK := Lib.hid k0
        clear k0 f1 f2 HPC ho6 s6
        generalize Z.length = zn at *
        go_wp2_with fail
        refine HK.out.mono ?_
        rintro e w6 ⟨a7, c7, rfl, ho7, hX6⟩
        dsimp only at ho7 ⊢
        rw [HLB.out] at ho7 ⊢
        have XX6 := XX5.trans hX6
        have e1 := run_conv_str (P := Try.prog) w6 33 9 5 Try.underlying33 Try.underlying5 Try.underlying9 c7 (ownsRow_sl ho7) HLB.out
        have e2 := run_conv_str (P := Try.prog) w6 33 9 5 Try.underlying33 Try.underlying5 Try.underlying9 cap1 (hSB.out.ext XX6) HLB.out
        clear HK ho7 hX6 XX5
        go_wp2_with fail
        go_ret
        exact ⟨rfl, XX6⟩
      · rw [f1] at ho6 ⊢
        dsimp only at ho6 ⊢
        have k0 : Calls Try.prog 15 #[.slice a6 0 c6] w5 _ := Block_ok a6 0 c6 [] w5 rfl (Sl.nil _ _)
        rw [HB0.out] at k0
        have HK := Lib.hid k0
        clear k0 f1 HPC ho6
        go_wp2_with fail
        refine HK.out.mono ?_
        rintro e w6 ⟨a7, c7, rfl, ho7, hX6⟩
        dsimp only at ho7 ⊢
        have XX6 := XX5.trans hX6
        clear HK ho7 hX6 XX5
        go_wp2_with fail
        go_ret
        exact ⟨rfl, XX6⟩
    · rw [e1] at ho4 ⊢
      dsimp only at ho4 ⊢
      have k4 := own_cap ho4
      have k0 : Calls Try.prog 22 #[.slice a4 0 c4] w2 _ := Ptrs_ok a4 0 c4 [] w2 rfl (by decide) isBytes_nil (Sl.nil _ _) k4.1 k4.2
      rw [HP0.out] at k0
      clear e1 HBC ho4
      have HK := Lib.hid k0
      clear k0
      go_wp2_with fail
      refine HK.out.mono ?_
      rintro e w4 ⟨a5, c5, rfl, ho5, hX3⟩
      dsimp only at ho5 ⊢
      have XX4 := XX2.trans hX3
      clear HK ho5 hX3 XX2 k4
      go_wp2_with fail
      refine (Ptrs_ok a1 len1 cap1 l w4 HLB.out (by omega) hBB.out (hSB.out.ext XX4) hlc hc).mono ?_
      rintro e w5 ⟨a6, c6, rfl, ho6, hX5⟩
      have XX5 := XX4.trans hX5
      clear hX5 XX4
      rcases HPC.out with ⟨Z, f1, f2⟩ | f1
      · rw [f1] at ho6 ⊢
        dsimp only at ho6 ⊢
        have s6 := ownsRow_sl ho6
        have k0 : Calls Try.prog 15 #[.slice a6 Z.length c6] w5 _ := Block_ok a6 Z.length c6 Z w5 rfl s6
        rw [f2] at k0
        have HK := Lib.hid k0
        clear k0 f1 f2 HPC ho6 s6
        generalize Z.length = zn at *
        go_wp2_with fail
        refine HK.out.mono ?_
        rintro e w6 ⟨a7, c7, rfl, ho7, hX6⟩
        dsimp only at ho7 ⊢
        rw [HLB.out] at ho7 ⊢
        have XX6 := XX5.trans hX6
        have e1 := run_conv_str (P := Try.prog) w6 33 9 5 Try.underlying33 Try.underlying5 Try.underlying9 c7 (ownsRow_sl ho7) HLB.out
        have e2 := run_conv_str (P := Try.prog) w6 33 9 5 Try.underlying33 Try.underlying5 Try.underlying9 cap1 (hSB.out.ext XX6) HLB.out
        clear HK ho7 hX6 XX5
        go_wp2_with fail
        go_ret
        exact ⟨rfl, XX6⟩
      · rw [f1] at ho6 ⊢
        dsimp only at ho6 ⊢
        have k0 : Calls Try.prog 15 #[.slice a6 0 c6] w5 _ := Block_ok a6 0 c6 [] w5 rfl (Sl.nil _ _)
        rw [HB0.out] at k0
        have HK := Lib.hid k0
        clear k0 f1 HPC ho6
        go_wp2_with fail
        refine HK.out.mono ?_
        rintro e w6 ⟨a7, c7, rfl, ho7, hX6⟩
        dsimp only at ho7 ⊢
        have XX6 := XX5.trans hX6
        clear HK ho7 hX6 XX5
        go_wp2_with fail
        go_ret
        exact ⟨rfl, XX6⟩
end Go.Proofs.Ytdimnnnklhjnfaa.Ino
