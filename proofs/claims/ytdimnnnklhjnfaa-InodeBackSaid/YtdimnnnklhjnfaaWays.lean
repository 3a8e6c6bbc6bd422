/- The walk of the law InodeWays. -/
import Derived.Test.YtdimnnnklhjnfaaPtr
import Derived.Test.YtdimnnnklhjnfaaIn
namespace Go.Proofs.Ytdimnnnklhjnfaa.Ino
open Go.RowKit Words Mem Plain Ops Base
open Go.Proofs.Ytdimnnnklhjnfaa.Field
set_option linter.ambiguousOpen false
set_option linter.unusedVariables false
set_option linter.unusedSimpArgs false

theorem sizeI : (Try.prog.info? 3).map (·.size) = some 1 := by kernel_rfl

set_option maxRecDepth 4000 in
set_option maxHeartbeats 2000000 in
theorem walk_InodeWays (a0 : Int) (a1 : Option Addr) (len1 cap1 : Nat) (z1 : List Int) (w : World) (w0 : (Lit.int .i64 a0).wf = true) (w1 : RowIn .i64 w a1 len1 cap1 z1) :
    Calls Try.prog 5 #[.int .i64 a0, .slice a1 len1 cap1] w fun e w' => e = .returned (.bool true) ∧ Below w.heap.size w w' := by
  obtain ⟨m, km, ku, ks, klc, kc, knil⟩ := i64sIn w1
  have b0 := bounds_i64 w0
  clear w0 w1
  have ks' := ks.take 100
  rw [ints_take] at ks'
  obtain ⟨q, hq⟩ : ∃ q, q = min len1 100 := ⟨_, rfl⟩
  have km' : (m.take 100).length = q := by rw [List.length_take]; omega
  have kmin : (if (100 : Int) < (len1 : Int) then 100 else (len1 : Int)) = q := by split <;> omega
  have kqc : q ≤ cap1 := by omega
  have ksl : ∀ v : World, (Instr.slice 29 (.slice a1 len1 cap1) none (some (.int .i64 q)) none).run Try.prog v = .ok (.slice a1 q cap1) v := fun v => run_slice_upto v _ _ Try.underlying29 sizeI a1 len1 cap1 q _ _ rfl kqc
  have hex : q < len1 → q = 100 := by omega
  generalize m.take 100 = Y at *
  obtain ⟨v, hv1, hv2, x, y, z, t, rfl⟩ := rWhere_ok a0 w
  have HL := Lib.hid km'
  have hmin : (q = 100 ∧ q < len1) ∨ (q = len1 ∧ len1 ≤ 100) := by omega
  clear km ku ks knil km' hq kmin hex
  rcases hmin with ⟨h1, h2⟩ | ⟨h2, h3⟩
  · have kl : (100 : Int) < len1 := by omega
    have ksl' : ∀ v : World, (Instr.slice 29 (.slice a1 len1 cap1) none (some (.int .i64 100)) none).run Try.prog v = .ok (.slice a1 q cap1) v := fun v => run_slice_upto v _ _ Try.underlying29 sizeI a1 len1 cap1 q _ _ (by omega) kqc
    clear h1 h2 ksl
    go_enter Try.func5, Try.ntmps5
    go_wp2_with fail
    refine hv1.mono ?_
    rintro e w' ⟨rfl, rfl⟩
    go_wp2_with fail
    refine (hv2 _).mono ?_
    rintro e w' ⟨rfl, rfl⟩
    go_wp2_with fail
    refine (Block_ok a1 q cap1 Y w HL.out ks').mono ?_
    rintro e w2 ⟨a4, c4, rfl, ho4, hX2⟩
    go_wp2_with fail
    refine (rBlock_ok a1 q cap1 Y w2 HL.out (ks'.ext hX2)).mono ?_
    rintro e w3 ⟨a5, c5, rfl, ho5, hX3⟩
    generalize blockR Y = R at *
    go_wp2_with fail
    refine (shown_ok w3).mono ?_
    rintro e w4 ⟨rfl, hX4⟩
    have X4 := (hX2.trans hX3).trans hX4
    have e1 := run_conv_str (P := Try.prog) w4 33 9 5 Try.underlying33 Try.underlying5 Try.underlying9 c4 (ownsRow_sl (ownsRow_ext ho4 (hX3.trans hX4))) rfl
    have e2 := run_conv_str (P := Try.prog) w4 33 9 5 Try.underlying33 Try.underlying5 Try.underlying9 c5 (ownsRow_sl (ownsRow_ext ho5 hX4)) rfl
    clear ho4 ho5 hX2 hX3 hX4 ks' ksl'
    go_wp2_with (first | (go_at_call 11; refine (blocks_ok _ b0.2 _).mono ?_; rintro e w' ⟨rfl, rfl⟩) | (go_at_call 17; refine (rblocks_ok _ b0.2 _).mono ?_; rintro e w' ⟨rfl, rfl⟩))
    go_ret
    exact ⟨rfl, X4⟩
  · have kl : ¬ ((100 : Int) < len1) := by omega
    subst h2
    go_enter Try.func5, Try.ntmps5
    go_wp2_with fail
    refine hv1.mono ?_
    rintro e w' ⟨rfl, rfl⟩
    go_wp2_with fail
    refine (hv2 _).mono ?_
    rintro e w' ⟨rfl, rfl⟩
    go_wp2_with fail
    refine (Block_ok a1 q cap1 Y w HL.out ks').mono ?_
    rintro e w2 ⟨a4, c4, rfl, ho4, hX2⟩
    go_wp2_with fail
    refine (rBlock_ok a1 q cap1 Y w2 HL.out (ks'.ext hX2)).mono ?_
    rintro e w3 ⟨a5, c5, rfl, ho5, hX3⟩
    generalize blockR Y = R at *
    go_wp2_with fail
    refine (shown_ok w3).mono ?_
    rintro e w4 ⟨rfl, hX4⟩
    have X4 := (hX2.trans hX3).trans hX4
    have e1 := run_conv_str (P := Try.prog) w4 33 9 5 Try.underlying33 Try.underlying5 Try.underlying9 c4 (ownsRow_sl (ownsRow_ext ho4 (hX3.trans hX4))) rfl
    have e2 := run_conv_str (P := Try.prog) w4 33 9 5 Try.underlying33 Try.underlying5 Try.underlying9 c5 (ownsRow_sl (ownsRow_ext ho5 hX4)) rfl
    clear ho4 ho5 hX2 hX3 hX4 ks' ksl
    go_wp2_with (first | (go_at_call 11; refine (blocks_ok _ b0.2 _).mono ?_; rintro e w' ⟨rfl, rfl⟩) | (go_at_call 17; refine (rblocks_ok _ b0.2 _).mono ?_; rintro e w' ⟨rfl, rfl⟩))
    go_ret
    exact ⟨rfl, X4⟩
end Go.Proofs.Ytdimnnnklhjnfaa.Ino
