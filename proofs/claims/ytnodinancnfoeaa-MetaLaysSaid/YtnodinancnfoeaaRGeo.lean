/- The reference's Right of a parting (cut from set 09). -/
import Derived.Test.YtnodinancnfoeaaGeo
namespace Go.Proofs.Ytnodinancnfoeaa.Super
open Go.RowKit Words Mem
set_option linter.unusedVariables false
set_option linter.unusedSimpArgs false

theorem rightB_no (J I G P : Int) (h : ¬ (3 ≤ J ∧ J ≤ 1000 ∧ 2 ≤ I ∧ I ≤ 64 ∧ I % 2 = 0 ∧ 1 ≤ G ∧ G ≤ 64 ∧ 1 ≤ P ∧ P ≤ 512 ∧ G * P ≤ 512)) : rightB J I G P = false := by
  cases e : rightB J I G P
  · rfl
  · obtain ⟨⟨j0, j1⟩, ⟨i0, i1⟩, i2, ⟨g0, g1⟩, p0, p1, gp0, gp1⟩ := right_bd e
    exact absurd ⟨j0, j1, i0, i1, i2, g0, g1, p0, p1, gp1⟩ h
theorem rightB_yes (J I G P : Int) (h : 3 ≤ J ∧ J ≤ 1000 ∧ 2 ≤ I ∧ I ≤ 64 ∧ I % 2 = 0 ∧ 1 ≤ G ∧ G ≤ 64 ∧ 1 ≤ P ∧ P ≤ 512 ∧ G * P ≤ 512) : rightB J I G P = true := by
  obtain ⟨j0, j1, i0, i1, i2, g0, g1, p0, p1, gp1⟩ := h
  simp only [rightB, inB, Bool.and_eq_true, decide_eq_true_eq, beq_iff_eq]
  refine ⟨⟨j0, j1⟩, ⟨i0, i1⟩, i2, ⟨g0, g1⟩, p0, ?_⟩
  rw [Int.le_ediv_iff_mul_le (by omega), Int.mul_comm]
  exact gp1

set_option maxHeartbeats 2000000 in
theorem rRight_ok (J I G P : Int) (w : World) : Calls Try.prog 24 #[geoV J I G P] w fun e w' => e = .returned (.bool (rightB J I G P)) ∧ Ext w w' := by
  by_cases hj0 : J < 3
  · rw [rightB_no J I G P (by omega)]
    go_enter Try.func24, Try.ntmps24
    go_wp2
    go_ret
    exact ⟨rfl, (Ext.refl _).alloc _⟩
  · skip
    by_cases hj1 : 1000 < J
    · rw [rightB_no J I G P (by omega)]
      go_enter Try.func24, Try.ntmps24
      go_wp2
      go_ret
      exact ⟨rfl, (Ext.refl _).alloc _⟩
    · skip
      by_cases hi0 : I < 2
      · rw [rightB_no J I G P (by omega)]
        go_enter Try.func24, Try.ntmps24
        go_wp2
        go_ret
        exact ⟨rfl, (Ext.refl _).alloc _⟩
      · skip
        by_cases hi1 : 64 < I
        · rw [rightB_no J I G P (by omega)]
          go_enter Try.func24, Try.ntmps24
          go_wp2
          go_ret
          exact ⟨rfl, (Ext.refl _).alloc _⟩
        · skip
          by_cases hi2 : ¬ I % 2 = 0
          · rw [rightB_no J I G P (by omega)]
            have hb : (I % 2 == 0) = false := by simp; omega
            go_enter Try.func24, Try.ntmps24
            go_wp2
            go_ret
            exact ⟨rfl, (Ext.refl _).alloc _⟩
          · skip
            by_cases hg0 : G < 1
            · rw [rightB_no J I G P (by omega)]
              have hb : (I % 2 == 0) = true := by simp; omega
              go_enter Try.func24, Try.ntmps24
              go_wp2
              go_ret
              exact ⟨rfl, (Ext.refl _).alloc _⟩
            · skip
              by_cases hg1 : 64 < G
              · rw [rightB_no J I G P (by omega)]
                have hb : (I % 2 == 0) = true := by simp; omega
                go_enter Try.func24, Try.ntmps24
                go_wp2
                go_ret
                exact ⟨rfl, (Ext.refl _).alloc _⟩
              · skip
                by_cases hp0 : P < 1
                · rw [rightB_no J I G P (by omega)]
                  have hb : (I % 2 == 0) = true := by simp; omega
                  go_enter Try.func24, Try.ntmps24
                  go_wp2
                  go_ret
                  exact ⟨rfl, (Ext.refl _).alloc _⟩
                · skip
                  by_cases hp1 : 512 < P
                  · rw [rightB_no J I G P (by omega)]
                    have hb : (I % 2 == 0) = true := by simp; omega
                    go_enter Try.func24, Try.ntmps24
                    go_wp2
                    go_ret
                    exact ⟨rfl, (Ext.refl _).alloc _⟩
                  · skip
                    by_cases hgp : 512 < G * P
                    · rw [rightB_no J I G P (by omega)]
                      have hb : (I % 2 == 0) = true := by simp; omega
                      have hm0 : G * P ≤ 64 * 512 := by have := Int.mul_le_mul (show G ≤ 64 by omega) (show P ≤ 512 by omega) (by omega) (by decide); omega
                      have hq : decide (G * P ≤ 512) = false := by simp; omega
                      go_enter Try.func24, Try.ntmps24
                      go_wp2
                      go_ret
                      exact ⟨rfl, (Ext.refl _).alloc _⟩
                    · skip
                      have hb : (I % 2 == 0) = true := by simp; omega
                      have hm0 : 1 ≤ G * P := by have := Int.mul_le_mul (show 1 ≤ G by omega) (show 1 ≤ P by omega) (by decide) (by omega); omega
                      have hq : decide (G * P ≤ 512) = true := by simp; omega
                      rw [rightB_yes J I G P (by omega)]
                      go_enter Try.func24, Try.ntmps24
                      go_wp2
                      go_ret
                      exact ⟨rfl, (Ext.refl _).alloc _⟩
end Go.Proofs.Ytnodinancnfoeaa.Super
