/- Contracts of super.Group, and of the reference's Right, Meta, Plan, Group. -/
import Derived.Test.YthhkkjnahiimbaaPlan
namespace Go.Proofs.Ythhkkjnahiimbaa.Super
open Go.RowKit Words Mem
set_option linter.unusedVariables false
set_option linter.unusedSimpArgs false

def groupB (J I G P n : Int) : Bool := rightB J I G P && inB n 0 (G * P - 1)
def groupN (J I G P n : Int) : Int := if groupB J I G P n then n / P else 0

set_option maxHeartbeats 1000000 in
theorem Group_ok (J I G P n : Int) (w : World) : Calls Try.prog 14 #[geoV J I G P, .int .i64 n] w fun e w' => e = .returned (.tuple #[.int .i64 (groupN J I G P n), .bool (groupB J I G P n)]) ∧ Ext w w' := by
  unfold groupN groupB
  cases h : rightB J I G P
  · go_enter Try.func14, Try.ntmps14
    go_wp2_with (go_at_call 11; refine (Right_ok _ _ _ _ _).mono ?_; rintro e w' ⟨rfl, hg⟩; have hX := Ext.trans ((Ext.refl w).alloc _) hg)
    go_ret2
    exact ⟨rfl, hX⟩
  · obtain ⟨⟨j0, j1⟩, ⟨i0, i1⟩, _, ⟨g0, g1⟩, p0, p1, gp0, gp1⟩ := right_bd h
    cases h2 : inB n 0 (G * P - 1)
    · go_enter Try.func14, Try.ntmps14
      go_wp2_with (first | (go_at_call 11; refine (Right_ok _ _ _ _ _).mono ?_; rintro e w' ⟨rfl, hg⟩; have hX := Ext.trans ((Ext.refl w).alloc _) hg; have hcs := hg.cells) | (go_at_call 23; refine (within_ok _ _ _ _).mono ?_; rintro e w' ⟨rfl, rfl⟩))
      go_ret2
      exact ⟨rfl, hX⟩
    · obtain ⟨n0, n1⟩ := inB_true h2
      have hP0 : ¬ P = 0 := by omega
      go_enter Try.func14, Try.ntmps14
      go_wp2_with (first | (go_at_call 11; refine (Right_ok _ _ _ _ _).mono ?_; rintro e w' ⟨rfl, hg⟩; have hX := Ext.trans ((Ext.refl w).alloc _) hg; have hcs := hg.cells) | (go_at_call 23; refine (within_ok _ _ _ _).mono ?_; rintro e w' ⟨rfl, rfl⟩))
      go_ret2
      exact ⟨rfl, hX⟩

theorem rightB_no (J I G P : Int) (h : ¬ (3 ≤ J ∧ J ≤ 1000 ∧ 2 ≤ I ∧ I ≤ 64 ∧ I % 2 = 0 ∧ 1 ≤ G ∧ G ≤ 64 ∧ 1 ≤ P ∧ P ≤ 512 ∧ G * P ≤ 512)) : rightB J I G P = false := by
  cases e : rightB J I G P
  · rfl
  · obtain ⟨⟨j0, j1⟩, ⟨i0, i1⟩, i2, ⟨g0, g1⟩, p0, p1, gp0, gp1⟩ := right_bd e
    exact absurd ⟨j0, j1, i0, i1, i2, g0, g1, p0, p1, gp1⟩ h
theorem rightB_yes (J I G P : Int) (h : 3 ≤ J ∧ J ≤ 1000 ∧ 2 ≤ I ∧ I ≤ 64 ∧ I % 2 = 0 ∧ 1 ≤ G ∧ G ≤ 64 ∧ 1 ≤ P ∧ P ≤ 512 ∧ G * P ≤ 512) : rightB J I G P = true := by
  obtain ⟨j0, j1, i0, i1, i2, g0, g1, p0, p1, gp1⟩ := h
  simp only [rightB, inB, Bool.and_eq_true, decide_eq_true_eq, beq_iff_eq]
  refine ⟨⟨j0, j1⟩, ⟨i0, i1⟩, i2, ⟨g0, g1⟩, p0, ?_⟩
  rw [Int.le_ediv_iff_mul_le (by omega), Int.mul_comm]
  exact gp1

set_option maxHeartbeats 2000000 in
theorem rRight_ok (J I G P : Int) (w : World) : Calls Try.prog 16 #[geoV J I G P] w fun e w' => e = .returned (.bool (rightB J I G P)) ∧ Ext w w' := by
  by_cases hj0 : J < 3
  · rw [rightB_no J I G P (by omega)]
    go_enter Try.func16, Try.ntmps16
    go_wp2
    go_ret
    exact ⟨rfl, (Ext.refl _).alloc _⟩
  · skip
    by_cases hj1 : 1000 < J
    · rw [rightB_no J I G P (by omega)]
      go_enter Try.func16, Try.ntmps16
      go_wp2
      go_ret
      exact ⟨rfl, (Ext.refl _).alloc _⟩
    · skip
      by_cases hi0 : I < 2
      · rw [rightB_no J I G P (by omega)]
        go_enter Try.func16, Try.ntmps16
        go_wp2
        go_ret
        exact ⟨rfl, (Ext.refl _).alloc _⟩
      · skip
        by_cases hi1 : 64 < I
        · rw [rightB_no J I G P (by omega)]
          go_enter Try.func16, Try.ntmps16
          go_wp2
          go_ret
          exact ⟨rfl, (Ext.refl _).alloc _⟩
        · skip
          by_cases hi2 : ¬ I % 2 = 0
          · rw [rightB_no J I G P (by omega)]
            have hb : (I % 2 == 0) = false := by simp; omega
            go_enter Try.func16, Try.ntmps16
            go_wp2
            go_ret
            exact ⟨rfl, (Ext.refl _).alloc _⟩
          · skip
            by_cases hg0 : G < 1
            · rw [rightB_no J I G P (by omega)]
              have hb : (I % 2 == 0) = true := by simp; omega
              go_enter Try.func16, Try.ntmps16
              go_wp2
              go_ret
              exact ⟨rfl, (Ext.refl _).alloc _⟩
            · skip
              by_cases hg1 : 64 < G
              · rw [rightB_no J I G P (by omega)]
                have hb : (I % 2 == 0) = true := by simp; omega
                go_enter Try.func16, Try.ntmps16
                go_wp2
                go_ret
                exact ⟨rfl, (Ext.refl _).alloc _⟩
              · skip
                by_cases hp0 : P < 1
                · rw [rightB_no J I G P (by omega)]
                  have hb : (I % 2 == 0) = true := by simp; omega
                  go_enter Try.func16, Try.ntmps16
                  go_wp2
                  go_ret
                  exact ⟨rfl, (Ext.refl _).alloc _⟩
                · skip
                  by_cases hp1 : 512 < P
                  · rw [rightB_no J I G P (by omega)]
                    have hb : (I % 2 == 0) = true := by simp; omega
                    go_enter Try.func16, Try.ntmps16
                    go_wp2
                    go_ret
                    exact ⟨rfl, (Ext.refl _).alloc _⟩
                  · skip
                    by_cases hgp : 512 < G * P
                    · rw [rightB_no J I G P (by omega)]
                      have hb : (I % 2 == 0) = true := by simp; omega
                      have hm0 : G * P ≤ 64 * 512 := by have := Int.mul_le_mul (show G ≤ 64 by omega) (show P ≤ 512 by omega) (by omega) (by decide); omega
                      have hq : decide (G * P ≤ 512) = false := by simp; omega
                      go_enter Try.func16, Try.ntmps16
                      go_wp2
                      go_ret
                      exact ⟨rfl, (Ext.refl _).alloc _⟩
                    · skip
                      have hb : (I % 2 == 0) = true := by simp; omega
                      have hm0 : 1 ≤ G * P := by have := Int.mul_le_mul (show 1 ≤ G by omega) (show 1 ≤ P by omega) (by decide) (by omega); omega
                      have hq : decide (G * P ≤ 512) = true := by simp; omega
                      rw [rightB_yes J I G P (by omega)]
                      go_enter Try.func16, Try.ntmps16
                      go_wp2
                      go_ret
                      exact ⟨rfl, (Ext.refl _).alloc _⟩

theorem rMeta_ok (J I G P : Int) (w : World) : Calls Try.prog 17 #[geoV J I G P] w fun e w' => e = .returned (.int .i64 (metaN J I G P)) ∧ Ext w w' := by
  unfold metaN
  cases h : rightB J I G P
  · go_enter Try.func17, Try.ntmps17
    go_wp2_with (go_at_call 16; refine (rRight_ok _ _ _ _ _).mono ?_; rintro e w' ⟨rfl, hg⟩; have hX := Ext.trans ((Ext.refl w).alloc _) hg)
    go_ret
    exact ⟨rfl, hX⟩
  · obtain ⟨⟨j0, j1⟩, ⟨i0, i1⟩, _⟩ := right_bd h
    go_enter Try.func17, Try.ntmps17
    go_wp2_with (go_at_call 16; refine (rRight_ok _ _ _ _ _).mono ?_; rintro e w' ⟨rfl, hg⟩; have hX := Ext.trans ((Ext.refl w).alloc _) hg; have hcs := hg.cells)
    go_ret
    exact ⟨rfl, hX⟩

theorem rPlan_no (J I G P : Int) (w : World) (h : rightB J I G P = false) : Calls Try.prog 13 #[geoV J I G P] w fun e w' => e = .returned (.tuple #[.agg zeroL.toArray, .int .i64 1]) ∧ Ext w w' := by
  go_enter Try.func13, Try.ntmps13
  go_wp2_with (go_at_call 16; refine (rRight_ok _ _ _ _ _).mono ?_; rintro e w' ⟨rfl, hg⟩; have hX := Ext.trans (((Ext.refl w).alloc _).alloc _) hg; have hcs := hg.cells; have hfz := hg.frozens)
  exact bodyPost_ret (v := .tuple #[.agg zeroL.toArray, .int .i64 1]) (by simp [results, Try.results13, go_sem, hcs, zeroL]) rfl ⟨rfl, by (with_reducible refine (Ext.setCell (Ext.setCell (Ext.setCell (Ext.setCell (Ext.setCell (Ext.setCell (Ext.setCell hX ?_ _) ?_ _) ?_ _) ?_ _) ?_ _) ?_ _) ?_ _)) <;> exact Nat.le_succ _⟩

set_option maxHeartbeats 2000000 in
theorem rPlan_yes (J I G P : Int) (w : World) (h : rightB J I G P = true) : Calls Try.prog 13 #[geoV J I G P] w fun e w' => e = .returned (.tuple #[.agg (planL J I G P).toArray, .int .i64 0]) ∧ Ext w w' := by
  obtain ⟨⟨j0, j1⟩, ⟨i0, i1⟩, _, ⟨g0, g1⟩, p0, p1, gp0, gp1⟩ := right_bd h
  go_enter Try.func13, Try.ntmps13
  go_wp2_with fail
  refine (rRight_ok _ _ _ _ _).mono ?_
  rintro e w' ⟨rfl, hg⟩
  have hX := Ext.trans (((Ext.refl w).alloc _).alloc _) hg
  have c0 : w'.cell? ⟨w.heap.size, 0, none⟩ = some (.int .i64 J) := by rw [hg.cells _ _ (by simp; omega)]; go_simp
  have c1 : w'.cell? ⟨w.heap.size, 1, none⟩ = some (.int .i64 I) := by rw [hg.cells _ _ (by simp; omega)]; go_simp
  have c2 : w'.cell? ⟨w.heap.size, 2, none⟩ = some (.int .i64 G) := by rw [hg.cells _ _ (by simp; omega)]; go_simp
  have c3 : w'.cell? ⟨w.heap.size, 3, none⟩ = some (.int .i64 P) := by rw [hg.cells _ _ (by simp; omega)]; go_simp
  have d0 : w'.cell? ⟨w.heap.size + 1, 0, none⟩ = some (.int .i64 0) := by rw [hg.cells _ _ (by simp)]; go_simp
  have f0 : w'.frozen? ⟨w.heap.size + 1, 0, none⟩ = false := by rw [hg.frozens _ _ (by simp)]; go_simp
  have d1 : w'.cell? ⟨w.heap.size + 1, 1, none⟩ = some (.int .i64 0) := by rw [hg.cells _ _ (by simp)]; go_simp
  have f1 : w'.frozen? ⟨w.heap.size + 1, 1, none⟩ = false := by rw [hg.frozens _ _ (by simp)]; go_simp
  have d2 : w'.cell? ⟨w.heap.size + 1, 2, none⟩ = some (.int .i64 0) := by rw [hg.cells _ _ (by simp)]; go_simp
  have f2 : w'.frozen? ⟨w.heap.size + 1, 2, none⟩ = false := by rw [hg.frozens _ _ (by simp)]; go_simp
  have d3 : w'.cell? ⟨w.heap.size + 1, 3, none⟩ = some (.int .i64 0) := by rw [hg.cells _ _ (by simp)]; go_simp
  have f3 : w'.frozen? ⟨w.heap.size + 1, 3, none⟩ = false := by rw [hg.frozens _ _ (by simp)]; go_simp
  have d4 : w'.cell? ⟨w.heap.size + 1, 4, none⟩ = some (.int .i64 0) := by rw [hg.cells _ _ (by simp)]; go_simp
  have f4 : w'.frozen? ⟨w.heap.size + 1, 4, none⟩ = false := by rw [hg.frozens _ _ (by simp)]; go_simp
  have d5 : w'.cell? ⟨w.heap.size + 1, 5, none⟩ = some (.int .i64 0) := by rw [hg.cells _ _ (by simp)]; go_simp
  have f5 : w'.frozen? ⟨w.heap.size + 1, 5, none⟩ = false := by rw [hg.frozens _ _ (by simp)]; go_simp
  have d6 : w'.cell? ⟨w.heap.size + 1, 6, none⟩ = some (.int .i64 0) := by rw [hg.cells _ _ (by simp)]; go_simp
  have f6 : w'.frozen? ⟨w.heap.size + 1, 6, none⟩ = false := by rw [hg.frozens _ _ (by simp)]; go_simp
  have hlt : w.heap.size + 1 < w'.heap.size := by have := hg.size; simp at this; omega
  have hlt1 : w.heap.size < w'.heap.size := by omega
  clear hg
  rw [h]
  go_wp2
  exact bodyPost_ret (v := .tuple #[.agg (planL J I G P).toArray, .int .i64 0]) (by simp [results, Try.results13, go_sem, planL, hlt, d0, d1, d2, d3, d4, d5, d6]) rfl ⟨rfl, by (with_reducible refine Ext.alloc (Ext.setCell (Ext.setCell (Ext.setCell (Ext.setCell (Ext.setCell (Ext.setCell (Ext.setCell hX ?_ _) ?_ _) ?_ _) ?_ _) ?_ _) ?_ _) ?_ _) _) <;> exact Nat.le_succ _⟩

end Go.Proofs.Ythhkkjnahiimbaa.Super
