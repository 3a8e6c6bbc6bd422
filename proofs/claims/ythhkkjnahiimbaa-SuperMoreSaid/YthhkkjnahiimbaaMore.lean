/- The walks of the laws SuperMore and SuperPlans. -/
import Derived.Test.YthhkkjnahiimbaaMoreC
import Derived.Test.YthhkkjnahiimbaaPlansNo
import Derived.Test.YthhkkjnahiimbaaPlansYes
namespace Go.Proofs.Ythhkkjnahiimbaa.Super
open Go.RowKit Words Mem
set_option linter.unusedVariables false
set_option linter.unusedSimpArgs false

set_option maxHeartbeats 2000000 in
theorem more_no (J I G P : Int) (w : World) (b0 : -9223372036854775808 ≤ P) (b1 : P ≤ 9223372036854775807) (h : rightB J I G P = false) : Calls Try.prog 3 #[geoV J I G P] w fun e w' => e = .returned (.bool true) ∧ Ext w w' := by
  by_cases hp : P < 1048576
  · cases h2 : rightB J I G (P + 1)
    all_goals
      go_enter Try.func3, Try.ntmps3
      go_wp2_with fail
      refine (shown_ok _).mono ?_
      rintro e w1 ⟨rfl, hg1⟩
      have hc1 := hg1.cells
      have hl1 : w.heap.size < w1.heap.size := by have := hg1.size; simp at this; omega
      go_wp2_with fail
      refine (Plan_no J I G P _ h).mono ?_
      rintro e w2 ⟨rfl, hg2⟩
      have hc2 := hg2.cells
      have hl2 : w.heap.size < w2.heap.size := by have := hg2.size; omega
      unfold zeroL
      go_wp2_with fail
      first | refine (Plan_no J I G (P + 1) _ h2).mono ?_ | refine (Plan_yes J I G (P + 1) _ h2).mono ?_
      rintro e w3 ⟨rfl, hg3⟩
      (first | unfold zeroL | unfold planL)
      go_wp2
      go_ret
      exact ⟨rfl, ((((Ext.refl w).alloc _).trans hg1).trans hg2).trans ((((Ext.refl w2).alloc _).alloc _).trans hg3) |>.alloc _⟩
  · go_enter Try.func3, Try.ntmps3
    go_wp2_with fail
    refine (shown_ok _).mono ?_
    rintro e w1 ⟨rfl, hg1⟩
    have hc1 := hg1.cells
    have hl1 : w.heap.size < w1.heap.size := by have := hg1.size; simp at this; omega
    go_wp2_with fail
    refine (Plan_no J I G P _ h).mono ?_
    rintro e w2 ⟨rfl, hg2⟩
    have hc2 := hg2.cells
    have hl2 : w.heap.size < w2.heap.size := by have := hg2.size; omega
    unfold zeroL
    go_wp2_with fail
    refine (Plan_no J I G P _ h).mono ?_
    rintro e w3 ⟨rfl, hg3⟩
    unfold zeroL
    go_wp2
    go_ret
    exact ⟨rfl, ((((Ext.refl w).alloc _).trans hg1).trans hg2).trans ((((Ext.refl w2).alloc _).alloc _).trans hg3) |>.alloc _⟩

set_option maxHeartbeats 2000000 in
theorem more_over (J I G P : Int) (w : World) (h : rightB J I G P = true) (h2 : rightB J I G (P + 1) = false) : Calls Try.prog 3 #[geoV J I G P] w fun e w' => e = .returned (.bool true) ∧ Ext w w' := by
  obtain ⟨_, _, _, _, p0, p1, _, _⟩ := right_bd h
  go_enter Try.func3, Try.ntmps3
  go_wp2_with fail
  refine (shown_ok _).mono ?_
  rintro e w1 ⟨rfl, hg1⟩
  have hc1 := hg1.cells
  have hl1 : w.heap.size < w1.heap.size := by have := hg1.size; simp at this; omega
  go_wp2_with fail
  refine (Plan_yes J I G P _ h).mono ?_
  rintro e w2 ⟨rfl, hg2⟩
  have hc2 := hg2.cells
  have hl2 : w.heap.size < w2.heap.size := by have := hg2.size; omega
  unfold planL
  go_wp2_with fail
  refine (Plan_no J I G (P + 1) _ h2).mono ?_
  rintro e w3 ⟨rfl, hg3⟩
  have hc3 := hg3.cells
  have hl3 : w2.heap.size + 1 < w3.heap.size := by have := hg3.size; simp at this; omega
  unfold zeroL
  go_wp2_with fail
  refine (Right_ok J I G (P + 1) _).mono ?_
  rintro e w4 ⟨rfl, hg4⟩
  rw [h2]
  go_wp2
  go_ret
  exact ⟨rfl, ((((((Ext.refl w).alloc _).trans hg1).trans hg2).trans ((((Ext.refl w2).alloc _).alloc _).trans hg3)).alloc _).trans hg4⟩

theorem more_walk (J I G P : Int) (w : World) (b0 : -9223372036854775808 ≤ P) (b1 : P ≤ 9223372036854775807) : Calls Try.prog 3 #[geoV J I G P] w fun e w' => e = .returned (.bool true) ∧ Ext w w' := by
  cases h : rightB J I G P
  · exact more_no J I G P w b0 b1 h
  · cases h2 : rightB J I G (P + 1)
    · exact more_over J I G P w h h2
    · exact more_both J I G P w h h2
theorem plans_walk (J I G P n : Int) (w : World) (hn : -9223372036854775808 ≤ n ∧ n ≤ 9223372036854775807) : Calls Try.prog 4 #[geoV J I G P, .int .i64 n] w fun e w' => e = .returned (.bool true) ∧ Ext w w' := by
  cases h : rightB J I G P
  · exact plans_no J I G P n w hn h
  · exact plans_yes J I G P n w hn h
end Go.Proofs.Ythhkkjnahiimbaa.Super
