/- Contracts of super.Plan, super.Group, and of the reference's Right, Meta, Plan, Group. -/
import Derived.Test.YthhkkjnahiimbaaGeo
import Derived.OwnWalk
namespace Go.Proofs.Ythhkkjnahiimbaa.Super
open Go.RowKit Words Mem
set_option linter.unusedVariables false
set_option linter.unusedSimpArgs false

theorem next_ok (n x : Int) (b : Nat) (w : World) (hc : w.cell? ⟨b, 0, none⟩ = some (.int .i64 x)) (hf : w.frozen? ⟨b, 0, none⟩ = false) (h : -9223372036854775808 ≤ x + n ∧ x + n ≤ 9223372036854775807) :
    Calls Try.prog 22 #[.int .i64 n, .pointer (some ⟨b, 0, none⟩)] w fun e w' => e = .returned (.int .i64 (x + n)) ∧ w' = w.setCell ⟨b, 0, none⟩ (.int .i64 (x + n)) := by
  obtain ⟨h0, h1⟩ := h
  go_enter Try.func22, Try.ntmps22
  go_wp2
  go_ret
  exact ⟨rfl, rfl⟩

def planL (J I G P : Int) : List Value := [.int .i64 1, .int .i64 (1 + J), .int .i64 (1 + J + 1), .int .i64 (1 + J + 1 + 1), .int .i64 (1 + J + 1 + 1 + 1), .int .i64 (1 + J + 1 + 1 + 1 + I / 2), .int .i64 (1 + J + 1 + 1 + 1 + I / 2 + G * P)]
def zeroL : List Value := [.int .i64 0, .int .i64 0, .int .i64 0, .int .i64 0, .int .i64 0, .int .i64 0, .int .i64 0]

theorem Plan_no (J I G P : Int) (w : World) (h : rightB J I G P = false) : Calls Try.prog 10 #[geoV J I G P] w fun e w' => e = .returned (.tuple #[.agg zeroL.toArray, .int .i64 1]) ∧ Ext w w' := by
  go_enter Try.func10, Try.ntmps10
  go_wp2_with (go_at_call 11; refine (Right_ok _ _ _ _ _).mono ?_; rintro e w' ⟨rfl, hg⟩; have hX := Ext.trans (((Ext.refl w).alloc _).alloc _) hg; have hcs := hg.cells; have hfz := hg.frozens)
  exact bodyPost_ret (v := .tuple #[.agg zeroL.toArray, .int .i64 1]) (by simp [results, Try.results10, go_sem, hcs, zeroL]) rfl ⟨rfl, by repeat (first | (with_reducible exact hX) | (refine Ext.setCell ?_ (Nat.le_succ _) _))⟩

set_option maxHeartbeats 1000000 in
theorem Plan_yes (J I G P : Int) (w : World) (h : rightB J I G P = true) : Calls Try.prog 10 #[geoV J I G P] w fun e w' => e = .returned (.tuple #[.agg (planL J I G P).toArray, .int .i64 0]) ∧ Ext w w' := by
  obtain ⟨⟨j0, j1⟩, ⟨i0, i1⟩, _, ⟨g0, g1⟩, p0, p1, gp0, gp1⟩ := right_bd h
  go_enter Try.func10, Try.ntmps10
  go_wp2_with (go_at_call 11; refine (Right_ok _ _ _ _ _).mono ?_; rintro e w' ⟨rfl, hg⟩; have hX := Ext.trans (((Ext.refl w).alloc _).alloc _) hg; have hcs := hg.cells; have hfz := hg.frozens)
  have c0 : w'.cell? ⟨w.heap.size, 0, none⟩ = some (.int .i64 J) := by rw [hg.cells _ _ (by simp; omega)]; go_simp
  have c1 : w'.cell? ⟨w.heap.size, 1, none⟩ = some (.int .i64 I) := by rw [hg.cells _ _ (by simp; omega)]; go_simp
  have c2 : w'.cell? ⟨w.heap.size, 2, none⟩ = some (.int .i64 G) := by rw [hg.cells _ _ (by simp; omega)]; go_simp
  have c3 : w'.cell? ⟨w.heap.size, 3, none⟩ = some (.int .i64 P) := by rw [hg.cells _ _ (by simp; omega)]; go_simp
  have d0 : w'.cell? ⟨w.heap.size + 1, 0, none⟩ = some (.int .i64 0) := by rw [hg.cells _ _ (by simp)]; go_simp
  have f0 : w'.frozen? ⟨w.heap.size + 1, 0, none⟩ = false := by rw [hg.frozens _ _ (by simp)]; go_simp
  have d1 : w'.cell? ⟨w.heap.size + 1, 1, none⟩ = some (.int .i64 0) := by rw [hg.cells _ _ (by simp)]; go_simp
  have f1 : w'.frozen? ⟨w.heap.size + 1, 1, none⟩ = false := by rw [hg.frozens _ _ (by simp)]; go_simp
  have d2 : w'.cell? ⟨w.heap.size + 1, 2, none⟩ = some (.int .i64 0) := by rw [hg.cells _ _ (by simp)]; go_simp
  have f2 : w'.frozen? ⟨w.heap.size + 1, 2, none⟩ = false := by rw [hg.frozens _ _ (by simp)]; go_simp
  have d3 : w'.cell? ⟨w.heap.size + 1, 3, none⟩ = some (.int .i64 0) := by rw [hg.cells _ _ (by simp)]; go_simp
  have f3 : w'.frozen? ⟨w.heap.size + 1, 3, none⟩ = false := by rw [hg.frozens _ _ (by simp)]; go_simp
  have d4 : w'.cell? ⟨w.heap.size + 1, 4, none⟩ = some (.int .i64 0) := by rw [hg.cells _ _ (by simp)]; go_simp
  have f4 : w'.frozen? ⟨w.heap.size + 1, 4, none⟩ = false := by rw [hg.frozens _ _ (by simp)]; go_simp
  have d5 : w'.cell? ⟨w.heap.size + 1, 5, none⟩ = some (.int .i64 0) := by rw [hg.cells _ _ (by simp)]; go_simp
  have f5 : w'.frozen? ⟨w.heap.size + 1, 5, none⟩ = false := by rw [hg.frozens _ _ (by simp)]; go_simp
  have d6 : w'.cell? ⟨w.heap.size + 1, 6, none⟩ = some (.int .i64 0) := by rw [hg.cells _ _ (by simp)]; go_simp
  have f6 : w'.frozen? ⟨w.heap.size + 1, 6, none⟩ = false := by rw [hg.frozens _ _ (by simp)]; go_simp
  have hlt : w.heap.size + 1 < w'.heap.size := by have := hg.size; simp at this; omega
  have hlt1 : w.heap.size < w'.heap.size := by omega
  have hd : IntKind.i64.wrap (Int.tdiv I 2) = I / 2 := by rw [Int.tdiv_eq_ediv_of_nonneg (by omega), IntWalk.i64_in _ (by omega)]
  have hm : IntKind.i64.wrap (G * P) = G * P := by rw [IntWalk.i64_in _ (by omega)]
  clear hg hcs hfz
  go_region_held3 (fun v => v.cell? ⟨w.heap.size, 0, none⟩ = some (.int .i64 J) ∧ v.cell? ⟨w.heap.size, 1, none⟩ = some (.int .i64 I) ∧ v.cell? ⟨w.heap.size, 2, none⟩ = some (.int .i64 G) ∧ v.cell? ⟨w.heap.size, 3, none⟩ = some (.int .i64 P)) (go_keep) ((go_at_call 22; refine (next_ok _ ?_ _ _ ?_ ?_ ?_).mono ?_; rotate_left; (simp only [World.setCell_drew, World.setCell_alloc_at, List.setIfInBounds_toArray, List.set_cons_zero, World.cell?_drew, World.cell?_alloc_new, List.size_toArray, List.length_cons, List.length_nil, Nat.zero_add, Nat.lt_add_one, getElem?_pos, List.getElem_toArray, List.getElem_cons_zero]; rfl); (simp only [World.setCell_drew, World.setCell_alloc_at, List.setIfInBounds_toArray, List.set_cons_zero, World.frozen?_setCell, World.frozen?_drew, World.frozen?_alloc_new]); omega; rintro e w1 ⟨rfl, rfl⟩))
  rename_i hH
  clear hH
  go_wp2
  exact bodyPost_ret (v := .tuple #[.agg (planL J I G P).toArray, .int .i64 0]) (by simp [results, Try.results10, go_sem, planL, hlt, d0, d1, d2, d3, d4, d5, d6]) rfl ⟨rfl, by (with_reducible refine Ext.drew (Ext.alloc (Ext.setCell (Ext.setCell (Ext.setCell (Ext.setCell (Ext.setCell (Ext.setCell (Ext.setCell hX ?_ _) ?_ _) ?_ _) ?_ _) ?_ _) ?_ _) ?_ _) _)) <;> exact Nat.le_succ _⟩
end Go.Proofs.Ythhkkjnahiimbaa.Super
