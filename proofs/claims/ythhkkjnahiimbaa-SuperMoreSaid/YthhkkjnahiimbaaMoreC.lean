/- The walk of the law SuperMore, where both partings may be. -/
import Derived.Test.YthhkkjnahiimbaaShown
namespace Go.Proofs.Ythhkkjnahiimbaa.Super
open Go.RowKit Words Mem
set_option linter.unusedVariables false
set_option linter.unusedSimpArgs false
set_option maxHeartbeats 4000000 in
theorem more_both (J I G P : Int) (w : World) (h : rightB J I G P = true) (h' : rightB J I G (P + 1) = true) : Calls Try.prog 3 #[geoV J I G P] w fun e w' => e = .returned (.bool true) ∧ Ext w w' := by
  obtain ⟨⟨j0, j1⟩, ⟨i0, i1⟩, z0, ⟨gg0, gg1⟩, pp0, pp1, gp0, gp1⟩ := right_bd h
  clear z0
  obtain ⟨z1, z2, z3, z4, p2, p3, gp2, gp3⟩ := right_bd h'
  clear z1 z2 z3 z4
  have hmul : G * (P + 1) = G * P + G := by rw [Int.mul_add, Int.mul_one]
  go_enter Try.func3, Try.ntmps3
  go_wp2_with fail
  refine (shown_ok _).mono ?_
  rintro e w1 ⟨rfl, hg1⟩
  have hc1 := hg1.cells
  have hl1 : w.heap.size < w1.heap.size := by have := hg1.size; simp at this; omega
  go_wp2_with fail
  refine (Plan_yes J I G P _ h).mono ?_
  rintro e w2 ⟨rfl, hg2⟩
  have hc2 := hg2.cells
  have hl2 : w.heap.size < w2.heap.size := by have := hg2.size; omega
  unfold planL
  go_wp2_with fail
  refine (Plan_yes J I G (P + 1) _ h').mono ?_
  rintro e w3 ⟨rfl, hg3⟩
  have hc3 := hg3.cells
  have hz3 := hg3.frozens
  have hl3 : w2.heap.size + 1 < w3.heap.size := by have := hg3.size; simp at this; omega
  have hl4 : w2.heap.size < w3.heap.size := by omega
  have hl5 : w.heap.size < w3.heap.size := by omega
  unfold planL
  go_wp2_with fail
  have hmore : 1 + J + 1 + 1 + 1 + I / 2 + (G * P + G) - (1 + J + 1 + 1 + 1 + I / 2 + G * P) = G := by omega
  rw [hmore]
  have hmt : metaN J I G (P + 1) = metaN J I G P := by unfold metaN; rw [h, h']
  clear h h'
  clear hmore hmul gp2 gp3
  generalize 1 + J + 1 + 1 + 1 + I / 2 + (G * P + G) = y6 at *
  generalize 1 + J + 1 + 1 + 1 + I / 2 + G * P = x6 at *
  generalize 1 + J + 1 + 1 + 1 + I / 2 = x5 at *
  generalize 1 + J + 1 + 1 + 1 = x4 at *
  generalize 1 + J + 1 + 1 = x3 at *
  generalize 1 + J + 1 = x2 at *
  generalize 1 + J = x1 at *
  generalize hQ : P + 1 = Q at *
  clear hQ j0 j1 i0 i1 gg0 gg1 pp0 pp1 gp0 gp1 p2 p3
  have X1 : Ext w w1 := ((Ext.refl w).alloc _).trans hg1
  have X3 : Ext w2 w3 := (((Ext.refl w2).alloc _).alloc _).trans hg3
  have X4 : Ext w3 (w3.alloc (Obj.cells #[.int .i64 1, .int .i64 x1, .int .i64 x2, .int .i64 x3, .int .i64 x4, .int .i64 x5, .int .i64 x6] 26)) := (Ext.refl w3).alloc _
  have g0 : (w3.alloc (Obj.cells #[.int .i64 1, .int .i64 x1, .int .i64 x2, .int .i64 x3, .int .i64 x4, .int .i64 x5, .int .i64 x6] 26)).cell? ⟨w.heap.size, 0, none⟩ = some (.int .i64 J) := ((hg2.trans X3).trans X4).keep (hg1.keep (by go_simp))
  have g1 : (w3.alloc (Obj.cells #[.int .i64 1, .int .i64 x1, .int .i64 x2, .int .i64 x3, .int .i64 x4, .int .i64 x5, .int .i64 x6] 26)).cell? ⟨w.heap.size, 1, none⟩ = some (.int .i64 I) := ((hg2.trans X3).trans X4).keep (hg1.keep (by go_simp))
  have g2 : (w3.alloc (Obj.cells #[.int .i64 1, .int .i64 x1, .int .i64 x2, .int .i64 x3, .int .i64 x4, .int .i64 x5, .int .i64 x6] 26)).cell? ⟨w.heap.size, 2, none⟩ = some (.int .i64 G) := ((hg2.trans X3).trans X4).keep (hg1.keep (by go_simp))
  have g3 : (w3.alloc (Obj.cells #[.int .i64 1, .int .i64 x1, .int .i64 x2, .int .i64 x3, .int .i64 x4, .int .i64 x5, .int .i64 x6] 26)).cell? ⟨w.heap.size, 3, none⟩ = some (.int .i64 P) := ((hg2.trans X3).trans X4).keep (hg1.keep (by go_simp))
  have p0 : (w3.alloc (Obj.cells #[.int .i64 1, .int .i64 x1, .int .i64 x2, .int .i64 x3, .int .i64 x4, .int .i64 x5, .int .i64 x6] 26)).cell? ⟨w2.heap.size, 0, none⟩ = some (.int .i64 1) := X4.keep (hg3.keep (by go_simp))
  have p1 : (w3.alloc (Obj.cells #[.int .i64 1, .int .i64 x1, .int .i64 x2, .int .i64 x3, .int .i64 x4, .int .i64 x5, .int .i64 x6] 26)).cell? ⟨w2.heap.size, 1, none⟩ = some (.int .i64 x1) := X4.keep (hg3.keep (by go_simp))
  have p2 : (w3.alloc (Obj.cells #[.int .i64 1, .int .i64 x1, .int .i64 x2, .int .i64 x3, .int .i64 x4, .int .i64 x5, .int .i64 x6] 26)).cell? ⟨w2.heap.size, 2, none⟩ = some (.int .i64 x2) := X4.keep (hg3.keep (by go_simp))
  have p3 : (w3.alloc (Obj.cells #[.int .i64 1, .int .i64 x1, .int .i64 x2, .int .i64 x3, .int .i64 x4, .int .i64 x5, .int .i64 x6] 26)).cell? ⟨w2.heap.size, 3, none⟩ = some (.int .i64 x3) := X4.keep (hg3.keep (by go_simp))
  have p4 : (w3.alloc (Obj.cells #[.int .i64 1, .int .i64 x1, .int .i64 x2, .int .i64 x3, .int .i64 x4, .int .i64 x5, .int .i64 x6] 26)).cell? ⟨w2.heap.size, 4, none⟩ = some (.int .i64 x4) := X4.keep (hg3.keep (by go_simp))
  have p5 : (w3.alloc (Obj.cells #[.int .i64 1, .int .i64 x1, .int .i64 x2, .int .i64 x3, .int .i64 x4, .int .i64 x5, .int .i64 x6] 26)).cell? ⟨w2.heap.size, 5, none⟩ = some (.int .i64 x5) := X4.keep (hg3.keep (by go_simp))
  have p6 : (w3.alloc (Obj.cells #[.int .i64 1, .int .i64 x1, .int .i64 x2, .int .i64 x3, .int .i64 x4, .int .i64 x5, .int .i64 x6] 26)).cell? ⟨w2.heap.size, 6, none⟩ = some (.int .i64 x6) := X4.keep (hg3.keep (by go_simp))
  have r0 : (w3.alloc (Obj.cells #[.int .i64 1, .int .i64 x1, .int .i64 x2, .int .i64 x3, .int .i64 x4, .int .i64 x5, .int .i64 x6] 26)).cell? ⟨w2.heap.size + 1, 0, none⟩ = some (.int .i64 J) := X4.keep (hg3.keep (by go_simp))
  have r1 : (w3.alloc (Obj.cells #[.int .i64 1, .int .i64 x1, .int .i64 x2, .int .i64 x3, .int .i64 x4, .int .i64 x5, .int .i64 x6] 26)).cell? ⟨w2.heap.size + 1, 1, none⟩ = some (.int .i64 I) := X4.keep (hg3.keep (by go_simp))
  have r2 : (w3.alloc (Obj.cells #[.int .i64 1, .int .i64 x1, .int .i64 x2, .int .i64 x3, .int .i64 x4, .int .i64 x5, .int .i64 x6] 26)).cell? ⟨w2.heap.size + 1, 2, none⟩ = some (.int .i64 G) := X4.keep (hg3.keep (by go_simp))
  have r3 : (w3.alloc (Obj.cells #[.int .i64 1, .int .i64 x1, .int .i64 x2, .int .i64 x3, .int .i64 x4, .int .i64 x5, .int .i64 x6] 26)).cell? ⟨w2.heap.size + 1, 3, none⟩ = some (.int .i64 Q) := X4.keep (hg3.keep (by go_simp))
  have q0 : (w3.alloc (Obj.cells #[.int .i64 1, .int .i64 x1, .int .i64 x2, .int .i64 x3, .int .i64 x4, .int .i64 x5, .int .i64 x6] 26)).cell? ⟨w3.heap.size, 0, none⟩ = some (.int .i64 1) := by go_simp
  have q1 : (w3.alloc (Obj.cells #[.int .i64 1, .int .i64 x1, .int .i64 x2, .int .i64 x3, .int .i64 x4, .int .i64 x5, .int .i64 x6] 26)).cell? ⟨w3.heap.size, 1, none⟩ = some (.int .i64 x1) := by go_simp
  have q2 : (w3.alloc (Obj.cells #[.int .i64 1, .int .i64 x1, .int .i64 x2, .int .i64 x3, .int .i64 x4, .int .i64 x5, .int .i64 x6] 26)).cell? ⟨w3.heap.size, 2, none⟩ = some (.int .i64 x2) := by go_simp
  have q3 : (w3.alloc (Obj.cells #[.int .i64 1, .int .i64 x1, .int .i64 x2, .int .i64 x3, .int .i64 x4, .int .i64 x5, .int .i64 x6] 26)).cell? ⟨w3.heap.size, 3, none⟩ = some (.int .i64 x3) := by go_simp
  have q4 : (w3.alloc (Obj.cells #[.int .i64 1, .int .i64 x1, .int .i64 x2, .int .i64 x3, .int .i64 x4, .int .i64 x5, .int .i64 x6] 26)).cell? ⟨w3.heap.size, 4, none⟩ = some (.int .i64 x4) := by go_simp
  have q5 : (w3.alloc (Obj.cells #[.int .i64 1, .int .i64 x1, .int .i64 x2, .int .i64 x3, .int .i64 x4, .int .i64 x5, .int .i64 x6] 26)).cell? ⟨w3.heap.size, 5, none⟩ = some (.int .i64 x5) := by go_simp
  have q6 : (w3.alloc (Obj.cells #[.int .i64 1, .int .i64 x1, .int .i64 x2, .int .i64 x3, .int .i64 x4, .int .i64 x5, .int .i64 x6] 26)).cell? ⟨w3.heap.size, 6, none⟩ = some (.int .i64 x6) := by go_simp
  generalize (w3.alloc (Obj.cells #[.int .i64 1, .int .i64 x1, .int .i64 x2, .int .i64 x3, .int .i64 x4, .int .i64 x5, .int .i64 x6] 26)) = W at *
  have XE : Ext w W.drew := (((X1.trans hg2).trans X3).trans X4).drew
  have hS0 : Ext w W.drew ∧ W.drew.cell? ⟨w.heap.size, 0, none⟩ = some (.int .i64 J) ∧ W.drew.cell? ⟨w.heap.size, 1, none⟩ = some (.int .i64 I) ∧ W.drew.cell? ⟨w.heap.size, 2, none⟩ = some (.int .i64 G) ∧ W.drew.cell? ⟨w.heap.size, 3, none⟩ = some (.int .i64 P) ∧ W.drew.cell? ⟨w2.heap.size, 0, none⟩ = some (.int .i64 1) ∧ W.drew.cell? ⟨w2.heap.size, 1, none⟩ = some (.int .i64 x1) ∧ W.drew.cell? ⟨w2.heap.size, 2, none⟩ = some (.int .i64 x2) ∧ W.drew.cell? ⟨w2.heap.size, 3, none⟩ = some (.int .i64 x3) ∧ W.drew.cell? ⟨w2.heap.size, 4, none⟩ = some (.int .i64 x4) ∧ W.drew.cell? ⟨w2.heap.size, 5, none⟩ = some (.int .i64 x5) ∧ W.drew.cell? ⟨w2.heap.size, 6, none⟩ = some (.int .i64 x6) ∧ W.drew.cell? ⟨(w2.heap.size + 1), 0, none⟩ = some (.int .i64 J) ∧ W.drew.cell? ⟨(w2.heap.size + 1), 1, none⟩ = some (.int .i64 I) ∧ W.drew.cell? ⟨(w2.heap.size + 1), 2, none⟩ = some (.int .i64 G) ∧ W.drew.cell? ⟨(w2.heap.size + 1), 3, none⟩ = some (.int .i64 Q) ∧ W.drew.cell? ⟨w3.heap.size, 0, none⟩ = some (.int .i64 1) ∧ W.drew.cell? ⟨w3.heap.size, 1, none⟩ = some (.int .i64 x1) ∧ W.drew.cell? ⟨w3.heap.size, 2, none⟩ = some (.int .i64 x2) ∧ W.drew.cell? ⟨w3.heap.size, 3, none⟩ = some (.int .i64 x3) ∧ W.drew.cell? ⟨w3.heap.size, 4, none⟩ = some (.int .i64 x4) ∧ W.drew.cell? ⟨w3.heap.size, 5, none⟩ = some (.int .i64 x5) ∧ W.drew.cell? ⟨w3.heap.size, 6, none⟩ = some (.int .i64 x6) := ⟨XE, g0, g1, g2, g3, p0, p1, p2, p3, p4, p5, p6, r0, r1, r2, r3, q0, q1, q2, q3, q4, q5, q6⟩
  have hK : ∀ v u : World, (Ext w v ∧ v.cell? ⟨w.heap.size, 0, none⟩ = some (.int .i64 J) ∧ v.cell? ⟨w.heap.size, 1, none⟩ = some (.int .i64 I) ∧ v.cell? ⟨w.heap.size, 2, none⟩ = some (.int .i64 G) ∧ v.cell? ⟨w.heap.size, 3, none⟩ = some (.int .i64 P) ∧ v.cell? ⟨w2.heap.size, 0, none⟩ = some (.int .i64 1) ∧ v.cell? ⟨w2.heap.size, 1, none⟩ = some (.int .i64 x1) ∧ v.cell? ⟨w2.heap.size, 2, none⟩ = some (.int .i64 x2) ∧ v.cell? ⟨w2.heap.size, 3, none⟩ = some (.int .i64 x3) ∧ v.cell? ⟨w2.heap.size, 4, none⟩ = some (.int .i64 x4) ∧ v.cell? ⟨w2.heap.size, 5, none⟩ = some (.int .i64 x5) ∧ v.cell? ⟨w2.heap.size, 6, none⟩ = some (.int .i64 x6) ∧ v.cell? ⟨(w2.heap.size + 1), 0, none⟩ = some (.int .i64 J) ∧ v.cell? ⟨(w2.heap.size + 1), 1, none⟩ = some (.int .i64 I) ∧ v.cell? ⟨(w2.heap.size + 1), 2, none⟩ = some (.int .i64 G) ∧ v.cell? ⟨(w2.heap.size + 1), 3, none⟩ = some (.int .i64 Q) ∧ v.cell? ⟨w3.heap.size, 0, none⟩ = some (.int .i64 1) ∧ v.cell? ⟨w3.heap.size, 1, none⟩ = some (.int .i64 x1) ∧ v.cell? ⟨w3.heap.size, 2, none⟩ = some (.int .i64 x2) ∧ v.cell? ⟨w3.heap.size, 3, none⟩ = some (.int .i64 x3) ∧ v.cell? ⟨w3.heap.size, 4, none⟩ = some (.int .i64 x4) ∧ v.cell? ⟨w3.heap.size, 5, none⟩ = some (.int .i64 x5) ∧ v.cell? ⟨w3.heap.size, 6, none⟩ = some (.int .i64 x6)) → Ext v u → (Ext w u ∧ u.cell? ⟨w.heap.size, 0, none⟩ = some (.int .i64 J) ∧ u.cell? ⟨w.heap.size, 1, none⟩ = some (.int .i64 I) ∧ u.cell? ⟨w.heap.size, 2, none⟩ = some (.int .i64 G) ∧ u.cell? ⟨w.heap.size, 3, none⟩ = some (.int .i64 P) ∧ u.cell? ⟨w2.heap.size, 0, none⟩ = some (.int .i64 1) ∧ u.cell? ⟨w2.heap.size, 1, none⟩ = some (.int .i64 x1) ∧ u.cell? ⟨w2.heap.size, 2, none⟩ = some (.int .i64 x2) ∧ u.cell? ⟨w2.heap.size, 3, none⟩ = some (.int .i64 x3) ∧ u.cell? ⟨w2.heap.size, 4, none⟩ = some (.int .i64 x4) ∧ u.cell? ⟨w2.heap.size, 5, none⟩ = some (.int .i64 x5) ∧ u.cell? ⟨w2.heap.size, 6, none⟩ = some (.int .i64 x6) ∧ u.cell? ⟨(w2.heap.size + 1), 0, none⟩ = some (.int .i64 J) ∧ u.cell? ⟨(w2.heap.size + 1), 1, none⟩ = some (.int .i64 I) ∧ u.cell? ⟨(w2.heap.size + 1), 2, none⟩ = some (.int .i64 G) ∧ u.cell? ⟨(w2.heap.size + 1), 3, none⟩ = some (.int .i64 Q) ∧ u.cell? ⟨w3.heap.size, 0, none⟩ = some (.int .i64 1) ∧ u.cell? ⟨w3.heap.size, 1, none⟩ = some (.int .i64 x1) ∧ u.cell? ⟨w3.heap.size, 2, none⟩ = some (.int .i64 x2) ∧ u.cell? ⟨w3.heap.size, 3, none⟩ = some (.int .i64 x3) ∧ u.cell? ⟨w3.heap.size, 4, none⟩ = some (.int .i64 x4) ∧ u.cell? ⟨w3.heap.size, 5, none⟩ = some (.int .i64 x5) ∧ u.cell? ⟨w3.heap.size, 6, none⟩ = some (.int .i64 x6)) := fun v u ⟨k0, k1, k2, k3, k4, k5, k6, k7, k8, k9, k10, k11, k12, k13, k14, k15, k16, k17, k18, k19, k20, k21, k22⟩ e => ⟨k0.trans e, e.keep k1, e.keep k2, e.keep k3, e.keep k4, e.keep k5, e.keep k6, e.keep k7, e.keep k8, e.keep k9, e.keep k10, e.keep k11, e.keep k12, e.keep k13, e.keep k14, e.keep k15, e.keep k16, e.keep k17, e.keep k18, e.keep k19, e.keep k20, e.keep k21, e.keep k22⟩
  clear hc1 hc2 hc3 hz3 hg1 hg2 hg3 X1 X3 X4 XE g0 g1 g2 g3 p0 p1 p2 p3 p4 p5 p6 r0 r1 r2 r3 q0 q1 q2 q3 q4 q5 q6 hl1 hl2 hl3 hl4 hl5
  have HS0 := Lib.hid hS0; clear hS0
  have HK := Lib.hid hK; clear hK
  go_region_held3 (fun v => Ext w v ∧ v.cell? ⟨w.heap.size, 0, none⟩ = some (.int .i64 J) ∧ v.cell? ⟨w.heap.size, 1, none⟩ = some (.int .i64 I) ∧ v.cell? ⟨w.heap.size, 2, none⟩ = some (.int .i64 G) ∧ v.cell? ⟨w.heap.size, 3, none⟩ = some (.int .i64 P) ∧ v.cell? ⟨w2.heap.size, 0, none⟩ = some (.int .i64 1) ∧ v.cell? ⟨w2.heap.size, 1, none⟩ = some (.int .i64 x1) ∧ v.cell? ⟨w2.heap.size, 2, none⟩ = some (.int .i64 x2) ∧ v.cell? ⟨w2.heap.size, 3, none⟩ = some (.int .i64 x3) ∧ v.cell? ⟨w2.heap.size, 4, none⟩ = some (.int .i64 x4) ∧ v.cell? ⟨w2.heap.size, 5, none⟩ = some (.int .i64 x5) ∧ v.cell? ⟨w2.heap.size, 6, none⟩ = some (.int .i64 x6) ∧ v.cell? ⟨(w2.heap.size + 1), 0, none⟩ = some (.int .i64 J) ∧ v.cell? ⟨(w2.heap.size + 1), 1, none⟩ = some (.int .i64 I) ∧ v.cell? ⟨(w2.heap.size + 1), 2, none⟩ = some (.int .i64 G) ∧ v.cell? ⟨(w2.heap.size + 1), 3, none⟩ = some (.int .i64 Q) ∧ v.cell? ⟨w3.heap.size, 0, none⟩ = some (.int .i64 1) ∧ v.cell? ⟨w3.heap.size, 1, none⟩ = some (.int .i64 x1) ∧ v.cell? ⟨w3.heap.size, 2, none⟩ = some (.int .i64 x2) ∧ v.cell? ⟨w3.heap.size, 3, none⟩ = some (.int .i64 x3) ∧ v.cell? ⟨w3.heap.size, 4, none⟩ = some (.int .i64 x4) ∧ v.cell? ⟨w3.heap.size, 5, none⟩ = some (.int .i64 x5) ∧ v.cell? ⟨w3.heap.size, 6, none⟩ = some (.int .i64 x6)) (first | exact HS0.out | exact HK.out _ _ (by assumption) (by assumption)) (first
    | (go_at_call 12; refine (Meta_ok _ _ _ _ _).mono ?_; rintro e u ⟨rfl, hu⟩))
  rename_i hH
  obtain ⟨hE, _⟩ := hH
  clear HS0 HK
  go_wp2
  go_ret
  exact ⟨rfl, hE⟩
end Go.Proofs.Ythhkkjnahiimbaa.Super
