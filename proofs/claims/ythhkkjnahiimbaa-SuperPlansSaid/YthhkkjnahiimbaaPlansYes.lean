/- The walk of the law SuperPlans, one of its two cases. -/
import Derived.Test.YthhkkjnahiimbaaShown
namespace Go.Proofs.Ythhkkjnahiimbaa.Super
open Go.RowKit Words Mem
set_option linter.unusedVariables false
set_option linter.unusedSimpArgs false

set_option maxHeartbeats 4000000 in
theorem plans_yes (J I G P n : Int) (w : World) (hn : -9223372036854775808 ≤ n ∧ n ≤ 9223372036854775807) (h : rightB J I G P = true) : Calls Try.prog 4 #[geoV J I G P, .int .i64 n] w fun e w' => e = .returned (.bool true) ∧ Ext w w' := by
  go_enter Try.func4, Try.ntmps4
  go_wp2_with fail
  refine (Plan_yes J I G P _ h).mono ?_
  rintro e w1 ⟨rfl, hg1⟩
  have hc1 := hg1.cells
  have hl1 : w.heap.size < w1.heap.size := by have := hg1.size; simp at this; omega
  unfold planL
  go_wp2_with fail
  refine (rPlan_yes J I G P _ h).mono ?_
  rintro e w2 ⟨rfl, hg2⟩
  have hc2 := hg2.cells
  have hl2 : w1.heap.size < w2.heap.size := by have := hg2.size; simp at this; omega
  have hl3 : w.heap.size < w2.heap.size := by omega
  unfold planL
  go_wp2_with fail
  refine (Group_ok J I G P n _).mono ?_
  rintro e w3 ⟨rfl, hg3⟩
  have hc3 := hg3.cells
  go_wp2_with fail
  refine (rGroup_ok J I G P n _ hn).mono ?_
  rintro e w4 ⟨rfl, hg4⟩
  go_wp2_with fail
  have X1 : Ext w w1 := ((Ext.refl w).alloc _).trans hg1
  have X2 : Ext w1 w2 := ((Ext.refl w1).alloc _).trans hg2
  have X3 : Ext w2 w3 := ((Ext.refl w2).alloc _).trans hg3
  have g0 : w4.cell? ⟨w.heap.size, 0, none⟩ = some (.int .i64 J) := ((X2.trans X3).trans hg4).keep (hg1.keep (by go_simp))
  have g1 : w4.cell? ⟨w.heap.size, 1, none⟩ = some (.int .i64 I) := ((X2.trans X3).trans hg4).keep (hg1.keep (by go_simp))
  have g2 : w4.cell? ⟨w.heap.size, 2, none⟩ = some (.int .i64 G) := ((X2.trans X3).trans hg4).keep (hg1.keep (by go_simp))
  have g3 : w4.cell? ⟨w.heap.size, 3, none⟩ = some (.int .i64 P) := ((X2.trans X3).trans hg4).keep (hg1.keep (by go_simp))
  have p0 : w4.cell? ⟨w1.heap.size, 0, none⟩ = some (.int .i64 1) := (X3.trans hg4).keep (hg2.keep (by go_simp))
  have p1 : w4.cell? ⟨w1.heap.size, 1, none⟩ = some (.int .i64 (1 + J)) := (X3.trans hg4).keep (hg2.keep (by go_simp))
  have p2 : w4.cell? ⟨w1.heap.size, 2, none⟩ = some (.int .i64 (1 + J + 1)) := (X3.trans hg4).keep (hg2.keep (by go_simp))
  have p3 : w4.cell? ⟨w1.heap.size, 3, none⟩ = some (.int .i64 (1 + J + 1 + 1)) := (X3.trans hg4).keep (hg2.keep (by go_simp))
  have p4 : w4.cell? ⟨w1.heap.size, 4, none⟩ = some (.int .i64 (1 + J + 1 + 1 + 1)) := (X3.trans hg4).keep (hg2.keep (by go_simp))
  have p5 : w4.cell? ⟨w1.heap.size, 5, none⟩ = some (.int .i64 (1 + J + 1 + 1 + 1 + I / 2)) := (X3.trans hg4).keep (hg2.keep (by go_simp))
  have p6 : w4.cell? ⟨w1.heap.size, 6, none⟩ = some (.int .i64 (1 + J + 1 + 1 + 1 + I / 2 + G * P)) := (X3.trans hg4).keep (hg2.keep (by go_simp))
  have q0 : w4.cell? ⟨w2.heap.size, 0, none⟩ = some (.int .i64 1) := hg4.keep (hg3.keep (by go_simp))
  have q1 : w4.cell? ⟨w2.heap.size, 1, none⟩ = some (.int .i64 (1 + J)) := hg4.keep (hg3.keep (by go_simp))
  have q2 : w4.cell? ⟨w2.heap.size, 2, none⟩ = some (.int .i64 (1 + J + 1)) := hg4.keep (hg3.keep (by go_simp))
  have q3 : w4.cell? ⟨w2.heap.size, 3, none⟩ = some (.int .i64 (1 + J + 1 + 1)) := hg4.keep (hg3.keep (by go_simp))
  have q4 : w4.cell? ⟨w2.heap.size, 4, none⟩ = some (.int .i64 (1 + J + 1 + 1 + 1)) := hg4.keep (hg3.keep (by go_simp))
  have q5 : w4.cell? ⟨w2.heap.size, 5, none⟩ = some (.int .i64 (1 + J + 1 + 1 + 1 + I / 2)) := hg4.keep (hg3.keep (by go_simp))
  have q6 : w4.cell? ⟨w2.heap.size, 6, none⟩ = some (.int .i64 (1 + J + 1 + 1 + 1 + I / 2 + G * P)) := hg4.keep (hg3.keep (by go_simp))
  have XE : Ext w w4.drew := (((X1.trans X2).trans X3).trans hg4).drew
  have hS0 : Ext w w4.drew ∧ w4.drew.cell? ⟨w.heap.size, 0, none⟩ = some (.int .i64 J) ∧ w4.drew.cell? ⟨w.heap.size, 1, none⟩ = some (.int .i64 I) ∧ w4.drew.cell? ⟨w.heap.size, 2, none⟩ = some (.int .i64 G) ∧ w4.drew.cell? ⟨w.heap.size, 3, none⟩ = some (.int .i64 P) ∧ w4.drew.cell? ⟨w1.heap.size, 0, none⟩ = some (.int .i64 1) ∧ w4.drew.cell? ⟨w1.heap.size, 1, none⟩ = some (.int .i64 (1 + J)) ∧ w4.drew.cell? ⟨w1.heap.size, 2, none⟩ = some (.int .i64 (1 + J + 1)) ∧ w4.drew.cell? ⟨w1.heap.size, 3, none⟩ = some (.int .i64 (1 + J + 1 + 1)) ∧ w4.drew.cell? ⟨w1.heap.size, 4, none⟩ = some (.int .i64 (1 + J + 1 + 1 + 1)) ∧ w4.drew.cell? ⟨w1.heap.size, 5, none⟩ = some (.int .i64 (1 + J + 1 + 1 + 1 + I / 2)) ∧ w4.drew.cell? ⟨w1.heap.size, 6, none⟩ = some (.int .i64 (1 + J + 1 + 1 + 1 + I / 2 + G * P)) ∧ w4.drew.cell? ⟨w2.heap.size, 0, none⟩ = some (.int .i64 1) ∧ w4.drew.cell? ⟨w2.heap.size, 1, none⟩ = some (.int .i64 (1 + J)) ∧ w4.drew.cell? ⟨w2.heap.size, 2, none⟩ = some (.int .i64 (1 + J + 1)) ∧ w4.drew.cell? ⟨w2.heap.size, 3, none⟩ = some (.int .i64 (1 + J + 1 + 1)) ∧ w4.drew.cell? ⟨w2.heap.size, 4, none⟩ = some (.int .i64 (1 + J + 1 + 1 + 1)) ∧ w4.drew.cell? ⟨w2.heap.size, 5, none⟩ = some (.int .i64 (1 + J + 1 + 1 + 1 + I / 2)) ∧ w4.drew.cell? ⟨w2.heap.size, 6, none⟩ = some (.int .i64 (1 + J + 1 + 1 + 1 + I / 2 + G * P)) := ⟨XE, g0, g1, g2, g3, p0, p1, p2, p3, p4, p5, p6, q0, q1, q2, q3, q4, q5, q6⟩
  have hK : ∀ v u : World, (Ext w v ∧ v.cell? ⟨w.heap.size, 0, none⟩ = some (.int .i64 J) ∧ v.cell? ⟨w.heap.size, 1, none⟩ = some (.int .i64 I) ∧ v.cell? ⟨w.heap.size, 2, none⟩ = some (.int .i64 G) ∧ v.cell? ⟨w.heap.size, 3, none⟩ = some (.int .i64 P) ∧ v.cell? ⟨w1.heap.size, 0, none⟩ = some (.int .i64 1) ∧ v.cell? ⟨w1.heap.size, 1, none⟩ = some (.int .i64 (1 + J)) ∧ v.cell? ⟨w1.heap.size, 2, none⟩ = some (.int .i64 (1 + J + 1)) ∧ v.cell? ⟨w1.heap.size, 3, none⟩ = some (.int .i64 (1 + J + 1 + 1)) ∧ v.cell? ⟨w1.heap.size, 4, none⟩ = some (.int .i64 (1 + J + 1 + 1 + 1)) ∧ v.cell? ⟨w1.heap.size, 5, none⟩ = some (.int .i64 (1 + J + 1 + 1 + 1 + I / 2)) ∧ v.cell? ⟨w1.heap.size, 6, none⟩ = some (.int .i64 (1 + J + 1 + 1 + 1 + I / 2 + G * P)) ∧ v.cell? ⟨w2.heap.size, 0, none⟩ = some (.int .i64 1) ∧ v.cell? ⟨w2.heap.size, 1, none⟩ = some (.int .i64 (1 + J)) ∧ v.cell? ⟨w2.heap.size, 2, none⟩ = some (.int .i64 (1 + J + 1)) ∧ v.cell? ⟨w2.heap.size, 3, none⟩ = some (.int .i64 (1 + J + 1 + 1)) ∧ v.cell? ⟨w2.heap.size, 4, none⟩ = some (.int .i64 (1 + J + 1 + 1 + 1)) ∧ v.cell? ⟨w2.heap.size, 5, none⟩ = some (.int .i64 (1 + J + 1 + 1 + 1 + I / 2)) ∧ v.cell? ⟨w2.heap.size, 6, none⟩ = some (.int .i64 (1 + J + 1 + 1 + 1 + I / 2 + G * P))) → Ext v u → (Ext w u ∧ u.cell? ⟨w.heap.size, 0, none⟩ = some (.int .i64 J) ∧ u.cell? ⟨w.heap.size, 1, none⟩ = some (.int .i64 I) ∧ u.cell? ⟨w.heap.size, 2, none⟩ = some (.int .i64 G) ∧ u.cell? ⟨w.heap.size, 3, none⟩ = some (.int .i64 P) ∧ u.cell? ⟨w1.heap.size, 0, none⟩ = some (.int .i64 1) ∧ u.cell? ⟨w1.heap.size, 1, none⟩ = some (.int .i64 (1 + J)) ∧ u.cell? ⟨w1.heap.size, 2, none⟩ = some (.int .i64 (1 + J + 1)) ∧ u.cell? ⟨w1.heap.size, 3, none⟩ = some (.int .i64 (1 + J + 1 + 1)) ∧ u.cell? ⟨w1.heap.size, 4, none⟩ = some (.int .i64 (1 + J + 1 + 1 + 1)) ∧ u.cell? ⟨w1.heap.size, 5, none⟩ = some (.int .i64 (1 + J + 1 + 1 + 1 + I / 2)) ∧ u.cell? ⟨w1.heap.size, 6, none⟩ = some (.int .i64 (1 + J + 1 + 1 + 1 + I / 2 + G * P)) ∧ u.cell? ⟨w2.heap.size, 0, none⟩ = some (.int .i64 1) ∧ u.cell? ⟨w2.heap.size, 1, none⟩ = some (.int .i64 (1 + J)) ∧ u.cell? ⟨w2.heap.size, 2, none⟩ = some (.int .i64 (1 + J + 1)) ∧ u.cell? ⟨w2.heap.size, 3, none⟩ = some (.int .i64 (1 + J + 1 + 1)) ∧ u.cell? ⟨w2.heap.size, 4, none⟩ = some (.int .i64 (1 + J + 1 + 1 + 1)) ∧ u.cell? ⟨w2.heap.size, 5, none⟩ = some (.int .i64 (1 + J + 1 + 1 + 1 + I / 2)) ∧ u.cell? ⟨w2.heap.size, 6, none⟩ = some (.int .i64 (1 + J + 1 + 1 + 1 + I / 2 + G * P))) := fun v u ⟨k0, k1, k2, k3, k4, k5, k6, k7, k8, k9, k10, k11, k12, k13, k14, k15, k16, k17, k18⟩ e => ⟨k0.trans e, e.keep k1, e.keep k2, e.keep k3, e.keep k4, e.keep k5, e.keep k6, e.keep k7, e.keep k8, e.keep k9, e.keep k10, e.keep k11, e.keep k12, e.keep k13, e.keep k14, e.keep k15, e.keep k16, e.keep k17, e.keep k18⟩
  clear hc1 hc2 hc3 hg1 hg2 hg3 hg4 X1 X2 X3 XE g0 g1 g2 g3 p0 p1 p2 p3 p4 p5 p6 q0 q1 q2 q3 q4 q5 q6 hl1 hl2 hl3
  have HS0 := Lib.hid hS0; clear hS0
  have HK := Lib.hid hK; clear hK
  go_region_held3 (fun v => Ext w v ∧ v.cell? ⟨w.heap.size, 0, none⟩ = some (.int .i64 J) ∧ v.cell? ⟨w.heap.size, 1, none⟩ = some (.int .i64 I) ∧ v.cell? ⟨w.heap.size, 2, none⟩ = some (.int .i64 G) ∧ v.cell? ⟨w.heap.size, 3, none⟩ = some (.int .i64 P) ∧ v.cell? ⟨w1.heap.size, 0, none⟩ = some (.int .i64 1) ∧ v.cell? ⟨w1.heap.size, 1, none⟩ = some (.int .i64 (1 + J)) ∧ v.cell? ⟨w1.heap.size, 2, none⟩ = some (.int .i64 (1 + J + 1)) ∧ v.cell? ⟨w1.heap.size, 3, none⟩ = some (.int .i64 (1 + J + 1 + 1)) ∧ v.cell? ⟨w1.heap.size, 4, none⟩ = some (.int .i64 (1 + J + 1 + 1 + 1)) ∧ v.cell? ⟨w1.heap.size, 5, none⟩ = some (.int .i64 (1 + J + 1 + 1 + 1 + I / 2)) ∧ v.cell? ⟨w1.heap.size, 6, none⟩ = some (.int .i64 (1 + J + 1 + 1 + 1 + I / 2 + G * P)) ∧ v.cell? ⟨w2.heap.size, 0, none⟩ = some (.int .i64 1) ∧ v.cell? ⟨w2.heap.size, 1, none⟩ = some (.int .i64 (1 + J)) ∧ v.cell? ⟨w2.heap.size, 2, none⟩ = some (.int .i64 (1 + J + 1)) ∧ v.cell? ⟨w2.heap.size, 3, none⟩ = some (.int .i64 (1 + J + 1 + 1)) ∧ v.cell? ⟨w2.heap.size, 4, none⟩ = some (.int .i64 (1 + J + 1 + 1 + 1)) ∧ v.cell? ⟨w2.heap.size, 5, none⟩ = some (.int .i64 (1 + J + 1 + 1 + 1 + I / 2)) ∧ v.cell? ⟨w2.heap.size, 6, none⟩ = some (.int .i64 (1 + J + 1 + 1 + 1 + I / 2 + G * P))) (first | exact HS0.out | exact HK.out _ _ (by assumption) (by assumption)) (first
    | (go_at_call 9; refine (shown_ok _).mono ?_; rintro e u ⟨rfl, hu⟩)
    | (go_at_call 11; refine (Right_ok _ _ _ _ _).mono ?_; rintro e u ⟨rfl, hu⟩)
    | (go_at_call 16; refine (rRight_ok _ _ _ _ _).mono ?_; rintro e u ⟨rfl, hu⟩)
    | (go_at_call 12; refine (Meta_ok _ _ _ _ _).mono ?_; rintro e u ⟨rfl, hu⟩)
    | (go_at_call 17; refine (rMeta_ok _ _ _ _ _).mono ?_; rintro e u ⟨rfl, hu⟩))
  rename_i hH
  obtain ⟨hE, _⟩ := hH
  clear HS0 HK
  go_wp2
  go_ret
  exact ⟨rfl, hE⟩
end Go.Proofs.Ythhkkjnahiimbaa.Super
