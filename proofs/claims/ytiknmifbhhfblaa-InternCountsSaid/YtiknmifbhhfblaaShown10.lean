/- The document's examples. -/
import Derived.Test.YtiknmifbhhfblaaRSame
namespace Go.Proofs.Ytiknmifbhhfblaa.Intern
open Go.RowKit Words Mem Plain Ops Agg
set_option linter.ambiguousOpen false
set_option linter.unusedVariables false
set_option linter.unusedSimpArgs false

theorem ret16 {L R : List RowT} {lab i : Int} (hL : L.length = 16) (hR : R.length = 16) (hwf : wfR L) (e : retR L lab = (R, i, 0)) {w0 w : World} {s : Option Addr} {cap : Nat} (hs : Sl w s (rowsC L)) (h0 : Ext w0 w) :
    Calls Try.prog 13 #[.slice s 16 cap, .int .u16 lab] w fun e w' => ∃ s' cap', e = .returned (.tuple #[.slice s' 16 cap', .int .i64 i, .int .i64 0]) ∧ Sl w' s' (rowsC R) ∧ Ext w0 w' := by
  have h := Retain_ok L s cap lab w (by omega) hs hwf
  rw [e, hL] at h
  refine h.mono ?_
  rintro e w' ⟨v, rfl, a, c, rfl, ho, hx⟩
  exact ⟨a, c, by rw [hR], own2_sl ho, h0.trans hx⟩
theorem rel16 {L R : List RowT} {i : Int} (hL : L.length = 16) (hR : R.length = 16) (hwf : wfR L) (e : relR L i = (R, 0)) {w0 w : World} {s : Option Addr} {cap : Nat} (hs : Sl w s (rowsC L)) (h0 : Ext w0 w) :
    Calls Try.prog 15 #[.slice s 16 cap, .int .i64 i] w fun e w' => ∃ s' cap', e = .returned (.tuple #[.slice s' 16 cap', .int .i64 0]) ∧ Sl w' s' (rowsC R) ∧ Ext w0 w' := by
  have h := Release_ok L s cap i w (by omega) hs hwf
  rw [e, hL] at h
  refine h.mono ?_
  rintro e w' ⟨v, rfl, a, c, rfl, ho, hx⟩
  exact ⟨a, c, by rw [hR], own2_sl ho, h0.trans hx⟩

instance (L : List RowT) : Decidable (wfR L) := by unfold wfR; infer_instance
def sh1 : List RowT := (2, 1) :: List.replicate 15 (0, 0)
def sh2 : List RowT := (2, 1) :: (4, 1) :: List.replicate 14 (0, 0)
def sh3 : List RowT := (2, 2) :: (4, 1) :: List.replicate 14 (0, 0)
def sh5 : List RowT := (0, 0) :: (4, 1) :: List.replicate 14 (0, 0)
def sh6 : List RowT := (8, 1) :: (4, 1) :: List.replicate 14 (0, 0)
theorem e1 : retR freeL 2 = (sh1, 0, 0) := by kernel_rfl
theorem e2 : retR sh1 4 = (sh2, 1, 0) := by kernel_rfl
theorem e3 : retR sh2 2 = (sh3, 0, 0) := by kernel_rfl
theorem e4 : relR sh3 0 = (sh2, 0) := by kernel_rfl
theorem e5 : relR sh2 0 = (sh5, 0) := by kernel_rfl
theorem e6 : retR sh5 8 = (sh6, 0, 0) := by kernel_rfl
theorem w0 : wfR freeL := by decide
theorem w1 : wfR sh1 := by decide
theorem w2 : wfR sh2 := by decide
theorem w3 : wfR sh3 := by decide
theorem w5 : wfR sh5 := by decide

theorem shown_ok (w : World) : Calls Try.prog 9 #[] w fun e w' => e = .returned (.bool true) ∧ Ext w w' := by
  go_enter Try.func9, Try.ntmps9
  go_wp2_with fail
  refine (free_ok w).mono ?_
  rintro e u1 ⟨v, rfl, s1, c1, rfl, ho1, hx1⟩
  have hs1 := own2_sl ho1
  have h1 := ret16 (cap := c1) (by rfl) (by rfl) w0 e1 hs1 hx1
  rw [show freeL.length = 16 from rfl]
  clear ho1 hx1 hs1
  go_wp2_with fail
  refine h1.mono ?_
  rintro e u2 ⟨s2, c2, rfl, hs2, hx2⟩
  have h2 := ret16 (cap := c2) (by rfl) (by rfl) w1 e2 hs2 hx2
  clear h1 hs2 hx2
  go_wp2_with fail
  refine h2.mono ?_
  rintro e u3 ⟨s3, c3, rfl, hs3, hx3⟩
  have h3 := ret16 (cap := c3) (by rfl) (by rfl) w2 e3 hs3 hx3
  clear h2 hs3 hx3
  go_wp2_with fail
  refine h3.mono ?_
  rintro e u4 ⟨s4, c4, rfl, hs4, hx4⟩
  obtain ⟨b, off, rfl, hc⟩ := rows_at hs4 (by decide)
  have hc' : RowsAt b off sh3 u4 := hc
  have h4 := rel16 (cap := c4) (by rfl) (by rfl) w3 e4 hs4 (Ext.refl u4)
  have HC := Lib.hid hc'
  have HX4 := Lib.hid hx4
  clear h3 hs4 hx4 hc hc'
  go_wp2_with fail
  refine h4.mono ?_
  rintro e u5 ⟨s5, c5, rfl, hs5, hx5⟩
  have h5 := rel16 (cap := c5) (by rfl) (by rfl) w2 e5 hs5 hx5
  clear h4 hs5 hx5
  go_wp2_with fail
  refine h5.mono ?_
  rintro e u6 ⟨s6, c6, rfl, hs6, hx6⟩
  have h6 := ret16 (cap := c6) (by rfl) (by rfl) w5 e6 hs6 hx6
  clear h5 hs6 hx6
  go_wp2_with fail
  refine h6.mono ?_
  rintro e u7 ⟨s7, c7, rfl, hs7, hx7⟩
  obtain ⟨d0, d1⟩ := HC.out.ext hx7 0 (by decide)
  have d1' : u7.cell? ⟨b, off + 1, none⟩ = some (.int .i64 2) := by simpa [rg, sh3] using d1
  have HX7 := Lib.hid (HX4.out.trans hx7)
  clear h6 hs7 hx7 d0 d1
  go_wp2
  go_ret
  exact ⟨rfl, HX7.out⟩

/-- The first 20. -/
theorem few_rows {w : World} {a : Option Addr} {L : List RowT} (h : Sl w a (rowsC L)) : Sl w a (rowsC (L.take 20)) := by
  rw [← rowsC_take]
  exact h.take _
end Go.Proofs.Ytiknmifbhhfblaa.Intern
