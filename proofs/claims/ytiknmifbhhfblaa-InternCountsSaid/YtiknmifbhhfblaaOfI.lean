/- intern.of, row, Find, with. -/
import Derived.Test.YtiknmifbhhfblaaRightI
import Derived.Test.YtiknmifbhhfblaaAgg
namespace Go.Proofs.Ytiknmifbhhfblaa.Intern
open Go.RowKit Words Mem Plain Ops Agg
set_option linter.ambiguousOpen false
set_option linter.unusedVariables false
set_option linter.unusedSimpArgs false

/-- A world in which the rows lie, and all behind it. -/
def RowsAt (b off : Nat) (L : List RowT) (w : World) : Prop := ∀ k, k < L.length → w.cell? ⟨b, off + k * 2, none⟩ = some (.int .u16 (rg L k).1) ∧ w.cell? ⟨b, off + k * 2 + 1, none⟩ = some (.int .i64 (rg L k).2)
theorem RowsAt.ext {b off : Nat} {L : List RowT} {w w' : World} (h : RowsAt b off L w) (e : Ext w w') : RowsAt b off L w' := fun k hk => ⟨e.keep (h k hk).1, e.keep (h k hk).2⟩

theorem isL_ok (x y a : Int) (g : Nat) (w : World) (hc : w.cell? ⟨g, 0, none⟩ = some (.int .u16 a)) :
    Calls Try.prog 33 #[.agg #[.int .u16 x, .int .i64 y], .pointer (some ⟨g, 0, none⟩)] w fun e w' => e = .returned (.bool (isL a (x, y))) ∧ Ext w w' := by
  have hl := World.block_lt_of_cell? w _ hc
  have hc' := ((Ext.refl w).alloc (.cells #[.int .u16 x, .int .i64 y] 37)).keep hc
  have hX := (Ext.refl w).alloc (.cells #[.int .u16 x, .int .i64 y] 37)
  have hq : (x == a) = decide (x = a) := rfl
  by_cases h0 : 0 < y
  · have hv : isL a (x, y) = (x == a) := by simp [isL, h0, hq]
    have HV := Lib.hid hv; have HX := Lib.hid hX
    clear hv hX hq
    go_enter Try.func33, Try.ntmps33
    go_wp2
    go_ret
    exact ⟨by rw [HV.out]; rfl, HX.out⟩
  · have hv : isL a (x, y) = false := by simp [isL, h0]
    have HV := Lib.hid hv; have HX := Lib.hid hX
    clear hv hX hq
    go_enter Try.func33, Try.ntmps33
    go_wp2
    go_ret
    exact ⟨by rw [HV.out]; rfl, HX.out⟩
theorem isF_ok (x y : Int) (w : World) :
    Calls Try.prog 27 #[.agg #[.int .u16 x, .int .i64 y]] w fun e w' => e = .returned (.bool (isF (x, y))) ∧ Ext w w' := by
  have hX := (Ext.refl w).alloc (.cells #[.int .u16 x, .int .i64 y] 37)
  have hv : isF (x, y) = (y == 0) := rfl
  have HV := Lib.hid hv; have HX := Lib.hid hX
  clear hv hX
  go_enter Try.func27, Try.ntmps27
  go_wp2
  go_ret
  exact ⟨by rw [HV.out]; rfl, HX.out⟩

theorem idxL_pos (L : List RowT) (b off cap g : Nat) (a : Int) (w : World) (hm : L.length ≤ 9223372036854775807) (hc : RowsAt b off L w) (hg : w.cell? ⟨g, 0, none⟩ = some (.int .u16 a)) :
    Calls Try.prog 34 #[.slice (some ⟨b, off, none⟩) L.length cap, .func (.func 33) #[] #[.pointer (some ⟨g, 0, none⟩)]] w fun e w' => e = .returned (.int .i64 (idxI (isL a) L)) ∧ Ext w w' := by
  have HC := Lib.hid hc
  have HG := Lib.hid hg
  obtain ⟨n, hn⟩ : ∃ n, n = L.length := ⟨_, rfl⟩
  have HL := Lib.hid hn
  rw [← hn] at hm ⊢
  clear hc hg hn
  go_enter Try.func34, Try.ntmps34
  go_wp2
  go_loopw [8] (fun v wr => ∃ k : Nat, k ≤ n ∧ v = .int .i64 k ∧ (∀ j, j < k → isL a (rg L j) = false) ∧ Ext w wr) (fun v _ => n - (intOf v).toNat)
  case atStart => exact ⟨0, by omega, rfl, fun j hj => absurd hj (by omega), Ext.refl _⟩
  case round =>
    obtain ⟨k, hk, rfl, hno, hX⟩ := hrel
    by_cases hlt : k < n
    · have hkL : k < L.length := by rw [← HL.out]; exact hlt
      obtain ⟨c0, c1⟩ := HC.out.ext hX k hkL
      have hga := hX.keep HG.out
      have HX := Lib.hid hX
      have HNO := Lib.hid hno
      obtain ⟨x, hx⟩ : ∃ x, x = (rg L k).1 := ⟨_, rfl⟩
      obtain ⟨y, hy⟩ : ∃ y, y = (rg L k).2 := ⟨_, rfl⟩
      have HXY := Lib.hid (show rg L k = (x, y) by rw [hx, hy])
      rw [← hx] at c0
      rw [← hy] at c1
      clear hno hX hx hy
      have hcall := isL_ok x y a g wr hga
      cases hv : isL a (x, y)
      · rw [hv] at hcall
        have HS := Lib.hid hv
        clear hv
        go_wp2_with fail
        refine hcall.mono ?_
        rintro e w2 ⟨rfl, h2⟩
        have H2 := Lib.hid (HX.out.trans h2)
        clear h2
        go_wp2
        go_roundw
        case rel => 
          refine ⟨k + 1, hlt, by go_num, fun j hj => ?_, H2.out⟩
          by_cases e : j = k
          · rw [e, HXY.out]; exact HS.out
          · exact HNO.out j (by omega)
        case measure => simp [intOf]; omega
      · rw [hv] at hcall
        have HV := Lib.hid (idxI_at (p := isL a) hkL (by rw [HXY.out]; exact hv) HNO.out)
        clear hv
        go_wp2_with fail
        refine hcall.mono ?_
        rintro e w2 ⟨rfl, h2⟩
        have H2 := Lib.hid (HX.out.trans h2)
        clear h2
        go_wp2
        go_ret
        exact ⟨by rw [HV.out]; rfl, H2.out⟩
    · have : k = n := by omega
      subst this
      have HV := Lib.hid (idxI_none (p := isL a) (L := L) (by rw [← HL.out]; exact hno))
      have HX := Lib.hid hX
      clear hno hX
      go_wp2
      go_ret
      exact ⟨by rw [HV.out]; rfl, HX.out⟩
theorem idxF_pos (L : List RowT) (b off cap : Nat) (w : World) (hm : L.length ≤ 9223372036854775807) (hc : RowsAt b off L w) :
    Calls Try.prog 34 #[.slice (some ⟨b, off, none⟩) L.length cap, .func (.func 27) #[] #[]] w fun e w' => e = .returned (.int .i64 (idxI isF L)) ∧ Ext w w' := by
  have HC := Lib.hid hc
  obtain ⟨n, hn⟩ : ∃ n, n = L.length := ⟨_, rfl⟩
  have HL := Lib.hid hn
  rw [← hn] at hm ⊢
  clear hc hn
  go_enter Try.func34, Try.ntmps34
  go_wp2
  go_loopw [8] (fun v wr => ∃ k : Nat, k ≤ n ∧ v = .int .i64 k ∧ (∀ j, j < k → isF (rg L j) = false) ∧ Ext w wr) (fun v _ => n - (intOf v).toNat)
  case atStart => exact ⟨0, by omega, rfl, fun j hj => absurd hj (by omega), Ext.refl _⟩
  case round =>
    obtain ⟨k, hk, rfl, hno, hX⟩ := hrel
    by_cases hlt : k < n
    · have hkL : k < L.length := by rw [← HL.out]; exact hlt
      obtain ⟨c0, c1⟩ := HC.out.ext hX k hkL
      have HX := Lib.hid hX
      have HNO := Lib.hid hno
      obtain ⟨x, hx⟩ : ∃ x, x = (rg L k).1 := ⟨_, rfl⟩
      obtain ⟨y, hy⟩ : ∃ y, y = (rg L k).2 := ⟨_, rfl⟩
      have HXY := Lib.hid (show rg L k = (x, y) by rw [hx, hy])
      rw [← hx] at c0
      rw [← hy] at c1
      clear hno hX hx hy
      have hcall := isF_ok x y wr
      cases hv : isF (x, y)
      · rw [hv] at hcall
        have HS := Lib.hid hv
        clear hv
        go_wp2_with fail
        refine hcall.mono ?_
        rintro e w2 ⟨rfl, h2⟩
        have H2 := Lib.hid (HX.out.trans h2)
        clear h2
        go_wp2
        go_roundw
        case rel => 
          refine ⟨k + 1, hlt, by go_num, fun j hj => ?_, H2.out⟩
          by_cases e : j = k
          · rw [e, HXY.out]; exact HS.out
          · exact HNO.out j (by omega)
        case measure => simp [intOf]; omega
      · rw [hv] at hcall
        have HV := Lib.hid (idxI_at (p := isF) hkL (by rw [HXY.out]; exact hv) HNO.out)
        clear hv
        go_wp2_with fail
        refine hcall.mono ?_
        rintro e w2 ⟨rfl, h2⟩
        have H2 := Lib.hid (HX.out.trans h2)
        clear h2
        go_wp2
        go_ret
        exact ⟨by rw [HV.out]; rfl, H2.out⟩
    · have : k = n := by omega
      subst this
      have HV := Lib.hid (idxI_none (p := isF) (L := L) (by rw [← HL.out]; exact hno))
      have HX := Lib.hid hX
      clear hno hX
      go_wp2
      go_ret
      exact ⟨by rw [HV.out]; rfl, HX.out⟩

theorem idxL_ok (L : List RowT) (s : Option Addr) (cap g : Nat) (a : Int) (w : World) (hm : L.length ≤ 9223372036854775807) (hc : Sl w s (rowsC L)) (hg : w.cell? ⟨g, 0, none⟩ = some (.int .u16 a)) :
    Calls Try.prog 34 #[.slice s L.length cap, .func (.func 33) #[] #[.pointer (some ⟨g, 0, none⟩)]] w fun e w' => e = .returned (.int .i64 (idxI (isL a) L)) ∧ Ext w w' := by
  by_cases h0 : 0 < L.length
  · obtain ⟨b, off, rfl, hc'⟩ := rows_at hc h0
    exact idxL_pos L b off cap g a w hm hc' hg
  · have e : L = [] := List.eq_nil_of_length_eq_zero (by omega)
    subst e
    have hv : idxI (isL a) [] = -1 := rfl
    have HV := Lib.hid hv
    rw [show ([] : List RowT).length = 0 from rfl]
    clear hv hm h0 hc
    go_enter Try.func34, Try.ntmps34
    go_wp2
    go_loopw [8] (fun v wr => v = .int .i64 0 ∧ wr = w) (fun v _ => 0)
    case atStart => exact ⟨rfl, rfl⟩
    case round =>
      obtain ⟨rfl, rfl⟩ := hrel
      go_wp2
      go_ret
      exact ⟨by rw [HV.out]; rfl, Ext.refl _⟩
end Go.Proofs.Ytiknmifbhhfblaa.Intern
