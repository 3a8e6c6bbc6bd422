/- intern.Right. -/
import Derived.Test.YtnodinancnfoeaaRows
import Derived.Test.YtnodinancnfoeaaRwP
import Derived.OwnWalk
import Derived.Maps.OwnOps
import Derived.Maps.Views
import Derived.BigQuiet
import Derived.Deep.QuietTactic
import Derived.Deep.RegionHeld3
import Derived.WalkSpells
import Derived.IntWalk
import Derived.Lib.Hide
namespace Go.Proofs.Ytnodinancnfoeaa.Intern
open Go.RowKit Go.Maps Words Mem Plain Ops
open Go.ChangeShapes Go.WideShapes
set_option linter.ambiguousOpen false
set_option linter.unusedVariables false
set_option linter.unusedSimpArgs false

abbrev U := Unit
/-- What is in the map ahead of row k. -/
def Dm (L : List RowT) : Nat → DataW U
  | 0 => .map []
  | k + 1 => if 0 < (rg L k).2 then (Dm L k).put (.int .u16 (rg L k).1) (.lit (.bool true)) else Dm L k
open Classical in
noncomputable def hadB (L : List RowT) (k : Nat) (x : Int) : Bool := decide (∃ j, j < k ∧ 0 < (rg L j).2 ∧ (rg L j).1 = x)
theorem key_int (i : Int) : WideAt.IsKeyLit (.int .u16 i) := by trivial
theorem dm_tidy (L : List RowT) (k : Nat) : Tidy (Dm L k) := by
  induction k with
  | zero => exact tidy_empty
  | succ k ih =>
    unfold Dm
    split
    · exact ih.put (key_int _) _
    · exact ih
theorem dm_at (L : List RowT) (k : Nat) (x : Int) : (Dm L k).atKey (.int .u16 x) (.lit (.bool false)) = .lit (.bool (hadB L k x)) := by
  induction k with
  | zero =>
    have : hadB L 0 x = false := by simp [hadB]
    rw [this]; rfl
  | succ k ih =>
    unfold Dm
    by_cases h0 : 0 < (rg L k).2
    · rw [if_pos h0]
      by_cases h : (rg L k).1 = x
      · rw [h, atKey_put_same (dm_tidy L k).isMap (key_int _)]
        have : hadB L (k + 1) x = true := by
          simp only [hadB, decide_eq_true_eq]
          exact ⟨k, by omega, h0, h⟩
        rw [this]
      · rw [atKey_put_other (by intro e; cases e; exact h rfl), ih]
        congr 2
        unfold hadB
        rw [decide_eq_decide]
        constructor
        · rintro ⟨j, h1, h2⟩; exact ⟨j, by omega, h2⟩
        · rintro ⟨j, h1, h2, h3⟩
          by_cases e : j = k
          · subst e; exact absurd h3 h
          · exact ⟨j, by omega, h2, h3⟩
    · rw [if_neg h0, ih]
      congr 2
      unfold hadB
      rw [decide_eq_decide]
      constructor
      · rintro ⟨j, h1, h2⟩; exact ⟨j, by omega, h2⟩
      · rintro ⟨j, h1, h2, h3⟩
        by_cases e : j = k
        · subst e; exact absurd h2 h0
        · exact ⟨j, by omega, h2, h3⟩
theorem lawL : Keyed Try.prog 43 := int_keyed Try.underlying43
theorem zeroB (w : World) : (zeroValue 4).run Try.prog w = .ok (.bool false) w := by kernel_rfl
theorem infoRow : (Try.prog.info? 45).map (·.size) = some 2 := by kernel_rfl
theorem oneRow (x y : Int) : (#[.int .u16 x, .int .i64 y] : Array Value).all (·.oneCell') = true := by simp [Value.oneCell']
theorem byCell {w w' : World} {g : Nat} (h : By g w w') {p : Addr} {v : Value} (hc : w.cell? p = some v) (hne : p.block ≠ g) : w'.cell? p = some v := by
  have hl := World.block_lt_of_cell? w p hc
  rw [World.cell?_of_block (w := w) (h.block p.block hl (by simpa using hne))]
  exact hc
theorem lookB {w : World} {b n : Nat} {D : DataW U} (h : w.ownsMap Try.prog 43 (plainElem Try.prog 4) b n D) {x : Int} (hw : (Lit.int .u16 x).wf = true) {v : Bool} (hv : D.atKey (.int .u16 x) (.lit (.bool false)) = .lit (.bool v)) :
    (Instr.lookup 84 (.map (some b)) (.int .u16 x) false).run Try.prog w = .ok (.bool v) w := by
  obtain ⟨r, ps, h1, h2⟩ := h.lookup lawL Try.underlying84 (zeroB w) (plainElem_bool Try.underlying4 false) (keyOf_int_mk Try.underlying43 hw)
  rw [h1]
  rw [hv] at h2
  unfold plainElem at h2
  simp only [Try.underlying4] at h2
  split at h2 <;> simp_all
theorem wf_u16 {x : Int} (h : 0 ≤ x ∧ x ≤ 65535) : (Lit.int .u16 x).wf = true := by
  simp [Lit.wf, IntKind.has, IntKind.min, IntKind.max, IntKind.signed, IntKind.bits]
  omega

set_option maxRecDepth 100000 in
set_option maxHeartbeats 2000000 in
theorem Right_pos (L : List RowT) (b off cap : Nat) (w : World) (h16 : L.length = 16)
    (hc : ∀ k, k < L.length → w.cell? ⟨b, off + k * 2, none⟩ = some (.int .u16 (rg L k).1) ∧ w.cell? ⟨b, off + k * 2 + 1, none⟩ = some (.int .i64 (rg L k).2)) (hwf : wfR L) :
    Calls Try.prog 32 #[.slice (some ⟨b, off, none⟩) L.length cap] w fun e w' => e = .returned (.bool (rightB L)) ∧ Ext w w' := by
  have hb : b < w.heap.size := World.block_lt_of_cell? w _ (hc 0 (by omega)).1
  have hown0 : (w.alloc (.map #[] 0)).ownsMap Try.prog 43 (plainElem Try.prog 4) w.heap.size 0 (Dm L 0) := World.ownsMap_made _ _ _ _
  have HC := Lib.hid (show ∀ v, By w.heap.size (w.alloc (.map #[] 0)) v → ∀ k, k < L.length → v.cell? ⟨b, off + k * 2, none⟩ = some (.int .u16 (rg L k).1) ∧ v.cell? ⟨b, off + k * 2 + 1, none⟩ = some (.int .i64 (rg L k).2) from fun v hv k hk =>
    ⟨byCell hv (((Ext.refl w).alloc _).keep (hc k hk).1) (by simp; omega), byCell hv (((Ext.refl w).alloc _).keep (hc k hk).2) (by simp; omega)⟩)
  have HX0 := Lib.hid (show Ext w (w.alloc (.map #[] 0)) from (Ext.refl w).alloc _)
  have HWF := Lib.hid hwf
  have HL := Lib.hid h16
  have HO := Lib.hid hown0
  have hmk := @run_makeMap Try.prog
  rw [h16]
  clear hc hwf h16 hown0
  go_enter Try.func32, Try.ntmps32
  go_wp2
  generalize hw1 : w.alloc (.map #[] 0) = w1 at *
  obtain ⟨gm, hgm⟩ : ∃ g, g = w.heap.size := ⟨_, rfl⟩
  rw [← hgm] at hb HC HO ⊢
  have HGM := Lib.hid hgm
  clear hgm hw1 hmk
  go_loopw [12] (fun v wr => ∃ k : Nat, k ≤ 16 ∧ v = .int .i64 k ∧ (∀ j, j < k → goodAt L j) ∧ wr.ownsMap Try.prog 43 (plainElem Try.prog 4) gm k (Dm L k) ∧ By gm w1 wr) (fun v _ => 16 - (intOf v).toNat)
  case atStart => exact ⟨0, by omega, rfl, fun j hj => absurd hj (by omega), HO.out, By.refl _ _⟩
  case round =>
    obtain ⟨k, hk, rfl, hgood, hown, hby⟩ := hrel
    by_cases hlt : k < 16
    · have hkL : k < L.length := by rw [HL.out]; exact hlt
      obtain ⟨c0, c1⟩ := HC.out wr hby k hkL
      obtain ⟨⟨p0, p1⟩, q0, q1⟩ := HWF.out.at hkL
      obtain ⟨x, hx⟩ : ∃ x, x = (rg L k).1 := ⟨_, rfl⟩
      obtain ⟨y, hy⟩ : ∃ y, y = (rg L k).2 := ⟨_, rfl⟩
      have HG := Lib.hid hgood
      have HBY := Lib.hid hby
      have HXY := Lib.hid (And.intro hx hy)
      rw [← hx] at c0 p0 p1
      rw [← hy] at c1 q0 q1
      have hwx := wf_u16 (And.intro p0 p1)
      have hown1 := hown.alloc (.cells #[.int .u16 x, .int .i64 y] 45)
      have hby1 := hby.alloc (.cells #[.int .u16 x, .int .i64 y] 45)
      have hhad := dm_at L k x
      have hD1 : ¬ 0 < y → Dm L (k + 1) = Dm L k := fun h => by rw [hy] at h; show (if 0 < (rg L k).2 then _ else _) = _; rw [if_neg h]
      have hD2 : 0 < y → Dm L (k + 1) = (Dm L k).put (.int .u16 x) (.lit (.bool true)) := fun h => by rw [hy] at h; show (if 0 < (rg L k).2 then _ else _) = _; rw [if_pos h, hx]
      have hnext : goodAt L k → ∀ j, j < k + 1 → goodAt L j := fun h j hj => by
        by_cases e : j = k
        · subst e; exact h
        · exact hgood j (by omega)
      have HD1 := Lib.hid hD1
      have HD2 := Lib.hid hD2
      have HN := Lib.hid hnext
      have HHAD := Lib.hid hhad
      have HBY1 := Lib.hid hby1
      have hXr : Ext w (wr.alloc (.cells #[.int .u16 x, .int .i64 y] 45)) := (HX0.out.by hby (by rw [HGM.out]; exact Nat.le_refl _)).alloc _
      have HXR := Lib.hid hXr
      clear hgood hby hx hy hown hD1 hD2 hnext hhad hby1 hXr
      have hcase : ∀ P : Prop, (y = 0 → ¬ x = 0 → P) → (y = 0 → x = 0 → P) → (y < 0 → P) → (y > 65535 → P) → (0 < y → ¬ y > 65535 → P) → P := fun P a b c d e => by
        by_cases h0 : y = 0
        · by_cases h1 : x = 0
          · exact b h0 h1
          · exact a h0 h1
        · by_cases h1 : y < 0
          · exact c h1
          · by_cases h2 : y > 65535
            · exact d h2
            · exact e (by omega) h2
      refine hcase _ ?_ ?_ ?_ ?_ ?_
      · intro hy0 hx0
        clear hcase hown1
        have hv : rightB L = false := right_no hkL (fun hg => by
          have := hg.2.2.1
          rw [← HXY.out.1, ← HXY.out.2] at this
          exact hx0 (this hy0))
        have HV := Lib.hid hv; clear hv
        have HX := Lib.hid HXR.out
        subst hy0
        go_wp2
        go_ret
        exact ⟨by rw [HV.out]; rfl, HX.out⟩
      · intro hy0 hx0
        clear hcase
        have hg : goodAt L k := ⟨by rw [← HXY.out.2, hy0]; decide, by rw [← HXY.out.2, hy0]; decide, by rw [← HXY.out.1]; exact fun _ => hx0, by rw [← HXY.out.2, hy0]; exact fun h => absurd h (by decide)⟩
        rw [← HD1.out (by omega)] at hown1
        have HON := Lib.hid (hown1.mono (Nat.le_succ _))
        have HGN := Lib.hid (HN.out hg)
        clear hown1 hg
        subst hy0 hx0
        go_wp2
        go_roundw
        case rel => exact ⟨k + 1, hlt, by go_num, HGN.out, HON.out, HBY1.out⟩
        case measure => simp [intOf]; omega
      · intro hy0
        clear hcase hown1
        have hv : rightB L = false := right_no hkL (fun hg => by
          have := hg.1
          rw [← HXY.out.2] at this
          omega)
        have HV := Lib.hid hv; clear hv
        have hne : ¬ y = 0 := by omega
        go_wp2
        go_ret
        exact ⟨by rw [HV.out]; rfl, HXR.out⟩
      · intro hy0
        clear hcase hown1
        have hv : rightB L = false := right_no hkL (fun hg => by
          have := hg.2.1
          rw [← HXY.out.2] at this
          omega)
        have HV := Lib.hid hv; clear hv
        have hne : ¬ y = 0 := by omega
        have hnl : ¬ y < 0 := by omega
        go_wp2
        go_ret
        exact ⟨by rw [HV.out]; rfl, HXR.out⟩
      · intro hy0 hy1
        clear hcase
        have hne : ¬ y = 0 := by omega
        have hnl : ¬ y < 0 := by omega
        by_cases hh : hadB L k x = true
        · have hv : rightB L = false := right_no hkL (fun hg => by
            have := hg.2.2.2
            rw [← HXY.out.2, ← HXY.out.1] at this
            unfold hadB at hh
            obtain ⟨j, h1, h2, h3⟩ := of_decide_eq_true hh
            exact this hy0 j h1 h2 h3)
          have hwl := lookB hown1 hwx (HHAD.out.trans (by rw [hh]))
          have HV := Lib.hid hv; clear hv hown1 hh
          go_wp2
          go_ret
          exact ⟨by rw [HV.out]; rfl, HXR.out⟩
        · have hh : hadB L k x = false := by simpa using hh
          have hwl := lookB hown1 hwx (HHAD.out.trans (by rw [hh]))
          have hg : goodAt L k := ⟨by rw [← HXY.out.2]; omega, by rw [← HXY.out.2]; omega, by rw [← HXY.out.2]; exact fun h => absurd h hne, by
            rw [← HXY.out.2, ← HXY.out.1]
            intro _ j hj h1 h2
            unfold hadB at hh
            exact absurd ⟨j, hj, h1, h2⟩ (of_decide_eq_false hh)⟩
          have HGN := Lib.hid (HN.out hg)
          have HD := Lib.hid (HD2.out hy0)
          generalize Dm L k = D at *
          clear hh hg
          go_wp2_with (at_mapUpdate; refine wpList_mapUpdate_own _ rfl _ _ _ 84 rfl 43 4 lawL Try.underlying84 _ gm k D rfl hown1 (by unfold maxLen; omega) _ _ _ rfl rfl (keyOf_int_mk Try.underlying43 hwx) _ [] (plainElem_bool Try.underlying4 true) ?_; intro w2 hown2 hgrow2)
          rw [← HD.out] at hown2
          have HB2 := Lib.hid (By.trans HBY1.out hgrow2)
          have HO2 := Lib.hid hown2
          clear hown1 hown2 hgrow2
          go_roundw
          case rel => exact ⟨k + 1, hlt, by go_num, HGN.out, HO2.out, HB2.out⟩
          case measure => simp [intOf]; omega
    · have : k = 16 := by omega
      subst this
      have hv : rightB L = true := right_yes HL.out (by rw [HL.out]; exact hgood)
      have HV := Lib.hid hv
      have HX := Lib.hid (HX0.out.by hby (by rw [HGM.out]; exact Nat.le_refl _))
      clear hv hgood hby hown
      go_wp2
      go_ret
      exact ⟨by rw [HV.out]; rfl, HX.out⟩

theorem Right_ok (L : List RowT) (a : Option Addr) (cap : Nat) (w : World) (hs : Sl w a (rowsC L)) (hwf : wfR L) (hm : L.length ≤ 9223372036854775807) :
    Calls Try.prog 32 #[.slice a L.length cap] w fun e w' => e = .returned (.bool (rightB L)) ∧ Ext w w' := by
  by_cases h : L.length = 16
  · obtain ⟨b, off, rfl, hc⟩ := rows_at hs (by omega)
    exact Right_pos L b off cap w h hc hwf
  · have hv := right_len h
    have h' : ¬ (L.length : Int) = 16 := by omega
    have HV := Lib.hid hv
    generalize L.length = n at *
    clear hv
    go_enter Try.func32, Try.ntmps32
    go_wp2
    go_ret
    exact ⟨by rw [HV.out]; rfl, Ext.refl _⟩
end Go.Proofs.Ytnodinancnfoeaa.Intern
