/- The walk of the law SuperParts. -/
import Derived.Test.YthhkkjnahiimbaaPartsP
import Derived.Test.YthhkkjnahiimbaaSLays
namespace Go.Proofs.Ythhkkjnahiimbaa.Super
open Go.RowKit Go.Maps Words Mem Plain
open Go.ChangeShapes Go.WideShapes
open Go.Proofs.Ythhkkjnahiimbaa.Parts
set_option linter.ambiguousOpen false
set_option linter.unusedVariables false
set_option linter.unusedSimpArgs false

theorem lawK : Keyed Try.prog 3 := int_keyed Try.underlying3
theorem zeroK (w : World) : (zeroValue 3).run Try.prog w = .ok (.int .i64 0) w := by kernel_rfl
theorem byCell {w w' : World} {g : Nat} (h : By g w w') {p : Addr} {v : Value} (hc : w.cell? p = some v) (hne : p.block ≠ g) : w'.cell? p = some v := by
  have hl := World.block_lt_of_cell? w p hc
  rw [World.cell?_of_block (w := w) (h.block p.block hl (by simpa using hne))]
  exact hc
theorem ownExt {w w' : World} {b n : Nat} {D : DataW U} (h : w.ownsMap Try.prog 3 (plainElem Try.prog 3) b n D) (e : Ext w w') : w'.ownsMap Try.prog 3 (plainElem Try.prog 3) b n D :=
  h.kept (row := none) ⟨e.os, e.tape, e.output, e.size, fun k hk _ => e.block k hk⟩ (by simp)

set_option maxRecDepth 100000 in
set_option maxHeartbeats 4000000 in
theorem parts_no (J I G P : Int) (w : World) (h : rightB J I G P = false) : Calls Try.prog 5 #[geoV J I G P] w fun e w' => e = .returned (.bool true) ∧ Ext w w' := by
  have hm : metaN J I G P = 0 := by unfold metaN; rw [h]; rfl
  have X0 := (Ext.refl w).alloc (.cells #[.int .i64 J, .int .i64 I, .int .i64 G, .int .i64 P] 23)
  go_enter Try.func5, Try.ntmps5
  go_wp2_with fail
  refine (shown_ok _).mono ?_
  rintro e w1 ⟨rfl, hX1⟩
  obtain ⟨hlt, c0, c1, c2, c3⟩ := geoKept hX1
  have X1 := X0.trans hX1
  go_wp2_with fail
  refine (Plan_no J I G P _ h).mono ?_
  rintro e w2 ⟨rfl, hX2⟩
  have hX12 := hX1.trans hX2
  have X2 := X1.trans hX2
  have hz : zeroL.toArray = #[.int .i64 0, .int .i64 0, .int .i64 0, .int .i64 0, .int .i64 0, .int .i64 0, .int .i64 0] := rfl
  rw [hz]
  clear c0 c1 c2 c3 hlt hz X1 hX2
  have X3 := X2.alloc (.cells #[.int .i64 0, .int .i64 0, .int .i64 0, .int .i64 0, .int .i64 0, .int .i64 0, .int .i64 0] 26)
  obtain ⟨hlt, c0, c1, c2, c3⟩ := geoKept (hX12.alloc (.cells #[.int .i64 0, .int .i64 0, .int .i64 0, .int .i64 0, .int .i64 0, .int .i64 0, .int .i64 0] 26))
  have r4 := Row.new w2 26 [.int .i64 0, .int .i64 0, .int .i64 0, .int .i64 0, .int .i64 0, .int .i64 0, .int .i64 0]
  go_wp2_with fail
  obtain ⟨g4, hg4⟩ : ∃ g, g = w2.heap.size := ⟨_, rfl⟩
  rw [← hg4] at r4 ⊢
  clear hg4
  replace r4 : Row (w2.alloc (.cells #[.int .i64 0, .int .i64 0, .int .i64 0, .int .i64 0, .int .i64 0, .int .i64 0, .int .i64 0] 26)) g4 26 [.int .i64 0, .int .i64 0, .int .i64 0, .int .i64 0, .int .i64 0, .int .i64 0, .int .i64 0] := r4
  generalize w2.alloc (.cells #[.int .i64 0, .int .i64 0, .int .i64 0, .int .i64 0, .int .i64 0, .int .i64 0, .int .i64 0] 26) = w3 at *
  refine (Right_ok J I G P _).mono ?_
  rintro e w4 ⟨rfl, hX4⟩
  rw [h]
  have X4 := X3.trans hX4
  have k0 := hX4.keep c0
  have k1 := hX4.keep c1
  have k2 := hX4.keep c2
  have k3 := hX4.keep c3
  have r5 := r4.ext hX4
  have l0 := (r5.cell? 0).trans rfl
  have l1 := (r5.cell? 1).trans rfl
  have l2 := (r5.cell? 2).trans rfl
  have l3 := (r5.cell? 3).trans rfl
  have l4 := (r5.cell? 4).trans rfl
  have l5 := (r5.cell? 5).trans rfl
  have l6 := (r5.cell? 6).trans rfl
  clear c0 c1 c2 c3 r4 r5 hX4 X3 X2 X0 hX1 hX12
  go_wp2_with fail
  refine (Meta_ok J I G P _).mono ?_
  rintro e w5 ⟨rfl, hX5⟩
  rw [hm]
  go_wp2_with fail
  go_ret
  exact ⟨rfl, X4.trans hX5⟩

theorem group_in {J I G P : Int} (h : rightB J I G P = true) (k : Nat) (hk : (k : Int) < G * P) : groupN J I G P k = (k : Int) / P ∧ groupB J I G P k = true := by
  have hb : groupB J I G P k = true := by unfold groupB; rw [h, Bool.true_and]; unfold inB; simp; omega
  exact ⟨by unfold groupN; rw [if_pos hb], hb⟩
theorem group_out {J I G P : Int} (k : Int) (hk : G * P ≤ k) : groupN J I G P k = 0 ∧ groupB J I G P k = false := by
  have hb : groupB J I G P k = false := by unfold groupB inB; simp; omega
  exact ⟨by unfold groupN; rw [if_neg (by rw [hb]; simp)], hb⟩

set_option maxRecDepth 100000 in
set_option maxHeartbeats 8000000 in
theorem parts_yes (J I G P : Int) (w : World) (h : rightB J I G P = true) : Calls Try.prog 5 #[geoV J I G P] w fun e w' => e = .returned (.bool true) ∧ Ext w w' := by
  obtain ⟨⟨j0, j1⟩, ⟨i0, i1⟩, z0, ⟨gg0, gg1⟩, pp0, pp1, gp0, gp1⟩ := right_bd h
  have hm : metaN J I G P = 3 + I / 2 := by unfold metaN; rw [h]; rfl
  obtain ⟨m, hmm⟩ : ∃ m : Nat, (m : Int) = G * P := ⟨(G * P).toNat, by omega⟩
  obtain ⟨x1, e1⟩ : ∃ x, x = 1 + J := ⟨_, rfl⟩
  obtain ⟨x2, e2⟩ : ∃ x, x = x1 + 1 := ⟨_, rfl⟩
  obtain ⟨x3, e3⟩ : ∃ x, x = x2 + 1 := ⟨_, rfl⟩
  obtain ⟨x4, e4⟩ : ∃ x, x = x3 + 1 := ⟨_, rfl⟩
  obtain ⟨x5, e5⟩ : ∃ x, x = x4 + I / 2 := ⟨_, rfl⟩
  obtain ⟨x6, e6⟩ : ∃ x, x = x5 + m := ⟨_, rfl⟩
  have hpl : (planL J I G P).toArray = #[.int .i64 1, .int .i64 x1, .int .i64 x2, .int .i64 x3, .int .i64 x4, .int .i64 x5, .int .i64 x6] := by unfold planL; rw [e6, e5, e4, e3, e2, e1, hmm]
  have b1 : 0 ≤ x1 ∧ x1 ≤ 2000 := by omega
  have b2 : 0 ≤ x2 ∧ x2 ≤ 2000 := by omega
  have b3 : 0 ≤ x3 ∧ x3 ≤ 2000 := by omega
  have b4 : 0 ≤ x4 ∧ x4 ≤ 2000 := by omega
  have b5 : 0 ≤ x5 ∧ x5 ≤ 2000 := by omega
  have b6 : 0 ≤ x6 ∧ x6 ≤ 3000 := by omega
  have f1 : (x1 - 1 == J) = true := by simp; omega
  have f2 : (x2 == x1 + 1) = true := by simp; omega
  have f3 : (x3 == x2 + 1) = true := by simp; omega
  have f4 : (x4 == x3 + 1) = true := by simp; omega
  have f5 : (2 * (x5 - x4) == I) = true := by simp; omega
  have f6 : (x5 - x1 == metaN J I G P) = true := by rw [hm]; simp; omega
  have f7 : x6 - x5 = m := by omega
  have hin := fun (k : Nat) (hk : k < m) => group_in h k (by omega)
  obtain ⟨hout1, hout2⟩ := group_out (J := J) (I := I) (G := G) (P := P) (m : Int) (by omega)
  have hout : ∀ v, Calls Try.prog 14 #[geoV J I G P, .int .i64 (m : Int)] v fun e w' => e = .returned (.tuple #[.int .i64 0, .bool false]) ∧ Ext v w' := fun v => by
    have := Group_ok J I G P m v
    rw [hout1, hout2] at this; exact this
  have hgr : ∀ (k : Nat), k < m → ∀ v, Calls Try.prog 14 #[geoV J I G P, .int .i64 (k : Int)] v fun e w' => e = .returned (.tuple #[.int .i64 ((k : Int) / P), .bool true]) ∧ Ext v w' := fun k hk v => by
    have := Group_ok J I G P k v
    rw [(hin k hk).1, (hin k hk).2] at this; exact this
  have hmt := fun v => Meta_ok J I G P v
  generalize metaN J I G P = mt at *
  have HOUT := Lib.hid hout; have HGR := Lib.hid hgr; have HMT := Lib.hid hmt; have HMM := Lib.hid hmm; have HPL := Lib.hid hpl; have HF7 := Lib.hid f7
  have m1 : m ≤ 512 := by omega
  obtain ⟨b10, b11⟩ := b1
  obtain ⟨b20, b21⟩ := b2
  obtain ⟨b30, b31⟩ := b3
  obtain ⟨b40, b41⟩ := b4
  obtain ⟨b50, b51⟩ := b5
  obtain ⟨b60, b61⟩ := b6
  have mmin : ¬ ((1000 : Int) < (m : Int)) := by omega
  clear hout hgr hmt hmm hpl hin hout1 hout2 e1 e2 e3 e4 e5 e6 hm gp0 gp1 z0
  have X0 := (Ext.refl w).alloc (.cells #[.int .i64 J, .int .i64 I, .int .i64 G, .int .i64 P] 23)
  have hmk := @run_makeMap Try.prog
  go_enter Try.func5, Try.ntmps5
  go_wp2_with fail
  refine (shown_ok _).mono ?_
  rintro e w1 ⟨rfl, hX1⟩
  obtain ⟨hlt, c0, c1, c2, c3⟩ := geoKept hX1
  have X1 := X0.trans hX1
  go_wp2_with fail
  refine (Plan_yes J I G P _ h).mono ?_
  rintro e w2 ⟨rfl, hX2⟩
  have hX12 := hX1.trans hX2
  have X2 := X1.trans hX2
  rw [HPL.out]
  clear c0 c1 c2 c3 hlt X1 hX2
  have X3 := X2.alloc (.cells #[.int .i64 1, .int .i64 x1, .int .i64 x2, .int .i64 x3, .int .i64 x4, .int .i64 x5, .int .i64 x6] 26)
  obtain ⟨hlt, c0, c1, c2, c3⟩ := geoKept (hX12.alloc (.cells #[.int .i64 1, .int .i64 x1, .int .i64 x2, .int .i64 x3, .int .i64 x4, .int .i64 x5, .int .i64 x6] 26))
  have r4 := Row.new w2 26 (#[.int .i64 1, .int .i64 x1, .int .i64 x2, .int .i64 x3, .int .i64 x4, .int .i64 x5, .int .i64 x6] : Array Value).toList
  go_wp2_with fail
  obtain ⟨g4, hg4⟩ : ∃ g, g = w2.heap.size := ⟨_, rfl⟩
  have hs3 : (w2.alloc (.cells #[.int .i64 1, .int .i64 x1, .int .i64 x2, .int .i64 x3, .int .i64 x4, .int .i64 x5, .int .i64 x6] 26)).heap.size = w2.heap.size + 1 := by simp
  have hown0 : ((w2.alloc (.cells #[.int .i64 1, .int .i64 x1, .int .i64 x2, .int .i64 x3, .int .i64 x4, .int .i64 x5, .int .i64 x6] 26)).alloc (.map #[] 0)).ownsMap Try.prog 3 (plainElem Try.prog 3) (w2.alloc (.cells #[.int .i64 1, .int .i64 x1, .int .i64 x2, .int .i64 x3, .int .i64 x4, .int .i64 x5, .int .i64 x6] 26)).heap.size 0 (Dm P 0) := World.ownsMap_made _ _ _ _
  rw [hs3] at hown0
  rw [← hg4] at hown0 r4 ⊢
  replace r4 : Row (w2.alloc (.cells #[.int .i64 1, .int .i64 x1, .int .i64 x2, .int .i64 x3, .int .i64 x4, .int .i64 x5, .int .i64 x6] 26)) g4 26 (#[.int .i64 1, .int .i64 x1, .int .i64 x2, .int .i64 x3, .int .i64 x4, .int .i64 x5, .int .i64 x6] : Array Value).toList := r4
  have hgw : w.heap.size < g4 := by rw [hg4]; exact Nat.lt_of_lt_of_le (by simp) hX12.size
  have hg0 : w.heap.size ≤ g4 + 1 := by omega
  clear hs3 hlt hX1 hX12 X2 X0 hg4
  generalize w2.alloc (.cells #[.int .i64 1, .int .i64 x1, .int .i64 x2, .int .i64 x3, .int .i64 x4, .int .i64 x5, .int .i64 x6] 26) = w3 at *
  have X4 := X3.alloc (.map #[] 0)
  have E34 : Ext w3 (w3.alloc (.map #[] 0)) := (Ext.refl w3).alloc _
  generalize w3.alloc (.map #[] 0) = w4 at *
  have k0 := E34.keep c0
  have k1 := E34.keep c1
  have k2 := E34.keep c2
  have k3 := E34.keep c3
  have r5 := r4.ext E34
  have l0 := (r5.cell? 0).trans rfl
  have l1 := (r5.cell? 1).trans rfl
  have l2 := (r5.cell? 2).trans rfl
  have l3 := (r5.cell? 3).trans rfl
  have l4 := (r5.cell? 4).trans rfl
  have l5 := (r5.cell? 5).trans rfl
  have l6 := (r5.cell? 6).trans rfl
  have hgeo : ∀ v, By (g4 + 1) w4 v → v.cell? ⟨w.heap.size, 0, none⟩ = some (.int .i64 J) ∧ v.cell? ⟨w.heap.size, 1, none⟩ = some (.int .i64 I) ∧ v.cell? ⟨w.heap.size, 2, none⟩ = some (.int .i64 G) ∧ v.cell? ⟨w.heap.size, 3, none⟩ = some (.int .i64 P) := fun v hv =>
    ⟨byCell hv k0 (by simp; omega), byCell hv k1 (by simp; omega), byCell hv k2 (by simp; omega), byCell hv k3 (by simp; omega)⟩
  have hlay : ∀ v, By (g4 + 1) w4 v → v.cell? ⟨g4, 0, none⟩ = some (.int .i64 1) ∧ v.cell? ⟨g4, 1, none⟩ = some (.int .i64 x1) ∧ v.cell? ⟨g4, 2, none⟩ = some (.int .i64 x2) ∧ v.cell? ⟨g4, 3, none⟩ = some (.int .i64 x3) ∧ v.cell? ⟨g4, 4, none⟩ = some (.int .i64 x4) ∧ v.cell? ⟨g4, 5, none⟩ = some (.int .i64 x5) ∧ v.cell? ⟨g4, 6, none⟩ = some (.int .i64 x6) := fun v hv =>
    ⟨byCell hv l0 (by simp), byCell hv l1 (by simp), byCell hv l2 (by simp), byCell hv l3 (by simp), byCell hv l4 (by simp), byCell hv l5 (by simp), byCell hv l6 (by simp)⟩
  have HGEO := Lib.hid hgeo; have HLAY := Lib.hid hlay; have HOWN0 := Lib.hid hown0; have HX4 := Lib.hid X4
  clear k0 k1 k2 k3 l0 l1 l2 l3 l4 l5 l6 r5 r4 c0 c1 c2 c3 E34 X3 X4 hgeo hlay hown0 hmk f7
  go_loopw [44] (fun v wr => ∃ k : Nat, k ≤ m ∧ v = .int .i64 k ∧ wr.ownsMap Try.prog 3 (plainElem Try.prog 3) (g4 + 1) k (Dm P k) ∧ By (g4 + 1) w4 wr) (fun v _ => m - (intOf v).toNat)
  case atStart => exact ⟨0, by omega, rfl, HOWN0.out, By.refl _ _⟩
  case round =>
    obtain ⟨k, hk, rfl, hown, hby⟩ := hrel
    by_cases hlt : k < m
    · obtain ⟨c0, c1, c2, c3⟩ := HGEO.out wr hby
      have HO := Lib.hid hown; have HBY := Lib.hid hby
      clear hown hby
      go_wp2_with fail
      refine (HGR.out k hlt _).mono ?_
      rintro e u ⟨rfl, hXu⟩
      have hown := ownExt HO.out hXu
      have HBU := Lib.hid (HBY.out.trans (By.ofExt (g4 + 1) hXu))
      clear hXu c0 c1 c2 c3 HO HBY
      obtain ⟨q, hq⟩ : ∃ q, q = (k : Int) / P := ⟨_, rfl⟩
      have hq0 : 0 ≤ q ∧ q ≤ k := by rw [hq]; exact ⟨Int.ediv_nonneg (by omega) (by omega), Int.ediv_le_self _ (by omega)⟩
      have hwfq : (Lit.int .i64 q).wf = true := WalkArith.wf_i64 (by omega)
      have hcur := at_cnt P pp0 k q
      rw [hq, cnt_now P pp0 k, ← hq] at hcur
      obtain ⟨r, hr⟩ : ∃ r, r = (k : Int) % P := ⟨_, rfl⟩
      have hr0 : 0 ≤ r ∧ r < 1000 := by rw [hr]; exact ⟨Int.emod_nonneg _ (by omega), by have := Int.emod_lt_of_pos (k : Int) (show 0 < P by omega); omega⟩
      have hD : Dm P (k + 1) = (Dm P k).put (.int .i64 q) (.lit (.int .i64 (r + 1))) := by rw [hq, hr]; rfl
      rw [← hr] at hcur
      rw [← hq]
      have hwf1 : (Lit.int .i64 (r + 1)).wf = true := WalkArith.wf_i64 (by omega)
      have HD := Lib.hid hD
      generalize Dm P k = D at *
      obtain ⟨q0, q1⟩ := hq0
      obtain ⟨r0, r1⟩ := hr0
      have HCUR := Lib.hid hcur
      clear hq hr hD hcur
      go_wp2_with (first
        | (at_lookup; refine wpList_lookup_own_int _ rfl _ _ 35 rfl 3 3 .i64 lawK Try.underlying35 Try.underlying3 (zeroK _) (g4 + 1) k D rfl hown _ _ rfl (keyOf_int_mk Try.underlying3 hwfq) ?_; intro c hat hwc; obtain rfl : r = c := (by rw [HCUR.out] at hat; injection hat with h1; injection h1); clear hat hwc)
        | (at_mapUpdate; refine wpList_mapUpdate_own _ rfl _ _ _ 35 rfl 3 3 lawK Try.underlying35 _ (g4 + 1) k D rfl hown (by unfold maxLen; omega) _ _ _ rfl rfl (keyOf_int_mk Try.underlying3 hwfq) _ [] (plainElem_int Try.underlying3 hwf1) ?_; intro w1 hown1 hgrow1))
      rw [← HD.out] at hown1
      have HB1 := Lib.hid (By.trans HBU.out hgrow1)
      have HO1 := Lib.hid hown1
      clear hown hown1 hgrow1
      go_roundw
      case rel => exact ⟨k + 1, hlt, by go_num, HO1.out, HB1.out⟩
      case measure => simp [intOf]; omega
    · have : k = m := by omega
      subst this
      have hend := fun (i : Int) (h0 : 0 ≤ i) (h1 : i < G) => cnt_end P G pp0 k HMM.out i h0 h1
      have hsz := size_end P G pp0 k HMM.out
      have hkey := fun (i c : Int) (hc : ∀ zd, (Dm P k).atKey (.int .i64 i) zd = .lit (.int .i64 c)) => key_bd P G pp0 k HMM.out i c hc
      have hat : ∀ i : Int, 0 ≤ i → i < G → (Dm P k).atKey (.int .i64 i) (.lit (.int .i64 0)) = .lit (.int .i64 P) := fun i h0 h1 => by rw [at_cnt P pp0 k i, hend i h0 h1]
      generalize Dm P k = D at *
      have HSZ := Lib.hid hsz; have HKEY := Lib.hid hkey; have HAT := Lib.hid hat; have HBY := Lib.hid hby
      clear hend hsz hkey hat hby hlt HGR HOWN0 HPL hk
      go_wp2_with (at_range; refine wpList_range_own _ rfl _ 35 rfl 3 3 lawK Try.underlying35 _ (g4 + 1) k D rfl hown ?_; intro w5 hrg5 hg5 hs5)
      have X45 : ∀ (v : World), By wr.heap.size w5 v → By (g4 + 1) w4 v ∨ True := fun _ _ => .inr trivial
      obtain ⟨rr, hrr⟩ : ∃ r, r = wr.heap.size := ⟨_, rfl⟩
      rw [← hrr] at hrg5 ⊢
      have hrl : g4 + 1 < rr := by rw [hrr]; exact hown.lt
      -- what is kept of the cells while the keys are told
      have hkeep : ∀ (v : World), By rr w5 v → ∀ (p : Addr) (x : Value), wr.cell? p = some x → v.cell? p = some x := fun v hv p x hp => by
        have h5 : w5.cell? p = some x := by
          have hl := World.block_lt_of_cell? wr p hp
          rw [World.cell?_of_block (w := wr) (hg5.block p.block hl (by simp))]; exact hp
        have hl := World.block_lt_of_cell? wr p hp
        exact byCell hv h5 (by omega)
      have hgeo2 : ∀ v, By rr w5 v → v.cell? ⟨w.heap.size, 0, none⟩ = some (.int .i64 J) ∧ v.cell? ⟨w.heap.size, 1, none⟩ = some (.int .i64 I) ∧ v.cell? ⟨w.heap.size, 2, none⟩ = some (.int .i64 G) ∧ v.cell? ⟨w.heap.size, 3, none⟩ = some (.int .i64 P) := fun v hv => by
        obtain ⟨a0, a1, a2, a3⟩ := HGEO.out wr HBY.out
        exact ⟨hkeep v hv _ _ a0, hkeep v hv _ _ a1, hkeep v hv _ _ a2, hkeep v hv _ _ a3⟩
      have hlay2 : ∀ v, By rr w5 v → v.cell? ⟨g4, 0, none⟩ = some (.int .i64 1) ∧ v.cell? ⟨g4, 1, none⟩ = some (.int .i64 x1) ∧ v.cell? ⟨g4, 2, none⟩ = some (.int .i64 x2) ∧ v.cell? ⟨g4, 3, none⟩ = some (.int .i64 x3) ∧ v.cell? ⟨g4, 4, none⟩ = some (.int .i64 x4) ∧ v.cell? ⟨g4, 5, none⟩ = some (.int .i64 x5) ∧ v.cell? ⟨g4, 6, none⟩ = some (.int .i64 x6) := fun v hv => by
        obtain ⟨a0, a1, a2, a3, a4, a5, a6⟩ := HLAY.out wr HBY.out
        exact ⟨hkeep v hv _ _ a0, hkeep v hv _ _ a1, hkeep v hv _ _ a2, hkeep v hv _ _ a3, hkeep v hv _ _ a4, hkeep v hv _ _ a5, hkeep v hv _ _ a6⟩
      have XW : ∀ v, By rr w5 v → Ext w v := fun v hv => by
        have e1 : Ext w wr := Ext.by HX4.out HBY.out hg0
        have e2 : Ext w w5 := Below.trans e1 ⟨hg5.os, hg5.tape, hg5.output, hg5.size, fun k hk => hg5.block k (Nat.lt_of_lt_of_le hk e1.size) (by simp)⟩
        exact Ext.by e2 hv (by omega)
      have HG2 := Lib.hid hgeo2; have HL2 := Lib.hid hlay2; have HXW := Lib.hid XW; have HRG5 := Lib.hid hrg5
      clear hgeo2 hlay2 XW hkeep hown hg5 hs5 hrr X45 HGEO HLAY HBY HX4 hrg5
      go_frame
      go_loopw [10] (fun _ wv => ∃ (left : Lit → Bool) (n : Nat), wv.ranges Try.prog 3 (plainElem Try.prog 3) (g4 + 1) rr k D left n ∧ By rr w5 wv) (fun _ wv => wv.rangeLeft (g4 + 1) rr)
      case atStart => exact ⟨_, _, HRG5.out, By.refl _ _⟩
      case round =>
        obtain ⟨left, n, hrg, hbv⟩ := hrel
        have HBV := Lib.hid hbv
        clear hbv
        go_wp2_with (at_next; refine wpList_next_ranges_ii _ rfl _ rfl 3 3 .i64 .i64 lawK Try.underlying3 Try.underlying3 (g4 + 1) rr k _ _ _ rfl hrg ?_ ?_)
        · intro _ hl0
          have hown := hrg.owns
          obtain ⟨c0, c1, c2, c3⟩ := HG2.out _ HBV.out
          obtain ⟨l0, l1, l2, l3, l4, l5, l6⟩ := HL2.out _ HBV.out
          have XV := HXW.out _ HBV.out
          have f7 := HF7.out
          have HOW := Lib.hid hown; have HXV := Lib.hid XV
          clear hl0 hrg hown XV HRG5
          go_wp2_with fail
          refine (HOUT.out _).mono ?_
          rintro e u ⟨rfl, hXu⟩
          have hownu := ownExt HOW.out hXu
          have hlen : ∀ v, Ext u v → (Builtin.len_ #[35] 3 #[.map (some (g4 + 1))]).run Try.prog v = .ok (.int .i64 G) v := fun v hv => by
            have := (ownExt hownu hv).len Try.underlying35 3
            rwa [HSZ.out] at this
          have hall : ∀ v : World, Ext u v → (Ext u v ∧ v.cell? ⟨w.heap.size, 0, none⟩ = some (.int .i64 J) ∧ v.cell? ⟨w.heap.size, 1, none⟩ = some (.int .i64 I) ∧ v.cell? ⟨w.heap.size, 2, none⟩ = some (.int .i64 G) ∧ v.cell? ⟨w.heap.size, 3, none⟩ = some (.int .i64 P) ∧ v.cell? ⟨g4, 0, none⟩ = some (.int .i64 1) ∧ v.cell? ⟨g4, 1, none⟩ = some (.int .i64 x1) ∧ v.cell? ⟨g4, 2, none⟩ = some (.int .i64 x2) ∧ v.cell? ⟨g4, 3, none⟩ = some (.int .i64 x3) ∧ v.cell? ⟨g4, 4, none⟩ = some (.int .i64 x4) ∧ v.cell? ⟨g4, 5, none⟩ = some (.int .i64 x5) ∧ v.cell? ⟨g4, 6, none⟩ = some (.int .i64 x6) ∧ (Builtin.len_ #[35] 3 #[.map (some (g4 + 1))]).run Try.prog v = .ok (.int .i64 G) v) := fun v hv => ⟨hv, hv.keep (hXu.keep c0), hv.keep (hXu.keep c1), hv.keep (hXu.keep c2), hv.keep (hXu.keep c3), hv.keep (hXu.keep l0), hv.keep (hXu.keep l1), hv.keep (hXu.keep l2), hv.keep (hXu.keep l3), hv.keep (hXu.keep l4), hv.keep (hXu.keep l5), hv.keep (hXu.keep l6), hlen v hv⟩
          have hK : ∀ v v' : World, (Ext u v ∧ v.cell? ⟨w.heap.size, 0, none⟩ = some (.int .i64 J) ∧ v.cell? ⟨w.heap.size, 1, none⟩ = some (.int .i64 I) ∧ v.cell? ⟨w.heap.size, 2, none⟩ = some (.int .i64 G) ∧ v.cell? ⟨w.heap.size, 3, none⟩ = some (.int .i64 P) ∧ v.cell? ⟨g4, 0, none⟩ = some (.int .i64 1) ∧ v.cell? ⟨g4, 1, none⟩ = some (.int .i64 x1) ∧ v.cell? ⟨g4, 2, none⟩ = some (.int .i64 x2) ∧ v.cell? ⟨g4, 3, none⟩ = some (.int .i64 x3) ∧ v.cell? ⟨g4, 4, none⟩ = some (.int .i64 x4) ∧ v.cell? ⟨g4, 5, none⟩ = some (.int .i64 x5) ∧ v.cell? ⟨g4, 6, none⟩ = some (.int .i64 x6) ∧ (Builtin.len_ #[35] 3 #[.map (some (g4 + 1))]).run Try.prog v = .ok (.int .i64 G) v) → Ext v v' → (Ext u v' ∧ v'.cell? ⟨w.heap.size, 0, none⟩ = some (.int .i64 J) ∧ v'.cell? ⟨w.heap.size, 1, none⟩ = some (.int .i64 I) ∧ v'.cell? ⟨w.heap.size, 2, none⟩ = some (.int .i64 G) ∧ v'.cell? ⟨w.heap.size, 3, none⟩ = some (.int .i64 P) ∧ v'.cell? ⟨g4, 0, none⟩ = some (.int .i64 1) ∧ v'.cell? ⟨g4, 1, none⟩ = some (.int .i64 x1) ∧ v'.cell? ⟨g4, 2, none⟩ = some (.int .i64 x2) ∧ v'.cell? ⟨g4, 3, none⟩ = some (.int .i64 x3) ∧ v'.cell? ⟨g4, 4, none⟩ = some (.int .i64 x4) ∧ v'.cell? ⟨g4, 5, none⟩ = some (.int .i64 x5) ∧ v'.cell? ⟨g4, 6, none⟩ = some (.int .i64 x6) ∧ (Builtin.len_ #[35] 3 #[.map (some (g4 + 1))]).run Try.prog v' = .ok (.int .i64 G) v') := fun v v' h hu => hall v' (h.1.trans hu)
          have HS0 := Lib.hid (hall u (Ext.refl u)); have HK := Lib.hid hK
          have HXU := Lib.hid (HXV.out.trans hXu)
          clear c0 c1 c2 c3 l0 l1 l2 l3 l4 l5 l6 hXu hownu hall hK hlen f7
          go_wp2_with fail
          have v1 : IntKind.i64.wrap (x1 - 1) = x1 - 1 := IntWalk.i64_in _ (by omega)
          have v2 : IntKind.i64.wrap (x1 + 1) = x1 + 1 := IntWalk.i64_in _ (by omega)
          have v3 : IntKind.i64.wrap (x2 + 1) = x2 + 1 := IntWalk.i64_in _ (by omega)
          have v4 : IntKind.i64.wrap (x3 + 1) = x3 + 1 := IntWalk.i64_in _ (by omega)
          have v5 : IntKind.i64.wrap (x5 - x4) = x5 - x4 := IntWalk.i64_in _ (by omega)
          have v6 : IntKind.i64.wrap (2 * (x5 - x4)) = 2 * (x5 - x4) := IntWalk.i64_in _ (by omega)
          have v7 : IntKind.i64.wrap (x5 - x1) = x5 - x1 := IntWalk.i64_in _ (by omega)
          have v8 : decide (x6 ≤ 4096) = true := by simp; omega
          have v9 : (G == G) = true := by simp
          dsimp only [List.append]
          go_region_held3 (fun v => Ext u v ∧ v.cell? ⟨w.heap.size, 0, none⟩ = some (.int .i64 J) ∧ v.cell? ⟨w.heap.size, 1, none⟩ = some (.int .i64 I) ∧ v.cell? ⟨w.heap.size, 2, none⟩ = some (.int .i64 G) ∧ v.cell? ⟨w.heap.size, 3, none⟩ = some (.int .i64 P) ∧ v.cell? ⟨g4, 0, none⟩ = some (.int .i64 1) ∧ v.cell? ⟨g4, 1, none⟩ = some (.int .i64 x1) ∧ v.cell? ⟨g4, 2, none⟩ = some (.int .i64 x2) ∧ v.cell? ⟨g4, 3, none⟩ = some (.int .i64 x3) ∧ v.cell? ⟨g4, 4, none⟩ = some (.int .i64 x4) ∧ v.cell? ⟨g4, 5, none⟩ = some (.int .i64 x5) ∧ v.cell? ⟨g4, 6, none⟩ = some (.int .i64 x6) ∧ (Builtin.len_ #[35] 3 #[.map (some (g4 + 1))]).run Try.prog v = .ok (.int .i64 G) v) (first | assumption | exact HS0.out | exact HK.out _ _ HS0.out ((Ext.refl _).drew) | exact HK.out _ _ (by assumption) (by assumption)) (
            (go_at_call 12; refine (HMT.out _).mono ?_; rintro e u2 ⟨rfl, hXu2⟩))
          rename_i hH
          obtain ⟨hE, _⟩ := hH
          clear HS0 HK
          go_wp2
          go_ret
          exact ⟨rfl, HXU.out.trans hE⟩
        · intro x c wn n1 hwx hwc hlx hatx hrg1 hlt1 hg1 hs1 hen
          have HB := Lib.hid (By.trans HBV.out hg1)
          obtain ⟨b0, b1⟩ := HKEY.out x c hatx
          obtain ⟨c', hrun, hatc, hwc'⟩ := hrg1.owns.lookup_int lawK Try.underlying35 Try.underlying3 (zeroK _) (keyOf_int_mk Try.underlying3 hwx)
          obtain rfl : P = c' := (by rw [HAT.out x b0 b1] at hatc; injection hatc with h1; injection h1)
          obtain ⟨c0, c1, c2, c3⟩ := HG2.out _ HB.out
          have HR1 := Lib.hid hrg1; have HRO := Lib.hid hrg; have HLT := Lib.hid hlt1
          clear hwx hwc hlx hatx hrg1 hlt1 hg1 hs1 hrg hatc hwc' HBV HRG5
          go_wp2_with fail
          go_roundw
          case rel => exact ⟨_, n1, HR1.out, HB.out⟩
          case measure => rw [HR1.out.left_eq, HRO.out.left_eq]; exact HLT.out

theorem law_SuperParts {H : Type} {enc : TypeId × Value → H} {base : Nat} {d : DataW H} {p : List MemPlace} (v : Value) (w : World) (ho : Value.okWide Try.prog w .any base 23 v) (h : DataW.Trod enc Try.prog w 0 (fun _ => true) true 23 v d p) :
    Calls Try.prog 5 #[v] w fun e w' => e = .returned (.bool true) ∧ Below w.heap.size w w' := by
  obtain ⟨J, I, G, P, rfl, _⟩ := geoIn ho h
  cases hr : rightB J I G P
  · exact parts_no J I G P w hr
  · exact parts_yes J I G P w hr
end Go.Proofs.Ythhkkjnahiimbaa.Super
