/- The law MetaLays (printed by gen_lays14.py). -/
import Derived.Test.YtnodinancnfoeaaMtRN
import Derived.Test.YtnodinancnfoeaaMtRL
namespace Go.Proofs.Ytnodinancnfoeaa.Mt
open Go.RowKit Words Mem Plain Ops Agg OwnS Intern Ino
open Go.Joins Go.ChangeShapes Go.WideShapes Go.Deep
set_option linter.ambiguousOpen false
set_option linter.unusedVariables false
set_option linter.unusedSimpArgs false

def newR (J I G P : Int) : MetaT × Int := if Super.rightB J I G P = true then (newM G.toNat I.toNat, 0) else (nilM, 1)
theorem New_any (J I G P : Int) (w : World) : Calls Try.prog 11 #[Super.geoV J I G P] w fun e w' => ∃ p, e = .returned (.tuple #[metaV p (newR J I G P).1, .int .i64 (newR J I G P).2]) ∧ MetaIn w' p (newR J I G P).1 ∧ Ext w w' := by
  cases h : Super.rightB J I G P
  · rw [show newR J I G P = (nilM, 1) by unfold newR; rw [h]; rfl]
    exact (New_no J I G P w h).mono fun e w' ⟨h1, h2⟩ => ⟨nilP, h1, nil_in _, h2⟩
  · have hb := Super.right_bd h
    obtain ⟨g, rfl⟩ : ∃ q : Nat, G = q := ⟨G.toNat, by omega⟩
    obtain ⟨i, rfl⟩ : ∃ q : Nat, I = q := ⟨I.toNat, by omega⟩
    rw [show newR J i g P = (newM g i, 0) by unfold newR; rw [if_pos h]; rfl]
    exact New_yes J P g i w h
theorem rNew_any (J I G P : Int) (w : World) : Calls Try.prog 12 #[Super.geoV J I G P] w fun e w' => ∃ p, e = .returned (.tuple #[metaV p (newR J I G P).1, .int .i64 (newR J I G P).2]) ∧ MetaIn w' p (newR J I G P).1 ∧ Ext w w' := by
  cases h : Super.rightB J I G P
  · rw [show newR J I G P = (nilM, 1) by unfold newR; rw [h]; rfl]
    exact (rNew_no J I G P w h).mono fun e w' ⟨h1, h2⟩ => ⟨nilP, h1, nil_in _, h2⟩
  · have hb := Super.right_bd h
    obtain ⟨g, rfl⟩ : ∃ q : Nat, G = q := ⟨G.toNat, by omega⟩
    obtain ⟨i, rfl⟩ : ∃ q : Nat, I = q := ⟨I.toNat, by omega⟩
    rw [show newR J i g P = (newM g i, 0) by unfold newR; rw [if_pos h]; rfl]
    exact rNew_yes J P g i w h
set_option maxHeartbeats 16000000 in
set_option maxRecDepth 100000 in
theorem lays_walk (J I G P : Int) (p : Pl) (M : MetaT) (w : World) (hin : M.small → MetaIn w p M) :
    Calls Try.prog 3 #[Super.geoV J I G P, metaV p M] w fun e w' => e = .returned (.bool true) ∧ Ext w w' := by
  obtain ⟨hbox, hbx⟩ := BoxAt.new w J I G P p M
  have hsh := shown_ok (boxW w J I G P p M)
  have hsb : (boxW w J I G P p M).heap.size = w.heap.size + 2 := by simp [boxW]
  have HBX := Lib.hid hbx
  have HBOX := Lib.hid hbox
  have HSB := Lib.hid hsb
  have HIN := Lib.hid hin
  clear hbox hbx hin hsb
  go_enter Try.func3, Try.ntmps3
  go_wp2_with fail
  refine hsh.mono ?_
  rintro e w1 ⟨rfl, h1⟩
  have HX1 := Lib.hid (HBX.out.trans h1)
  have HZ1 := Lib.hid (HSB.out ▸ h1.size)
  have HB1 := Lib.hid (HBOX.out.ext h1)
  obtain ⟨⟨g0, g1, g2, g3⟩, m0, m1, m2, m3⟩ := HB1.out
  clear h1 hsh HBOX HSB
  have hsm := small_ok p M w1
  obtain ⟨sb, hsb⟩ : ∃ q, q = decide (M.rows.length ≤ 100 ∧ M.owners.length ≤ 100 ∧ M.used.length ≤ 200 ∧ M.inodes.length ≤ 100) := ⟨_, rfl⟩
  rw [← hsb] at hsm
  have HSB := Lib.hid hsb
  clear hsb
  go_wp2_with fail
  refine hsm.mono ?_
  rintro e w2 ⟨rfl, h2⟩
  have HX2 := Lib.hid (HX1.out.trans h2)
  have HZ2 := Lib.hid (Nat.le_trans HZ1.out h2.size)
  have HB2 := Lib.hid (HB1.out.ext h2)
  clear h2 hsm g0 g1 g2 g3 m0 m1 m2 m3 HB1
  obtain ⟨⟨g0, g1, g2, g3⟩, m0, m1, m2, m3⟩ := HB2.out
  cases sb
  · go_wp2
    go_ret
    exact ⟨rfl, HX2.out⟩
  have hsmall : M.small := by simpa [MetaT.small] using HSB.out.symm
  have HM := Lib.hid (HIN.out hsmall)
  have hf := HM.out.few
  have hz := zeroMeta
  clear hsmall HIN HSB
  have hnew := New_any J I G P w2
  have HRN := Lib.hid (fun v => rNew_any J I G P v)
  generalize newR J I G P = NR at *
  obtain ⟨N, cn⟩ := NR
  dsimp only at *
  go_wp2_with fail
  refine hnew.mono ?_
  rintro e w3 ⟨pa, rfl, hna, h3⟩
  have hX3 := (Ext.refl w3).alloc (.cells #[.slice pa.ra N.rows.length pa.rc, .slice pa.oa N.owners.length pa.oc, .slice pa.ua N.used.length pa.uc, .slice pa.ia N.inodes.length pa.ic] 29)
  have HNA := Lib.hid (hna.ext hX3)
  have HBA := Lib.hid (BoxM.new w3 pa N)
  have HX3 := Lib.hid (HX2.out.trans (h3.trans hX3))
  have HB3 := Lib.hid (HB2.out.ext (h3.trans hX3))
  clear hna h3 hX3 hnew g0 g1 g2 g3 m0 m1 m2 m3
  obtain ⟨⟨g0, g1, g2, g3⟩, m0, m1, m2, m3⟩ := HB3.out
  have hnew := HRN.out (w3.alloc (.cells #[.slice pa.ra N.rows.length pa.rc, .slice pa.oa N.owners.length pa.oc, .slice pa.ua N.used.length pa.uc, .slice pa.ia N.inodes.length pa.ic] 29))
  go_wp2_with fail
  generalize hw4 : w3.alloc (.cells #[.slice pa.ra N.rows.length pa.rc, .slice pa.oa N.owners.length pa.oc, .slice pa.ua N.used.length pa.uc, .slice pa.ia N.inodes.length pa.ic] 29) = w4 at *
  clear hw4
  obtain ⟨ba, hba⟩ : ∃ q, q = w3.heap.size := ⟨_, rfl⟩
  rw [← hba] at HBA ⊢
  clear hba
  refine hnew.mono ?_
  rintro e w5 ⟨pb, rfl, hnb, h5⟩
  have hX5 := (Ext.refl w5).alloc (.cells #[.slice pb.ra N.rows.length pb.rc, .slice pb.oa N.owners.length pb.oc, .slice pb.ua N.used.length pb.uc, .slice pb.ia N.inodes.length pb.ic] 29)
  have HNB := Lib.hid (hnb.ext hX5)
  have HBB := Lib.hid (BoxM.new w5 pb N)
  have HX5 := Lib.hid (HX3.out.trans (h5.trans hX5))
  have HB5 := Lib.hid (HB3.out.ext (h5.trans hX5))
  have HBA5 := Lib.hid (HBA.out.ext (h5.trans hX5))
  have HNA5 := Lib.hid (HNA.out.ext (h5.trans hX5))
  clear hnb h5 hX5 hnew g0 g1 g2 g3 m0 m1 m2 m3 HRN
  obtain ⟨⟨g0, g1, g2, g3⟩, m0, m1, m2, m3⟩ := HB5.out
  have HLB := Lib.hid (layM_bytes (J := J) (I := I) (G := G) (P := P) HM.out.bu)
  have HL1 := Lib.hid (fun (v : World) (e : Ext w v) => Lay_ok J I G P p M v (HM.out.ext e))
  have HL2 := Lib.hid (fun (v : World) (e : Ext w v) => rLay_ok J I G P p M v (HM.out.ext e))
  have hll := Lib.hid (show (layM J I G P M).1.length ≤ 1003 from lay_len (by have := HM.out.few; omega))
  generalize layM J I G P M = LM at *
  obtain ⟨L, code⟩ := LM
  dsimp only at *
  obtain ⟨nl, hnl⟩ : ∃ q, q = L.length := ⟨_, rfl⟩
  rw [← hnl] at HL1 HL2 hll
  clear hnl
  have hlay := HL1.out _ HX5.out
  go_wp2_with fail
  generalize hw6 : w5.alloc (.cells #[.slice pb.ra N.rows.length pb.rc, .slice pb.oa N.owners.length pb.oc, .slice pb.ua N.used.length pb.uc, .slice pb.ia N.inodes.length pb.ic] 29) = w6 at *
  clear hw6
  obtain ⟨bb, hbb⟩ : ∃ q, q = w5.heap.size := ⟨_, rfl⟩
  rw [← hbb] at HBB ⊢
  clear hbb
  refine hlay.mono ?_
  rintro e w7 ⟨al, cl, rfl, hS7, h7⟩
  have HS7 := Lib.hid (hS7.ls HLB.out)
  have HX7 := Lib.hid (HX5.out.trans h7)
  have HE7 := Lib.hid h7
  have HB7 := Lib.hid (HB5.out.ext h7)
  clear hlay hS7 h7 g0 g1 g2 g3 m0 m1 m2 m3
  obtain ⟨⟨g0, g1, g2, g3⟩, m0, m1, m2, m3⟩ := HB7.out
  have hlay := HL2.out w7 HX7.out
  go_wp2_with fail
  refine hlay.mono ?_
  rintro e w8 ⟨ak, ck, rfl, hS8, h8⟩
  have HK8 := Lib.hid (hS8.ls HLB.out)
  have HL8 := Lib.hid (HS7.out.ext h8)
  have HX8 := Lib.hid (HX7.out.trans h8)
  have HB8 := Lib.hid (HB7.out.ext h8)
  have HA8 := Lib.hid (HBA5.out.ext (HE7.out.trans h8))
  have HC8 := Lib.hid (HBB.out.ext (HE7.out.trans h8))
  have HSAME := Lib.hid (fun (v : World) (e : Ext w8 v) => Same_yes pa pb N v (HNA5.out.ext (HE7.out.trans (h8.trans e))) (HNB.out.ext (HE7.out.trans (h8.trans e))))
  have HRGT := Lib.hid (fun (v : World) (e : Ext w8 v) => Right_ok J I G P p M v (HM.out.ext (HX8.out.trans e)))
  have HRRT := Lib.hid (fun (v : World) (e : Ext w8 v) => rRight_ok J I G P p M v (HM.out.ext (HX8.out.trans e)))
  have HSS := Lib.hid (fun (v : World) (e : Ext w8 v) => (show Calls Try.prog 18 #[.slice al nl cl, .slice ak nl ck] v fun e w' => e = .returned (.bool true) ∧ Ext v w' from by
    have := SameS_ok al nl cl L ak nl ck L v (HL8.out.ext e) (HK8.out.ext e) (by have := hll.out; omega)
    rw [show sameLs L L = true by simp [sameLs]] at this
    exact this))
  generalize rightM J I G P M = rb at *
  have hq1 : (cn == cn) = true := by simp
  have hq2 : (code == code) = true := by simp
  have hq3 : (rb == rb) = true := by simp
  clear hlay hS8 h8 g0 g1 g2 g3 m0 m1 m2 m3 hf hz
  go_wp2_with fail
  refine wp_region_held_drew (S := (fun v => Ext w8 v)) (by kernel_rfl) ((Ext.refl _).drew) (fun hHeld => ?_)
  refine takeD (i := 0) (v := ?_) rfl rfl (by kernel_rfl) (by kernel_rfl) (by kernel_rfl) (fun _ _ _ h => h) (Or.inl ⟨by rfl, ?_⟩) hHeld ?_
  rotate_left
  · (intro v hv; (obtain ⟨⟨g0, g1, g2, g3⟩, m0, m1, m2, m3⟩ := HB8.out.ext hv; obtain ⟨a0, a1, a2, a3⟩ := HA8.out.ext hv; obtain ⟨b0, b1, b2, b3⟩ := HC8.out.ext hv); go_simp; try (with_reducible rfl))
  (try simp only [List.setIfInBounds_toArray, List.set_cons_zero, List.set_cons_succ])
  refine takeD (i := 1) (v := ?_) rfl rfl (by kernel_rfl) (by kernel_rfl) (by kernel_rfl) (fun _ _ _ h => h) (Or.inl ⟨by rfl, ?_⟩) hHeld ?_
  rotate_left
  · (intro v hv; (obtain ⟨⟨g0, g1, g2, g3⟩, m0, m1, m2, m3⟩ := HB8.out.ext hv; obtain ⟨a0, a1, a2, a3⟩ := HA8.out.ext hv; obtain ⟨b0, b1, b2, b3⟩ := HC8.out.ext hv); go_simp; try (with_reducible rfl))
  (try simp only [List.setIfInBounds_toArray, List.set_cons_zero, List.set_cons_succ])
  refine takeD (i := 2) (v := ?_) rfl rfl (by kernel_rfl) (by kernel_rfl) (by kernel_rfl) (fun _ _ _ h => h) (Or.inl ⟨by rfl, ?_⟩) hHeld ?_
  rotate_left
  · (intro v hv; (obtain ⟨⟨g0, g1, g2, g3⟩, m0, m1, m2, m3⟩ := HB8.out.ext hv; obtain ⟨a0, a1, a2, a3⟩ := HA8.out.ext hv; obtain ⟨b0, b1, b2, b3⟩ := HC8.out.ext hv); go_simp; try (with_reducible rfl))
  (try simp only [List.setIfInBounds_toArray, List.set_cons_zero, List.set_cons_succ])
  refine takeD (i := 3) (v := ?_) rfl rfl (by kernel_rfl) (by kernel_rfl) (by kernel_rfl) (fun _ _ _ h => h) (Or.inl ⟨by rfl, ?_⟩) hHeld ?_
  rotate_left
  · (intro v hv; (obtain ⟨⟨g0, g1, g2, g3⟩, m0, m1, m2, m3⟩ := HB8.out.ext hv; obtain ⟨a0, a1, a2, a3⟩ := HA8.out.ext hv; obtain ⟨b0, b1, b2, b3⟩ := HC8.out.ext hv); go_simp; try (with_reducible rfl))
  (try simp only [List.setIfInBounds_toArray, List.set_cons_zero, List.set_cons_succ])
  refine wpAnyH_ready (rs := [4]) (by kernel_rfl) (by simp) ?_
  refine AllReadyH.cons rfl (fun K hK => ?_) AllReadyH.nil
  go_simp
  refine (HSAME.out _ hHeld).mono ?_
  rintro e vn ⟨rfl, hxn⟩
  refine hK.out _ _ (hHeld.trans hxn) (fun hHeld => ?_)
  clear hK hxn
  refine takeD (i := 5) (v := ?_) rfl rfl (by kernel_rfl) (by kernel_rfl) (by kernel_rfl) (fun _ _ _ h => h) (Or.inl ⟨by rfl, ?_⟩) hHeld ?_
  rotate_left
  · (intro v hv; (obtain ⟨⟨g0, g1, g2, g3⟩, m0, m1, m2, m3⟩ := HB8.out.ext hv; obtain ⟨a0, a1, a2, a3⟩ := HA8.out.ext hv; obtain ⟨b0, b1, b2, b3⟩ := HC8.out.ext hv); go_simp; try (with_reducible rfl))
  (try simp only [List.setIfInBounds_toArray, List.set_cons_zero, List.set_cons_succ])
  refine takeD (i := 6) (v := ?_) rfl rfl (by kernel_rfl) (by kernel_rfl) (by kernel_rfl) (fun _ _ _ h => h) (Or.inl ⟨by rfl, ?_⟩) hHeld ?_
  rotate_left
  · (intro v hv; (obtain ⟨⟨g0, g1, g2, g3⟩, m0, m1, m2, m3⟩ := HB8.out.ext hv; obtain ⟨a0, a1, a2, a3⟩ := HA8.out.ext hv; obtain ⟨b0, b1, b2, b3⟩ := HC8.out.ext hv); go_simp; try (with_reducible rfl))
  (try simp only [List.setIfInBounds_toArray, List.set_cons_zero, List.set_cons_succ])
  refine takeD (i := 7) (v := ?_) rfl rfl (by kernel_rfl) (by kernel_rfl) (by kernel_rfl) (fun _ _ _ h => h) (Or.inl ⟨by rfl, ?_⟩) hHeld ?_
  rotate_left
  · (intro v hv; (obtain ⟨⟨g0, g1, g2, g3⟩, m0, m1, m2, m3⟩ := HB8.out.ext hv; obtain ⟨a0, a1, a2, a3⟩ := HA8.out.ext hv; obtain ⟨b0, b1, b2, b3⟩ := HC8.out.ext hv); go_simp; try (with_reducible rfl))
  (try simp only [List.setIfInBounds_toArray, List.set_cons_zero, List.set_cons_succ])
  refine takeD (i := 8) (v := ?_) rfl rfl (by kernel_rfl) (by kernel_rfl) (by kernel_rfl) (fun _ _ _ h => h) (Or.inl ⟨by rfl, ?_⟩) hHeld ?_
  rotate_left
  · (intro v hv; (obtain ⟨⟨g0, g1, g2, g3⟩, m0, m1, m2, m3⟩ := HB8.out.ext hv; obtain ⟨a0, a1, a2, a3⟩ := HA8.out.ext hv; obtain ⟨b0, b1, b2, b3⟩ := HC8.out.ext hv); go_simp; try (with_reducible rfl))
  (try simp only [List.setIfInBounds_toArray, List.set_cons_zero, List.set_cons_succ])
  refine takeD (i := 9) (v := ?_) rfl rfl (by kernel_rfl) (by kernel_rfl) (by kernel_rfl) (fun _ _ _ h => h) (Or.inl ⟨by rfl, ?_⟩) hHeld ?_
  rotate_left
  · (intro v hv; (obtain ⟨⟨g0, g1, g2, g3⟩, m0, m1, m2, m3⟩ := HB8.out.ext hv; obtain ⟨a0, a1, a2, a3⟩ := HA8.out.ext hv; obtain ⟨b0, b1, b2, b3⟩ := HC8.out.ext hv); go_simp; try (with_reducible rfl))
  (try simp only [List.setIfInBounds_toArray, List.set_cons_zero, List.set_cons_succ])
  refine takeD (i := 10) (v := ?_) rfl rfl (by kernel_rfl) (by kernel_rfl) (by kernel_rfl) (fun _ _ _ h => h) (Or.inl ⟨by rfl, ?_⟩) hHeld ?_
  rotate_left
  · (intro v hv; (obtain ⟨⟨g0, g1, g2, g3⟩, m0, m1, m2, m3⟩ := HB8.out.ext hv; obtain ⟨a0, a1, a2, a3⟩ := HA8.out.ext hv; obtain ⟨b0, b1, b2, b3⟩ := HC8.out.ext hv); go_simp; try (with_reducible rfl))
  (try simp only [List.setIfInBounds_toArray, List.set_cons_zero, List.set_cons_succ])
  refine takeD (i := 11) (v := ?_) rfl rfl (by kernel_rfl) (by kernel_rfl) (by kernel_rfl) (fun _ _ _ h => h) (Or.inl ⟨by rfl, ?_⟩) hHeld ?_
  rotate_left
  · (intro v hv; (obtain ⟨⟨g0, g1, g2, g3⟩, m0, m1, m2, m3⟩ := HB8.out.ext hv; obtain ⟨a0, a1, a2, a3⟩ := HA8.out.ext hv; obtain ⟨b0, b1, b2, b3⟩ := HC8.out.ext hv); go_simp; try (with_reducible rfl))
  (try simp only [List.setIfInBounds_toArray, List.set_cons_zero, List.set_cons_succ])
  refine takeD (i := 12) (v := ?_) rfl rfl (by kernel_rfl) (by kernel_rfl) (by kernel_rfl) (fun _ _ _ h => h) (Or.inl ⟨by rfl, ?_⟩) hHeld ?_
  rotate_left
  · (intro v hv; (obtain ⟨⟨g0, g1, g2, g3⟩, m0, m1, m2, m3⟩ := HB8.out.ext hv; obtain ⟨a0, a1, a2, a3⟩ := HA8.out.ext hv; obtain ⟨b0, b1, b2, b3⟩ := HC8.out.ext hv); go_simp; try (with_reducible rfl))
  (try simp only [List.setIfInBounds_toArray, List.set_cons_zero, List.set_cons_succ])
  refine takeD (i := 13) (v := ?_) rfl rfl (by kernel_rfl) (by kernel_rfl) (by kernel_rfl) (fun _ _ _ h => h) (Or.inl ⟨by rfl, ?_⟩) hHeld ?_
  rotate_left
  · (intro v hv; (obtain ⟨⟨g0, g1, g2, g3⟩, m0, m1, m2, m3⟩ := HB8.out.ext hv; obtain ⟨a0, a1, a2, a3⟩ := HA8.out.ext hv; obtain ⟨b0, b1, b2, b3⟩ := HC8.out.ext hv); go_simp; try (with_reducible rfl))
  (try simp only [List.setIfInBounds_toArray, List.set_cons_zero, List.set_cons_succ])
  refine takeD (i := 15) (v := ?_) rfl rfl (by kernel_rfl) (by kernel_rfl) (by kernel_rfl) (fun _ _ _ h => h) (Or.inl ⟨by rfl, ?_⟩) hHeld ?_
  rotate_left
  · (intro v hv; (obtain ⟨⟨g0, g1, g2, g3⟩, m0, m1, m2, m3⟩ := HB8.out.ext hv; obtain ⟨a0, a1, a2, a3⟩ := HA8.out.ext hv; obtain ⟨b0, b1, b2, b3⟩ := HC8.out.ext hv); go_simp; try (with_reducible rfl))
  (try simp only [List.setIfInBounds_toArray, List.set_cons_zero, List.set_cons_succ])
  refine takeD (i := 16) (v := ?_) rfl rfl (by kernel_rfl) (by kernel_rfl) (by kernel_rfl) (fun _ _ _ h => h) (Or.inl ⟨by rfl, ?_⟩) hHeld ?_
  rotate_left
  · (intro v hv; (obtain ⟨⟨g0, g1, g2, g3⟩, m0, m1, m2, m3⟩ := HB8.out.ext hv; obtain ⟨a0, a1, a2, a3⟩ := HA8.out.ext hv; obtain ⟨b0, b1, b2, b3⟩ := HC8.out.ext hv); go_simp; try (with_reducible rfl))
  (try simp only [List.setIfInBounds_toArray, List.set_cons_zero, List.set_cons_succ])
  refine wpAnyH_ready (rs := [14]) (by kernel_rfl) (by simp) ?_
  refine AllReadyH.cons rfl (fun K hK => ?_) AllReadyH.nil
  go_simp
  refine (HRGT.out _ hHeld).mono ?_
  rintro e vn ⟨rfl, hxn⟩
  refine hK.out _ _ (hHeld.trans hxn) (fun hHeld => ?_)
  clear hK hxn
  refine wpAnyH_ready (rs := [17]) (by kernel_rfl) (by simp) ?_
  refine AllReadyH.cons rfl (fun K hK => ?_) AllReadyH.nil
  go_simp
  refine (HRRT.out _ hHeld).mono ?_
  rintro e vn ⟨rfl, hxn⟩
  refine hK.out _ _ (hHeld.trans hxn) (fun hHeld => ?_)
  clear hK hxn
  refine takeD (i := 18) (v := ?_) rfl rfl (by kernel_rfl) (by kernel_rfl) (by kernel_rfl) (fun _ _ _ h => h) (Or.inl ⟨by rfl, ?_⟩) hHeld ?_
  rotate_left
  · (intro v hv; (obtain ⟨⟨g0, g1, g2, g3⟩, m0, m1, m2, m3⟩ := HB8.out.ext hv; obtain ⟨a0, a1, a2, a3⟩ := HA8.out.ext hv; obtain ⟨b0, b1, b2, b3⟩ := HC8.out.ext hv); go_simp; try (with_reducible rfl))
  (try simp only [List.setIfInBounds_toArray, List.set_cons_zero, List.set_cons_succ])
  refine takeD (i := 19) (v := ?_) rfl rfl (by kernel_rfl) (by kernel_rfl) (by kernel_rfl) (fun _ _ _ h => h) (Or.inl ⟨by rfl, ?_⟩) hHeld ?_
  rotate_left
  · (intro v hv; (obtain ⟨⟨g0, g1, g2, g3⟩, m0, m1, m2, m3⟩ := HB8.out.ext hv; obtain ⟨a0, a1, a2, a3⟩ := HA8.out.ext hv; obtain ⟨b0, b1, b2, b3⟩ := HC8.out.ext hv); go_simp; try (with_reducible rfl))
  (try simp only [List.setIfInBounds_toArray, List.set_cons_zero, List.set_cons_succ])
  refine takeD (i := 20) (v := ?_) rfl rfl (by kernel_rfl) (by kernel_rfl) (by kernel_rfl) (fun _ _ _ h => h) (Or.inl ⟨by rfl, ?_⟩) hHeld ?_
  rotate_left
  · (intro v hv; (obtain ⟨⟨g0, g1, g2, g3⟩, m0, m1, m2, m3⟩ := HB8.out.ext hv; obtain ⟨a0, a1, a2, a3⟩ := HA8.out.ext hv; obtain ⟨b0, b1, b2, b3⟩ := HC8.out.ext hv); go_simp; try (with_reducible rfl))
  (try simp only [List.setIfInBounds_toArray, List.set_cons_zero, List.set_cons_succ])
  refine takeD (i := 21) (v := ?_) rfl rfl (by kernel_rfl) (by kernel_rfl) (by kernel_rfl) (fun _ _ _ h => h) (Or.inl ⟨by rfl, ?_⟩) hHeld ?_
  rotate_left
  · (intro v hv; (obtain ⟨⟨g0, g1, g2, g3⟩, m0, m1, m2, m3⟩ := HB8.out.ext hv; obtain ⟨a0, a1, a2, a3⟩ := HA8.out.ext hv; obtain ⟨b0, b1, b2, b3⟩ := HC8.out.ext hv); go_simp; try (with_reducible rfl))
  (try simp only [List.setIfInBounds_toArray, List.set_cons_zero, List.set_cons_succ])
  refine takeD (i := 22) (v := ?_) rfl rfl (by kernel_rfl) (by kernel_rfl) (by kernel_rfl) (fun _ _ _ h => h) (Or.inl ⟨by rfl, ?_⟩) hHeld ?_
  rotate_left
  · (intro v hv; (obtain ⟨⟨g0, g1, g2, g3⟩, m0, m1, m2, m3⟩ := HB8.out.ext hv; obtain ⟨a0, a1, a2, a3⟩ := HA8.out.ext hv; obtain ⟨b0, b1, b2, b3⟩ := HC8.out.ext hv); go_simp; try (with_reducible rfl))
  (try simp only [List.setIfInBounds_toArray, List.set_cons_zero, List.set_cons_succ])
  refine wpAnyH_ready (rs := [23]) (by kernel_rfl) (by simp) ?_
  refine AllReadyH.cons rfl (fun K hK => ?_) AllReadyH.nil
  go_simp
  refine (HSS.out _ hHeld).mono ?_
  rintro e vn ⟨rfl, hxn⟩
  refine hK.out _ _ (hHeld.trans hxn) (fun hHeld => ?_)
  clear hK hxn
  refine takeD (i := 24) (v := ?_) rfl rfl (by kernel_rfl) (by kernel_rfl) (by kernel_rfl) (fun _ _ _ h => h) (Or.inl ⟨by rfl, ?_⟩) hHeld ?_
  rotate_left
  · (intro v hv; (obtain ⟨⟨g0, g1, g2, g3⟩, m0, m1, m2, m3⟩ := HB8.out.ext hv; obtain ⟨a0, a1, a2, a3⟩ := HA8.out.ext hv; obtain ⟨b0, b1, b2, b3⟩ := HC8.out.ext hv); go_simp; try (with_reducible rfl))
  (try simp only [List.setIfInBounds_toArray, List.set_cons_zero, List.set_cons_succ])
  refine takeD (i := 25) (v := ?_) rfl rfl (by kernel_rfl) (by kernel_rfl) (by kernel_rfl) (fun _ _ _ h => h) (Or.inl ⟨by rfl, ?_⟩) hHeld ?_
  rotate_left
  · (intro v hv; (obtain ⟨⟨g0, g1, g2, g3⟩, m0, m1, m2, m3⟩ := HB8.out.ext hv; obtain ⟨a0, a1, a2, a3⟩ := HA8.out.ext hv; obtain ⟨b0, b1, b2, b3⟩ := HC8.out.ext hv); go_simp; try (with_reducible rfl))
  (try simp only [List.setIfInBounds_toArray, List.set_cons_zero, List.set_cons_succ])
  refine takeD (i := 26) (v := ?_) rfl rfl (by kernel_rfl) (by kernel_rfl) (by kernel_rfl) (fun _ _ _ h => h) (Or.inl ⟨by rfl, ?_⟩) hHeld ?_
  rotate_left
  · (intro v hv; (obtain ⟨⟨g0, g1, g2, g3⟩, m0, m1, m2, m3⟩ := HB8.out.ext hv; obtain ⟨a0, a1, a2, a3⟩ := HA8.out.ext hv; obtain ⟨b0, b1, b2, b3⟩ := HC8.out.ext hv); go_simp; try (with_reducible rfl))
  (try simp only [List.setIfInBounds_toArray, List.set_cons_zero, List.set_cons_succ])
  refine takeD (i := 27) (v := ?_) rfl rfl (by kernel_rfl) (by kernel_rfl) (by kernel_rfl) (fun _ _ _ h => h) (Or.inl ⟨by rfl, ?_⟩) hHeld ?_
  rotate_left
  · (intro v hv; (obtain ⟨⟨g0, g1, g2, g3⟩, m0, m1, m2, m3⟩ := HB8.out.ext hv; obtain ⟨a0, a1, a2, a3⟩ := HA8.out.ext hv; obtain ⟨b0, b1, b2, b3⟩ := HC8.out.ext hv); go_simp; try (with_reducible rfl))
  (try simp only [List.setIfInBounds_toArray, List.set_cons_zero, List.set_cons_succ])
  refine takeD (i := 28) (v := ?_) rfl rfl (by kernel_rfl) (by kernel_rfl) (by kernel_rfl) (fun _ _ _ h => h) (Or.inl ⟨by rfl, ?_⟩) hHeld ?_
  rotate_left
  · (intro v hv; (obtain ⟨⟨g0, g1, g2, g3⟩, m0, m1, m2, m3⟩ := HB8.out.ext hv; obtain ⟨a0, a1, a2, a3⟩ := HA8.out.ext hv; obtain ⟨b0, b1, b2, b3⟩ := HC8.out.ext hv); go_simp; try (with_reducible rfl))
  (try simp only [List.setIfInBounds_toArray, List.set_cons_zero, List.set_cons_succ])
  refine takeD (i := 29) (v := ?_) rfl rfl (by kernel_rfl) (by kernel_rfl) (by kernel_rfl) (fun _ _ _ h => h) (Or.inl ⟨by rfl, ?_⟩) hHeld ?_
  rotate_left
  · (intro v hv; (obtain ⟨⟨g0, g1, g2, g3⟩, m0, m1, m2, m3⟩ := HB8.out.ext hv; obtain ⟨a0, a1, a2, a3⟩ := HA8.out.ext hv; obtain ⟨b0, b1, b2, b3⟩ := HC8.out.ext hv); go_simp; try (with_reducible rfl))
  (try simp only [List.setIfInBounds_toArray, List.set_cons_zero, List.set_cons_succ])
  refine takeD (i := 30) (v := ?_) rfl rfl (by kernel_rfl) (by kernel_rfl) (by kernel_rfl) (fun _ _ _ h => h) (Or.inl ⟨by rfl, ?_⟩) hHeld ?_
  rotate_left
  · (intro v hv; (obtain ⟨⟨g0, g1, g2, g3⟩, m0, m1, m2, m3⟩ := HB8.out.ext hv; obtain ⟨a0, a1, a2, a3⟩ := HA8.out.ext hv; obtain ⟨b0, b1, b2, b3⟩ := HC8.out.ext hv); go_simp; try (with_reducible rfl))
  (try simp only [List.setIfInBounds_toArray, List.set_cons_zero, List.set_cons_succ])
  refine wpAnyH_done (by kernel_rfl) ?_ _
  have HH := Lib.hid hHeld
  clear hHeld
  go_wp2
  go_ret
  exact ⟨rfl, HX8.out.trans HH.out⟩
theorem law_MetaLays {H : Type} {enc : TypeId × Value → H} {base : Nat} {d0 d1 : DataW H} {p0 p1 : List MemPlace} (v0 v1 : Value) (w : World)
    (ho0 : Value.okWide Try.prog w .any base 23 v0) (h0 : DataW.Trod enc Try.prog w 0 (fun _ => true) true 23 v0 d0 p0)
    (ho1 : Value.okWide Try.prog w .any base 29 v1) (h1 : DataW.Trod enc Try.prog w 0 (fun _ => true) true 29 v1 d1 p1) :
    Calls Try.prog 3 #[v0, v1] w fun e w' => e = .returned (.bool true) ∧ Below w.heap.size w w' := by
  obtain ⟨J, I, G, P, rfl⟩ := geo_in ho0 h0
  obtain ⟨p, M, rfl, hM⟩ := meta_in ho1 h1
  exact lays_walk J I G P p M w hM
end Go.Proofs.Ytnodinancnfoeaa.Mt
