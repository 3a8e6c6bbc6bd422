/- The walk of the law MetaOne (printed by gen_one14.py). -/
import Derived.Test.YtnodinancnfoeaaMtOneP
namespace Go.Proofs.Ytnodinancnfoeaa.Mt
open Go.RowKit Words Mem Plain Ops Agg OwnS Intern Ino
open Go.Proofs.Ytnodinancnfoeaa.Field
set_option linter.ambiguousOpen false
set_option linter.unusedVariables false
set_option linter.unusedSimpArgs false

set_option maxHeartbeats 16000000 in
set_option maxRecDepth 100000 in
theorem one_walk0 (J I G P : Int) (p : Pl) (M : MetaT) (which at' : Nat) (w : World) (hin : M.small → MetaIn w p M) (hwh : which ≤ 255) (hat : at' ≤ 255) (hq : (which : Int) % 3 = 0) :
    Calls Try.prog 5 #[Super.geoV J I G P, metaV p M, .int .u8 which, .int .u8 at'] w fun e w' => e = .returned (.bool true) ∧ Ext w w' := by
  obtain ⟨hbox, hbx⟩ := BoxAt.new w J I G P p M
  have hsh := shown_ok (boxW w J I G P p M)
  have hsb : (boxW w J I G P p M).heap.size = w.heap.size + 2 := by simp [boxW]
  have HBX := Lib.hid hbx
  have HBOX := Lib.hid hbox
  have HSB := Lib.hid hsb
  have HIN := Lib.hid hin
  clear hbox hbx hin hsb
  go_enter Try.func5, Try.ntmps5
  go_wp2_with fail
  refine hsh.mono ?_
  rintro e w1 ⟨rfl, h1⟩
  have HX1 := Lib.hid (HBX.out.trans h1)
  have HZ1 := Lib.hid (HSB.out ▸ h1.size)
  have HB1 := Lib.hid (HBOX.out.ext h1)
  obtain ⟨⟨g0, g1, g2, g3⟩, m0, m1, m2, m3⟩ := HB1.out
  clear h1 hsh HBOX HSB
  have hsm := small_ok p M w1
  obtain ⟨sb, hsb⟩ : ∃ q, q = decide (M.rows.length ≤ 100 ∧ M.owners.length ≤ 100 ∧ M.used.length ≤ 200 ∧ M.inodes.length ≤ 100) := ⟨_, rfl⟩
  rw [← hsb] at hsm
  have HSB := Lib.hid hsb
  clear hsb
  go_wp2_with fail
  refine hsm.mono ?_
  rintro e w2 ⟨rfl, h2⟩
  have HX2 := Lib.hid (HX1.out.trans h2)
  have HZ2 := Lib.hid (Nat.le_trans HZ1.out h2.size)
  have HB2 := Lib.hid (HB1.out.ext h2)
  clear h2 hsm g0 g1 g2 g3 m0 m1 m2 m3 HB1
  obtain ⟨⟨g0, g1, g2, g3⟩, m0, m1, m2, m3⟩ := HB2.out
  cases sb
  · go_wp2
    go_ret
    exact ⟨rfl, HX2.out⟩
  have hsmall : M.small := by simpa [MetaT.small] using HSB.out.symm
  have HM := Lib.hid (HIN.out hsmall)
  have hf := HM.out.few
  have hz := zeroMeta
  clear hsmall HIN HSB
  have hright := Right_ok J I G P p M w2 (HM.out.ext HX2.out)
  cases hrt : rightM J I G P M
  · rw [hrt] at hright
    go_wp2_with fail
    refine hright.mono ?_
    rintro e w3 ⟨rfl, h3⟩
    have HX3 := Lib.hid (HX2.out.trans h3)
    clear hright h3
    go_wp2
    go_ret
    exact ⟨rfl, HX3.out⟩
  rw [hrt] at hright
  have HRT := Lib.hid hrt
  obtain ⟨r1, r2, r3, r4, r5, _, _, _⟩ := rightM_out hrt
  have hbd := Super.right_bd r1
  have hl1 : M.rows.length = 16 := ((right_iff _).1 r2).1
  have hlo : 0 < M.owners.length ∧ M.owners.length ≤ 64 := by omega
  have hli : 0 < M.inodes.length ∧ M.inodes.length ≤ 64 := by omega
  have HLEN := Lib.hid (And.intro hl1 (And.intro hlo (And.intro hli r4)))
  clear hrt r1 r2 r3 r4 r5 hbd hl1 hlo hli
  go_wp2_with fail
  refine hright.mono ?_
  rintro e w3 ⟨rfl, h3⟩
  have HX3 := Lib.hid (HX2.out.trans h3)
  have HLO := Lib.hid (Nat.le_trans HZ2.out h3.size)
  have HB3 := Lib.hid (HB2.out.ext h3)
  clear hright h3 g0 g1 g2 g3 m0 m1 m2 m3
  obtain ⟨⟨g0, g1, g2, g3⟩, m0, m1, m2, m3⟩ := HB3.out
  have hcp := Copy_ok p M w3 (HM.out.ext HX3.out)
  go_wp2_with fail
  refine hcp.mono ?_
  rintro e w4 ⟨c, rfl, hc4, h4⟩
  have hX4 := (Ext.refl w4).alloc (.cells #[.slice c.ra M.rows.length c.rc, .slice c.oa M.owners.length c.oc, .slice c.ua M.used.length c.uc, .slice c.ia M.inodes.length c.ic] 29)
  have HC4 := Lib.hid (hc4.ext hX4)
  have HBC := Lib.hid (BoxM.new w4 c M)
  have HX4 := Lib.hid (HX3.out.trans (h4.trans hX4))
  have HB4 := Lib.hid (HB3.out.ext (h4.trans hX4))
  obtain ⟨bc, hbc⟩ : ∃ q, q = w4.heap.size := ⟨_, rfl⟩
  have HBCE := Lib.hid hbc
  have HC4' := Lib.hid hc4
  clear hc4 h4 hX4 hcp g0 g1 g2 g3 m0 m1 m2 m3
  obtain ⟨q0, q1, q2, q3⟩ := HBC.out
  have z1 : ¬ ((M.rows.length : Int) = 0) := by have := HLEN.out; omega
  have z2 : ¬ ((M.owners.length : Int) = 0) := by have := HLEN.out; omega
  have z3 : ¬ ((M.inodes.length : Int) = 0) := by have := HLEN.out; omega
  have z4 : ¬ ((M.used.length : Int) = 0) := by have := HLEN.out; omega
  have y1 : ((M.rows.length : Int) == 0) = false := by simpa using z1
  have y2 : ((M.owners.length : Int) == 0) = false := by simpa using z2
  have y3 : ((M.inodes.length : Int) == 0) = false := by simpa using z3
  have y4 : ((M.used.length : Int) == 0) = false := by simpa using z4
  obtain ⟨k, hkm, hklt⟩ : ∃ k : Nat, (at' : Int) % (M.owners.length : Int) = k ∧ k < M.owners.length := ⟨at' % M.owners.length, by rw [Int.natCast_emod], Nat.mod_lt _ (by have := HLEN.out; omega)⟩
  have HKM := Lib.hid hkm
  clear hkm
  go_wp2_with fail
  rw [HKM.out]
  generalize hvA : w4.alloc (.cells #[.slice c.ra M.rows.length c.rc, .slice c.oa M.owners.length c.oc, .slice c.ua M.used.length c.uc, .slice c.ia M.inodes.length c.ic] 29) = vA at *
  clear hvA
  rw [← hbc] at HBC ⊢
  clear hbc q0 q1 q2 q3
  obtain ⟨b, R, hoa, hbR, hrow, hlen⟩ := ownS_HR HC4'.out.owners (by have := HLEN.out; omega)
  have hdr : Ext vA vA.drew := (Ext.refl _).drew
  have HC0 := Lib.hid (HC4.out.ext hdr)
  have HB0 := Lib.hid (HB4.out.ext hdr)
  have HBC0 := Lib.hid (HBC.out.ext hdr)
  have HX0 := Lib.hid (HX4.out.trans hdr)
  have hone := one_owner HRT.out hklt
  have hcell : vA.drew.cell? ⟨b, k, none⟩ = some (.int .i64 M.owners[k]) := by
    have hs := ownsRow_sl HC0.out.owners
    obtain ⟨b', off', e, hc⟩ := hs.ints (by omega)
    rw [hoa] at e
    cases e
    have := hc k hklt
    rw [Nat.zero_add] at this
    exact this
  have hfz0 : vA.drew.frozen? ⟨b, k, none⟩ = false := by
    obtain ⟨_, R', e, _, hr, _⟩ := ownS_HR HC0.out.owners (by have := HLEN.out; omega)
    rw [hoa] at e
    cases e
    exact hr.frozen k
  clear hdr
  have ho16 := (rightM_out HRT.out).2.2.2.2.2.1 _ (List.getElem_mem hklt)
  have hM2 := HC0.out.owner hoa k ((M.owners[k] + 1) % 17)
  obtain ⟨M2, hM2e⟩ : ∃ q, q = { M with owners := M.owners.set k ((M.owners[k] + 1) % 17) } := ⟨_, rfl⟩
  have HM2L := Lib.hid (show M2.rows.length = M.rows.length ∧ M2.owners.length = M.owners.length ∧ M2.used.length = M.used.length ∧ M2.inodes.length = M.inodes.length by rw [hM2e]; exact ⟨rfl, List.length_set .., rfl, rfl⟩)
  rw [← hM2e] at hM2 hone
  have HR2 := Lib.hid hone.1
  have HOFF := Lib.hid hone.2
  have HM2 := Lib.hid hM2
  clear hM2e hM2 hone
  generalize M.owners[k] = o at *
  have hwo : IntKind.i64.wrap (o + 1) = o + 1 := IntWalk.i64_in _ (by omega)
  have hk0 : (0 : Int) ≤ k := by omega
  have hkl : (k : Int) < (M.owners.length : Int) := by omega
  refine wp_region_held_drew (S := (fun v => Ext w v ∧ v.cell? ⟨bc, 1, none⟩ = some (.slice (some ⟨b, 0, none⟩) M.owners.length c.oc))) (by kernel_rfl) ⟨HX0.out, by rw [← hoa]; exact HBC0.out.2.1⟩ (fun hHeld => ?_)
  generalize vA.drew = v0 at *
  refine takeD (i := 0) (v := ?_) rfl rfl (by kernel_rfl) (by kernel_rfl) (by kernel_rfl) (fun _ _ _ h => h) (Or.inl ⟨by rfl, ?_⟩) hHeld ?_
  rotate_left
  · (intro v hv; (try obtain ⟨hv0, hv1⟩ := hv); go_simp; try (with_reducible rfl))
  (try simp only [List.setIfInBounds_toArray, List.set_cons_zero, List.set_cons_succ])
  refine takeD (i := 1) (v := ?_) rfl rfl (by kernel_rfl) (by kernel_rfl) (by kernel_rfl) (fun _ _ _ h => h) (Or.inl ⟨by rfl, ?_⟩) hHeld ?_
  rotate_left
  · (intro v hv; (try obtain ⟨hv0, hv1⟩ := hv); go_simp; try (with_reducible rfl))
  (try simp only [List.setIfInBounds_toArray, List.set_cons_zero, List.set_cons_succ])
  refine takeD (i := 2) (v := ?_) rfl rfl (by kernel_rfl) (by kernel_rfl) (by kernel_rfl) (fun _ _ _ h => h) (Or.inl ⟨by rfl, ?_⟩) hHeld ?_
  rotate_left
  · (intro v hv; (try obtain ⟨hv0, hv1⟩ := hv); go_simp; try (with_reducible rfl))
  (try simp only [List.setIfInBounds_toArray, List.set_cons_zero, List.set_cons_succ])
  refine takeD (i := 3) (v := ?_) rfl rfl (by kernel_rfl) (by kernel_rfl) (by kernel_rfl) (fun _ _ _ h => h) (Or.inl ⟨by rfl, ?_⟩) hHeld ?_
  rotate_left
  · (intro v hv; (try obtain ⟨hv0, hv1⟩ := hv); go_simp; try (with_reducible rfl))
  (try simp only [List.setIfInBounds_toArray, List.set_cons_zero, List.set_cons_succ])
  refine takeD (i := 4) (v := ?_) rfl rfl (by kernel_rfl) (by kernel_rfl) (by kernel_rfl) (fun _ _ _ h => h) (Or.inl ⟨by rfl, ?_⟩) hHeld ?_
  rotate_left
  · (intro v hv; (try obtain ⟨hv0, hv1⟩ := hv); go_simp; try (with_reducible rfl))
  (try simp only [List.setIfInBounds_toArray, List.set_cons_zero, List.set_cons_succ])
  refine takeD (i := 5) (v := ?_) rfl rfl (by kernel_rfl) (by kernel_rfl) (by kernel_rfl) (fun _ _ _ h => h) (Or.inl ⟨by rfl, ?_⟩) hHeld ?_
  rotate_left
  · (intro v hv; (try obtain ⟨hv0, hv1⟩ := hv); go_simp; try (with_reducible rfl))
  (try simp only [List.setIfInBounds_toArray, List.set_cons_zero, List.set_cons_succ])
  refine takeD (i := 6) (v := ?_) rfl rfl (by kernel_rfl) (by kernel_rfl) (by kernel_rfl) (fun _ _ _ h => h) (Or.inl ⟨by rfl, ?_⟩) hHeld ?_
  rotate_left
  · (intro v hv; (try obtain ⟨hv0, hv1⟩ := hv); go_simp; try (with_reducible rfl))
  (try simp only [List.setIfInBounds_toArray, List.set_cons_zero, List.set_cons_succ])
  refine wpAnyH_ready (rs := [7]) (by kernel_rfl) (by simp) ?_
  refine AllReadyH.cons rfl (fun K hK => ?_) AllReadyH.nil
  go_simp
  refine hK.out _ _ hHeld (fun hHeld => ?_)
  clear hK
  refine takeD (i := 8) (v := ?_) rfl rfl (by kernel_rfl) (by kernel_rfl) (by kernel_rfl) (fun _ _ _ h => h) (Or.inl ⟨by rfl, ?_⟩) hHeld ?_
  rotate_left
  · (intro v hv; (try obtain ⟨hv0, hv1⟩ := hv); go_simp; try (with_reducible rfl))
  (try simp only [List.setIfInBounds_toArray, List.set_cons_zero, List.set_cons_succ])
  refine takeD (i := 9) (v := ?_) rfl rfl (by kernel_rfl) (by kernel_rfl) (by kernel_rfl) (fun _ _ _ h => h) (Or.inl ⟨by rfl, ?_⟩) hHeld ?_
  rotate_left
  · (intro v hv; (try obtain ⟨hv0, hv1⟩ := hv); go_simp; try (with_reducible rfl))
  (try simp only [List.setIfInBounds_toArray, List.set_cons_zero, List.set_cons_succ])
  refine takeD (i := 10) (v := ?_) rfl rfl (by kernel_rfl) (by kernel_rfl) (by kernel_rfl) (fun _ _ _ h => h) (Or.inl ⟨by rfl, ?_⟩) hHeld ?_
  rotate_left
  · (intro v hv; (try obtain ⟨hv0, hv1⟩ := hv); go_simp; try (with_reducible rfl))
  (try simp only [List.setIfInBounds_toArray, List.set_cons_zero, List.set_cons_succ])
  refine wpAnyH_ready (rs := [11]) (by kernel_rfl) (by simp) ?_
  refine AllReadyH.cons rfl (fun K hK => ?_) AllReadyH.nil
  go_simp
  rw [show (o + 1).tmod 17 = (o + 1) % 17 from Int.tmod_eq_emod_of_nonneg (by omega)]
  have hfar : ∀ {g q : Nat} {v : Value}, g ≠ b → v0.cell? ⟨g, q, none⟩ = some v → (v0.setCell ⟨b, k, none⟩ (.int .i64 ((o + 1) % 17))).cell? ⟨g, q, none⟩ = some v := fun {g q v} hn hc => by
    rw [World.cell?_of_block (w := v0) ((By.set v0 b k (.int .i64 ((o + 1) % 17))).block g (World.block_lt_of_cell? v0 _ hc) (by simpa using hn))]
    exact hc
  have hbw : w.heap.size ≤ b := by have := HLO.out; omega
  have hbcb : bc ≠ b := by have := HBCE.out; omega
  have HXV := Lib.hid (Ext.setCell HX0.out (p := ⟨b, k, none⟩) hbw (.int .i64 ((o + 1) % 17)))
  generalize v0.setCell ⟨b, k, none⟩ (.int .i64 ((o + 1) % 17)) = v1 at *
  refine hK.out _ _ ⟨HXV.out, hfar hbcb hHeld.2⟩ (fun hHeld => ?_)
  clear hK
  refine wpAnyH_done (by kernel_rfl) ?_ _
  clear hHeld hcell hfz0
  have HBV := Lib.hid (show BoxAt v1 w.heap.size (w.heap.size + 1) J I G P p M from by
    obtain ⟨⟨x0, x1, x2, x3⟩, u0, u1, u2, u3⟩ := HB0.out
    have n0 : w.heap.size ≠ b := by have := HLO.out; omega
    have n1 : w.heap.size + 1 ≠ b := by have := HLO.out; omega
    exact ⟨⟨hfar n0 x0, hfar n0 x1, hfar n0 x2, hfar n0 x3⟩, hfar n1 u0, hfar n1 u1, hfar n1 u2, hfar n1 u3⟩)
  have HBC2 := Lib.hid (show BoxM v1 bc c M2 from by
    obtain ⟨x0, x1, x2, x3⟩ := HBC0.out
    have n0 : bc ≠ b := by omega
    obtain ⟨l1, l2, l3, l4⟩ := HM2L.out
    unfold BoxM
    rw [l1, l2, l3, l4]
    exact ⟨hfar n0 x0, hfar n0 x1, hfar n0 x2, hfar n0 x3⟩)
  clear hfar hbw hbcb ho16 hwo hk0 hkl hrow hlen hbR hoa hklt hz hf hq hwh hat z1 z2 z3 z4 y1 y2 y3 y4
  obtain ⟨vm, hvm⟩ : ∃ q, q = v1 := ⟨_, rfl⟩
  rw [← hvm] at HXV HBV HBC2 HM2 ⊢
  clear hvm
  have hlay := Lay_ok J I G P p M vm (HM.out.ext HXV.out)
  rw [show layM J I G P M = (sectM M, 0) by unfold layM; rw [if_pos HRT.out]] at hlay
  have HLAY2 := Lib.hid (fun (v : World) (e : Ext vm v) => (show Calls Try.prog 13 #[Super.geoV J I G P, metaV c M2] v fun e w' => ∃ a cap, e = .returned (.tuple #[.slice a (sectM M2).length cap, .int .i64 0]) ∧ SecsAt w' v.heap.size a (sectM M2).length cap (sectM M2) ∧ Ext v w' from by
    have := Lay_ok J I G P c M2 v (HM2.out.ext e).in_
    rw [show layM J I G P M2 = (sectM M2, 0) by unfold layM; rw [if_pos HR2.out]] at this
    exact this))
  obtain ⟨jq, ys, hjq, hK, hne⟩ := HOFF.out
  have HBL := Lib.hid (show ∀ xs ∈ sectM M, isBytes xs from fun xs hx => layM_bytes (J := J) (I := I) (G := G) (P := P) HM.out.bu xs (by unfold layM; rw [if_pos HRT.out]; exact hx))
  have HBK := Lib.hid (show ∀ xs ∈ sectM M2, isBytes xs from fun xs hx => layM_bytes (J := J) (I := I) (G := G) (P := P) HM2.out.bu xs (by unfold layM; rw [if_pos HR2.out]; exact hx))
  have hKl : (sectM M2).length = (sectM M).length := by rw [hK, List.length_set]
  have HLL := Lib.hid (show (sectM M).length ≤ 1003 from by
    have := lay_len (J := J) (I := I) (G := G) (P := P) (M := M) (by have := HM.out.few; omega)
    unfold layM at this
    rw [if_pos HRT.out] at this
    exact this)
  rw [hKl] at HLAY2
  have HK := Lib.hid hK
  have HNE := Lib.hid hne
  clear hK hne hKl
  obtain ⟨L, hL⟩ : ∃ q, q = sectM M := ⟨_, rfl⟩
  obtain ⟨K, hKK⟩ : ∃ q, q = sectM M2 := ⟨_, rfl⟩
  rw [← hL] at hlay HBL HK HLL HLAY2 hjq
  rw [← hKK] at HLAY2 HBK HK
  have HNE2 := Lib.hid (show ∀ h : jq < L.length, L[jq] ≠ ys from by subst hL; exact HNE.out)
  clear hL hKK HNE
  obtain ⟨nl, hnl⟩ : ∃ q, q = L.length := ⟨_, rfl⟩
  have HNL := Lib.hid hnl
  rw [← hnl] at hlay HLL HLAY2 hjq
  clear hnl
  have hl1003 := HLL.out
  have HJQ := Lib.hid hjq
  clear hjq
  obtain ⟨⟨g0, g1, g2, g3⟩, m0, m1, m2, m3⟩ := HBV.out
  dsimp only at hlay
  go_wp2_with fail
  refine hlay.mono ?_
  rintro e v5 ⟨al, cl, rfl, hS5, h5⟩
  have HL5 := Lib.hid (hS5.ls HBL.out)
  have HX5 := Lib.hid h5
  have HB5 := Lib.hid (HBV.out.ext h5)
  have HBC5 := Lib.hid (HBC2.out.ext h5)
  clear hlay hS5 h5 g0 g1 g2 g3 m0 m1 m2 m3
  obtain ⟨⟨g0, g1, g2, g3⟩, m0, m1, m2, m3⟩ := HB5.out
  obtain ⟨q0, q1, q2, q3⟩ := HBC5.out
  have hlay := HLAY2.out v5 HX5.out
  go_wp2_with fail
  refine hlay.mono ?_
  rintro e v6 ⟨ak, ck, rfl, hS6, h6⟩
  have HK6 := Lib.hid (hS6.ls HBK.out)
  have HL6 := Lib.hid (HL5.out.ext h6)
  have HX6 := Lib.hid (HX5.out.trans h6)
  clear hlay hS6 h6 g0 g1 g2 g3 m0 m1 m2 m3 q0 q1 q2 q3
  have hqn : ((nl : Int) != nl) = false := by simp
  go_wp2_with fail
  go_loopw [133, 18] (fun v u wr => ∃ (k : Nat) (cn : Int), k ≤ nl ∧ v = .int .i64 k ∧ u = .int .i64 cn ∧ cn = (if jq < k then 1 else 0) ∧ Ext v6 wr) (fun v _ _ => nl - (intOf v).toNat)
  case atStart => exact ⟨0, 0, by omega, rfl, rfl, by rw [if_neg (by omega)], Ext.refl _⟩
  case round =>
    obtain ⟨k, cn, hk, rfl, rfl, hcn, hX⟩ := hrel
    have HX := Lib.hid hX
    have HCN := Lib.hid hcn
    clear hX hcn
    by_cases hlt : k < nl
    · have hlL : k < L.length := by rw [← HNL.out]; exact hlt
      have hlK : k < K.length := by rw [HK.out, List.length_set]; exact hlL
      obtain ⟨b1, o1, rfl, hi1⟩ := (HL6.out.ext HX.out).2 (by omega)
      obtain ⟨b2, o2, rfl, hi2⟩ := (HK6.out.ext HX.out).2 (by omega)
      obtain ⟨x1, m1, c1, hc1, hl1, _, _, hs1, hb1, _⟩ := hi1 k hlL
      obtain ⟨x2, m2, c2, hc2, hl2, _, _, hs2, hb2, _⟩ := hi2 k hlK
      have hkn : (k : Int) < nl := by omega
      have HKE := Lib.hid (show (k ≠ jq → L[k] = K[k]) ∧ (k = jq → L[k] ≠ K[k]) from ⟨fun e => by
        simp only [HK.out, List.getElem_set, if_neg (fun h => e (Eq.symm h) : ¬ jq = k)], fun e => by
        subst e
        simp only [HK.out, List.getElem_set, if_true]
        exact HNE2.out hlL⟩)
      generalize L[k] = xs at *
      generalize K[k] = zs at *
      clear hi1 hi2 hlL hlK
      obtain ⟨S1, hS1⟩ : ∃ q, q = strOf xs := ⟨_, rfl⟩
      by_cases hkj : k = jq
      · have hxy := HKE.out.2 hkj
        obtain ⟨S2, hS2⟩ : ∃ q, q = strOf zs := ⟨_, rfl⟩
        have hq1 : (S1.toList == S2.toList) = false := by rw [hS1, hS2, strOf_eq hb1 hb2]; simpa using hxy
        have hq2 : ¬ (S1.toList = S2.toList) := by simpa using hq1
        have HCN1 := Lib.hid (show cn + 1 = (if jq < k + 1 then 1 else 0) from by rw [HCN.out, if_neg (by omega), if_pos (by omega)]; rfl)
        have hwc : IntKind.i64.wrap (cn + 1) = cn + 1 := by rw [HCN.out, if_neg (by omega)]; rfl
        have HKJ := Lib.hid hkj
        clear hxy hkj
        have HALL := Lib.hid (show ∀ v : World, Ext wr v → (fun v => Ext wr v ∧ v.cell? ⟨b1, o1 + k, none⟩ = some (.slice x1 m1 c1) ∧ (convert 26 9 (.slice x1 m1 c1)).run Try.prog v = .ok (.string S1) v ∧ v.cell? ⟨b2, o2 + k, none⟩ = some (.slice x2 m2 c2) ∧ (convert 26 9 (.slice x2 m2 c2)).run Try.prog v = .ok (.string S2) v) v from fun v hv => ⟨hv, hv.keep hc1, by rw [hS1]; exact conv8 v c1 (hs1.ext hv) hl1, hv.keep hc2, by rw [hS2]; exact conv8 v c2 (hs2.ext hv) hl2⟩)
        clear hc1 hc2 hs1 hs2 hS1 hS2
        go_wp2_with fail
        refine wp_region_held_drew (S := (fun v => Ext wr v ∧ v.cell? ⟨b1, o1 + k, none⟩ = some (.slice x1 m1 c1) ∧ (convert 26 9 (.slice x1 m1 c1)).run Try.prog v = .ok (.string S1) v ∧ v.cell? ⟨b2, o2 + k, none⟩ = some (.slice x2 m2 c2) ∧ (convert 26 9 (.slice x2 m2 c2)).run Try.prog v = .ok (.string S2) v)) (by kernel_rfl) (HALL.out _ ((Ext.refl _).drew)) (fun hHeld => ?_)
        refine takeD (i := 0) (v := ?_) rfl rfl (by kernel_rfl) (by kernel_rfl) (by kernel_rfl) (fun _ _ _ h => h) (Or.inl ⟨by rfl, ?_⟩) hHeld ?_
        rotate_left
        · (intro v hv; (try obtain ⟨hv0, hv1, hv2, hv3, hv4⟩ := hv); go_simp; try (with_reducible rfl))
        (try simp only [List.setIfInBounds_toArray, List.set_cons_zero, List.set_cons_succ])
        refine takeD (i := 1) (v := ?_) rfl rfl (by kernel_rfl) (by kernel_rfl) (by kernel_rfl) (fun _ _ _ h => h) (Or.inl ⟨by rfl, ?_⟩) hHeld ?_
        rotate_left
        · (intro v hv; (try obtain ⟨hv0, hv1, hv2, hv3, hv4⟩ := hv); go_simp; try (with_reducible rfl))
        (try simp only [List.setIfInBounds_toArray, List.set_cons_zero, List.set_cons_succ])
        refine takeD (i := 2) (v := ?_) rfl rfl (by kernel_rfl) (by kernel_rfl) (by kernel_rfl) (fun _ _ _ h => h) (Or.inl ⟨by rfl, ?_⟩) hHeld ?_
        rotate_left
        · (intro v hv; (try obtain ⟨hv0, hv1, hv2, hv3, hv4⟩ := hv); go_simp; try (with_reducible rfl))
        (try simp only [List.setIfInBounds_toArray, List.set_cons_zero, List.set_cons_succ])
        refine takeD (i := 3) (v := ?_) rfl rfl (by kernel_rfl) (by kernel_rfl) (by kernel_rfl) (fun _ _ _ h => h) (Or.inl ⟨by rfl, ?_⟩) hHeld ?_
        rotate_left
        · (intro v hv; (try obtain ⟨hv0, hv1, hv2, hv3, hv4⟩ := hv); go_simp; try (with_reducible rfl))
        (try simp only [List.setIfInBounds_toArray, List.set_cons_zero, List.set_cons_succ])
        refine takeD (i := 4) (v := (.string S1)) rfl rfl (by kernel_rfl) (by kernel_rfl) (by kernel_rfl) (fun _ _ _ h => h) (Or.inl ⟨by rfl, ?_⟩) hHeld ?_
        · (intro v hv; (try obtain ⟨hv0, hv1, hv2, hv3, hv4⟩ := hv); go_simp; try (with_reducible rfl))
        (try simp only [List.setIfInBounds_toArray, List.set_cons_zero, List.set_cons_succ])
        refine takeD (i := 5) (v := ?_) rfl rfl (by kernel_rfl) (by kernel_rfl) (by kernel_rfl) (fun _ _ _ h => h) (Or.inl ⟨by rfl, ?_⟩) hHeld ?_
        rotate_left
        · (intro v hv; (try obtain ⟨hv0, hv1, hv2, hv3, hv4⟩ := hv); go_simp; try (with_reducible rfl))
        (try simp only [List.setIfInBounds_toArray, List.set_cons_zero, List.set_cons_succ])
        refine takeD (i := 6) (v := ?_) rfl rfl (by kernel_rfl) (by kernel_rfl) (by kernel_rfl) (fun _ _ _ h => h) (Or.inl ⟨by rfl, ?_⟩) hHeld ?_
        rotate_left
        · (intro v hv; (try obtain ⟨hv0, hv1, hv2, hv3, hv4⟩ := hv); go_simp; try (with_reducible rfl))
        (try simp only [List.setIfInBounds_toArray, List.set_cons_zero, List.set_cons_succ])
        refine takeD (i := 7) (v := ?_) rfl rfl (by kernel_rfl) (by kernel_rfl) (by kernel_rfl) (fun _ _ _ h => h) (Or.inl ⟨by rfl, ?_⟩) hHeld ?_
        rotate_left
        · (intro v hv; (try obtain ⟨hv0, hv1, hv2, hv3, hv4⟩ := hv); go_simp; try (with_reducible rfl))
        (try simp only [List.setIfInBounds_toArray, List.set_cons_zero, List.set_cons_succ])
        refine takeD (i := 8) (v := ?_) rfl rfl (by kernel_rfl) (by kernel_rfl) (by kernel_rfl) (fun _ _ _ h => h) (Or.inl ⟨by rfl, ?_⟩) hHeld ?_
        rotate_left
        · (intro v hv; (try obtain ⟨hv0, hv1, hv2, hv3, hv4⟩ := hv); go_simp; try (with_reducible rfl))
        (try simp only [List.setIfInBounds_toArray, List.set_cons_zero, List.set_cons_succ])
        refine takeD (i := 9) (v := (.string S2)) rfl rfl (by kernel_rfl) (by kernel_rfl) (by kernel_rfl) (fun _ _ _ h => h) (Or.inl ⟨by rfl, ?_⟩) hHeld ?_
        · (intro v hv; (try obtain ⟨hv0, hv1, hv2, hv3, hv4⟩ := hv); go_simp; try (with_reducible rfl))
        (try simp only [List.setIfInBounds_toArray, List.set_cons_zero, List.set_cons_succ])
        refine takeD (i := 10) (v := (.bool true)) rfl rfl (by kernel_rfl) (by kernel_rfl) (by kernel_rfl) (fun _ _ _ h => h) (Or.inl ⟨by rfl, ?_⟩) hHeld ?_
        · (intro v hv; (try obtain ⟨hv0, hv1, hv2, hv3, hv4⟩ := hv); go_simp; try (with_reducible rfl))
        (try simp only [List.setIfInBounds_toArray, List.set_cons_zero, List.set_cons_succ])
        refine wpAnyH_done (by kernel_rfl) ?_ _
        have HH := Lib.hid hHeld
        clear hHeld
        go_wp2
        go_roundw
        case rel => exact ⟨k + 1, cn + 1, hlt, by go_num, by go_num, HCN1.out, HX.out.trans HH.out.1⟩
        case measure => simp [intOf]; omega
      · have hxy := HKE.out.1 hkj
        have hS2 : S1 = strOf zs := by rw [← hxy]; exact hS1
        have hq1 : (S1.toList == S1.toList) = true := by simp
        have HCN1 := Lib.hid (show cn = (if jq < k + 1 then 1 else 0) from by
          rw [HCN.out]
          by_cases h : jq < k
          · rw [if_pos h, if_pos (by omega)]
          · rw [if_neg h, if_neg (by omega)])
        clear hxy
        have HALL := Lib.hid (show ∀ v : World, Ext wr v → (fun v => Ext wr v ∧ v.cell? ⟨b1, o1 + k, none⟩ = some (.slice x1 m1 c1) ∧ (convert 26 9 (.slice x1 m1 c1)).run Try.prog v = .ok (.string S1) v ∧ v.cell? ⟨b2, o2 + k, none⟩ = some (.slice x2 m2 c2) ∧ (convert 26 9 (.slice x2 m2 c2)).run Try.prog v = .ok (.string S1) v) v from fun v hv => ⟨hv, hv.keep hc1, by rw [hS1]; exact conv8 v c1 (hs1.ext hv) hl1, hv.keep hc2, by rw [hS2]; exact conv8 v c2 (hs2.ext hv) hl2⟩)
        clear hc1 hc2 hs1 hs2 hS1 hS2
        go_wp2_with fail
        refine wp_region_held_drew (S := (fun v => Ext wr v ∧ v.cell? ⟨b1, o1 + k, none⟩ = some (.slice x1 m1 c1) ∧ (convert 26 9 (.slice x1 m1 c1)).run Try.prog v = .ok (.string S1) v ∧ v.cell? ⟨b2, o2 + k, none⟩ = some (.slice x2 m2 c2) ∧ (convert 26 9 (.slice x2 m2 c2)).run Try.prog v = .ok (.string S1) v)) (by kernel_rfl) (HALL.out _ ((Ext.refl _).drew)) (fun hHeld => ?_)
        refine takeD (i := 0) (v := ?_) rfl rfl (by kernel_rfl) (by kernel_rfl) (by kernel_rfl) (fun _ _ _ h => h) (Or.inl ⟨by rfl, ?_⟩) hHeld ?_
        rotate_left
        · (intro v hv; (try obtain ⟨hv0, hv1, hv2, hv3, hv4⟩ := hv); go_simp; try (with_reducible rfl))
        (try simp only [List.setIfInBounds_toArray, List.set_cons_zero, List.set_cons_succ])
        refine takeD (i := 1) (v := ?_) rfl rfl (by kernel_rfl) (by kernel_rfl) (by kernel_rfl) (fun _ _ _ h => h) (Or.inl ⟨by rfl, ?_⟩) hHeld ?_
        rotate_left
        · (intro v hv; (try obtain ⟨hv0, hv1, hv2, hv3, hv4⟩ := hv); go_simp; try (with_reducible rfl))
        (try simp only [List.setIfInBounds_toArray, List.set_cons_zero, List.set_cons_succ])
        refine takeD (i := 2) (v := ?_) rfl rfl (by kernel_rfl) (by kernel_rfl) (by kernel_rfl) (fun _ _ _ h => h) (Or.inl ⟨by rfl, ?_⟩) hHeld ?_
        rotate_left
        · (intro v hv; (try obtain ⟨hv0, hv1, hv2, hv3, hv4⟩ := hv); go_simp; try (with_reducible rfl))
        (try simp only [List.setIfInBounds_toArray, List.set_cons_zero, List.set_cons_succ])
        refine takeD (i := 3) (v := ?_) rfl rfl (by kernel_rfl) (by kernel_rfl) (by kernel_rfl) (fun _ _ _ h => h) (Or.inl ⟨by rfl, ?_⟩) hHeld ?_
        rotate_left
        · (intro v hv; (try obtain ⟨hv0, hv1, hv2, hv3, hv4⟩ := hv); go_simp; try (with_reducible rfl))
        (try simp only [List.setIfInBounds_toArray, List.set_cons_zero, List.set_cons_succ])
        refine takeD (i := 4) (v := (.string S1)) rfl rfl (by kernel_rfl) (by kernel_rfl) (by kernel_rfl) (fun _ _ _ h => h) (Or.inl ⟨by rfl, ?_⟩) hHeld ?_
        · (intro v hv; (try obtain ⟨hv0, hv1, hv2, hv3, hv4⟩ := hv); go_simp; try (with_reducible rfl))
        (try simp only [List.setIfInBounds_toArray, List.set_cons_zero, List.set_cons_succ])
        refine takeD (i := 5) (v := ?_) rfl rfl (by kernel_rfl) (by kernel_rfl) (by kernel_rfl) (fun _ _ _ h => h) (Or.inl ⟨by rfl, ?_⟩) hHeld ?_
        rotate_left
        · (intro v hv; (try obtain ⟨hv0, hv1, hv2, hv3, hv4⟩ := hv); go_simp; try (with_reducible rfl))
        (try simp only [List.setIfInBounds_toArray, List.set_cons_zero, List.set_cons_succ])
        refine takeD (i := 6) (v := ?_) rfl rfl (by kernel_rfl) (by kernel_rfl) (by kernel_rfl) (fun _ _ _ h => h) (Or.inl ⟨by rfl, ?_⟩) hHeld ?_
        rotate_left
        · (intro v hv; (try obtain ⟨hv0, hv1, hv2, hv3, hv4⟩ := hv); go_simp; try (with_reducible rfl))
        (try simp only [List.setIfInBounds_toArray, List.set_cons_zero, List.set_cons_succ])
        refine takeD (i := 7) (v := ?_) rfl rfl (by kernel_rfl) (by kernel_rfl) (by kernel_rfl) (fun _ _ _ h => h) (Or.inl ⟨by rfl, ?_⟩) hHeld ?_
        rotate_left
        · (intro v hv; (try obtain ⟨hv0, hv1, hv2, hv3, hv4⟩ := hv); go_simp; try (with_reducible rfl))
        (try simp only [List.setIfInBounds_toArray, List.set_cons_zero, List.set_cons_succ])
        refine takeD (i := 8) (v := ?_) rfl rfl (by kernel_rfl) (by kernel_rfl) (by kernel_rfl) (fun _ _ _ h => h) (Or.inl ⟨by rfl, ?_⟩) hHeld ?_
        rotate_left
        · (intro v hv; (try obtain ⟨hv0, hv1, hv2, hv3, hv4⟩ := hv); go_simp; try (with_reducible rfl))
        (try simp only [List.setIfInBounds_toArray, List.set_cons_zero, List.set_cons_succ])
        refine takeD (i := 9) (v := (.string S1)) rfl rfl (by kernel_rfl) (by kernel_rfl) (by kernel_rfl) (fun _ _ _ h => h) (Or.inl ⟨by rfl, ?_⟩) hHeld ?_
        · (intro v hv; (try obtain ⟨hv0, hv1, hv2, hv3, hv4⟩ := hv); go_simp; try (with_reducible rfl))
        (try simp only [List.setIfInBounds_toArray, List.set_cons_zero, List.set_cons_succ])
        refine takeD (i := 10) (v := ?_) rfl rfl (by kernel_rfl) (by kernel_rfl) (by kernel_rfl) (fun _ _ _ h => h) (Or.inl ⟨by rfl, ?_⟩) hHeld ?_
        rotate_left
        · (intro v hv; (try obtain ⟨hv0, hv1, hv2, hv3, hv4⟩ := hv); go_simp; try (with_reducible rfl))
        (try simp only [List.setIfInBounds_toArray, List.set_cons_zero, List.set_cons_succ])
        refine wpAnyH_done (by kernel_rfl) ?_ _
        have HH := Lib.hid hHeld
        clear hHeld
        go_wp2
        go_roundw
        case rel => exact ⟨k + 1, cn, hlt, by go_num, rfl, HCN1.out, HX.out.trans HH.out.1⟩
        case measure => simp [intOf]; omega
    · obtain rfl : k = nl := by omega
      have hcn1 : cn = 1 := by rw [HCN.out, if_pos HJQ.out]
      subst hcn1
      go_wp2
      go_ret
      exact ⟨rfl, HXV.out.trans (HX6.out.trans HX.out)⟩
end Go.Proofs.Ytnodinancnfoeaa.Mt
