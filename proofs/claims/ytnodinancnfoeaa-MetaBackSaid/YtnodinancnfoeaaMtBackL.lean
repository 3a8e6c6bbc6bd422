/- The law MetaBack (printed by gen_back14.py). -/
import Derived.Test.YtnodinancnfoeaaMtQ
import Derived.Test.YtnodinancnfoeaaMtF
import Derived.Deep.DeepCutAuto
namespace Go.Proofs.Ytnodinancnfoeaa.Mt
open Go.RowKit Words Mem Plain Ops Agg OwnS Intern Ino
open Go.Joins Go.ChangeShapes Go.WideShapes Go.Deep
set_option linter.ambiguousOpen false
set_option linter.unusedVariables false
set_option linter.unusedSimpArgs false

theorem nil_lay (J I G P : Int) : layM J I G P nilM = ([], 1) := by
  have : rightM J I G P nilM = false := by
    cases h : rightM J I G P nilM
    · rfl
    · have := (rightM_out h).2.2.2.1
      cases this
  unfold layM
  rw [this]; rfl
theorem nil_take (J I G P : Int) : takeM J I G P [] = (nilM, 140) := takeM_no (fun h => by
  have h1 := h.len
  have h2 := Super.right_bd h.right
  simp at h1
  omega)
/-- What is taken, laid again. -/
theorem take_lay_any (J I G P : Int) (F : List (List Int)) (hb : ∀ xs ∈ F, isBytes xs) : ∃ C h D i, takeM J I G P F = (C, h) ∧ layM J I G P C = (D, i) ∧ ((h = 0 ∧ i = 0 ∧ D = F) ∨ (h = 140 ∧ C = nilM ∧ D = [] ∧ i = 1)) := by
  by_cases hk : okT J I G P F
  · exact ⟨_, 0, F, 0, takeM_yes hk, got_lay hb hk, .inl ⟨rfl, rfl, rfl⟩⟩
  · exact ⟨nilM, 140, [], 1, takeM_no hk, nil_lay J I G P, .inr ⟨rfl, rfl, rfl, rfl⟩⟩
theorem sl_keep {w : World} {a : Option Addr} {xs V : List Value} {g : Nat} {t : TypeId} (h : Sl w a xs) (hx : ∀ x ∈ xs, ∃ k y, x = .int k y) (hr : Row w g t V) (hV : ∀ v ∈ V, ∀ k y, v ≠ .int k y) (c : Array Value) : Sl (w.setRow g c) a xs := fun j hj => by
  obtain ⟨ad, e, hc⟩ := h j hj
  refine ⟨ad, e, ?_⟩
  obtain ⟨b, off, sp⟩ := ad
  have hsp : sp = none := by
    cases sp with
    | none => rfl
    | some s =>
      obtain ⟨ad0, e0, hc0⟩ := h 0 (by omega)
      rw [e] at e0
      cases e0
      simp [Addr.add, World.cell?] at hc0
      split at hc0 <;> simp at hc0
  subst hsp
  rw [Addr.add_lit] at hc ⊢
  have hne : b ≠ g := fun e2 => by
    subst e2
    obtain ⟨k, y, hk⟩ := hx _ (List.getElem_mem hj)
    rw [hk, hr.cell?] at hc
    exact hV _ (List.mem_of_getElem? hc) k y rfl
  rw [World.cell?_of_block (w' := w.setRow g c) (w := w) (a := ⟨b, off + j, none⟩) (Go.setRow_other w g b c hne)]
  exact hc
theorem ints_int (k : IntKind) (L : List Int) : ∀ x ∈ ints k L, ∃ k y, x = .int k y := fun x hx => by
  obtain ⟨y, _, rfl⟩ := List.mem_map.1 hx
  exact ⟨k, y, rfl⟩
theorem MetaIn.setRow4 {w : World} {p : Pl} {M : MetaT} {g : Nat} {a0 a1 a2 a3 : Option Addr} {n0 n1 n2 n3 c0 c1 c2 c3 : Nat} (h : MetaIn w p M) (hr : Row w g 29 [.slice a0 n0 c0, .slice a1 n1 c1, .slice a2 n2 c2, .slice a3 n3 c3]) (c : Array Value) : MetaIn (w.setRow g c) p M := by
  have hV : ∀ v ∈ [Value.slice a0 n0 c0, .slice a1 n1 c1, .slice a2 n2 c2, .slice a3 n3 c3], ∀ k y, v ≠ .int k y := by
    intro v hv k y
    simp at hv
    rcases hv with rfl | rfl | rfl | rfl <;> exact fun e => by cases e
  refine ⟨sl_keep h.rows (fun x hx => ?_) hr hV c, sl_keep h.owners (ints_int _ _) hr hV c, sl_keep h.used (ints_int _ _) hr hV c, sl_keep h.inodes (fun x hx => ?_) hr hV c, h.wfr, h.bu, h.wfi, h.few, h.nil⟩
  · obtain ⟨r, _, hr2⟩ := List.mem_flatMap.1 hx
    simp at hr2
    rcases hr2 with rfl | rfl <;> exact ⟨_, _, rfl⟩
  · obtain ⟨n, _, hn⟩ := List.mem_flatMap.1 hx
    simp [inoC] at hn
    rcases hn with rfl | rfl | rfl | rfl | rfl | rfl | rfl | rfl | rfl | rfl | rfl | rfl | rfl | rfl <;> exact ⟨_, _, rfl⟩
set_option maxHeartbeats 16000000 in
set_option maxRecDepth 100000 in
theorem back_walk (J I G P : Int) (p : Pl) (M : MetaT) (a : Option Addr) (n cap : Nat) (L : List (List Int)) (w : World) (hin : M.small → MetaIn w p M) (hnc : n ≤ cap) (hcm : cap ≤ 9223372036854775807) (hls : LsIn w a n L) :
    Calls Try.prog 7 #[Super.geoV J I G P, metaV p M, .slice a n cap] w fun e w' => e = .returned (.bool true) ∧ Ext w w' := by
  obtain ⟨nf, hnf, hnfc, hfl, hfew⟩ := few_use a n cap L w hnc hcm hls
  generalize fewL L = F at *
  obtain ⟨C, h, D, i, hC, hD, hCD⟩ := take_lay_any J I G P F hfl.bytes
  have HF := Lib.hid (And.intro hnf (And.intro hnfc (And.intro hcm hfl)))
  have HFEW := Lib.hid hfew
  have HTC := Lib.hid hC
  have HLD := Lib.hid hD
  have HCD := Lib.hid hCD
  clear hnf hnfc hfl hfew hC hD hCD hcm hls hnc
  obtain ⟨hbox, hbx⟩ := BoxAt.new w J I G P p M
  have hsh := shown_ok (boxW w J I G P p M)
  have hsb : (boxW w J I G P p M).heap.size = w.heap.size + 2 := by simp [boxW]
  have HBX := Lib.hid hbx
  have HBOX := Lib.hid hbox
  have HSB := Lib.hid hsb
  have HIN := Lib.hid hin
  clear hbox hbx hin hsb
  go_enter Try.func7, Try.ntmps7
  go_wp2_with fail
  refine hsh.mono ?_
  rintro e w1 ⟨rfl, h1⟩
  have HX1 := Lib.hid (HBX.out.trans h1)
  have HZ1 := Lib.hid (HSB.out ▸ h1.size)
  have HB1 := Lib.hid (HBOX.out.ext h1)
  obtain ⟨⟨g0, g1, g2, g3⟩, m0, m1, m2, m3⟩ := HB1.out
  clear h1 hsh HBOX HSB
  have hsm := small_ok p M w1
  obtain ⟨sb, hsb⟩ : ∃ q, q = decide (M.rows.length ≤ 100 ∧ M.owners.length ≤ 100 ∧ M.used.length ≤ 200 ∧ M.inodes.length ≤ 100) := ⟨_, rfl⟩
  rw [← hsb] at hsm
  have HSB := Lib.hid hsb
  clear hsb
  go_wp2_with fail
  refine hsm.mono ?_
  rintro e w2 ⟨rfl, h2⟩
  have HX2 := Lib.hid (HX1.out.trans h2)
  have HZ2 := Lib.hid (Nat.le_trans HZ1.out h2.size)
  have HB2 := Lib.hid (HB1.out.ext h2)
  clear h2 hsm g0 g1 g2 g3 m0 m1 m2 m3 HB1
  obtain ⟨⟨g0, g1, g2, g3⟩, m0, m1, m2, m3⟩ := HB2.out
  cases sb
  · go_wp2
    go_ret
    exact ⟨rfl, HX2.out⟩
  have hsmall : M.small := by simpa [MetaT.small] using HSB.out.symm
  have HM := Lib.hid (HIN.out hsmall)
  have hf := HM.out.few
  have hz := zeroMeta
  clear hsmall HIN HSB
  clear hf
  cases hr : rightM J I G P M
  · have hl0 : layM J I G P M = ([], 1) := by unfold layM; rw [hr]; rfl
    have HRR := Lib.hid hr
    have hlay := Lay_ok J I G P p M w2 (HM.out.ext HX2.out)
    rw [hl0] at hlay
    clear hr hl0
    go_wp2_with fail
    refine hlay.mono ?_
    rintro e w3 ⟨al, cl, rfl, hS3, h3⟩
    dsimp only at hS3 ⊢
    have HX3 := Lib.hid (HX2.out.trans h3)
    have HB3 := Lib.hid (HB2.out.ext h3)
    have HCL := Lib.hid (show 0 ≤ cl ∧ cl ≤ 9223372036854775807 from by obtain ⟨H, _, hh, _⟩ := hS3.ex; exact ownS_cap hh)
    have HLS3 := Lib.hid (show LsIn w3 al 0 ([] : List (List Int)) from ⟨rfl, fun h => absurd h (by omega)⟩)
    clear hlay hS3 h3 g0 g1 g2 g3 m0 m1 m2 m3
    obtain ⟨⟨g0, g1, g2, g3⟩, m0, m1, m2, m3⟩ := HB3.out
    have htk := Take_ok J I G P al 0 cl ([] : List (List Int)) w3 HLS3.out (by omega) HCL.out.1 HCL.out.2
    rw [(nil_take J I G P)] at htk
    rw [show (List.length ([] : List (List Int))) = 0 from rfl]
    go_wp2_with fail
    refine htk.mono ?_
    rintro e w4 ⟨p4, rfl, hin4, h4⟩
    have hX5 := (Ext.refl w4).alloc (.cells #[.slice p4.ra nilM.rows.length p4.rc, .slice p4.oa nilM.owners.length p4.oc, .slice p4.ua nilM.used.length p4.uc, .slice p4.ia nilM.inodes.length p4.ic] 29)
    have hrow5 := Row.new w4 29 [.slice p4.ra nilM.rows.length p4.rc, .slice p4.oa nilM.owners.length p4.oc, .slice p4.ua nilM.used.length p4.uc, .slice p4.ia nilM.inodes.length p4.ic]
    obtain ⟨g5, hg5⟩ : ∃ z, z = w4.heap.size := ⟨_, rfl⟩
    obtain ⟨w5, hw5⟩ : ∃ z, z = w4.alloc (.cells #[.slice p4.ra nilM.rows.length p4.rc, .slice p4.oa nilM.owners.length p4.oc, .slice p4.ua nilM.used.length p4.uc, .slice p4.ia nilM.inodes.length p4.ic] 29) := ⟨_, rfl⟩
    have hrow5 : Row w5 g5 29 [.slice p4.ra nilM.rows.length p4.rc, .slice p4.oa nilM.owners.length p4.oc, .slice p4.ua nilM.used.length p4.uc, .slice p4.ia nilM.inodes.length p4.ic] := by rw [hw5, hg5]; exact hrow5
    rw [← hw5] at hX5
    have HX5 := Lib.hid (HX3.out.trans (h4.trans hX5))
    have HB5 := Lib.hid (HB3.out.ext (h4.trans hX5))
    have HR5 := Lib.hid hrow5
    have HIN5 := Lib.hid (hin4.ext hX5)
    have HW5 := Lib.hid hw5
    have HG5 := Lib.hid hg5
    clear htk hin4 h4 hX5 hrow5 hw5 hg5 g0 g1 g2 g3 m0 m1 m2 m3
    obtain ⟨⟨g0, g1, g2, g3⟩, m0, m1, m2, m3⟩ := HB5.out
    have hright := Right_ok J I G P p M w5 (HM.out.ext HX5.out)
    rw [HRR.out] at hright
    have hright : Calls Try.prog 16 #[Super.geoV J I G P, .agg #[.slice p.ra M.rows.length p.rc, .slice p.oa M.owners.length p.oc, .slice p.ua M.used.length p.uc, .slice p.ia M.inodes.length p.ic]] w5 _ := hright
    dsimp only [metaV, metaCs]
    go_upto_region 6 with fail
    rw [← HW5.out, ← HG5.out]
    go_wp2_with fail
    refine hright.mono ?_
    rintro e w6 ⟨rfl, h6⟩
    have HX6 := Lib.hid (HX5.out.trans h6)
    have HB6 := Lib.hid (HB5.out.ext h6)
    clear hright g0 g1 g2 g3 m0 m1 m2 m3
    obtain ⟨⟨g0, g1, g2, g3⟩, m0, m1, m2, m3⟩ := HB6.out
    clear h6 g0 g1 g2 g3 m0 m1 m2 m3
    have HTK2 := Lib.hid (fun (v : World) (e : Ext w6 v) => (show Calls Try.prog 20 #[Super.geoV J I G P, .slice a nf cap] v (GaveT v (C, h)) from by
      have := Take_ok J I G P a nf cap F v (HF.out.2.2.2.ext (HX6.out.trans e)) (by have := HF.out.1; omega) HF.out.2.1 HF.out.2.2.1
      rw [HTC.out] at this
      exact this))
    go_wp2_with fail
    refine wp_region_held_drew (S := (fun v => Ext w6 v)) (by kernel_rfl) ((Ext.refl _).drew) (fun hHeld => ?_)
    generalize w6.drew = v0 at *
    refine takeD (i := 0) (v := ?_) rfl rfl (by kernel_rfl) (by kernel_rfl) (by kernel_rfl) (fun _ _ _ h => h) (Or.inl ⟨by rfl, ?_⟩) hHeld ?_
    rotate_left
    · (intro v hv; (obtain ⟨⟨g0, g1, g2, g3⟩, m0, m1, m2, m3⟩ := HB6.out.ext hv); go_simp; try (with_reducible rfl))
    (try simp only [List.setIfInBounds_toArray, List.set_cons_zero, List.set_cons_succ])
    refine takeD (i := 1) (v := ?_) rfl rfl (by kernel_rfl) (by kernel_rfl) (by kernel_rfl) (fun _ _ _ h => h) (Or.inl ⟨by rfl, ?_⟩) hHeld ?_
    rotate_left
    · (intro v hv; skip; go_simp; try (with_reducible rfl))
    (try simp only [List.setIfInBounds_toArray, List.set_cons_zero, List.set_cons_succ])
    refine wpAnyH_ready (rs := [2, 7]) (by kernel_rfl) (by simp) ?_
    refine AllReadyH.cons rfl (fun K hK => ?_) ?_
    · go_simp
      refine (HFEW.out _ (HX6.out.trans hHeld)).mono ?_
      rintro e vn ⟨rfl, rfl⟩
      refine hK.out _ _ hHeld (fun hHeld => ?_)
      clear hK
      refine wpAnyH_ready (rs := [3, 7]) (by kernel_rfl) (by simp) ?_
      refine AllReadyH.cons rfl (fun K hK => ?_) ?_
      · go_simp
        refine (HTK2.out _ hHeld).mono ?_
        rintro e vt ⟨p8, rfl, hin8, hxn⟩
        refine hK.out _ _ (hHeld.trans hxn) (fun hHeld => ?_)
        have HIN8 := Lib.hid hin8
        clear hK hxn hin8
        dsimp only [metaV, metaCs]
        refine takeD (i := 4) (v := ?_) rfl rfl (by kernel_rfl) (by kernel_rfl) (by kernel_rfl) (fun _ _ _ h => h) (Or.inl ⟨by rfl, ?_⟩) hHeld ?_
        rotate_left
        · (intro v hv; skip; go_simp; try (with_reducible rfl))
        (try simp only [List.setIfInBounds_toArray, List.set_cons_zero, List.set_cons_succ])
        refine takeD (i := 5) (v := ?_) rfl rfl (by kernel_rfl) (by kernel_rfl) (by kernel_rfl) (fun _ _ _ h => h) (Or.inl ⟨by rfl, ?_⟩) hHeld ?_
        rotate_left
        · (intro v hv; skip; go_simp; try (with_reducible rfl))
        (try simp only [List.setIfInBounds_toArray, List.set_cons_zero, List.set_cons_succ])
        refine takeD (i := 6) (v := ?_) rfl rfl (by kernel_rfl) (by kernel_rfl) (by kernel_rfl) (fun _ _ _ h => h) (Or.inl ⟨by rfl, ?_⟩) hHeld ?_
        rotate_left
        · (intro v hv; skip; go_simp; try (with_reducible rfl))
        (try simp only [List.setIfInBounds_toArray, List.set_cons_zero, List.set_cons_succ])
        refine wpAnyH_ready (rs := [7]) (by kernel_rfl) (by simp) ?_
        refine AllReadyH.cons rfl (fun K hK => ?_) AllReadyH.nil
        have hrow9 := Row.new vt 29 [.slice none 0 0, .slice none 0 0, .slice none 0 0, .slice none 0 0]
        have hX9 := (Ext.refl vt).alloc (.cells #[.slice none 0 0, .slice none 0 0, .slice none 0 0, .slice none 0 0] 29)
        obtain ⟨g9, hg9⟩ : ∃ z, z = vt.heap.size := ⟨_, rfl⟩
        obtain ⟨w8, hw8⟩ : ∃ z, z = vt.alloc (.cells #[.slice none 0 0, .slice none 0 0, .slice none 0 0, .slice none 0 0] 29) := ⟨_, rfl⟩
        have hrow9 : Row w8 g9 29 [.slice none 0 0, .slice none 0 0, .slice none 0 0, .slice none 0 0] := by rw [hw8, hg9]; exact hrow9
        rw [← hw8] at hX9
        go_simp
        rw [← hw8, ← hg9]
        have HR8 := Lib.hid hrow9
        have HS8 := Lib.hid (show w6.heap.size ≤ g9 by rw [hg9]; exact hHeld.size)
        refine hK.out _ _ (hHeld.trans hX9) (fun hHeld => ?_)
        have HIN8 := Lib.hid (HIN8.out.ext hX9)
        clear hK hrow9 hX9 hw8 hg9
        refine wpAnyH_ready (rs := [8]) (by kernel_rfl) (by simp) ?_
        refine AllReadyH.cons rfl (fun K hK => ?_) AllReadyH.nil
        first | rw [if_pos (by rfl)] | skip
        refine store_rowN _ _ _ rfl rfl g9 #[.slice p8.ra C.rows.length p8.rc, .slice p8.oa C.owners.length p8.oc, .slice p8.ua C.used.length p8.uc, .slice p8.ia C.inodes.length p8.ic] rfl rfl 29 _ HR8.out infoMeta rfl (by simp [Value.oneCell']) ?_
        obtain ⟨w9, hw9⟩ : ∃ z, z = w8.setRow g9 #[.slice p8.ra C.rows.length p8.rc, .slice p8.oa C.owners.length p8.oc, .slice p8.ua C.used.length p8.uc, .slice p8.ia C.inodes.length p8.ic] := ⟨_, rfl⟩
        have hrow9 : Row w9 g9 29 [.slice p8.ra C.rows.length p8.rc, .slice p8.oa C.owners.length p8.oc, .slice p8.ua C.used.length p8.uc, .slice p8.ia C.inodes.length p8.ic] := by rw [hw9]; exact HR8.out.setRow #[.slice p8.ra C.rows.length p8.rc, .slice p8.oa C.owners.length p8.oc, .slice p8.ua C.used.length p8.uc, .slice p8.ia C.inodes.length p8.ic]
        have hin9 : MetaIn w9 p8 C := by rw [hw9]; exact MetaIn.setRow4 HIN8.out HR8.out _
        have hxw9 : Ext w6 w9 := by rw [hw9]; exact hHeld.setRow HS8.out _
        rw [← hw9]
        refine hK.out _ _ hxw9 (fun hHeld => ?_)
        have HR9 := Lib.hid hrow9
        have HIN9 := Lib.hid hin9
        have HXW9 := Lib.hid hxw9
        clear hK hrow9 hin9 hxw9 hw9
        refine takeD (i := 9) (v := ?_) rfl rfl (by kernel_rfl) (by kernel_rfl) (by kernel_rfl) (fun _ _ _ h => h) (Or.inl ⟨by rfl, ?_⟩) hHeld ?_
        rotate_left
        · (intro v hv; skip; go_simp; try (with_reducible rfl))
        (try simp only [List.setIfInBounds_toArray, List.set_cons_zero, List.set_cons_succ])
        refine wpAnyH_done (by kernel_rfl) ?_ _
        clear hHeld HR8 HIN8 HS8
        have HX9 := Lib.hid (HX6.out.trans HXW9.out)
        have HB9 := Lib.hid (HB6.out.ext HXW9.out)
        obtain ⟨⟨g0, g1, g2, g3⟩, m0, m1, m2, m3⟩ := HB9.out
        have q0 := (HR9.out.cell? 0).trans rfl
        have q1 := (HR9.out.cell? 1).trans rfl
        have q2 := (HR9.out.cell? 2).trans rfl
        have q3 := (HR9.out.cell? 3).trans rfl
        have hlay := Lay_ok J I G P p8 C w9 HIN9.out
        rw [HLD.out] at hlay
        have hlay : Calls Try.prog 13 #[Super.geoV J I G P, .agg #[.slice p8.ra C.rows.length p8.rc, .slice p8.oa C.owners.length p8.oc, .slice p8.ua C.used.length p8.uc, .slice p8.ia C.inodes.length p8.ic]] w9 _ := hlay
        go_wp2_with fail
        refine hlay.mono ?_
        rintro e w10 ⟨a2, c2, rfl, hS10, h10⟩
        dsimp only at hS10 ⊢
        have HX10 := Lib.hid (HX9.out.trans h10)
        have HR10 := Lib.hid (HR9.out.ext h10)
        have HIN10 := Lib.hid (HIN9.out.ext h10)
        have HS10 := Lib.hid hS10
        clear hlay hS10 h10 q0 q1 q2 q3 g0 g1 g2 g3 m0 m1 m2 m3
        have hcd := HCD.out
        rcases hcd with ⟨rfl, rfl, rfl⟩ | ⟨rfl, rfl, rfl, rfl⟩
        · have hfew := HFEW.out w10 HX10.out
          have hss := SameS_ok a2 D.length c2 D a nf cap D w10 (HS10.out.ls HF.out.2.2.2.bytes) (HF.out.2.2.2.ext HX10.out) (by have := HF.out.1; have := HF.out.2.2.2.1; omega)
          rw [show sameLs D D = true by simp [sameLs]] at hss
          go_wp2_with fail
          refine hfew.mono ?_
          rintro e vn ⟨rfl, rfl⟩
          go_wp2_with fail
          refine hss.mono ?_
          rintro e w11 ⟨rfl, h11⟩
          have HX11 := Lib.hid (HX10.out.trans h11)
          clear hfew hss h11
          go_wp2
          go_ret
          exact ⟨rfl, HX11.out⟩
        · have hsame := Same_yes p8 nilP nilM w10 HIN10.out (nil_in _)
          have hsame : Calls Try.prog 15 #[.agg #[.slice p8.ra nilM.rows.length p8.rc, .slice p8.oa nilM.owners.length p8.oc, .slice p8.ua nilM.used.length p8.uc, .slice p8.ia nilM.inodes.length p8.ic], .agg #[.slice none 0 0, .slice none 0 0, .slice none 0 0, .slice none 0 0]] w10 _ := hsame
          have q0 := (HR10.out.cell? 0).trans rfl
          have q1 := (HR10.out.cell? 1).trans rfl
          have q2 := (HR10.out.cell? 2).trans rfl
          have q3 := (HR10.out.cell? 3).trans rfl
          go_wp2_with fail
          refine hsame.mono ?_
          rintro e w11 ⟨rfl, h11⟩
          have HX11 := Lib.hid (HX10.out.trans h11)
          clear hsame h11 q0 q1 q2 q3
          go_wp2
          go_ret
          exact ⟨rfl, HX11.out⟩
      refine AllReadyH.cons rfl (fun K hK => ?_) AllReadyH.nil
      have hrow9 := Row.new v0 29 [.slice none 0 0, .slice none 0 0, .slice none 0 0, .slice none 0 0]
      have hX9 := (Ext.refl v0).alloc (.cells #[.slice none 0 0, .slice none 0 0, .slice none 0 0, .slice none 0 0] 29)
      obtain ⟨g9, hg9⟩ : ∃ z, z = v0.heap.size := ⟨_, rfl⟩
      obtain ⟨w8, hw8⟩ : ∃ z, z = v0.alloc (.cells #[.slice none 0 0, .slice none 0 0, .slice none 0 0, .slice none 0 0] 29) := ⟨_, rfl⟩
      have hrow9 : Row w8 g9 29 [.slice none 0 0, .slice none 0 0, .slice none 0 0, .slice none 0 0] := by rw [hw8, hg9]; exact hrow9
      rw [← hw8] at hX9
      go_simp
      rw [← hw8, ← hg9]
      have HR8 := Lib.hid hrow9
      have HS8 := Lib.hid (show w6.heap.size ≤ g9 by rw [hg9]; exact hHeld.size)
      refine hK.out _ _ (hHeld.trans hX9) (fun hHeld => ?_)
      clear hK hrow9 hX9 hw8 hg9
      refine wpAnyH_ready (rs := [3]) (by kernel_rfl) (by simp) ?_
      refine AllReadyH.cons rfl (fun K hK => ?_) AllReadyH.nil
      go_simp
      refine (HTK2.out _ hHeld).mono ?_
      rintro e vt ⟨p8, rfl, hin8, hxn⟩
      refine hK.out _ _ (hHeld.trans hxn) (fun hHeld => ?_)
      have HIN8 := Lib.hid hin8
      have HR8 := Lib.hid (HR8.out.ext hxn)
      clear hK hxn hin8
      dsimp only [metaV, metaCs]
      refine takeD (i := 4) (v := ?_) rfl rfl (by kernel_rfl) (by kernel_rfl) (by kernel_rfl) (fun _ _ _ h => h) (Or.inl ⟨by rfl, ?_⟩) hHeld ?_
      rotate_left
      · (intro v hv; skip; go_simp; try (with_reducible rfl))
      (try simp only [List.setIfInBounds_toArray, List.set_cons_zero, List.set_cons_succ])
      refine takeD (i := 5) (v := ?_) rfl rfl (by kernel_rfl) (by kernel_rfl) (by kernel_rfl) (fun _ _ _ h => h) (Or.inl ⟨by rfl, ?_⟩) hHeld ?_
      rotate_left
      · (intro v hv; skip; go_simp; try (with_reducible rfl))
      (try simp only [List.setIfInBounds_toArray, List.set_cons_zero, List.set_cons_succ])
      refine takeD (i := 6) (v := ?_) rfl rfl (by kernel_rfl) (by kernel_rfl) (by kernel_rfl) (fun _ _ _ h => h) (Or.inl ⟨by rfl, ?_⟩) hHeld ?_
      rotate_left
      · (intro v hv; skip; go_simp; try (with_reducible rfl))
      (try simp only [List.setIfInBounds_toArray, List.set_cons_zero, List.set_cons_succ])
      refine wpAnyH_ready (rs := [8]) (by kernel_rfl) (by simp) ?_
      refine AllReadyH.cons rfl (fun K hK => ?_) AllReadyH.nil
      first | rw [if_pos (by rfl)] | skip
      refine store_rowN _ _ _ rfl rfl g9 #[.slice p8.ra C.rows.length p8.rc, .slice p8.oa C.owners.length p8.oc, .slice p8.ua C.used.length p8.uc, .slice p8.ia C.inodes.length p8.ic] rfl rfl 29 _ HR8.out infoMeta rfl (by simp [Value.oneCell']) ?_
      obtain ⟨w9, hw9⟩ : ∃ z, z = vt.setRow g9 #[.slice p8.ra C.rows.length p8.rc, .slice p8.oa C.owners.length p8.oc, .slice p8.ua C.used.length p8.uc, .slice p8.ia C.inodes.length p8.ic] := ⟨_, rfl⟩
      have hrow9 : Row w9 g9 29 [.slice p8.ra C.rows.length p8.rc, .slice p8.oa C.owners.length p8.oc, .slice p8.ua C.used.length p8.uc, .slice p8.ia C.inodes.length p8.ic] := by rw [hw9]; exact HR8.out.setRow #[.slice p8.ra C.rows.length p8.rc, .slice p8.oa C.owners.length p8.oc, .slice p8.ua C.used.length p8.uc, .slice p8.ia C.inodes.length p8.ic]
      have hin9 : MetaIn w9 p8 C := by rw [hw9]; exact MetaIn.setRow4 HIN8.out HR8.out _
      have hxw9 : Ext w6 w9 := by rw [hw9]; exact hHeld.setRow HS8.out _
      rw [← hw9]
      refine hK.out _ _ hxw9 (fun hHeld => ?_)
      have HR9 := Lib.hid hrow9
      have HIN9 := Lib.hid hin9
      have HXW9 := Lib.hid hxw9
      clear hK hrow9 hin9 hxw9 hw9
      refine takeD (i := 9) (v := ?_) rfl rfl (by kernel_rfl) (by kernel_rfl) (by kernel_rfl) (fun _ _ _ h => h) (Or.inl ⟨by rfl, ?_⟩) hHeld ?_
      rotate_left
      · (intro v hv; skip; go_simp; try (with_reducible rfl))
      (try simp only [List.setIfInBounds_toArray, List.set_cons_zero, List.set_cons_succ])
      refine wpAnyH_done (by kernel_rfl) ?_ _
      clear hHeld HR8 HIN8 HS8
      have HX9 := Lib.hid (HX6.out.trans HXW9.out)
      have HB9 := Lib.hid (HB6.out.ext HXW9.out)
      obtain ⟨⟨g0, g1, g2, g3⟩, m0, m1, m2, m3⟩ := HB9.out
      have q0 := (HR9.out.cell? 0).trans rfl
      have q1 := (HR9.out.cell? 1).trans rfl
      have q2 := (HR9.out.cell? 2).trans rfl
      have q3 := (HR9.out.cell? 3).trans rfl
      have hlay := Lay_ok J I G P p8 C w9 HIN9.out
      rw [HLD.out] at hlay
      have hlay : Calls Try.prog 13 #[Super.geoV J I G P, .agg #[.slice p8.ra C.rows.length p8.rc, .slice p8.oa C.owners.length p8.oc, .slice p8.ua C.used.length p8.uc, .slice p8.ia C.inodes.length p8.ic]] w9 _ := hlay
      go_wp2_with fail
      refine hlay.mono ?_
      rintro e w10 ⟨a2, c2, rfl, hS10, h10⟩
      dsimp only at hS10 ⊢
      have HX10 := Lib.hid (HX9.out.trans h10)
      have HR10 := Lib.hid (HR9.out.ext h10)
      have HIN10 := Lib.hid (HIN9.out.ext h10)
      have HS10 := Lib.hid hS10
      clear hlay hS10 h10 q0 q1 q2 q3 g0 g1 g2 g3 m0 m1 m2 m3
      have hcd := HCD.out
      rcases hcd with ⟨rfl, rfl, rfl⟩ | ⟨rfl, rfl, rfl, rfl⟩
      · have hfew := HFEW.out w10 HX10.out
        have hss := SameS_ok a2 D.length c2 D a nf cap D w10 (HS10.out.ls HF.out.2.2.2.bytes) (HF.out.2.2.2.ext HX10.out) (by have := HF.out.1; have := HF.out.2.2.2.1; omega)
        rw [show sameLs D D = true by simp [sameLs]] at hss
        go_wp2_with fail
        refine hfew.mono ?_
        rintro e vn ⟨rfl, rfl⟩
        go_wp2_with fail
        refine hss.mono ?_
        rintro e w11 ⟨rfl, h11⟩
        have HX11 := Lib.hid (HX10.out.trans h11)
        clear hfew hss h11
        go_wp2
        go_ret
        exact ⟨rfl, HX11.out⟩
      · have hsame := Same_yes p8 nilP nilM w10 HIN10.out (nil_in _)
        have hsame : Calls Try.prog 15 #[.agg #[.slice p8.ra nilM.rows.length p8.rc, .slice p8.oa nilM.owners.length p8.oc, .slice p8.ua nilM.used.length p8.uc, .slice p8.ia nilM.inodes.length p8.ic], .agg #[.slice none 0 0, .slice none 0 0, .slice none 0 0, .slice none 0 0]] w10 _ := hsame
        have q0 := (HR10.out.cell? 0).trans rfl
        have q1 := (HR10.out.cell? 1).trans rfl
        have q2 := (HR10.out.cell? 2).trans rfl
        have q3 := (HR10.out.cell? 3).trans rfl
        go_wp2_with fail
        refine hsame.mono ?_
        rintro e w11 ⟨rfl, h11⟩
        have HX11 := Lib.hid (HX10.out.trans h11)
        clear hsame h11 q0 q1 q2 q3
        go_wp2
        go_ret
        exact ⟨rfl, HX11.out⟩
    refine AllReadyH.cons rfl (fun K hK => ?_) AllReadyH.nil
    have hrow9 := Row.new v0 29 [.slice none 0 0, .slice none 0 0, .slice none 0 0, .slice none 0 0]
    have hX9 := (Ext.refl v0).alloc (.cells #[.slice none 0 0, .slice none 0 0, .slice none 0 0, .slice none 0 0] 29)
    obtain ⟨g9, hg9⟩ : ∃ z, z = v0.heap.size := ⟨_, rfl⟩
    obtain ⟨w8, hw8⟩ : ∃ z, z = v0.alloc (.cells #[.slice none 0 0, .slice none 0 0, .slice none 0 0, .slice none 0 0] 29) := ⟨_, rfl⟩
    have hrow9 : Row w8 g9 29 [.slice none 0 0, .slice none 0 0, .slice none 0 0, .slice none 0 0] := by rw [hw8, hg9]; exact hrow9
    rw [← hw8] at hX9
    go_simp
    rw [← hw8, ← hg9]
    have HR8 := Lib.hid hrow9
    have HS8 := Lib.hid (show w6.heap.size ≤ g9 by rw [hg9]; exact hHeld.size)
    refine hK.out _ _ (hHeld.trans hX9) (fun hHeld => ?_)
    clear hK hrow9 hX9 hw8 hg9
    refine wpAnyH_ready (rs := [2]) (by kernel_rfl) (by simp) ?_
    refine AllReadyH.cons rfl (fun K hK => ?_) AllReadyH.nil
    go_simp
    refine (HFEW.out _ (HX6.out.trans hHeld)).mono ?_
    rintro e vn ⟨rfl, rfl⟩
    refine hK.out _ _ hHeld (fun hHeld => ?_)
    clear hK
    refine wpAnyH_ready (rs := [3]) (by kernel_rfl) (by simp) ?_
    refine AllReadyH.cons rfl (fun K hK => ?_) AllReadyH.nil
    go_simp
    refine (HTK2.out _ hHeld).mono ?_
    rintro e vt ⟨p8, rfl, hin8, hxn⟩
    refine hK.out _ _ (hHeld.trans hxn) (fun hHeld => ?_)
    have HIN8 := Lib.hid hin8
    have HR8 := Lib.hid (HR8.out.ext hxn)
    clear hK hxn hin8
    dsimp only [metaV, metaCs]
    refine takeD (i := 4) (v := ?_) rfl rfl (by kernel_rfl) (by kernel_rfl) (by kernel_rfl) (fun _ _ _ h => h) (Or.inl ⟨by rfl, ?_⟩) hHeld ?_
    rotate_left
    · (intro v hv; skip; go_simp; try (with_reducible rfl))
    (try simp only [List.setIfInBounds_toArray, List.set_cons_zero, List.set_cons_succ])
    refine takeD (i := 5) (v := ?_) rfl rfl (by kernel_rfl) (by kernel_rfl) (by kernel_rfl) (fun _ _ _ h => h) (Or.inl ⟨by rfl, ?_⟩) hHeld ?_
    rotate_left
    · (intro v hv; skip; go_simp; try (with_reducible rfl))
    (try simp only [List.setIfInBounds_toArray, List.set_cons_zero, List.set_cons_succ])
    refine takeD (i := 6) (v := ?_) rfl rfl (by kernel_rfl) (by kernel_rfl) (by kernel_rfl) (fun _ _ _ h => h) (Or.inl ⟨by rfl, ?_⟩) hHeld ?_
    rotate_left
    · (intro v hv; skip; go_simp; try (with_reducible rfl))
    (try simp only [List.setIfInBounds_toArray, List.set_cons_zero, List.set_cons_succ])
    refine wpAnyH_ready (rs := [8]) (by kernel_rfl) (by simp) ?_
    refine AllReadyH.cons rfl (fun K hK => ?_) AllReadyH.nil
    first | rw [if_pos (by rfl)] | skip
    refine store_rowN _ _ _ rfl rfl g9 #[.slice p8.ra C.rows.length p8.rc, .slice p8.oa C.owners.length p8.oc, .slice p8.ua C.used.length p8.uc, .slice p8.ia C.inodes.length p8.ic] rfl rfl 29 _ HR8.out infoMeta rfl (by simp [Value.oneCell']) ?_
    obtain ⟨w9, hw9⟩ : ∃ z, z = vt.setRow g9 #[.slice p8.ra C.rows.length p8.rc, .slice p8.oa C.owners.length p8.oc, .slice p8.ua C.used.length p8.uc, .slice p8.ia C.inodes.length p8.ic] := ⟨_, rfl⟩
    have hrow9 : Row w9 g9 29 [.slice p8.ra C.rows.length p8.rc, .slice p8.oa C.owners.length p8.oc, .slice p8.ua C.used.length p8.uc, .slice p8.ia C.inodes.length p8.ic] := by rw [hw9]; exact HR8.out.setRow #[.slice p8.ra C.rows.length p8.rc, .slice p8.oa C.owners.length p8.oc, .slice p8.ua C.used.length p8.uc, .slice p8.ia C.inodes.length p8.ic]
    have hin9 : MetaIn w9 p8 C := by rw [hw9]; exact MetaIn.setRow4 HIN8.out HR8.out _
    have hxw9 : Ext w6 w9 := by rw [hw9]; exact hHeld.setRow HS8.out _
    rw [← hw9]
    refine hK.out _ _ hxw9 (fun hHeld => ?_)
    have HR9 := Lib.hid hrow9
    have HIN9 := Lib.hid hin9
    have HXW9 := Lib.hid hxw9
    clear hK hrow9 hin9 hxw9 hw9
    refine takeD (i := 9) (v := ?_) rfl rfl (by kernel_rfl) (by kernel_rfl) (by kernel_rfl) (fun _ _ _ h => h) (Or.inl ⟨by rfl, ?_⟩) hHeld ?_
    rotate_left
    · (intro v hv; skip; go_simp; try (with_reducible rfl))
    (try simp only [List.setIfInBounds_toArray, List.set_cons_zero, List.set_cons_succ])
    refine wpAnyH_done (by kernel_rfl) ?_ _
    clear hHeld HR8 HIN8 HS8
    have HX9 := Lib.hid (HX6.out.trans HXW9.out)
    have HB9 := Lib.hid (HB6.out.ext HXW9.out)
    obtain ⟨⟨g0, g1, g2, g3⟩, m0, m1, m2, m3⟩ := HB9.out
    have q0 := (HR9.out.cell? 0).trans rfl
    have q1 := (HR9.out.cell? 1).trans rfl
    have q2 := (HR9.out.cell? 2).trans rfl
    have q3 := (HR9.out.cell? 3).trans rfl
    have hlay := Lay_ok J I G P p8 C w9 HIN9.out
    rw [HLD.out] at hlay
    have hlay : Calls Try.prog 13 #[Super.geoV J I G P, .agg #[.slice p8.ra C.rows.length p8.rc, .slice p8.oa C.owners.length p8.oc, .slice p8.ua C.used.length p8.uc, .slice p8.ia C.inodes.length p8.ic]] w9 _ := hlay
    go_wp2_with fail
    refine hlay.mono ?_
    rintro e w10 ⟨a2, c2, rfl, hS10, h10⟩
    dsimp only at hS10 ⊢
    have HX10 := Lib.hid (HX9.out.trans h10)
    have HR10 := Lib.hid (HR9.out.ext h10)
    have HIN10 := Lib.hid (HIN9.out.ext h10)
    have HS10 := Lib.hid hS10
    clear hlay hS10 h10 q0 q1 q2 q3 g0 g1 g2 g3 m0 m1 m2 m3
    have hcd := HCD.out
    rcases hcd with ⟨rfl, rfl, rfl⟩ | ⟨rfl, rfl, rfl, rfl⟩
    · have hfew := HFEW.out w10 HX10.out
      have hss := SameS_ok a2 D.length c2 D a nf cap D w10 (HS10.out.ls HF.out.2.2.2.bytes) (HF.out.2.2.2.ext HX10.out) (by have := HF.out.1; have := HF.out.2.2.2.1; omega)
      rw [show sameLs D D = true by simp [sameLs]] at hss
      go_wp2_with fail
      refine hfew.mono ?_
      rintro e vn ⟨rfl, rfl⟩
      go_wp2_with fail
      refine hss.mono ?_
      rintro e w11 ⟨rfl, h11⟩
      have HX11 := Lib.hid (HX10.out.trans h11)
      clear hfew hss h11
      go_wp2
      go_ret
      exact ⟨rfl, HX11.out⟩
    · have hsame := Same_yes p8 nilP nilM w10 HIN10.out (nil_in _)
      have hsame : Calls Try.prog 15 #[.agg #[.slice p8.ra nilM.rows.length p8.rc, .slice p8.oa nilM.owners.length p8.oc, .slice p8.ua nilM.used.length p8.uc, .slice p8.ia nilM.inodes.length p8.ic], .agg #[.slice none 0 0, .slice none 0 0, .slice none 0 0, .slice none 0 0]] w10 _ := hsame
      have q0 := (HR10.out.cell? 0).trans rfl
      have q1 := (HR10.out.cell? 1).trans rfl
      have q2 := (HR10.out.cell? 2).trans rfl
      have q3 := (HR10.out.cell? 3).trans rfl
      go_wp2_with fail
      refine hsame.mono ?_
      rintro e w11 ⟨rfl, h11⟩
      have HX11 := Lib.hid (HX10.out.trans h11)
      clear hsame h11 q0 q1 q2 q3
      go_wp2
      go_ret
      exact ⟨rfl, HX11.out⟩
  · have hl1 : layM J I G P M = (sectM M, 0) := by unfold layM; rw [if_pos hr]
    have ht1 := take_sect hr HM.out.wfr HM.out.wfi
    have hby := bytes_sect hr HM.out.bu
    have hns : (sectM M).length ≤ 100 := by
      have h1 := rightM_out hr
      have h2 := Super.right_bd h1.1
      have h3 := pairsI_len (M.inodes.length / 2) M.inodes (by omega)
      show (pairsI M.inodes).length + 1 + 1 + 1 ≤ 100
      omega
    have HRR := Lib.hid hr
    have hlay := Lay_ok J I G P p M w2 (HM.out.ext HX2.out)
    rw [hl1] at hlay
    generalize sectM M = S at *
    have HT1 := Lib.hid ht1
    have HBY := Lib.hid hby
    clear hr hl1 ht1 hby
    go_wp2_with fail
    refine hlay.mono ?_
    rintro e w3 ⟨al, cl, rfl, hS3, h3⟩
    dsimp only at hS3 ⊢
    have HX3 := Lib.hid (HX2.out.trans h3)
    have HB3 := Lib.hid (HB2.out.ext h3)
    have HCL := Lib.hid (show S.length ≤ cl ∧ cl ≤ 9223372036854775807 from by obtain ⟨H, _, hh, _⟩ := hS3.ex; exact ownS_cap hh)
    have HLS3 := Lib.hid (show LsIn w3 al S.length S from hS3.ls HBY.out)
    clear hlay hS3 h3 g0 g1 g2 g3 m0 m1 m2 m3
    obtain ⟨⟨g0, g1, g2, g3⟩, m0, m1, m2, m3⟩ := HB3.out
    have htk := Take_ok J I G P al S.length cl S w3 HLS3.out (by omega) HCL.out.1 HCL.out.2
    rw [HT1.out] at htk
    go_wp2_with fail
    refine htk.mono ?_
    rintro e w4 ⟨p4, rfl, hin4, h4⟩
    have hX5 := (Ext.refl w4).alloc (.cells #[.slice p4.ra M.rows.length p4.rc, .slice p4.oa M.owners.length p4.oc, .slice p4.ua M.used.length p4.uc, .slice p4.ia M.inodes.length p4.ic] 29)
    have hrow5 := Row.new w4 29 [.slice p4.ra M.rows.length p4.rc, .slice p4.oa M.owners.length p4.oc, .slice p4.ua M.used.length p4.uc, .slice p4.ia M.inodes.length p4.ic]
    obtain ⟨g5, hg5⟩ : ∃ z, z = w4.heap.size := ⟨_, rfl⟩
    obtain ⟨w5, hw5⟩ : ∃ z, z = w4.alloc (.cells #[.slice p4.ra M.rows.length p4.rc, .slice p4.oa M.owners.length p4.oc, .slice p4.ua M.used.length p4.uc, .slice p4.ia M.inodes.length p4.ic] 29) := ⟨_, rfl⟩
    have hrow5 : Row w5 g5 29 [.slice p4.ra M.rows.length p4.rc, .slice p4.oa M.owners.length p4.oc, .slice p4.ua M.used.length p4.uc, .slice p4.ia M.inodes.length p4.ic] := by rw [hw5, hg5]; exact hrow5
    rw [← hw5] at hX5
    have HX5 := Lib.hid (HX3.out.trans (h4.trans hX5))
    have HB5 := Lib.hid (HB3.out.ext (h4.trans hX5))
    have HR5 := Lib.hid hrow5
    have HIN5 := Lib.hid (hin4.ext hX5)
    have HW5 := Lib.hid hw5
    have HG5 := Lib.hid hg5
    clear htk hin4 h4 hX5 hrow5 hw5 hg5 g0 g1 g2 g3 m0 m1 m2 m3
    obtain ⟨⟨g0, g1, g2, g3⟩, m0, m1, m2, m3⟩ := HB5.out
    have hright := Right_ok J I G P p M w5 (HM.out.ext HX5.out)
    rw [HRR.out] at hright
    have hright : Calls Try.prog 16 #[Super.geoV J I G P, .agg #[.slice p.ra M.rows.length p.rc, .slice p.oa M.owners.length p.oc, .slice p.ua M.used.length p.uc, .slice p.ia M.inodes.length p.ic]] w5 _ := hright
    dsimp only [metaV, metaCs]
    go_upto_region 6 with fail
    rw [← HW5.out, ← HG5.out]
    go_wp2_with fail
    refine hright.mono ?_
    rintro e w6 ⟨rfl, h6⟩
    have HX6 := Lib.hid (HX5.out.trans h6)
    have HB6 := Lib.hid (HB5.out.ext h6)
    clear hright g0 g1 g2 g3 m0 m1 m2 m3
    obtain ⟨⟨g0, g1, g2, g3⟩, m0, m1, m2, m3⟩ := HB6.out
    have HR6 := Lib.hid (HR5.out.ext h6)
    have q0 := (HR6.out.cell? 0).trans rfl
    have q1 := (HR6.out.cell? 1).trans rfl
    have q2 := (HR6.out.cell? 2).trans rfl
    have q3 := (HR6.out.cell? 3).trans rfl
    have hsame := Same_yes p4 p M w6 (HIN5.out.ext h6) (HM.out.ext HX6.out)
    have hsame : Calls Try.prog 15 #[.agg #[.slice p4.ra M.rows.length p4.rc, .slice p4.oa M.owners.length p4.oc, .slice p4.ua M.used.length p4.uc, .slice p4.ia M.inodes.length p4.ic], .agg #[.slice p.ra M.rows.length p.rc, .slice p.oa M.owners.length p.oc, .slice p.ua M.used.length p.uc, .slice p.ia M.inodes.length p.ic]] w6 _ := hsame
    clear h6
    go_wp2_with fail
    refine hsame.mono ?_
    rintro e w7 ⟨rfl, h7⟩
    have HX7 := Lib.hid (HX6.out.trans h7)
    have HB7 := Lib.hid (HB6.out.ext h7)
    clear hsame h7 q0 q1 q2 q3 g0 g1 g2 g3 m0 m1 m2 m3
    have HTK2 := Lib.hid (fun (v : World) (e : Ext w7 v) => (show Calls Try.prog 20 #[Super.geoV J I G P, .slice a nf cap] v (GaveT v (C, h)) from by
      have := Take_ok J I G P a nf cap F v (HF.out.2.2.2.ext (HX7.out.trans e)) (by have := HF.out.1; omega) HF.out.2.1 HF.out.2.2.1
      rw [HTC.out] at this
      exact this))
    go_wp2_with fail
    refine wp_region_held_drew (S := (fun v => Ext w7 v)) (by kernel_rfl) ((Ext.refl _).drew) (fun hHeld => ?_)
    generalize w7.drew = v0 at *
    refine takeD (i := 0) (v := ?_) rfl rfl (by kernel_rfl) (by kernel_rfl) (by kernel_rfl) (fun _ _ _ h => h) (Or.inl ⟨by rfl, ?_⟩) hHeld ?_
    rotate_left
    · (intro v hv; (obtain ⟨⟨g0, g1, g2, g3⟩, m0, m1, m2, m3⟩ := HB7.out.ext hv); go_simp; try (with_reducible rfl))
    (try simp only [List.setIfInBounds_toArray, List.set_cons_zero, List.set_cons_succ])
    refine takeD (i := 1) (v := ?_) rfl rfl (by kernel_rfl) (by kernel_rfl) (by kernel_rfl) (fun _ _ _ h => h) (Or.inl ⟨by rfl, ?_⟩) hHeld ?_
    rotate_left
    · (intro v hv; skip; go_simp; try (with_reducible rfl))
    (try simp only [List.setIfInBounds_toArray, List.set_cons_zero, List.set_cons_succ])
    refine wpAnyH_ready (rs := [2, 7]) (by kernel_rfl) (by simp) ?_
    refine AllReadyH.cons rfl (fun K hK => ?_) ?_
    · go_simp
      refine (HFEW.out _ (HX7.out.trans hHeld)).mono ?_
      rintro e vn ⟨rfl, rfl⟩
      refine hK.out _ _ hHeld (fun hHeld => ?_)
      clear hK
      refine wpAnyH_ready (rs := [3, 7]) (by kernel_rfl) (by simp) ?_
      refine AllReadyH.cons rfl (fun K hK => ?_) ?_
      · go_simp
        refine (HTK2.out _ hHeld).mono ?_
        rintro e vt ⟨p8, rfl, hin8, hxn⟩
        refine hK.out _ _ (hHeld.trans hxn) (fun hHeld => ?_)
        have HIN8 := Lib.hid hin8
        clear hK hxn hin8
        dsimp only [metaV, metaCs]
        refine takeD (i := 4) (v := ?_) rfl rfl (by kernel_rfl) (by kernel_rfl) (by kernel_rfl) (fun _ _ _ h => h) (Or.inl ⟨by rfl, ?_⟩) hHeld ?_
        rotate_left
        · (intro v hv; skip; go_simp; try (with_reducible rfl))
        (try simp only [List.setIfInBounds_toArray, List.set_cons_zero, List.set_cons_succ])
        refine takeD (i := 5) (v := ?_) rfl rfl (by kernel_rfl) (by kernel_rfl) (by kernel_rfl) (fun _ _ _ h => h) (Or.inl ⟨by rfl, ?_⟩) hHeld ?_
        rotate_left
        · (intro v hv; skip; go_simp; try (with_reducible rfl))
        (try simp only [List.setIfInBounds_toArray, List.set_cons_zero, List.set_cons_succ])
        refine takeD (i := 6) (v := ?_) rfl rfl (by kernel_rfl) (by kernel_rfl) (by kernel_rfl) (fun _ _ _ h => h) (Or.inl ⟨by rfl, ?_⟩) hHeld ?_
        rotate_left
        · (intro v hv; skip; go_simp; try (with_reducible rfl))
        (try simp only [List.setIfInBounds_toArray, List.set_cons_zero, List.set_cons_succ])
        refine wpAnyH_ready (rs := [7]) (by kernel_rfl) (by simp) ?_
        refine AllReadyH.cons rfl (fun K hK => ?_) AllReadyH.nil
        have hrow9 := Row.new vt 29 [.slice none 0 0, .slice none 0 0, .slice none 0 0, .slice none 0 0]
        have hX9 := (Ext.refl vt).alloc (.cells #[.slice none 0 0, .slice none 0 0, .slice none 0 0, .slice none 0 0] 29)
        obtain ⟨g9, hg9⟩ : ∃ z, z = vt.heap.size := ⟨_, rfl⟩
        obtain ⟨w8, hw8⟩ : ∃ z, z = vt.alloc (.cells #[.slice none 0 0, .slice none 0 0, .slice none 0 0, .slice none 0 0] 29) := ⟨_, rfl⟩
        have hrow9 : Row w8 g9 29 [.slice none 0 0, .slice none 0 0, .slice none 0 0, .slice none 0 0] := by rw [hw8, hg9]; exact hrow9
        rw [← hw8] at hX9
        go_simp
        rw [← hw8, ← hg9]
        have HR8 := Lib.hid hrow9
        have HS8 := Lib.hid (show w7.heap.size ≤ g9 by rw [hg9]; exact hHeld.size)
        refine hK.out _ _ (hHeld.trans hX9) (fun hHeld => ?_)
        have HIN8 := Lib.hid (HIN8.out.ext hX9)
        clear hK hrow9 hX9 hw8 hg9
        refine wpAnyH_ready (rs := [8]) (by kernel_rfl) (by simp) ?_
        refine AllReadyH.cons rfl (fun K hK => ?_) AllReadyH.nil
        first | rw [if_pos (by rfl)] | skip
        refine store_rowN _ _ _ rfl rfl g9 #[.slice p8.ra C.rows.length p8.rc, .slice p8.oa C.owners.length p8.oc, .slice p8.ua C.used.length p8.uc, .slice p8.ia C.inodes.length p8.ic] rfl rfl 29 _ HR8.out infoMeta rfl (by simp [Value.oneCell']) ?_
        obtain ⟨w9, hw9⟩ : ∃ z, z = w8.setRow g9 #[.slice p8.ra C.rows.length p8.rc, .slice p8.oa C.owners.length p8.oc, .slice p8.ua C.used.length p8.uc, .slice p8.ia C.inodes.length p8.ic] := ⟨_, rfl⟩
        have hrow9 : Row w9 g9 29 [.slice p8.ra C.rows.length p8.rc, .slice p8.oa C.owners.length p8.oc, .slice p8.ua C.used.length p8.uc, .slice p8.ia C.inodes.length p8.ic] := by rw [hw9]; exact HR8.out.setRow #[.slice p8.ra C.rows.length p8.rc, .slice p8.oa C.owners.length p8.oc, .slice p8.ua C.used.length p8.uc, .slice p8.ia C.inodes.length p8.ic]
        have hin9 : MetaIn w9 p8 C := by rw [hw9]; exact MetaIn.setRow4 HIN8.out HR8.out _
        have hxw9 : Ext w7 w9 := by rw [hw9]; exact hHeld.setRow HS8.out _
        rw [← hw9]
        refine hK.out _ _ hxw9 (fun hHeld => ?_)
        have HR9 := Lib.hid hrow9
        have HIN9 := Lib.hid hin9
        have HXW9 := Lib.hid hxw9
        clear hK hrow9 hin9 hxw9 hw9
        refine takeD (i := 9) (v := ?_) rfl rfl (by kernel_rfl) (by kernel_rfl) (by kernel_rfl) (fun _ _ _ h => h) (Or.inl ⟨by rfl, ?_⟩) hHeld ?_
        rotate_left
        · (intro v hv; skip; go_simp; try (with_reducible rfl))
        (try simp only [List.setIfInBounds_toArray, List.set_cons_zero, List.set_cons_succ])
        refine wpAnyH_done (by kernel_rfl) ?_ _
        clear hHeld HR8 HIN8 HS8
        have HX9 := Lib.hid (HX7.out.trans HXW9.out)
        have HB9 := Lib.hid (HB7.out.ext HXW9.out)
        obtain ⟨⟨g0, g1, g2, g3⟩, m0, m1, m2, m3⟩ := HB9.out
        have q0 := (HR9.out.cell? 0).trans rfl
        have q1 := (HR9.out.cell? 1).trans rfl
        have q2 := (HR9.out.cell? 2).trans rfl
        have q3 := (HR9.out.cell? 3).trans rfl
        have hlay := Lay_ok J I G P p8 C w9 HIN9.out
        rw [HLD.out] at hlay
        have hlay : Calls Try.prog 13 #[Super.geoV J I G P, .agg #[.slice p8.ra C.rows.length p8.rc, .slice p8.oa C.owners.length p8.oc, .slice p8.ua C.used.length p8.uc, .slice p8.ia C.inodes.length p8.ic]] w9 _ := hlay
        go_wp2_with fail
        refine hlay.mono ?_
        rintro e w10 ⟨a2, c2, rfl, hS10, h10⟩
        dsimp only at hS10 ⊢
        have HX10 := Lib.hid (HX9.out.trans h10)
        have HR10 := Lib.hid (HR9.out.ext h10)
        have HIN10 := Lib.hid (HIN9.out.ext h10)
        have HS10 := Lib.hid hS10
        clear hlay hS10 h10 q0 q1 q2 q3 g0 g1 g2 g3 m0 m1 m2 m3
        have hcd := HCD.out
        rcases hcd with ⟨rfl, rfl, rfl⟩ | ⟨rfl, rfl, rfl, rfl⟩
        · have hfew := HFEW.out w10 HX10.out
          have hss := SameS_ok a2 D.length c2 D a nf cap D w10 (HS10.out.ls HF.out.2.2.2.bytes) (HF.out.2.2.2.ext HX10.out) (by have := HF.out.1; have := HF.out.2.2.2.1; omega)
          rw [show sameLs D D = true by simp [sameLs]] at hss
          go_wp2_with fail
          refine hfew.mono ?_
          rintro e vn ⟨rfl, rfl⟩
          go_wp2_with fail
          refine hss.mono ?_
          rintro e w11 ⟨rfl, h11⟩
          have HX11 := Lib.hid (HX10.out.trans h11)
          clear hfew hss h11
          go_wp2
          go_ret
          exact ⟨rfl, HX11.out⟩
        · have hsame := Same_yes p8 nilP nilM w10 HIN10.out (nil_in _)
          have hsame : Calls Try.prog 15 #[.agg #[.slice p8.ra nilM.rows.length p8.rc, .slice p8.oa nilM.owners.length p8.oc, .slice p8.ua nilM.used.length p8.uc, .slice p8.ia nilM.inodes.length p8.ic], .agg #[.slice none 0 0, .slice none 0 0, .slice none 0 0, .slice none 0 0]] w10 _ := hsame
          have q0 := (HR10.out.cell? 0).trans rfl
          have q1 := (HR10.out.cell? 1).trans rfl
          have q2 := (HR10.out.cell? 2).trans rfl
          have q3 := (HR10.out.cell? 3).trans rfl
          go_wp2_with fail
          refine hsame.mono ?_
          rintro e w11 ⟨rfl, h11⟩
          have HX11 := Lib.hid (HX10.out.trans h11)
          clear hsame h11 q0 q1 q2 q3
          go_wp2
          go_ret
          exact ⟨rfl, HX11.out⟩
      refine AllReadyH.cons rfl (fun K hK => ?_) AllReadyH.nil
      have hrow9 := Row.new v0 29 [.slice none 0 0, .slice none 0 0, .slice none 0 0, .slice none 0 0]
      have hX9 := (Ext.refl v0).alloc (.cells #[.slice none 0 0, .slice none 0 0, .slice none 0 0, .slice none 0 0] 29)
      obtain ⟨g9, hg9⟩ : ∃ z, z = v0.heap.size := ⟨_, rfl⟩
      obtain ⟨w8, hw8⟩ : ∃ z, z = v0.alloc (.cells #[.slice none 0 0, .slice none 0 0, .slice none 0 0, .slice none 0 0] 29) := ⟨_, rfl⟩
      have hrow9 : Row w8 g9 29 [.slice none 0 0, .slice none 0 0, .slice none 0 0, .slice none 0 0] := by rw [hw8, hg9]; exact hrow9
      rw [← hw8] at hX9
      go_simp
      rw [← hw8, ← hg9]
      have HR8 := Lib.hid hrow9
      have HS8 := Lib.hid (show w7.heap.size ≤ g9 by rw [hg9]; exact hHeld.size)
      refine hK.out _ _ (hHeld.trans hX9) (fun hHeld => ?_)
      clear hK hrow9 hX9 hw8 hg9
      refine wpAnyH_ready (rs := [3]) (by kernel_rfl) (by simp) ?_
      refine AllReadyH.cons rfl (fun K hK => ?_) AllReadyH.nil
      go_simp
      refine (HTK2.out _ hHeld).mono ?_
      rintro e vt ⟨p8, rfl, hin8, hxn⟩
      refine hK.out _ _ (hHeld.trans hxn) (fun hHeld => ?_)
      have HIN8 := Lib.hid hin8
      have HR8 := Lib.hid (HR8.out.ext hxn)
      clear hK hxn hin8
      dsimp only [metaV, metaCs]
      refine takeD (i := 4) (v := ?_) rfl rfl (by kernel_rfl) (by kernel_rfl) (by kernel_rfl) (fun _ _ _ h => h) (Or.inl ⟨by rfl, ?_⟩) hHeld ?_
      rotate_left
      · (intro v hv; skip; go_simp; try (with_reducible rfl))
      (try simp only [List.setIfInBounds_toArray, List.set_cons_zero, List.set_cons_succ])
      refine takeD (i := 5) (v := ?_) rfl rfl (by kernel_rfl) (by kernel_rfl) (by kernel_rfl) (fun _ _ _ h => h) (Or.inl ⟨by rfl, ?_⟩) hHeld ?_
      rotate_left
      · (intro v hv; skip; go_simp; try (with_reducible rfl))
      (try simp only [List.setIfInBounds_toArray, List.set_cons_zero, List.set_cons_succ])
      refine takeD (i := 6) (v := ?_) rfl rfl (by kernel_rfl) (by kernel_rfl) (by kernel_rfl) (fun _ _ _ h => h) (Or.inl ⟨by rfl, ?_⟩) hHeld ?_
      rotate_left
      · (intro v hv; skip; go_simp; try (with_reducible rfl))
      (try simp only [List.setIfInBounds_toArray, List.set_cons_zero, List.set_cons_succ])
      refine wpAnyH_ready (rs := [8]) (by kernel_rfl) (by simp) ?_
      refine AllReadyH.cons rfl (fun K hK => ?_) AllReadyH.nil
      first | rw [if_pos (by rfl)] | skip
      refine store_rowN _ _ _ rfl rfl g9 #[.slice p8.ra C.rows.length p8.rc, .slice p8.oa C.owners.length p8.oc, .slice p8.ua C.used.length p8.uc, .slice p8.ia C.inodes.length p8.ic] rfl rfl 29 _ HR8.out infoMeta rfl (by simp [Value.oneCell']) ?_
      obtain ⟨w9, hw9⟩ : ∃ z, z = vt.setRow g9 #[.slice p8.ra C.rows.length p8.rc, .slice p8.oa C.owners.length p8.oc, .slice p8.ua C.used.length p8.uc, .slice p8.ia C.inodes.length p8.ic] := ⟨_, rfl⟩
      have hrow9 : Row w9 g9 29 [.slice p8.ra C.rows.length p8.rc, .slice p8.oa C.owners.length p8.oc, .slice p8.ua C.used.length p8.uc, .slice p8.ia C.inodes.length p8.ic] := by rw [hw9]; exact HR8.out.setRow #[.slice p8.ra C.rows.length p8.rc, .slice p8.oa C.owners.length p8.oc, .slice p8.ua C.used.length p8.uc, .slice p8.ia C.inodes.length p8.ic]
      have hin9 : MetaIn w9 p8 C := by rw [hw9]; exact MetaIn.setRow4 HIN8.out HR8.out _
      have hxw9 : Ext w7 w9 := by rw [hw9]; exact hHeld.setRow HS8.out _
      rw [← hw9]
      refine hK.out _ _ hxw9 (fun hHeld => ?_)
      have HR9 := Lib.hid hrow9
      have HIN9 := Lib.hid hin9
      have HXW9 := Lib.hid hxw9
      clear hK hrow9 hin9 hxw9 hw9
      refine takeD (i := 9) (v := ?_) rfl rfl (by kernel_rfl) (by kernel_rfl) (by kernel_rfl) (fun _ _ _ h => h) (Or.inl ⟨by rfl, ?_⟩) hHeld ?_
      rotate_left
      · (intro v hv; skip; go_simp; try (with_reducible rfl))
      (try simp only [List.setIfInBounds_toArray, List.set_cons_zero, List.set_cons_succ])
      refine wpAnyH_done (by kernel_rfl) ?_ _
      clear hHeld HR8 HIN8 HS8
      have HX9 := Lib.hid (HX7.out.trans HXW9.out)
      have HB9 := Lib.hid (HB7.out.ext HXW9.out)
      obtain ⟨⟨g0, g1, g2, g3⟩, m0, m1, m2, m3⟩ := HB9.out
      have q0 := (HR9.out.cell? 0).trans rfl
      have q1 := (HR9.out.cell? 1).trans rfl
      have q2 := (HR9.out.cell? 2).trans rfl
      have q3 := (HR9.out.cell? 3).trans rfl
      have hlay := Lay_ok J I G P p8 C w9 HIN9.out
      rw [HLD.out] at hlay
      have hlay : Calls Try.prog 13 #[Super.geoV J I G P, .agg #[.slice p8.ra C.rows.length p8.rc, .slice p8.oa C.owners.length p8.oc, .slice p8.ua C.used.length p8.uc, .slice p8.ia C.inodes.length p8.ic]] w9 _ := hlay
      go_wp2_with fail
      refine hlay.mono ?_
      rintro e w10 ⟨a2, c2, rfl, hS10, h10⟩
      dsimp only at hS10 ⊢
      have HX10 := Lib.hid (HX9.out.trans h10)
      have HR10 := Lib.hid (HR9.out.ext h10)
      have HIN10 := Lib.hid (HIN9.out.ext h10)
      have HS10 := Lib.hid hS10
      clear hlay hS10 h10 q0 q1 q2 q3 g0 g1 g2 g3 m0 m1 m2 m3
      have hcd := HCD.out
      rcases hcd with ⟨rfl, rfl, rfl⟩ | ⟨rfl, rfl, rfl, rfl⟩
      · have hfew := HFEW.out w10 HX10.out
        have hss := SameS_ok a2 D.length c2 D a nf cap D w10 (HS10.out.ls HF.out.2.2.2.bytes) (HF.out.2.2.2.ext HX10.out) (by have := HF.out.1; have := HF.out.2.2.2.1; omega)
        rw [show sameLs D D = true by simp [sameLs]] at hss
        go_wp2_with fail
        refine hfew.mono ?_
        rintro e vn ⟨rfl, rfl⟩
        go_wp2_with fail
        refine hss.mono ?_
        rintro e w11 ⟨rfl, h11⟩
        have HX11 := Lib.hid (HX10.out.trans h11)
        clear hfew hss h11
        go_wp2
        go_ret
        exact ⟨rfl, HX11.out⟩
      · have hsame := Same_yes p8 nilP nilM w10 HIN10.out (nil_in _)
        have hsame : Calls Try.prog 15 #[.agg #[.slice p8.ra nilM.rows.length p8.rc, .slice p8.oa nilM.owners.length p8.oc, .slice p8.ua nilM.used.length p8.uc, .slice p8.ia nilM.inodes.length p8.ic], .agg #[.slice none 0 0, .slice none 0 0, .slice none 0 0, .slice none 0 0]] w10 _ := hsame
        have q0 := (HR10.out.cell? 0).trans rfl
        have q1 := (HR10.out.cell? 1).trans rfl
        have q2 := (HR10.out.cell? 2).trans rfl
        have q3 := (HR10.out.cell? 3).trans rfl
        go_wp2_with fail
        refine hsame.mono ?_
        rintro e w11 ⟨rfl, h11⟩
        have HX11 := Lib.hid (HX10.out.trans h11)
        clear hsame h11 q0 q1 q2 q3
        go_wp2
        go_ret
        exact ⟨rfl, HX11.out⟩
    refine AllReadyH.cons rfl (fun K hK => ?_) AllReadyH.nil
    have hrow9 := Row.new v0 29 [.slice none 0 0, .slice none 0 0, .slice none 0 0, .slice none 0 0]
    have hX9 := (Ext.refl v0).alloc (.cells #[.slice none 0 0, .slice none 0 0, .slice none 0 0, .slice none 0 0] 29)
    obtain ⟨g9, hg9⟩ : ∃ z, z = v0.heap.size := ⟨_, rfl⟩
    obtain ⟨w8, hw8⟩ : ∃ z, z = v0.alloc (.cells #[.slice none 0 0, .slice none 0 0, .slice none 0 0, .slice none 0 0] 29) := ⟨_, rfl⟩
    have hrow9 : Row w8 g9 29 [.slice none 0 0, .slice none 0 0, .slice none 0 0, .slice none 0 0] := by rw [hw8, hg9]; exact hrow9
    rw [← hw8] at hX9
    go_simp
    rw [← hw8, ← hg9]
    have HR8 := Lib.hid hrow9
    have HS8 := Lib.hid (show w7.heap.size ≤ g9 by rw [hg9]; exact hHeld.size)
    refine hK.out _ _ (hHeld.trans hX9) (fun hHeld => ?_)
    clear hK hrow9 hX9 hw8 hg9
    refine wpAnyH_ready (rs := [2]) (by kernel_rfl) (by simp) ?_
    refine AllReadyH.cons rfl (fun K hK => ?_) AllReadyH.nil
    go_simp
    refine (HFEW.out _ (HX7.out.trans hHeld)).mono ?_
    rintro e vn ⟨rfl, rfl⟩
    refine hK.out _ _ hHeld (fun hHeld => ?_)
    clear hK
    refine wpAnyH_ready (rs := [3]) (by kernel_rfl) (by simp) ?_
    refine AllReadyH.cons rfl (fun K hK => ?_) AllReadyH.nil
    go_simp
    refine (HTK2.out _ hHeld).mono ?_
    rintro e vt ⟨p8, rfl, hin8, hxn⟩
    refine hK.out _ _ (hHeld.trans hxn) (fun hHeld => ?_)
    have HIN8 := Lib.hid hin8
    have HR8 := Lib.hid (HR8.out.ext hxn)
    clear hK hxn hin8
    dsimp only [metaV, metaCs]
    refine takeD (i := 4) (v := ?_) rfl rfl (by kernel_rfl) (by kernel_rfl) (by kernel_rfl) (fun _ _ _ h => h) (Or.inl ⟨by rfl, ?_⟩) hHeld ?_
    rotate_left
    · (intro v hv; skip; go_simp; try (with_reducible rfl))
    (try simp only [List.setIfInBounds_toArray, List.set_cons_zero, List.set_cons_succ])
    refine takeD (i := 5) (v := ?_) rfl rfl (by kernel_rfl) (by kernel_rfl) (by kernel_rfl) (fun _ _ _ h => h) (Or.inl ⟨by rfl, ?_⟩) hHeld ?_
    rotate_left
    · (intro v hv; skip; go_simp; try (with_reducible rfl))
    (try simp only [List.setIfInBounds_toArray, List.set_cons_zero, List.set_cons_succ])
    refine takeD (i := 6) (v := ?_) rfl rfl (by kernel_rfl) (by kernel_rfl) (by kernel_rfl) (fun _ _ _ h => h) (Or.inl ⟨by rfl, ?_⟩) hHeld ?_
    rotate_left
    · (intro v hv; skip; go_simp; try (with_reducible rfl))
    (try simp only [List.setIfInBounds_toArray, List.set_cons_zero, List.set_cons_succ])
    refine wpAnyH_ready (rs := [8]) (by kernel_rfl) (by simp) ?_
    refine AllReadyH.cons rfl (fun K hK => ?_) AllReadyH.nil
    first | rw [if_pos (by rfl)] | skip
    refine store_rowN _ _ _ rfl rfl g9 #[.slice p8.ra C.rows.length p8.rc, .slice p8.oa C.owners.length p8.oc, .slice p8.ua C.used.length p8.uc, .slice p8.ia C.inodes.length p8.ic] rfl rfl 29 _ HR8.out infoMeta rfl (by simp [Value.oneCell']) ?_
    obtain ⟨w9, hw9⟩ : ∃ z, z = vt.setRow g9 #[.slice p8.ra C.rows.length p8.rc, .slice p8.oa C.owners.length p8.oc, .slice p8.ua C.used.length p8.uc, .slice p8.ia C.inodes.length p8.ic] := ⟨_, rfl⟩
    have hrow9 : Row w9 g9 29 [.slice p8.ra C.rows.length p8.rc, .slice p8.oa C.owners.length p8.oc, .slice p8.ua C.used.length p8.uc, .slice p8.ia C.inodes.length p8.ic] := by rw [hw9]; exact HR8.out.setRow #[.slice p8.ra C.rows.length p8.rc, .slice p8.oa C.owners.length p8.oc, .slice p8.ua C.used.length p8.uc, .slice p8.ia C.inodes.length p8.ic]
    have hin9 : MetaIn w9 p8 C := by rw [hw9]; exact MetaIn.setRow4 HIN8.out HR8.out _
    have hxw9 : Ext w7 w9 := by rw [hw9]; exact hHeld.setRow HS8.out _
    rw [← hw9]
    refine hK.out _ _ hxw9 (fun hHeld => ?_)
    have HR9 := Lib.hid hrow9
    have HIN9 := Lib.hid hin9
    have HXW9 := Lib.hid hxw9
    clear hK hrow9 hin9 hxw9 hw9
    refine takeD (i := 9) (v := ?_) rfl rfl (by kernel_rfl) (by kernel_rfl) (by kernel_rfl) (fun _ _ _ h => h) (Or.inl ⟨by rfl, ?_⟩) hHeld ?_
    rotate_left
    · (intro v hv; skip; go_simp; try (with_reducible rfl))
    (try simp only [List.setIfInBounds_toArray, List.set_cons_zero, List.set_cons_succ])
    refine wpAnyH_done (by kernel_rfl) ?_ _
    clear hHeld HR8 HIN8 HS8
    have HX9 := Lib.hid (HX7.out.trans HXW9.out)
    have HB9 := Lib.hid (HB7.out.ext HXW9.out)
    obtain ⟨⟨g0, g1, g2, g3⟩, m0, m1, m2, m3⟩ := HB9.out
    have q0 := (HR9.out.cell? 0).trans rfl
    have q1 := (HR9.out.cell? 1).trans rfl
    have q2 := (HR9.out.cell? 2).trans rfl
    have q3 := (HR9.out.cell? 3).trans rfl
    have hlay := Lay_ok J I G P p8 C w9 HIN9.out
    rw [HLD.out] at hlay
    have hlay : Calls Try.prog 13 #[Super.geoV J I G P, .agg #[.slice p8.ra C.rows.length p8.rc, .slice p8.oa C.owners.length p8.oc, .slice p8.ua C.used.length p8.uc, .slice p8.ia C.inodes.length p8.ic]] w9 _ := hlay
    go_wp2_with fail
    refine hlay.mono ?_
    rintro e w10 ⟨a2, c2, rfl, hS10, h10⟩
    dsimp only at hS10 ⊢
    have HX10 := Lib.hid (HX9.out.trans h10)
    have HR10 := Lib.hid (HR9.out.ext h10)
    have HIN10 := Lib.hid (HIN9.out.ext h10)
    have HS10 := Lib.hid hS10
    clear hlay hS10 h10 q0 q1 q2 q3 g0 g1 g2 g3 m0 m1 m2 m3
    have hcd := HCD.out
    rcases hcd with ⟨rfl, rfl, rfl⟩ | ⟨rfl, rfl, rfl, rfl⟩
    · have hfew := HFEW.out w10 HX10.out
      have hss := SameS_ok a2 D.length c2 D a nf cap D w10 (HS10.out.ls HF.out.2.2.2.bytes) (HF.out.2.2.2.ext HX10.out) (by have := HF.out.1; have := HF.out.2.2.2.1; omega)
      rw [show sameLs D D = true by simp [sameLs]] at hss
      go_wp2_with fail
      refine hfew.mono ?_
      rintro e vn ⟨rfl, rfl⟩
      go_wp2_with fail
      refine hss.mono ?_
      rintro e w11 ⟨rfl, h11⟩
      have HX11 := Lib.hid (HX10.out.trans h11)
      clear hfew hss h11
      go_wp2
      go_ret
      exact ⟨rfl, HX11.out⟩
    · have hsame := Same_yes p8 nilP nilM w10 HIN10.out (nil_in _)
      have hsame : Calls Try.prog 15 #[.agg #[.slice p8.ra nilM.rows.length p8.rc, .slice p8.oa nilM.owners.length p8.oc, .slice p8.ua nilM.used.length p8.uc, .slice p8.ia nilM.inodes.length p8.ic], .agg #[.slice none 0 0, .slice none 0 0, .slice none 0 0, .slice none 0 0]] w10 _ := hsame
      have q0 := (HR10.out.cell? 0).trans rfl
      have q1 := (HR10.out.cell? 1).trans rfl
      have q2 := (HR10.out.cell? 2).trans rfl
      have q3 := (HR10.out.cell? 3).trans rfl
      go_wp2_with fail
      refine hsame.mono ?_
      rintro e w11 ⟨rfl, h11⟩
      have HX11 := Lib.hid (HX10.out.trans h11)
      clear hsame h11 q0 q1 q2 q3
      go_wp2
      go_ret
      exact ⟨rfl, HX11.out⟩
theorem law_MetaBack {H : Type} {enc : TypeId × Value → H} {base : Nat} {d0 d1 d2 : DataW H} {p0 p1 p2 : List MemPlace} (v0 v1 v2 : Value) (w : World)
    (ho0 : Value.okWide Try.prog w .any base 23 v0) (h0 : DataW.Trod enc Try.prog w 0 (fun _ => true) true 23 v0 d0 p0)
    (ho1 : Value.okWide Try.prog w .any base 29 v1) (h1 : DataW.Trod enc Try.prog w 0 (fun _ => true) true 29 v1 d1 p1)
    (ho2 : Value.okWide Try.prog w .any base 35 v2) (h2 : DataW.Trod enc Try.prog w 0 (fun _ => true) true 35 v2 d2 p2) :
    Calls Try.prog 7 #[v0, v1, v2] w fun e w' => e = .returned (.bool true) ∧ Below w.heap.size w w' := by
  obtain ⟨J, I, G, P, rfl⟩ := geo_in ho0 h0
  obtain ⟨p, M, rfl, hM⟩ := meta_in ho1 h1
  obtain ⟨a, n, cap, L, rfl, hnc, hcm, hL⟩ := secs_in ho2 h2
  exact back_walk J I G P p M a n cap L w hM hnc hcm hL
end Go.Proofs.Ytnodinancnfoeaa.Mt
