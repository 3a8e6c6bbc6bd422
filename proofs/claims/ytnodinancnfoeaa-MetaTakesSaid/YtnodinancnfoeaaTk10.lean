/- MtTakesL -/
import Derived.Test.YtnodinancnfoeaaTk9
import Derived.Deep.DeepCutAuto
/- The law MetaTakes (printed by gen_takes14.py). -/
namespace Go.Proofs.Ytnodinancnfoeaa.Mt
open Go.RowKit Words Mem Plain Ops Agg OwnS Intern Ino
open Go.Joins Go.ChangeShapes Go.WideShapes Go.Deep
set_option linter.ambiguousOpen false
set_option linter.unusedVariables false
set_option linter.unusedSimpArgs false

set_option maxHeartbeats 16000000 in
set_option maxRecDepth 100000 in
theorem takes_walk (J I G P : Int) (a : Option Addr) (n cap : Nat) (L : List (List Int)) (w : World) (hnc : n ≤ cap) (hcm : cap ≤ 9223372036854775807) (hls : LsIn w a n L) :
    Calls Try.prog 6 #[Super.geoV J I G P, .slice a n cap] w fun e w' => e = .returned (.bool true) ∧ Ext w w' := by
  obtain ⟨nf, hnf, hnfc, hfl, hfew⟩ := few_use a n cap L w hnc hcm hls
  generalize fewL L = F at *
  obtain ⟨C, h, hC⟩ : ∃ C h, takeM J I G P F = (C, h) := ⟨_, _, rfl⟩
  have HTM := Lib.hid (fun (v : World) (e : Ext w v) => (show Calls Try.prog 20 #[Super.geoV J I G P, .slice a nf cap] v (GaveT v (C, h)) from by
    have := Take_ok J I G P a nf cap F v (hfl.ext e) (by omega) hnfc hcm
    rw [hC] at this
    exact this))
  have HTR := Lib.hid (fun (v : World) (e : Ext w v) => (show Calls Try.prog 22 #[Super.geoV J I G P, .slice a nf cap] v (GaveT v (C, h)) from by
    have := rTake_ok J I G P a nf cap F v (hfl.ext e) (by omega) hnfc hcm
    rw [hC] at this
    exact this))
  have HFEW := Lib.hid hfew
  clear hnf hnfc hfl hfew hC hcm hls hnc
  have X1 := (Ext.refl w).alloc (.cells #[.int .i64 J, .int .i64 I, .int .i64 G, .int .i64 P] 23)
  have hrow1 := Row.new w 23 [.int .i64 J, .int .i64 I, .int .i64 G, .int .i64 P]
  obtain ⟨w1, hw1⟩ : ∃ z, z = w.alloc (.cells #[.int .i64 J, .int .i64 I, .int .i64 G, .int .i64 P] 23) := ⟨_, rfl⟩
  rw [← hw1] at X1
  have hrow1 : Row w1 w.heap.size 23 [.int .i64 J, .int .i64 I, .int .i64 G, .int .i64 P] := by rw [hw1]; exact hrow1
  have HX1 := Lib.hid X1
  have HB1 := Lib.hid hrow1
  have HW1 := Lib.hid hw1
  have HTKA := Lib.hid (fun (v : World) (e : Ext w1 v) => HTM.out v (HX1.out.trans e))
  have hz := zeroMeta
  clear X1 hrow1 hw1
  go_enter Try.func6, Try.ntmps6
  go_wp2_with fail
  rw [← HW1.out]
  refine wp_region_held_drew (S := (fun v => Ext w1 v)) (by kernel_rfl) ((Ext.refl _).drew) (fun hHeld => ?_)
  generalize w1.drew = v0 at *
  refine takeD (i := 0) (v := ?_) rfl rfl (by kernel_rfl) (by kernel_rfl) (by kernel_rfl) (fun _ _ _ h => h) (Or.inl ⟨by rfl, ?_⟩) hHeld ?_
  rotate_left
  · (intro v hv; (have c0 := ((HB1.out.ext hv).cell? 0).trans rfl; have c1 := ((HB1.out.ext hv).cell? 1).trans rfl; have c2 := ((HB1.out.ext hv).cell? 2).trans rfl; have c3 := ((HB1.out.ext hv).cell? 3).trans rfl); go_simp; try (with_reducible rfl))
  (try simp only [List.setIfInBounds_toArray, List.set_cons_zero, List.set_cons_succ])
  refine takeD (i := 1) (v := ?_) rfl rfl (by kernel_rfl) (by kernel_rfl) (by kernel_rfl) (fun _ _ _ h => h) (Or.inl ⟨by rfl, ?_⟩) hHeld ?_
  rotate_left
  · (intro v hv; skip; go_simp; try (with_reducible rfl))
  (try simp only [List.setIfInBounds_toArray, List.set_cons_zero, List.set_cons_succ])
  refine wpAnyH_ready (rs := [2, 7]) (by kernel_rfl) (by simp) ?_
  refine AllReadyH.cons rfl (fun K hK => ?_) ?_
  · go_simp
    refine (HFEW.out _ (HX1.out.trans hHeld)).mono ?_
    rintro e vn ⟨rfl, rfl⟩
    refine hK.out _ _ hHeld (fun hHeld => ?_)
    clear hK
    refine wpAnyH_ready (rs := [3, 7]) (by kernel_rfl) (by simp) ?_
    refine AllReadyH.cons rfl (fun K hK => ?_) ?_
    · go_simp
      refine (HTKA.out _ hHeld).mono ?_
      rintro e vt ⟨pA, rfl, hin8, hxn⟩
      refine hK.out _ _ (hHeld.trans hxn) (fun hHeld => ?_)
      have HIN8 := Lib.hid hin8
      clear hK hxn hin8
      dsimp only [metaV, metaCs]
      refine takeD (i := 4) (v := ?_) rfl rfl (by kernel_rfl) (by kernel_rfl) (by kernel_rfl) (fun _ _ _ h => h) (Or.inl ⟨by rfl, ?_⟩) hHeld ?_
      rotate_left
      · (intro v hv; skip; go_simp; try (with_reducible rfl))
      (try simp only [List.setIfInBounds_toArray, List.set_cons_zero, List.set_cons_succ])
      refine takeD (i := 5) (v := ?_) rfl rfl (by kernel_rfl) (by kernel_rfl) (by kernel_rfl) (fun _ _ _ h => h) (Or.inl ⟨by rfl, ?_⟩) hHeld ?_
      rotate_left
      · (intro v hv; skip; go_simp; try (with_reducible rfl))
      (try simp only [List.setIfInBounds_toArray, List.set_cons_zero, List.set_cons_succ])
      refine takeD (i := 6) (v := ?_) rfl rfl (by kernel_rfl) (by kernel_rfl) (by kernel_rfl) (fun _ _ _ h => h) (Or.inl ⟨by rfl, ?_⟩) hHeld ?_
      rotate_left
      · (intro v hv; skip; go_simp; try (with_reducible rfl))
      (try simp only [List.setIfInBounds_toArray, List.set_cons_zero, List.set_cons_succ])
      refine wpAnyH_ready (rs := [7]) (by kernel_rfl) (by simp) ?_
      refine AllReadyH.cons rfl (fun K hK => ?_) AllReadyH.nil
      have hrowA := Row.new vt 29 [.slice none 0 0, .slice none 0 0, .slice none 0 0, .slice none 0 0]
      have hX9 := (Ext.refl vt).alloc (.cells #[.slice none 0 0, .slice none 0 0, .slice none 0 0, .slice none 0 0] 29)
      obtain ⟨gA, hgA⟩ : ∃ z, z = vt.heap.size := ⟨_, rfl⟩
      obtain ⟨w8, hw8⟩ : ∃ z, z = vt.alloc (.cells #[.slice none 0 0, .slice none 0 0, .slice none 0 0, .slice none 0 0] 29) := ⟨_, rfl⟩
      have hrowA : Row w8 gA 29 [.slice none 0 0, .slice none 0 0, .slice none 0 0, .slice none 0 0] := by rw [hw8, hgA]; exact hrowA
      rw [← hw8] at hX9
      go_simp
      rw [← hw8, ← hgA]
      have HR8 := Lib.hid hrowA
      have HS8 := Lib.hid (show w1.heap.size ≤ gA by rw [hgA]; exact hHeld.size)
      refine hK.out _ _ (hHeld.trans hX9) (fun hHeld => ?_)
      have HIN8 := Lib.hid (HIN8.out.ext hX9)
      clear hK hrowA hX9 hw8 hgA
      refine wpAnyH_ready (rs := [8]) (by kernel_rfl) (by simp) ?_
      refine AllReadyH.cons rfl (fun K hK => ?_) AllReadyH.nil
      first | rw [if_pos (by rfl)] | skip
      refine store_rowN _ _ _ rfl rfl gA #[.slice pA.ra C.rows.length pA.rc, .slice pA.oa C.owners.length pA.oc, .slice pA.ua C.used.length pA.uc, .slice pA.ia C.inodes.length pA.ic] rfl rfl 29 _ HR8.out infoMeta rfl (by simp [Value.oneCell']) ?_
      obtain ⟨wA, hwA⟩ : ∃ z, z = w8.setRow gA #[.slice pA.ra C.rows.length pA.rc, .slice pA.oa C.owners.length pA.oc, .slice pA.ua C.used.length pA.uc, .slice pA.ia C.inodes.length pA.ic] := ⟨_, rfl⟩
      have hrowA : Row wA gA 29 [.slice pA.ra C.rows.length pA.rc, .slice pA.oa C.owners.length pA.oc, .slice pA.ua C.used.length pA.uc, .slice pA.ia C.inodes.length pA.ic] := by rw [hwA]; exact HR8.out.setRow #[.slice pA.ra C.rows.length pA.rc, .slice pA.oa C.owners.length pA.oc, .slice pA.ua C.used.length pA.uc, .slice pA.ia C.inodes.length pA.ic]
      have hin9 : MetaIn wA pA C := by rw [hwA]; exact MetaIn.setRow4 HIN8.out HR8.out _
      have hxwA : Ext w1 wA := by rw [hwA]; exact hHeld.setRow HS8.out _
      rw [← hwA]
      refine hK.out _ _ hxwA (fun hHeld => ?_)
      have HRA := Lib.hid hrowA
      have HINA := Lib.hid hin9
      have HXA := Lib.hid hxwA
      clear hK hrowA hin9 hxwA hwA
      refine takeD (i := 9) (v := ?_) rfl rfl (by kernel_rfl) (by kernel_rfl) (by kernel_rfl) (fun _ _ _ h => h) (Or.inl ⟨by rfl, ?_⟩) hHeld ?_
      rotate_left
      · (intro v hv; skip; go_simp; try (with_reducible rfl))
      (try simp only [List.setIfInBounds_toArray, List.set_cons_zero, List.set_cons_succ])
      refine wpAnyH_done (by kernel_rfl) ?_ _
      clear hHeld HR8 HIN8 HS8
      have HXA2 := Lib.hid (HX1.out.trans HXA.out)
      have HBA := Lib.hid (HB1.out.ext HXA.out)
      have HTKB := Lib.hid (fun (v : World) (e : Ext wA v) => HTR.out v (HXA2.out.trans e))
      go_wp2_with fail
      refine wp_region_held_drew (S := (fun v => Ext wA v)) (by kernel_rfl) ((Ext.refl _).drew) (fun hHeld => ?_)
      generalize wA.drew = v0 at *
      refine takeD (i := 0) (v := ?_) rfl rfl (by kernel_rfl) (by kernel_rfl) (by kernel_rfl) (fun _ _ _ h => h) (Or.inl ⟨by rfl, ?_⟩) hHeld ?_
      rotate_left
      · (intro v hv; (have c0 := ((HBA.out.ext hv).cell? 0).trans rfl; have c1 := ((HBA.out.ext hv).cell? 1).trans rfl; have c2 := ((HBA.out.ext hv).cell? 2).trans rfl; have c3 := ((HBA.out.ext hv).cell? 3).trans rfl); go_simp; try (with_reducible rfl))
      (try simp only [List.setIfInBounds_toArray, List.set_cons_zero, List.set_cons_succ])
      refine takeD (i := 1) (v := ?_) rfl rfl (by kernel_rfl) (by kernel_rfl) (by kernel_rfl) (fun _ _ _ h => h) (Or.inl ⟨by rfl, ?_⟩) hHeld ?_
      rotate_left
      · (intro v hv; skip; go_simp; try (with_reducible rfl))
      (try simp only [List.setIfInBounds_toArray, List.set_cons_zero, List.set_cons_succ])
      refine wpAnyH_ready (rs := [2, 7]) (by kernel_rfl) (by simp) ?_
      refine AllReadyH.cons rfl (fun K hK => ?_) ?_
      · go_simp
        refine (HFEW.out _ (HXA2.out.trans hHeld)).mono ?_
        rintro e vn ⟨rfl, rfl⟩
        refine hK.out _ _ hHeld (fun hHeld => ?_)
        clear hK
        refine wpAnyH_ready (rs := [3, 7]) (by kernel_rfl) (by simp) ?_
        refine AllReadyH.cons rfl (fun K hK => ?_) ?_
        · go_simp
          refine (HTKB.out _ hHeld).mono ?_
          rintro e vt ⟨p8, rfl, hin8, hxn⟩
          refine hK.out _ _ (hHeld.trans hxn) (fun hHeld => ?_)
          have HIN8 := Lib.hid hin8
          clear hK hxn hin8
          dsimp only [metaV, metaCs]
          refine takeD (i := 4) (v := ?_) rfl rfl (by kernel_rfl) (by kernel_rfl) (by kernel_rfl) (fun _ _ _ h => h) (Or.inl ⟨by rfl, ?_⟩) hHeld ?_
          rotate_left
          · (intro v hv; skip; go_simp; try (with_reducible rfl))
          (try simp only [List.setIfInBounds_toArray, List.set_cons_zero, List.set_cons_succ])
          refine takeD (i := 5) (v := ?_) rfl rfl (by kernel_rfl) (by kernel_rfl) (by kernel_rfl) (fun _ _ _ h => h) (Or.inl ⟨by rfl, ?_⟩) hHeld ?_
          rotate_left
          · (intro v hv; skip; go_simp; try (with_reducible rfl))
          (try simp only [List.setIfInBounds_toArray, List.set_cons_zero, List.set_cons_succ])
          refine takeD (i := 6) (v := ?_) rfl rfl (by kernel_rfl) (by kernel_rfl) (by kernel_rfl) (fun _ _ _ h => h) (Or.inl ⟨by rfl, ?_⟩) hHeld ?_
          rotate_left
          · (intro v hv; skip; go_simp; try (with_reducible rfl))
          (try simp only [List.setIfInBounds_toArray, List.set_cons_zero, List.set_cons_succ])
          refine wpAnyH_ready (rs := [7]) (by kernel_rfl) (by simp) ?_
          refine AllReadyH.cons rfl (fun K hK => ?_) AllReadyH.nil
          have hrow9 := Row.new vt 29 [.slice none 0 0, .slice none 0 0, .slice none 0 0, .slice none 0 0]
          have hX9 := (Ext.refl vt).alloc (.cells #[.slice none 0 0, .slice none 0 0, .slice none 0 0, .slice none 0 0] 29)
          obtain ⟨g9, hg9⟩ : ∃ z, z = vt.heap.size := ⟨_, rfl⟩
          obtain ⟨w8, hw8⟩ : ∃ z, z = vt.alloc (.cells #[.slice none 0 0, .slice none 0 0, .slice none 0 0, .slice none 0 0] 29) := ⟨_, rfl⟩
          have hrow9 : Row w8 g9 29 [.slice none 0 0, .slice none 0 0, .slice none 0 0, .slice none 0 0] := by rw [hw8, hg9]; exact hrow9
          rw [← hw8] at hX9
          go_simp
          rw [← hw8, ← hg9]
          have HR8 := Lib.hid hrow9
          have HS8 := Lib.hid (show wA.heap.size ≤ g9 by rw [hg9]; exact hHeld.size)
          refine hK.out _ _ (hHeld.trans hX9) (fun hHeld => ?_)
          have HIN8 := Lib.hid (HIN8.out.ext hX9)
          clear hK hrow9 hX9 hw8 hg9
          refine wpAnyH_ready (rs := [8]) (by kernel_rfl) (by simp) ?_
          refine AllReadyH.cons rfl (fun K hK => ?_) AllReadyH.nil
          first | rw [if_pos (by rfl)] | skip
          refine store_rowN _ _ _ rfl rfl g9 #[.slice p8.ra C.rows.length p8.rc, .slice p8.oa C.owners.length p8.oc, .slice p8.ua C.used.length p8.uc, .slice p8.ia C.inodes.length p8.ic] rfl rfl 29 _ HR8.out infoMeta rfl (by simp [Value.oneCell']) ?_
          obtain ⟨w9, hw9⟩ : ∃ z, z = w8.setRow g9 #[.slice p8.ra C.rows.length p8.rc, .slice p8.oa C.owners.length p8.oc, .slice p8.ua C.used.length p8.uc, .slice p8.ia C.inodes.length p8.ic] := ⟨_, rfl⟩
          have hrow9 : Row w9 g9 29 [.slice p8.ra C.rows.length p8.rc, .slice p8.oa C.owners.length p8.oc, .slice p8.ua C.used.length p8.uc, .slice p8.ia C.inodes.length p8.ic] := by rw [hw9]; exact HR8.out.setRow #[.slice p8.ra C.rows.length p8.rc, .slice p8.oa C.owners.length p8.oc, .slice p8.ua C.used.length p8.uc, .slice p8.ia C.inodes.length p8.ic]
          have hin9 : MetaIn w9 p8 C := by rw [hw9]; exact MetaIn.setRow4 HIN8.out HR8.out _
          have hxw9 : Ext wA w9 := by rw [hw9]; exact hHeld.setRow HS8.out _
          rw [← hw9]
          refine hK.out _ _ hxw9 (fun hHeld => ?_)
          have HR9 := Lib.hid hrow9
          have HIN9 := Lib.hid hin9
          have HXW9 := Lib.hid hxw9
          clear hK hrow9 hin9 hxw9 hw9
          refine takeD (i := 9) (v := ?_) rfl rfl (by kernel_rfl) (by kernel_rfl) (by kernel_rfl) (fun _ _ _ h => h) (Or.inl ⟨by rfl, ?_⟩) hHeld ?_
          rotate_left
          · (intro v hv; skip; go_simp; try (with_reducible rfl))
          (try simp only [List.setIfInBounds_toArray, List.set_cons_zero, List.set_cons_succ])
          refine wpAnyH_done (by kernel_rfl) ?_ _
          clear hHeld HR8 HIN8 HS8
          have HX9 := Lib.hid (HXA2.out.trans HXW9.out)
          have HRA9 := Lib.hid (HRA.out.ext HXW9.out)
          have HINA9 := Lib.hid (HINA.out.ext HXW9.out)
          have hsh := shown_ok w9
          go_wp2_with fail
          refine hsh.mono ?_
          rintro e w10 ⟨rfl, h10⟩
          have HR10 := Lib.hid (HR9.out.ext h10)
          have HRA10 := Lib.hid (HRA9.out.ext h10)
          have q0 := (HR10.out.cell? 0).trans rfl
          have q1 := (HR10.out.cell? 1).trans rfl
          have q2 := (HR10.out.cell? 2).trans rfl
          have q3 := (HR10.out.cell? 3).trans rfl
          have r0 := (HRA10.out.cell? 0).trans rfl
          have r1 := (HRA10.out.cell? 1).trans rfl
          have r2 := (HRA10.out.cell? 2).trans rfl
          have r3 := (HRA10.out.cell? 3).trans rfl
          have hsame := Same_yes pA p8 C w10 (HINA9.out.ext h10) (HIN9.out.ext h10)
          have hsame : Calls Try.prog 15 #[.agg #[.slice pA.ra C.rows.length pA.rc, .slice pA.oa C.owners.length pA.oc, .slice pA.ua C.used.length pA.uc, .slice pA.ia C.inodes.length pA.ic], .agg #[.slice p8.ra C.rows.length p8.rc, .slice p8.oa C.owners.length p8.oc, .slice p8.ua C.used.length p8.uc, .slice p8.ia C.inodes.length p8.ic]] w10 _ := hsame
          have HX10 := Lib.hid (HX9.out.trans h10)
          clear hsh h10
          go_wp2_with fail
          refine hsame.mono ?_
          rintro e w11 ⟨rfl, h11⟩
          have HX11 := Lib.hid (HX10.out.trans h11)
          have hq : (h == h) = true := by simp
          clear hsame h11 q0 q1 q2 q3 r0 r1 r2 r3
          go_wp2
          go_ret
          exact ⟨rfl, HX11.out⟩
        refine AllReadyH.cons rfl (fun K hK => ?_) AllReadyH.nil
        have hrow9 := Row.new v0 29 [.slice none 0 0, .slice none 0 0, .slice none 0 0, .slice none 0 0]
        have hX9 := (Ext.refl v0).alloc (.cells #[.slice none 0 0, .slice none 0 0, .slice none 0 0, .slice none 0 0] 29)
        obtain ⟨g9, hg9⟩ : ∃ z, z = v0.heap.size := ⟨_, rfl⟩
        obtain ⟨w8, hw8⟩ : ∃ z, z = v0.alloc (.cells #[.slice none 0 0, .slice none 0 0, .slice none 0 0, .slice none 0 0] 29) := ⟨_, rfl⟩
        have hrow9 : Row w8 g9 29 [.slice none 0 0, .slice none 0 0, .slice none 0 0, .slice none 0 0] := by rw [hw8, hg9]; exact hrow9
        rw [← hw8] at hX9
        go_simp
        rw [← hw8, ← hg9]
        have HR8 := Lib.hid hrow9
        have HS8 := Lib.hid (show wA.heap.size ≤ g9 by rw [hg9]; exact hHeld.size)
        refine hK.out _ _ (hHeld.trans hX9) (fun hHeld => ?_)
        clear hK hrow9 hX9 hw8 hg9
        refine wpAnyH_ready (rs := [3]) (by kernel_rfl) (by simp) ?_
        refine AllReadyH.cons rfl (fun K hK => ?_) AllReadyH.nil
        go_simp
        refine (HTKB.out _ hHeld).mono ?_
        rintro e vt ⟨p8, rfl, hin8, hxn⟩
        refine hK.out _ _ (hHeld.trans hxn) (fun hHeld => ?_)
        have HIN8 := Lib.hid hin8
        have HR8 := Lib.hid (HR8.out.ext hxn)
        clear hK hxn hin8
        dsimp only [metaV, metaCs]
        refine takeD (i := 4) (v := ?_) rfl rfl (by kernel_rfl) (by kernel_rfl) (by kernel_rfl) (fun _ _ _ h => h) (Or.inl ⟨by rfl, ?_⟩) hHeld ?_
        rotate_left
        · (intro v hv; skip; go_simp; try (with_reducible rfl))
        (try simp only [List.setIfInBounds_toArray, List.set_cons_zero, List.set_cons_succ])
        refine takeD (i := 5) (v := ?_) rfl rfl (by kernel_rfl) (by kernel_rfl) (by kernel_rfl) (fun _ _ _ h => h) (Or.inl ⟨by rfl, ?_⟩) hHeld ?_
        rotate_left
        · (intro v hv; skip; go_simp; try (with_reducible rfl))
        (try simp only [List.setIfInBounds_toArray, List.set_cons_zero, List.set_cons_succ])
        refine takeD (i := 6) (v := ?_) rfl rfl (by kernel_rfl) (by kernel_rfl) (by kernel_rfl) (fun _ _ _ h => h) (Or.inl ⟨by rfl, ?_⟩) hHeld ?_
        rotate_left
        · (intro v hv; skip; go_simp; try (with_reducible rfl))
        (try simp only [List.setIfInBounds_toArray, List.set_cons_zero, List.set_cons_succ])
        refine wpAnyH_ready (rs := [8]) (by kernel_rfl) (by simp) ?_
        refine AllReadyH.cons rfl (fun K hK => ?_) AllReadyH.nil
        first | rw [if_pos (by rfl)] | skip
        refine store_rowN _ _ _ rfl rfl g9 #[.slice p8.ra C.rows.length p8.rc, .slice p8.oa C.owners.length p8.oc, .slice p8.ua C.used.length p8.uc, .slice p8.ia C.inodes.length p8.ic] rfl rfl 29 _ HR8.out infoMeta rfl (by simp [Value.oneCell']) ?_
        obtain ⟨w9, hw9⟩ : ∃ z, z = vt.setRow g9 #[.slice p8.ra C.rows.length p8.rc, .slice p8.oa C.owners.length p8.oc, .slice p8.ua C.used.length p8.uc, .slice p8.ia C.inodes.length p8.ic] := ⟨_, rfl⟩
        have hrow9 : Row w9 g9 29 [.slice p8.ra C.rows.length p8.rc, .slice p8.oa C.owners.length p8.oc, .slice p8.ua C.used.length p8.uc, .slice p8.ia C.inodes.length p8.ic] := by rw [hw9]; exact HR8.out.setRow #[.slice p8.ra C.rows.length p8.rc, .slice p8.oa C.owners.length p8.oc, .slice p8.ua C.used.length p8.uc, .slice p8.ia C.inodes.length p8.ic]
        have hin9 : MetaIn w9 p8 C := by rw [hw9]; exact MetaIn.setRow4 HIN8.out HR8.out _
        have hxw9 : Ext wA w9 := by rw [hw9]; exact hHeld.setRow HS8.out _
        rw [← hw9]
        refine hK.out _ _ hxw9 (fun hHeld => ?_)
        have HR9 := Lib.hid hrow9
        have HIN9 := Lib.hid hin9
        have HXW9 := Lib.hid hxw9
        clear hK hrow9 hin9 hxw9 hw9
        refine takeD (i := 9) (v := ?_) rfl rfl (by kernel_rfl) (by kernel_rfl) (by kernel_rfl) (fun _ _ _ h => h) (Or.inl ⟨by rfl, ?_⟩) hHeld ?_
        rotate_left
        · (intro v hv; skip; go_simp; try (with_reducible rfl))
        (try simp only [List.setIfInBounds_toArray, List.set_cons_zero, List.set_cons_succ])
        refine wpAnyH_done (by kernel_rfl) ?_ _
        clear hHeld HR8 HIN8 HS8
        have HX9 := Lib.hid (HXA2.out.trans HXW9.out)
        have HRA9 := Lib.hid (HRA.out.ext HXW9.out)
        have HINA9 := Lib.hid (HINA.out.ext HXW9.out)
        have hsh := shown_ok w9
        go_wp2_with fail
        refine hsh.mono ?_
        rintro e w10 ⟨rfl, h10⟩
        have HR10 := Lib.hid (HR9.out.ext h10)
        have HRA10 := Lib.hid (HRA9.out.ext h10)
        have q0 := (HR10.out.cell? 0).trans rfl
        have q1 := (HR10.out.cell? 1).trans rfl
        have q2 := (HR10.out.cell? 2).trans rfl
        have q3 := (HR10.out.cell? 3).trans rfl
        have r0 := (HRA10.out.cell? 0).trans rfl
        have r1 := (HRA10.out.cell? 1).trans rfl
        have r2 := (HRA10.out.cell? 2).trans rfl
        have r3 := (HRA10.out.cell? 3).trans rfl
        have hsame := Same_yes pA p8 C w10 (HINA9.out.ext h10) (HIN9.out.ext h10)
        have hsame : Calls Try.prog 15 #[.agg #[.slice pA.ra C.rows.length pA.rc, .slice pA.oa C.owners.length pA.oc, .slice pA.ua C.used.length pA.uc, .slice pA.ia C.inodes.length pA.ic], .agg #[.slice p8.ra C.rows.length p8.rc, .slice p8.oa C.owners.length p8.oc, .slice p8.ua C.used.length p8.uc, .slice p8.ia C.inodes.length p8.ic]] w10 _ := hsame
        have HX10 := Lib.hid (HX9.out.trans h10)
        clear hsh h10
        go_wp2_with fail
        refine hsame.mono ?_
        rintro e w11 ⟨rfl, h11⟩
        have HX11 := Lib.hid (HX10.out.trans h11)
        have hq : (h == h) = true := by simp
        clear hsame h11 q0 q1 q2 q3 r0 r1 r2 r3
        go_wp2
        go_ret
        exact ⟨rfl, HX11.out⟩
      refine AllReadyH.cons rfl (fun K hK => ?_) AllReadyH.nil
      have hrow9 := Row.new v0 29 [.slice none 0 0, .slice none 0 0, .slice none 0 0, .slice none 0 0]
      have hX9 := (Ext.refl v0).alloc (.cells #[.slice none 0 0, .slice none 0 0, .slice none 0 0, .slice none 0 0] 29)
      obtain ⟨g9, hg9⟩ : ∃ z, z = v0.heap.size := ⟨_, rfl⟩
      obtain ⟨w8, hw8⟩ : ∃ z, z = v0.alloc (.cells #[.slice none 0 0, .slice none 0 0, .slice none 0 0, .slice none 0 0] 29) := ⟨_, rfl⟩
      have hrow9 : Row w8 g9 29 [.slice none 0 0, .slice none 0 0, .slice none 0 0, .slice none 0 0] := by rw [hw8, hg9]; exact hrow9
      rw [← hw8] at hX9
      go_simp
      rw [← hw8, ← hg9]
      have HR8 := Lib.hid hrow9
      have HS8 := Lib.hid (show wA.heap.size ≤ g9 by rw [hg9]; exact hHeld.size)
      refine hK.out _ _ (hHeld.trans hX9) (fun hHeld => ?_)
      clear hK hrow9 hX9 hw8 hg9
      refine wpAnyH_ready (rs := [2]) (by kernel_rfl) (by simp) ?_
      refine AllReadyH.cons rfl (fun K hK => ?_) AllReadyH.nil
      go_simp
      refine (HFEW.out _ (HXA2.out.trans hHeld)).mono ?_
      rintro e vn ⟨rfl, rfl⟩
      refine hK.out _ _ hHeld (fun hHeld => ?_)
      clear hK
      refine wpAnyH_ready (rs := [3]) (by kernel_rfl) (by simp) ?_
      refine AllReadyH.cons rfl (fun K hK => ?_) AllReadyH.nil
      go_simp
      refine (HTKB.out _ hHeld).mono ?_
      rintro e vt ⟨p8, rfl, hin8, hxn⟩
      refine hK.out _ _ (hHeld.trans hxn) (fun hHeld => ?_)
      have HIN8 := Lib.hid hin8
      have HR8 := Lib.hid (HR8.out.ext hxn)
      clear hK hxn hin8
      dsimp only [metaV, metaCs]
      refine takeD (i := 4) (v := ?_) rfl rfl (by kernel_rfl) (by kernel_rfl) (by kernel_rfl) (fun _ _ _ h => h) (Or.inl ⟨by rfl, ?_⟩) hHeld ?_
      rotate_left
      · (intro v hv; skip; go_simp; try (with_reducible rfl))
      (try simp only [List.setIfInBounds_toArray, List.set_cons_zero, List.set_cons_succ])
      refine takeD (i := 5) (v := ?_) rfl rfl (by kernel_rfl) (by kernel_rfl) (by kernel_rfl) (fun _ _ _ h => h) (Or.inl ⟨by rfl, ?_⟩) hHeld ?_
      rotate_left
      · (intro v hv; skip; go_simp; try (with_reducible rfl))
      (try simp only [List.setIfInBounds_toArray, List.set_cons_zero, List.set_cons_succ])
      refine takeD (i := 6) (v := ?_) rfl rfl (by kernel_rfl) (by kernel_rfl) (by kernel_rfl) (fun _ _ _ h => h) (Or.inl ⟨by rfl, ?_⟩) hHeld ?_
      rotate_left
      · (intro v hv; skip; go_simp; try (with_reducible rfl))
      (try simp only [List.setIfInBounds_toArray, List.set_cons_zero, List.set_cons_succ])
      refine wpAnyH_ready (rs := [8]) (by kernel_rfl) (by simp) ?_
      refine AllReadyH.cons rfl (fun K hK => ?_) AllReadyH.nil
      first | rw [if_pos (by rfl)] | skip
      refine store_rowN _ _ _ rfl rfl g9 #[.slice p8.ra C.rows.length p8.rc, .slice p8.oa C.owners.length p8.oc, .slice p8.ua C.used.length p8.uc, .slice p8.ia C.inodes.length p8.ic] rfl rfl 29 _ HR8.out infoMeta rfl (by simp [Value.oneCell']) ?_
      obtain ⟨w9, hw9⟩ : ∃ z, z = vt.setRow g9 #[.slice p8.ra C.rows.length p8.rc, .slice p8.oa C.owners.length p8.oc, .slice p8.ua C.used.length p8.uc, .slice p8.ia C.inodes.length p8.ic] := ⟨_, rfl⟩
      have hrow9 : Row w9 g9 29 [.slice p8.ra C.rows.length p8.rc, .slice p8.oa C.owners.length p8.oc, .slice p8.ua C.used.length p8.uc, .slice p8.ia C.inodes.length p8.ic] := by rw [hw9]; exact HR8.out.setRow #[.slice p8.ra C.rows.length p8.rc, .slice p8.oa C.owners.length p8.oc, .slice p8.ua C.used.length p8.uc, .slice p8.ia C.inodes.length p8.ic]
      have hin9 : MetaIn w9 p8 C := by rw [hw9]; exact MetaIn.setRow4 HIN8.out HR8.out _
      have hxw9 : Ext wA w9 := by rw [hw9]; exact hHeld.setRow HS8.out _
      rw [← hw9]
      refine hK.out _ _ hxw9 (fun hHeld => ?_)
      have HR9 := Lib.hid hrow9
      have HIN9 := Lib.hid hin9
      have HXW9 := Lib.hid hxw9
      clear hK hrow9 hin9 hxw9 hw9
      refine takeD (i := 9) (v := ?_) rfl rfl (by kernel_rfl) (by kernel_rfl) (by kernel_rfl) (fun _ _ _ h => h) (Or.inl ⟨by rfl, ?_⟩) hHeld ?_
      rotate_left
      · (intro v hv; skip; go_simp; try (with_reducible rfl))
      (try simp only [List.setIfInBounds_toArray, List.set_cons_zero, List.set_cons_succ])
      refine wpAnyH_done (by kernel_rfl) ?_ _
      clear hHeld HR8 HIN8 HS8
      have HX9 := Lib.hid (HXA2.out.trans HXW9.out)
      have HRA9 := Lib.hid (HRA.out.ext HXW9.out)
      have HINA9 := Lib.hid (HINA.out.ext HXW9.out)
      have hsh := shown_ok w9
      go_wp2_with fail
      refine hsh.mono ?_
      rintro e w10 ⟨rfl, h10⟩
      have HR10 := Lib.hid (HR9.out.ext h10)
      have HRA10 := Lib.hid (HRA9.out.ext h10)
      have q0 := (HR10.out.cell? 0).trans rfl
      have q1 := (HR10.out.cell? 1).trans rfl
      have q2 := (HR10.out.cell? 2).trans rfl
      have q3 := (HR10.out.cell? 3).trans rfl
      have r0 := (HRA10.out.cell? 0).trans rfl
      have r1 := (HRA10.out.cell? 1).trans rfl
      have r2 := (HRA10.out.cell? 2).trans rfl
      have r3 := (HRA10.out.cell? 3).trans rfl
      have hsame := Same_yes pA p8 C w10 (HINA9.out.ext h10) (HIN9.out.ext h10)
      have hsame : Calls Try.prog 15 #[.agg #[.slice pA.ra C.rows.length pA.rc, .slice pA.oa C.owners.length pA.oc, .slice pA.ua C.used.length pA.uc, .slice pA.ia C.inodes.length pA.ic], .agg #[.slice p8.ra C.rows.length p8.rc, .slice p8.oa C.owners.length p8.oc, .slice p8.ua C.used.length p8.uc, .slice p8.ia C.inodes.length p8.ic]] w10 _ := hsame
      have HX10 := Lib.hid (HX9.out.trans h10)
      clear hsh h10
      go_wp2_with fail
      refine hsame.mono ?_
      rintro e w11 ⟨rfl, h11⟩
      have HX11 := Lib.hid (HX10.out.trans h11)
      have hq : (h == h) = true := by simp
      clear hsame h11 q0 q1 q2 q3 r0 r1 r2 r3
      go_wp2
      go_ret
      exact ⟨rfl, HX11.out⟩
    refine AllReadyH.cons rfl (fun K hK => ?_) AllReadyH.nil
    have hrowA := Row.new v0 29 [.slice none 0 0, .slice none 0 0, .slice none 0 0, .slice none 0 0]
    have hX9 := (Ext.refl v0).alloc (.cells #[.slice none 0 0, .slice none 0 0, .slice none 0 0, .slice none 0 0] 29)
    obtain ⟨gA, hgA⟩ : ∃ z, z = v0.heap.size := ⟨_, rfl⟩
    obtain ⟨w8, hw8⟩ : ∃ z, z = v0.alloc (.cells #[.slice none 0 0, .slice none 0 0, .slice none 0 0, .slice none 0 0] 29) := ⟨_, rfl⟩
    have hrowA : Row w8 gA 29 [.slice none 0 0, .slice none 0 0, .slice none 0 0, .slice none 0 0] := by rw [hw8, hgA]; exact hrowA
    rw [← hw8] at hX9
    go_simp
    rw [← hw8, ← hgA]
    have HR8 := Lib.hid hrowA
    have HS8 := Lib.hid (show w1.heap.size ≤ gA by rw [hgA]; exact hHeld.size)
    refine hK.out _ _ (hHeld.trans hX9) (fun hHeld => ?_)
    clear hK hrowA hX9 hw8 hgA
    refine wpAnyH_ready (rs := [3]) (by kernel_rfl) (by simp) ?_
    refine AllReadyH.cons rfl (fun K hK => ?_) AllReadyH.nil
    go_simp
    refine (HTKA.out _ hHeld).mono ?_
    rintro e vt ⟨pA, rfl, hin8, hxn⟩
    refine hK.out _ _ (hHeld.trans hxn) (fun hHeld => ?_)
    have HIN8 := Lib.hid hin8
    have HR8 := Lib.hid (HR8.out.ext hxn)
    clear hK hxn hin8
    dsimp only [metaV, metaCs]
    refine takeD (i := 4) (v := ?_) rfl rfl (by kernel_rfl) (by kernel_rfl) (by kernel_rfl) (fun _ _ _ h => h) (Or.inl ⟨by rfl, ?_⟩) hHeld ?_
    rotate_left
    · (intro v hv; skip; go_simp; try (with_reducible rfl))
    (try simp only [List.setIfInBounds_toArray, List.set_cons_zero, List.set_cons_succ])
    refine takeD (i := 5) (v := ?_) rfl rfl (by kernel_rfl) (by kernel_rfl) (by kernel_rfl) (fun _ _ _ h => h) (Or.inl ⟨by rfl, ?_⟩) hHeld ?_
    rotate_left
    · (intro v hv; skip; go_simp; try (with_reducible rfl))
    (try simp only [List.setIfInBounds_toArray, List.set_cons_zero, List.set_cons_succ])
    refine takeD (i := 6) (v := ?_) rfl rfl (by kernel_rfl) (by kernel_rfl) (by kernel_rfl) (fun _ _ _ h => h) (Or.inl ⟨by rfl, ?_⟩) hHeld ?_
    rotate_left
    · (intro v hv; skip; go_simp; try (with_reducible rfl))
    (try simp only [List.setIfInBounds_toArray, List.set_cons_zero, List.set_cons_succ])
    refine wpAnyH_ready (rs := [8]) (by kernel_rfl) (by simp) ?_
    refine AllReadyH.cons rfl (fun K hK => ?_) AllReadyH.nil
    first | rw [if_pos (by rfl)] | skip
    refine store_rowN _ _ _ rfl rfl gA #[.slice pA.ra C.rows.length pA.rc, .slice pA.oa C.owners.length pA.oc, .slice pA.ua C.used.length pA.uc, .slice pA.ia C.inodes.length pA.ic] rfl rfl 29 _ HR8.out infoMeta rfl (by simp [Value.oneCell']) ?_
    obtain ⟨wA, hwA⟩ : ∃ z, z = vt.setRow gA #[.slice pA.ra C.rows.length pA.rc, .slice pA.oa C.owners.length pA.oc, .slice pA.ua C.used.length pA.uc, .slice pA.ia C.inodes.length pA.ic] := ⟨_, rfl⟩
    have hrowA : Row wA gA 29 [.slice pA.ra C.rows.length pA.rc, .slice pA.oa C.owners.length pA.oc, .slice pA.ua C.used.length pA.uc, .slice pA.ia C.inodes.length pA.ic] := by rw [hwA]; exact HR8.out.setRow #[.slice pA.ra C.rows.length pA.rc, .slice pA.oa C.owners.length pA.oc, .slice pA.ua C.used.length pA.uc, .slice pA.ia C.inodes.length pA.ic]
    have hin9 : MetaIn wA pA C := by rw [hwA]; exact MetaIn.setRow4 HIN8.out HR8.out _
    have hxwA : Ext w1 wA := by rw [hwA]; exact hHeld.setRow HS8.out _
    rw [← hwA]
    refine hK.out _ _ hxwA (fun hHeld => ?_)
    have HRA := Lib.hid hrowA
    have HINA := Lib.hid hin9
    have HXA := Lib.hid hxwA
    clear hK hrowA hin9 hxwA hwA
    refine takeD (i := 9) (v := ?_) rfl rfl (by kernel_rfl) (by kernel_rfl) (by kernel_rfl) (fun _ _ _ h => h) (Or.inl ⟨by rfl, ?_⟩) hHeld ?_
    rotate_left
    · (intro v hv; skip; go_simp; try (with_reducible rfl))
    (try simp only [List.setIfInBounds_toArray, List.set_cons_zero, List.set_cons_succ])
    refine wpAnyH_done (by kernel_rfl) ?_ _
    clear hHeld HR8 HIN8 HS8
    have HXA2 := Lib.hid (HX1.out.trans HXA.out)
    have HBA := Lib.hid (HB1.out.ext HXA.out)
    have HTKB := Lib.hid (fun (v : World) (e : Ext wA v) => HTR.out v (HXA2.out.trans e))
    go_wp2_with fail
    refine wp_region_held_drew (S := (fun v => Ext wA v)) (by kernel_rfl) ((Ext.refl _).drew) (fun hHeld => ?_)
    generalize wA.drew = v0 at *
    refine takeD (i := 0) (v := ?_) rfl rfl (by kernel_rfl) (by kernel_rfl) (by kernel_rfl) (fun _ _ _ h => h) (Or.inl ⟨by rfl, ?_⟩) hHeld ?_
    rotate_left
    · (intro v hv; (have c0 := ((HBA.out.ext hv).cell? 0).trans rfl; have c1 := ((HBA.out.ext hv).cell? 1).trans rfl; have c2 := ((HBA.out.ext hv).cell? 2).trans rfl; have c3 := ((HBA.out.ext hv).cell? 3).trans rfl); go_simp; try (with_reducible rfl))
    (try simp only [List.setIfInBounds_toArray, List.set_cons_zero, List.set_cons_succ])
    refine takeD (i := 1) (v := ?_) rfl rfl (by kernel_rfl) (by kernel_rfl) (by kernel_rfl) (fun _ _ _ h => h) (Or.inl ⟨by rfl, ?_⟩) hHeld ?_
    rotate_left
    · (intro v hv; skip; go_simp; try (with_reducible rfl))
    (try simp only [List.setIfInBounds_toArray, List.set_cons_zero, List.set_cons_succ])
    refine wpAnyH_ready (rs := [2, 7]) (by kernel_rfl) (by simp) ?_
    refine AllReadyH.cons rfl (fun K hK => ?_) ?_
    · go_simp
      refine (HFEW.out _ (HXA2.out.trans hHeld)).mono ?_
      rintro e vn ⟨rfl, rfl⟩
      refine hK.out _ _ hHeld (fun hHeld => ?_)
      clear hK
      refine wpAnyH_ready (rs := [3, 7]) (by kernel_rfl) (by simp) ?_
      refine AllReadyH.cons rfl (fun K hK => ?_) ?_
      · go_simp
        refine (HTKB.out _ hHeld).mono ?_
        rintro e vt ⟨p8, rfl, hin8, hxn⟩
        refine hK.out _ _ (hHeld.trans hxn) (fun hHeld => ?_)
        have HIN8 := Lib.hid hin8
        clear hK hxn hin8
        dsimp only [metaV, metaCs]
        refine takeD (i := 4) (v := ?_) rfl rfl (by kernel_rfl) (by kernel_rfl) (by kernel_rfl) (fun _ _ _ h => h) (Or.inl ⟨by rfl, ?_⟩) hHeld ?_
        rotate_left
        · (intro v hv; skip; go_simp; try (with_reducible rfl))
        (try simp only [List.setIfInBounds_toArray, List.set_cons_zero, List.set_cons_succ])
        refine takeD (i := 5) (v := ?_) rfl rfl (by kernel_rfl) (by kernel_rfl) (by kernel_rfl) (fun _ _ _ h => h) (Or.inl ⟨by rfl, ?_⟩) hHeld ?_
        rotate_left
        · (intro v hv; skip; go_simp; try (with_reducible rfl))
        (try simp only [List.setIfInBounds_toArray, List.set_cons_zero, List.set_cons_succ])
        refine takeD (i := 6) (v := ?_) rfl rfl (by kernel_rfl) (by kernel_rfl) (by kernel_rfl) (fun _ _ _ h => h) (Or.inl ⟨by rfl, ?_⟩) hHeld ?_
        rotate_left
        · (intro v hv; skip; go_simp; try (with_reducible rfl))
        (try simp only [List.setIfInBounds_toArray, List.set_cons_zero, List.set_cons_succ])
        refine wpAnyH_ready (rs := [7]) (by kernel_rfl) (by simp) ?_
        refine AllReadyH.cons rfl (fun K hK => ?_) AllReadyH.nil
        have hrow9 := Row.new vt 29 [.slice none 0 0, .slice none 0 0, .slice none 0 0, .slice none 0 0]
        have hX9 := (Ext.refl vt).alloc (.cells #[.slice none 0 0, .slice none 0 0, .slice none 0 0, .slice none 0 0] 29)
        obtain ⟨g9, hg9⟩ : ∃ z, z = vt.heap.size := ⟨_, rfl⟩
        obtain ⟨w8, hw8⟩ : ∃ z, z = vt.alloc (.cells #[.slice none 0 0, .slice none 0 0, .slice none 0 0, .slice none 0 0] 29) := ⟨_, rfl⟩
        have hrow9 : Row w8 g9 29 [.slice none 0 0, .slice none 0 0, .slice none 0 0, .slice none 0 0] := by rw [hw8, hg9]; exact hrow9
        rw [← hw8] at hX9
        go_simp
        rw [← hw8, ← hg9]
        have HR8 := Lib.hid hrow9
        have HS8 := Lib.hid (show wA.heap.size ≤ g9 by rw [hg9]; exact hHeld.size)
        refine hK.out _ _ (hHeld.trans hX9) (fun hHeld => ?_)
        have HIN8 := Lib.hid (HIN8.out.ext hX9)
        clear hK hrow9 hX9 hw8 hg9
        refine wpAnyH_ready (rs := [8]) (by kernel_rfl) (by simp) ?_
        refine AllReadyH.cons rfl (fun K hK => ?_) AllReadyH.nil
        first | rw [if_pos (by rfl)] | skip
        refine store_rowN _ _ _ rfl rfl g9 #[.slice p8.ra C.rows.length p8.rc, .slice p8.oa C.owners.length p8.oc, .slice p8.ua C.used.length p8.uc, .slice p8.ia C.inodes.length p8.ic] rfl rfl 29 _ HR8.out infoMeta rfl (by simp [Value.oneCell']) ?_
        obtain ⟨w9, hw9⟩ : ∃ z, z = w8.setRow g9 #[.slice p8.ra C.rows.length p8.rc, .slice p8.oa C.owners.length p8.oc, .slice p8.ua C.used.length p8.uc, .slice p8.ia C.inodes.length p8.ic] := ⟨_, rfl⟩
        have hrow9 : Row w9 g9 29 [.slice p8.ra C.rows.length p8.rc, .slice p8.oa C.owners.length p8.oc, .slice p8.ua C.used.length p8.uc, .slice p8.ia C.inodes.length p8.ic] := by rw [hw9]; exact HR8.out.setRow #[.slice p8.ra C.rows.length p8.rc, .slice p8.oa C.owners.length p8.oc, .slice p8.ua C.used.length p8.uc, .slice p8.ia C.inodes.length p8.ic]
        have hin9 : MetaIn w9 p8 C := by rw [hw9]; exact MetaIn.setRow4 HIN8.out HR8.out _
        have hxw9 : Ext wA w9 := by rw [hw9]; exact hHeld.setRow HS8.out _
        rw [← hw9]
        refine hK.out _ _ hxw9 (fun hHeld => ?_)
        have HR9 := Lib.hid hrow9
        have HIN9 := Lib.hid hin9
        have HXW9 := Lib.hid hxw9
        clear hK hrow9 hin9 hxw9 hw9
        refine takeD (i := 9) (v := ?_) rfl rfl (by kernel_rfl) (by kernel_rfl) (by kernel_rfl) (fun _ _ _ h => h) (Or.inl ⟨by rfl, ?_⟩) hHeld ?_
        rotate_left
        · (intro v hv; skip; go_simp; try (with_reducible rfl))
        (try simp only [List.setIfInBounds_toArray, List.set_cons_zero, List.set_cons_succ])
        refine wpAnyH_done (by kernel_rfl) ?_ _
        clear hHeld HR8 HIN8 HS8
        have HX9 := Lib.hid (HXA2.out.trans HXW9.out)
        have HRA9 := Lib.hid (HRA.out.ext HXW9.out)
        have HINA9 := Lib.hid (HINA.out.ext HXW9.out)
        have hsh := shown_ok w9
        go_wp2_with fail
        refine hsh.mono ?_
        rintro e w10 ⟨rfl, h10⟩
        have HR10 := Lib.hid (HR9.out.ext h10)
        have HRA10 := Lib.hid (HRA9.out.ext h10)
        have q0 := (HR10.out.cell? 0).trans rfl
        have q1 := (HR10.out.cell? 1).trans rfl
        have q2 := (HR10.out.cell? 2).trans rfl
        have q3 := (HR10.out.cell? 3).trans rfl
        have r0 := (HRA10.out.cell? 0).trans rfl
        have r1 := (HRA10.out.cell? 1).trans rfl
        have r2 := (HRA10.out.cell? 2).trans rfl
        have r3 := (HRA10.out.cell? 3).trans rfl
        have hsame := Same_yes pA p8 C w10 (HINA9.out.ext h10) (HIN9.out.ext h10)
        have hsame : Calls Try.prog 15 #[.agg #[.slice pA.ra C.rows.length pA.rc, .slice pA.oa C.owners.length pA.oc, .slice pA.ua C.used.length pA.uc, .slice pA.ia C.inodes.length pA.ic], .agg #[.slice p8.ra C.rows.length p8.rc, .slice p8.oa C.owners.length p8.oc, .slice p8.ua C.used.length p8.uc, .slice p8.ia C.inodes.length p8.ic]] w10 _ := hsame
        have HX10 := Lib.hid (HX9.out.trans h10)
        clear hsh h10
        go_wp2_with fail
        refine hsame.mono ?_
        rintro e w11 ⟨rfl, h11⟩
        have HX11 := Lib.hid (HX10.out.trans h11)
        have hq : (h == h) = true := by simp
        clear hsame h11 q0 q1 q2 q3 r0 r1 r2 r3
        go_wp2
        go_ret
        exact ⟨rfl, HX11.out⟩
      refine AllReadyH.cons rfl (fun K hK => ?_) AllReadyH.nil
      have hrow9 := Row.new v0 29 [.slice none 0 0, .slice none 0 0, .slice none 0 0, .slice none 0 0]
      have hX9 := (Ext.refl v0).alloc (.cells #[.slice none 0 0, .slice none 0 0, .slice none 0 0, .slice none 0 0] 29)
      obtain ⟨g9, hg9⟩ : ∃ z, z = v0.heap.size := ⟨_, rfl⟩
      obtain ⟨w8, hw8⟩ : ∃ z, z = v0.alloc (.cells #[.slice none 0 0, .slice none 0 0, .slice none 0 0, .slice none 0 0] 29) := ⟨_, rfl⟩
      have hrow9 : Row w8 g9 29 [.slice none 0 0, .slice none 0 0, .slice none 0 0, .slice none 0 0] := by rw [hw8, hg9]; exact hrow9
      rw [← hw8] at hX9
      go_simp
      rw [← hw8, ← hg9]
      have HR8 := Lib.hid hrow9
      have HS8 := Lib.hid (show wA.heap.size ≤ g9 by rw [hg9]; exact hHeld.size)
      refine hK.out _ _ (hHeld.trans hX9) (fun hHeld => ?_)
      clear hK hrow9 hX9 hw8 hg9
      refine wpAnyH_ready (rs := [3]) (by kernel_rfl) (by simp) ?_
      refine AllReadyH.cons rfl (fun K hK => ?_) AllReadyH.nil
      go_simp
      refine (HTKB.out _ hHeld).mono ?_
      rintro e vt ⟨p8, rfl, hin8, hxn⟩
      refine hK.out _ _ (hHeld.trans hxn) (fun hHeld => ?_)
      have HIN8 := Lib.hid hin8
      have HR8 := Lib.hid (HR8.out.ext hxn)
      clear hK hxn hin8
      dsimp only [metaV, metaCs]
      refine takeD (i := 4) (v := ?_) rfl rfl (by kernel_rfl) (by kernel_rfl) (by kernel_rfl) (fun _ _ _ h => h) (Or.inl ⟨by rfl, ?_⟩) hHeld ?_
      rotate_left
      · (intro v hv; skip; go_simp; try (with_reducible rfl))
      (try simp only [List.setIfInBounds_toArray, List.set_cons_zero, List.set_cons_succ])
      refine takeD (i := 5) (v := ?_) rfl rfl (by kernel_rfl) (by kernel_rfl) (by kernel_rfl) (fun _ _ _ h => h) (Or.inl ⟨by rfl, ?_⟩) hHeld ?_
      rotate_left
      · (intro v hv; skip; go_simp; try (with_reducible rfl))
      (try simp only [List.setIfInBounds_toArray, List.set_cons_zero, List.set_cons_succ])
      refine takeD (i := 6) (v := ?_) rfl rfl (by kernel_rfl) (by kernel_rfl) (by kernel_rfl) (fun _ _ _ h => h) (Or.inl ⟨by rfl, ?_⟩) hHeld ?_
      rotate_left
      · (intro v hv; skip; go_simp; try (with_reducible rfl))
      (try simp only [List.setIfInBounds_toArray, List.set_cons_zero, List.set_cons_succ])
      refine wpAnyH_ready (rs := [8]) (by kernel_rfl) (by simp) ?_
      refine AllReadyH.cons rfl (fun K hK => ?_) AllReadyH.nil
      first | rw [if_pos (by rfl)] | skip
      refine store_rowN _ _ _ rfl rfl g9 #[.slice p8.ra C.rows.length p8.rc, .slice p8.oa C.owners.length p8.oc, .slice p8.ua C.used.length p8.uc, .slice p8.ia C.inodes.length p8.ic] rfl rfl 29 _ HR8.out infoMeta rfl (by simp [Value.oneCell']) ?_
      obtain ⟨w9, hw9⟩ : ∃ z, z = vt.setRow g9 #[.slice p8.ra C.rows.length p8.rc, .slice p8.oa C.owners.length p8.oc, .slice p8.ua C.used.length p8.uc, .slice p8.ia C.inodes.length p8.ic] := ⟨_, rfl⟩
      have hrow9 : Row w9 g9 29 [.slice p8.ra C.rows.length p8.rc, .slice p8.oa C.owners.length p8.oc, .slice p8.ua C.used.length p8.uc, .slice p8.ia C.inodes.length p8.ic] := by rw [hw9]; exact HR8.out.setRow #[.slice p8.ra C.rows.length p8.rc, .slice p8.oa C.owners.length p8.oc, .slice p8.ua C.used.length p8.uc, .slice p8.ia C.inodes.length p8.ic]
      have hin9 : MetaIn w9 p8 C := by rw [hw9]; exact MetaIn.setRow4 HIN8.out HR8.out _
      have hxw9 : Ext wA w9 := by rw [hw9]; exact hHeld.setRow HS8.out _
      rw [← hw9]
      refine hK.out _ _ hxw9 (fun hHeld => ?_)
      have HR9 := Lib.hid hrow9
      have HIN9 := Lib.hid hin9
      have HXW9 := Lib.hid hxw9
      clear hK hrow9 hin9 hxw9 hw9
      refine takeD (i := 9) (v := ?_) rfl rfl (by kernel_rfl) (by kernel_rfl) (by kernel_rfl) (fun _ _ _ h => h) (Or.inl ⟨by rfl, ?_⟩) hHeld ?_
      rotate_left
      · (intro v hv; skip; go_simp; try (with_reducible rfl))
      (try simp only [List.setIfInBounds_toArray, List.set_cons_zero, List.set_cons_succ])
      refine wpAnyH_done (by kernel_rfl) ?_ _
      clear hHeld HR8 HIN8 HS8
      have HX9 := Lib.hid (HXA2.out.trans HXW9.out)
      have HRA9 := Lib.hid (HRA.out.ext HXW9.out)
      have HINA9 := Lib.hid (HINA.out.ext HXW9.out)
      have hsh := shown_ok w9
      go_wp2_with fail
      refine hsh.mono ?_
      rintro e w10 ⟨rfl, h10⟩
      have HR10 := Lib.hid (HR9.out.ext h10)
      have HRA10 := Lib.hid (HRA9.out.ext h10)
      have q0 := (HR10.out.cell? 0).trans rfl
      have q1 := (HR10.out.cell? 1).trans rfl
      have q2 := (HR10.out.cell? 2).trans rfl
      have q3 := (HR10.out.cell? 3).trans rfl
      have r0 := (HRA10.out.cell? 0).trans rfl
      have r1 := (HRA10.out.cell? 1).trans rfl
      have r2 := (HRA10.out.cell? 2).trans rfl
      have r3 := (HRA10.out.cell? 3).trans rfl
      have hsame := Same_yes pA p8 C w10 (HINA9.out.ext h10) (HIN9.out.ext h10)
      have hsame : Calls Try.prog 15 #[.agg #[.slice pA.ra C.rows.length pA.rc, .slice pA.oa C.owners.length pA.oc, .slice pA.ua C.used.length pA.uc, .slice pA.ia C.inodes.length pA.ic], .agg #[.slice p8.ra C.rows.length p8.rc, .slice p8.oa C.owners.length p8.oc, .slice p8.ua C.used.length p8.uc, .slice p8.ia C.inodes.length p8.ic]] w10 _ := hsame
      have HX10 := Lib.hid (HX9.out.trans h10)
      clear hsh h10
      go_wp2_with fail
      refine hsame.mono ?_
      rintro e w11 ⟨rfl, h11⟩
      have HX11 := Lib.hid (HX10.out.trans h11)
      have hq : (h == h) = true := by simp
      clear hsame h11 q0 q1 q2 q3 r0 r1 r2 r3
      go_wp2
      go_ret
      exact ⟨rfl, HX11.out⟩
    refine AllReadyH.cons rfl (fun K hK => ?_) AllReadyH.nil
    have hrow9 := Row.new v0 29 [.slice none 0 0, .slice none 0 0, .slice none 0 0, .slice none 0 0]
    have hX9 := (Ext.refl v0).alloc (.cells #[.slice none 0 0, .slice none 0 0, .slice none 0 0, .slice none 0 0] 29)
    obtain ⟨g9, hg9⟩ : ∃ z, z = v0.heap.size := ⟨_, rfl⟩
    obtain ⟨w8, hw8⟩ : ∃ z, z = v0.alloc (.cells #[.slice none 0 0, .slice none 0 0, .slice none 0 0, .slice none 0 0] 29) := ⟨_, rfl⟩
    have hrow9 : Row w8 g9 29 [.slice none 0 0, .slice none 0 0, .slice none 0 0, .slice none 0 0] := by rw [hw8, hg9]; exact hrow9
    rw [← hw8] at hX9
    go_simp
    rw [← hw8, ← hg9]
    have HR8 := Lib.hid hrow9
    have HS8 := Lib.hid (show wA.heap.size ≤ g9 by rw [hg9]; exact hHeld.size)
    refine hK.out _ _ (hHeld.trans hX9) (fun hHeld => ?_)
    clear hK hrow9 hX9 hw8 hg9
    refine wpAnyH_ready (rs := [2]) (by kernel_rfl) (by simp) ?_
    refine AllReadyH.cons rfl (fun K hK => ?_) AllReadyH.nil
    go_simp
    refine (HFEW.out _ (HXA2.out.trans hHeld)).mono ?_
    rintro e vn ⟨rfl, rfl⟩
    refine hK.out _ _ hHeld (fun hHeld => ?_)
    clear hK
    refine wpAnyH_ready (rs := [3]) (by kernel_rfl) (by simp) ?_
    refine AllReadyH.cons rfl (fun K hK => ?_) AllReadyH.nil
    go_simp
    refine (HTKB.out _ hHeld).mono ?_
    rintro e vt ⟨p8, rfl, hin8, hxn⟩
    refine hK.out _ _ (hHeld.trans hxn) (fun hHeld => ?_)
    have HIN8 := Lib.hid hin8
    have HR8 := Lib.hid (HR8.out.ext hxn)
    clear hK hxn hin8
    dsimp only [metaV, metaCs]
    refine takeD (i := 4) (v := ?_) rfl rfl (by kernel_rfl) (by kernel_rfl) (by kernel_rfl) (fun _ _ _ h => h) (Or.inl ⟨by rfl, ?_⟩) hHeld ?_
    rotate_left
    · (intro v hv; skip; go_simp; try (with_reducible rfl))
    (try simp only [List.setIfInBounds_toArray, List.set_cons_zero, List.set_cons_succ])
    refine takeD (i := 5) (v := ?_) rfl rfl (by kernel_rfl) (by kernel_rfl) (by kernel_rfl) (fun _ _ _ h => h) (Or.inl ⟨by rfl, ?_⟩) hHeld ?_
    rotate_left
    · (intro v hv; skip; go_simp; try (with_reducible rfl))
    (try simp only [List.setIfInBounds_toArray, List.set_cons_zero, List.set_cons_succ])
    refine takeD (i := 6) (v := ?_) rfl rfl (by kernel_rfl) (by kernel_rfl) (by kernel_rfl) (fun _ _ _ h => h) (Or.inl ⟨by rfl, ?_⟩) hHeld ?_
    rotate_left
    · (intro v hv; skip; go_simp; try (with_reducible rfl))
    (try simp only [List.setIfInBounds_toArray, List.set_cons_zero, List.set_cons_succ])
    refine wpAnyH_ready (rs := [8]) (by kernel_rfl) (by simp) ?_
    refine AllReadyH.cons rfl (fun K hK => ?_) AllReadyH.nil
    first | rw [if_pos (by rfl)] | skip
    refine store_rowN _ _ _ rfl rfl g9 #[.slice p8.ra C.rows.length p8.rc, .slice p8.oa C.owners.length p8.oc, .slice p8.ua C.used.length p8.uc, .slice p8.ia C.inodes.length p8.ic] rfl rfl 29 _ HR8.out infoMeta rfl (by simp [Value.oneCell']) ?_
    obtain ⟨w9, hw9⟩ : ∃ z, z = vt.setRow g9 #[.slice p8.ra C.rows.length p8.rc, .slice p8.oa C.owners.length p8.oc, .slice p8.ua C.used.length p8.uc, .slice p8.ia C.inodes.length p8.ic] := ⟨_, rfl⟩
    have hrow9 : Row w9 g9 29 [.slice p8.ra C.rows.length p8.rc, .slice p8.oa C.owners.length p8.oc, .slice p8.ua C.used.length p8.uc, .slice p8.ia C.inodes.length p8.ic] := by rw [hw9]; exact HR8.out.setRow #[.slice p8.ra C.rows.length p8.rc, .slice p8.oa C.owners.length p8.oc, .slice p8.ua C.used.length p8.uc, .slice p8.ia C.inodes.length p8.ic]
    have hin9 : MetaIn w9 p8 C := by rw [hw9]; exact MetaIn.setRow4 HIN8.out HR8.out _
    have hxw9 : Ext wA w9 := by rw [hw9]; exact hHeld.setRow HS8.out _
    rw [← hw9]
    refine hK.out _ _ hxw9 (fun hHeld => ?_)
    have HR9 := Lib.hid hrow9
    have HIN9 := Lib.hid hin9
    have HXW9 := Lib.hid hxw9
    clear hK hrow9 hin9 hxw9 hw9
    refine takeD (i := 9) (v := ?_) rfl rfl (by kernel_rfl) (by kernel_rfl) (by kernel_rfl) (fun _ _ _ h => h) (Or.inl ⟨by rfl, ?_⟩) hHeld ?_
    rotate_left
    · (intro v hv; skip; go_simp; try (with_reducible rfl))
    (try simp only [List.setIfInBounds_toArray, List.set_cons_zero, List.set_cons_succ])
    refine wpAnyH_done (by kernel_rfl) ?_ _
    clear hHeld HR8 HIN8 HS8
    have HX9 := Lib.hid (HXA2.out.trans HXW9.out)
    have HRA9 := Lib.hid (HRA.out.ext HXW9.out)
    have HINA9 := Lib.hid (HINA.out.ext HXW9.out)
    have hsh := shown_ok w9
    go_wp2_with fail
    refine hsh.mono ?_
    rintro e w10 ⟨rfl, h10⟩
    have HR10 := Lib.hid (HR9.out.ext h10)
    have HRA10 := Lib.hid (HRA9.out.ext h10)
    have q0 := (HR10.out.cell? 0).trans rfl
    have q1 := (HR10.out.cell? 1).trans rfl
    have q2 := (HR10.out.cell? 2).trans rfl
    have q3 := (HR10.out.cell? 3).trans rfl
    have r0 := (HRA10.out.cell? 0).trans rfl
    have r1 := (HRA10.out.cell? 1).trans rfl
    have r2 := (HRA10.out.cell? 2).trans rfl
    have r3 := (HRA10.out.cell? 3).trans rfl
    have hsame := Same_yes pA p8 C w10 (HINA9.out.ext h10) (HIN9.out.ext h10)
    have hsame : Calls Try.prog 15 #[.agg #[.slice pA.ra C.rows.length pA.rc, .slice pA.oa C.owners.length pA.oc, .slice pA.ua C.used.length pA.uc, .slice pA.ia C.inodes.length pA.ic], .agg #[.slice p8.ra C.rows.length p8.rc, .slice p8.oa C.owners.length p8.oc, .slice p8.ua C.used.length p8.uc, .slice p8.ia C.inodes.length p8.ic]] w10 _ := hsame
    have HX10 := Lib.hid (HX9.out.trans h10)
    clear hsh h10
    go_wp2_with fail
    refine hsame.mono ?_
    rintro e w11 ⟨rfl, h11⟩
    have HX11 := Lib.hid (HX10.out.trans h11)
    have hq : (h == h) = true := by simp
    clear hsame h11 q0 q1 q2 q3 r0 r1 r2 r3
    go_wp2
    go_ret
    exact ⟨rfl, HX11.out⟩
  refine AllReadyH.cons rfl (fun K hK => ?_) AllReadyH.nil
  have hrowA := Row.new v0 29 [.slice none 0 0, .slice none 0 0, .slice none 0 0, .slice none 0 0]
  have hX9 := (Ext.refl v0).alloc (.cells #[.slice none 0 0, .slice none 0 0, .slice none 0 0, .slice none 0 0] 29)
  obtain ⟨gA, hgA⟩ : ∃ z, z = v0.heap.size := ⟨_, rfl⟩
  obtain ⟨w8, hw8⟩ : ∃ z, z = v0.alloc (.cells #[.slice none 0 0, .slice none 0 0, .slice none 0 0, .slice none 0 0] 29) := ⟨_, rfl⟩
  have hrowA : Row w8 gA 29 [.slice none 0 0, .slice none 0 0, .slice none 0 0, .slice none 0 0] := by rw [hw8, hgA]; exact hrowA
  rw [← hw8] at hX9
  go_simp
  rw [← hw8, ← hgA]
  have HR8 := Lib.hid hrowA
  have HS8 := Lib.hid (show w1.heap.size ≤ gA by rw [hgA]; exact hHeld.size)
  refine hK.out _ _ (hHeld.trans hX9) (fun hHeld => ?_)
  clear hK hrowA hX9 hw8 hgA
  refine wpAnyH_ready (rs := [2]) (by kernel_rfl) (by simp) ?_
  refine AllReadyH.cons rfl (fun K hK => ?_) AllReadyH.nil
  go_simp
  refine (HFEW.out _ (HX1.out.trans hHeld)).mono ?_
  rintro e vn ⟨rfl, rfl⟩
  refine hK.out _ _ hHeld (fun hHeld => ?_)
  clear hK
  refine wpAnyH_ready (rs := [3]) (by kernel_rfl) (by simp) ?_
  refine AllReadyH.cons rfl (fun K hK => ?_) AllReadyH.nil
  go_simp
  refine (HTKA.out _ hHeld).mono ?_
  rintro e vt ⟨pA, rfl, hin8, hxn⟩
  refine hK.out _ _ (hHeld.trans hxn) (fun hHeld => ?_)
  have HIN8 := Lib.hid hin8
  have HR8 := Lib.hid (HR8.out.ext hxn)
  clear hK hxn hin8
  dsimp only [metaV, metaCs]
  refine takeD (i := 4) (v := ?_) rfl rfl (by kernel_rfl) (by kernel_rfl) (by kernel_rfl) (fun _ _ _ h => h) (Or.inl ⟨by rfl, ?_⟩) hHeld ?_
  rotate_left
  · (intro v hv; skip; go_simp; try (with_reducible rfl))
  (try simp only [List.setIfInBounds_toArray, List.set_cons_zero, List.set_cons_succ])
  refine takeD (i := 5) (v := ?_) rfl rfl (by kernel_rfl) (by kernel_rfl) (by kernel_rfl) (fun _ _ _ h => h) (Or.inl ⟨by rfl, ?_⟩) hHeld ?_
  rotate_left
  · (intro v hv; skip; go_simp; try (with_reducible rfl))
  (try simp only [List.setIfInBounds_toArray, List.set_cons_zero, List.set_cons_succ])
  refine takeD (i := 6) (v := ?_) rfl rfl (by kernel_rfl) (by kernel_rfl) (by kernel_rfl) (fun _ _ _ h => h) (Or.inl ⟨by rfl, ?_⟩) hHeld ?_
  rotate_left
  · (intro v hv; skip; go_simp; try (with_reducible rfl))
  (try simp only [List.setIfInBounds_toArray, List.set_cons_zero, List.set_cons_succ])
  refine wpAnyH_ready (rs := [8]) (by kernel_rfl) (by simp) ?_
  refine AllReadyH.cons rfl (fun K hK => ?_) AllReadyH.nil
  first | rw [if_pos (by rfl)] | skip
  refine store_rowN _ _ _ rfl rfl gA #[.slice pA.ra C.rows.length pA.rc, .slice pA.oa C.owners.length pA.oc, .slice pA.ua C.used.length pA.uc, .slice pA.ia C.inodes.length pA.ic] rfl rfl 29 _ HR8.out infoMeta rfl (by simp [Value.oneCell']) ?_
  obtain ⟨wA, hwA⟩ : ∃ z, z = vt.setRow gA #[.slice pA.ra C.rows.length pA.rc, .slice pA.oa C.owners.length pA.oc, .slice pA.ua C.used.length pA.uc, .slice pA.ia C.inodes.length pA.ic] := ⟨_, rfl⟩
  have hrowA : Row wA gA 29 [.slice pA.ra C.rows.length pA.rc, .slice pA.oa C.owners.length pA.oc, .slice pA.ua C.used.length pA.uc, .slice pA.ia C.inodes.length pA.ic] := by rw [hwA]; exact HR8.out.setRow #[.slice pA.ra C.rows.length pA.rc, .slice pA.oa C.owners.length pA.oc, .slice pA.ua C.used.length pA.uc, .slice pA.ia C.inodes.length pA.ic]
  have hin9 : MetaIn wA pA C := by rw [hwA]; exact MetaIn.setRow4 HIN8.out HR8.out _
  have hxwA : Ext w1 wA := by rw [hwA]; exact hHeld.setRow HS8.out _
  rw [← hwA]
  refine hK.out _ _ hxwA (fun hHeld => ?_)
  have HRA := Lib.hid hrowA
  have HINA := Lib.hid hin9
  have HXA := Lib.hid hxwA
  clear hK hrowA hin9 hxwA hwA
  refine takeD (i := 9) (v := ?_) rfl rfl (by kernel_rfl) (by kernel_rfl) (by kernel_rfl) (fun _ _ _ h => h) (Or.inl ⟨by rfl, ?_⟩) hHeld ?_
  rotate_left
  · (intro v hv; skip; go_simp; try (with_reducible rfl))
  (try simp only [List.setIfInBounds_toArray, List.set_cons_zero, List.set_cons_succ])
  refine wpAnyH_done (by kernel_rfl) ?_ _
  clear hHeld HR8 HIN8 HS8
  have HXA2 := Lib.hid (HX1.out.trans HXA.out)
  have HBA := Lib.hid (HB1.out.ext HXA.out)
  have HTKB := Lib.hid (fun (v : World) (e : Ext wA v) => HTR.out v (HXA2.out.trans e))
  go_wp2_with fail
  refine wp_region_held_drew (S := (fun v => Ext wA v)) (by kernel_rfl) ((Ext.refl _).drew) (fun hHeld => ?_)
  generalize wA.drew = v0 at *
  refine takeD (i := 0) (v := ?_) rfl rfl (by kernel_rfl) (by kernel_rfl) (by kernel_rfl) (fun _ _ _ h => h) (Or.inl ⟨by rfl, ?_⟩) hHeld ?_
  rotate_left
  · (intro v hv; (have c0 := ((HBA.out.ext hv).cell? 0).trans rfl; have c1 := ((HBA.out.ext hv).cell? 1).trans rfl; have c2 := ((HBA.out.ext hv).cell? 2).trans rfl; have c3 := ((HBA.out.ext hv).cell? 3).trans rfl); go_simp; try (with_reducible rfl))
  (try simp only [List.setIfInBounds_toArray, List.set_cons_zero, List.set_cons_succ])
  refine takeD (i := 1) (v := ?_) rfl rfl (by kernel_rfl) (by kernel_rfl) (by kernel_rfl) (fun _ _ _ h => h) (Or.inl ⟨by rfl, ?_⟩) hHeld ?_
  rotate_left
  · (intro v hv; skip; go_simp; try (with_reducible rfl))
  (try simp only [List.setIfInBounds_toArray, List.set_cons_zero, List.set_cons_succ])
  refine wpAnyH_ready (rs := [2, 7]) (by kernel_rfl) (by simp) ?_
  refine AllReadyH.cons rfl (fun K hK => ?_) ?_
  · go_simp
    refine (HFEW.out _ (HXA2.out.trans hHeld)).mono ?_
    rintro e vn ⟨rfl, rfl⟩
    refine hK.out _ _ hHeld (fun hHeld => ?_)
    clear hK
    refine wpAnyH_ready (rs := [3, 7]) (by kernel_rfl) (by simp) ?_
    refine AllReadyH.cons rfl (fun K hK => ?_) ?_
    · go_simp
      refine (HTKB.out _ hHeld).mono ?_
      rintro e vt ⟨p8, rfl, hin8, hxn⟩
      refine hK.out _ _ (hHeld.trans hxn) (fun hHeld => ?_)
      have HIN8 := Lib.hid hin8
      clear hK hxn hin8
      dsimp only [metaV, metaCs]
      refine takeD (i := 4) (v := ?_) rfl rfl (by kernel_rfl) (by kernel_rfl) (by kernel_rfl) (fun _ _ _ h => h) (Or.inl ⟨by rfl, ?_⟩) hHeld ?_
      rotate_left
      · (intro v hv; skip; go_simp; try (with_reducible rfl))
      (try simp only [List.setIfInBounds_toArray, List.set_cons_zero, List.set_cons_succ])
      refine takeD (i := 5) (v := ?_) rfl rfl (by kernel_rfl) (by kernel_rfl) (by kernel_rfl) (fun _ _ _ h => h) (Or.inl ⟨by rfl, ?_⟩) hHeld ?_
      rotate_left
      · (intro v hv; skip; go_simp; try (with_reducible rfl))
      (try simp only [List.setIfInBounds_toArray, List.set_cons_zero, List.set_cons_succ])
      refine takeD (i := 6) (v := ?_) rfl rfl (by kernel_rfl) (by kernel_rfl) (by kernel_rfl) (fun _ _ _ h => h) (Or.inl ⟨by rfl, ?_⟩) hHeld ?_
      rotate_left
      · (intro v hv; skip; go_simp; try (with_reducible rfl))
      (try simp only [List.setIfInBounds_toArray, List.set_cons_zero, List.set_cons_succ])
      refine wpAnyH_ready (rs := [7]) (by kernel_rfl) (by simp) ?_
      refine AllReadyH.cons rfl (fun K hK => ?_) AllReadyH.nil
      have hrow9 := Row.new vt 29 [.slice none 0 0, .slice none 0 0, .slice none 0 0, .slice none 0 0]
      have hX9 := (Ext.refl vt).alloc (.cells #[.slice none 0 0, .slice none 0 0, .slice none 0 0, .slice none 0 0] 29)
      obtain ⟨g9, hg9⟩ : ∃ z, z = vt.heap.size := ⟨_, rfl⟩
      obtain ⟨w8, hw8⟩ : ∃ z, z = vt.alloc (.cells #[.slice none 0 0, .slice none 0 0, .slice none 0 0, .slice none 0 0] 29) := ⟨_, rfl⟩
      have hrow9 : Row w8 g9 29 [.slice none 0 0, .slice none 0 0, .slice none 0 0, .slice none 0 0] := by rw [hw8, hg9]; exact hrow9
      rw [← hw8] at hX9
      go_simp
      rw [← hw8, ← hg9]
      have HR8 := Lib.hid hrow9
      have HS8 := Lib.hid (show wA.heap.size ≤ g9 by rw [hg9]; exact hHeld.size)
      refine hK.out _ _ (hHeld.trans hX9) (fun hHeld => ?_)
      have HIN8 := Lib.hid (HIN8.out.ext hX9)
      clear hK hrow9 hX9 hw8 hg9
      refine wpAnyH_ready (rs := [8]) (by kernel_rfl) (by simp) ?_
      refine AllReadyH.cons rfl (fun K hK => ?_) AllReadyH.nil
      first | rw [if_pos (by rfl)] | skip
      refine store_rowN _ _ _ rfl rfl g9 #[.slice p8.ra C.rows.length p8.rc, .slice p8.oa C.owners.length p8.oc, .slice p8.ua C.used.length p8.uc, .slice p8.ia C.inodes.length p8.ic] rfl rfl 29 _ HR8.out infoMeta rfl (by simp [Value.oneCell']) ?_
      obtain ⟨w9, hw9⟩ : ∃ z, z = w8.setRow g9 #[.slice p8.ra C.rows.length p8.rc, .slice p8.oa C.owners.length p8.oc, .slice p8.ua C.used.length p8.uc, .slice p8.ia C.inodes.length p8.ic] := ⟨_, rfl⟩
      have hrow9 : Row w9 g9 29 [.slice p8.ra C.rows.length p8.rc, .slice p8.oa C.owners.length p8.oc, .slice p8.ua C.used.length p8.uc, .slice p8.ia C.inodes.length p8.ic] := by rw [hw9]; exact HR8.out.setRow #[.slice p8.ra C.rows.length p8.rc, .slice p8.oa C.owners.length p8.oc, .slice p8.ua C.used.length p8.uc, .slice p8.ia C.inodes.length p8.ic]
      have hin9 : MetaIn w9 p8 C := by rw [hw9]; exact MetaIn.setRow4 HIN8.out HR8.out _
      have hxw9 : Ext wA w9 := by rw [hw9]; exact hHeld.setRow HS8.out _
      rw [← hw9]
      refine hK.out _ _ hxw9 (fun hHeld => ?_)
      have HR9 := Lib.hid hrow9
      have HIN9 := Lib.hid hin9
      have HXW9 := Lib.hid hxw9
      clear hK hrow9 hin9 hxw9 hw9
      refine takeD (i := 9) (v := ?_) rfl rfl (by kernel_rfl) (by kernel_rfl) (by kernel_rfl) (fun _ _ _ h => h) (Or.inl ⟨by rfl, ?_⟩) hHeld ?_
      rotate_left
      · (intro v hv; skip; go_simp; try (with_reducible rfl))
      (try simp only [List.setIfInBounds_toArray, List.set_cons_zero, List.set_cons_succ])
      refine wpAnyH_done (by kernel_rfl) ?_ _
      clear hHeld HR8 HIN8 HS8
      have HX9 := Lib.hid (HXA2.out.trans HXW9.out)
      have HRA9 := Lib.hid (HRA.out.ext HXW9.out)
      have HINA9 := Lib.hid (HINA.out.ext HXW9.out)
      have hsh := shown_ok w9
      go_wp2_with fail
      refine hsh.mono ?_
      rintro e w10 ⟨rfl, h10⟩
      have HR10 := Lib.hid (HR9.out.ext h10)
      have HRA10 := Lib.hid (HRA9.out.ext h10)
      have q0 := (HR10.out.cell? 0).trans rfl
      have q1 := (HR10.out.cell? 1).trans rfl
      have q2 := (HR10.out.cell? 2).trans rfl
      have q3 := (HR10.out.cell? 3).trans rfl
      have r0 := (HRA10.out.cell? 0).trans rfl
      have r1 := (HRA10.out.cell? 1).trans rfl
      have r2 := (HRA10.out.cell? 2).trans rfl
      have r3 := (HRA10.out.cell? 3).trans rfl
      have hsame := Same_yes pA p8 C w10 (HINA9.out.ext h10) (HIN9.out.ext h10)
      have hsame : Calls Try.prog 15 #[.agg #[.slice pA.ra C.rows.length pA.rc, .slice pA.oa C.owners.length pA.oc, .slice pA.ua C.used.length pA.uc, .slice pA.ia C.inodes.length pA.ic], .agg #[.slice p8.ra C.rows.length p8.rc, .slice p8.oa C.owners.length p8.oc, .slice p8.ua C.used.length p8.uc, .slice p8.ia C.inodes.length p8.ic]] w10 _ := hsame
      have HX10 := Lib.hid (HX9.out.trans h10)
      clear hsh h10
      go_wp2_with fail
      refine hsame.mono ?_
      rintro e w11 ⟨rfl, h11⟩
      have HX11 := Lib.hid (HX10.out.trans h11)
      have hq : (h == h) = true := by simp
      clear hsame h11 q0 q1 q2 q3 r0 r1 r2 r3
      go_wp2
      go_ret
      exact ⟨rfl, HX11.out⟩
    refine AllReadyH.cons rfl (fun K hK => ?_) AllReadyH.nil
    have hrow9 := Row.new v0 29 [.slice none 0 0, .slice none 0 0, .slice none 0 0, .slice none 0 0]
    have hX9 := (Ext.refl v0).alloc (.cells #[.slice none 0 0, .slice none 0 0, .slice none 0 0, .slice none 0 0] 29)
    obtain ⟨g9, hg9⟩ : ∃ z, z = v0.heap.size := ⟨_, rfl⟩
    obtain ⟨w8, hw8⟩ : ∃ z, z = v0.alloc (.cells #[.slice none 0 0, .slice none 0 0, .slice none 0 0, .slice none 0 0] 29) := ⟨_, rfl⟩
    have hrow9 : Row w8 g9 29 [.slice none 0 0, .slice none 0 0, .slice none 0 0, .slice none 0 0] := by rw [hw8, hg9]; exact hrow9
    rw [← hw8] at hX9
    go_simp
    rw [← hw8, ← hg9]
    have HR8 := Lib.hid hrow9
    have HS8 := Lib.hid (show wA.heap.size ≤ g9 by rw [hg9]; exact hHeld.size)
    refine hK.out _ _ (hHeld.trans hX9) (fun hHeld => ?_)
    clear hK hrow9 hX9 hw8 hg9
    refine wpAnyH_ready (rs := [3]) (by kernel_rfl) (by simp) ?_
    refine AllReadyH.cons rfl (fun K hK => ?_) AllReadyH.nil
    go_simp
    refine (HTKB.out _ hHeld).mono ?_
    rintro e vt ⟨p8, rfl, hin8, hxn⟩
    refine hK.out _ _ (hHeld.trans hxn) (fun hHeld => ?_)
    have HIN8 := Lib.hid hin8
    have HR8 := Lib.hid (HR8.out.ext hxn)
    clear hK hxn hin8
    dsimp only [metaV, metaCs]
    refine takeD (i := 4) (v := ?_) rfl rfl (by kernel_rfl) (by kernel_rfl) (by kernel_rfl) (fun _ _ _ h => h) (Or.inl ⟨by rfl, ?_⟩) hHeld ?_
    rotate_left
    · (intro v hv; skip; go_simp; try (with_reducible rfl))
    (try simp only [List.setIfInBounds_toArray, List.set_cons_zero, List.set_cons_succ])
    refine takeD (i := 5) (v := ?_) rfl rfl (by kernel_rfl) (by kernel_rfl) (by kernel_rfl) (fun _ _ _ h => h) (Or.inl ⟨by rfl, ?_⟩) hHeld ?_
    rotate_left
    · (intro v hv; skip; go_simp; try (with_reducible rfl))
    (try simp only [List.setIfInBounds_toArray, List.set_cons_zero, List.set_cons_succ])
    refine takeD (i := 6) (v := ?_) rfl rfl (by kernel_rfl) (by kernel_rfl) (by kernel_rfl) (fun _ _ _ h => h) (Or.inl ⟨by rfl, ?_⟩) hHeld ?_
    rotate_left
    · (intro v hv; skip; go_simp; try (with_reducible rfl))
    (try simp only [List.setIfInBounds_toArray, List.set_cons_zero, List.set_cons_succ])
    refine wpAnyH_ready (rs := [8]) (by kernel_rfl) (by simp) ?_
    refine AllReadyH.cons rfl (fun K hK => ?_) AllReadyH.nil
    first | rw [if_pos (by rfl)] | skip
    refine store_rowN _ _ _ rfl rfl g9 #[.slice p8.ra C.rows.length p8.rc, .slice p8.oa C.owners.length p8.oc, .slice p8.ua C.used.length p8.uc, .slice p8.ia C.inodes.length p8.ic] rfl rfl 29 _ HR8.out infoMeta rfl (by simp [Value.oneCell']) ?_
    obtain ⟨w9, hw9⟩ : ∃ z, z = vt.setRow g9 #[.slice p8.ra C.rows.length p8.rc, .slice p8.oa C.owners.length p8.oc, .slice p8.ua C.used.length p8.uc, .slice p8.ia C.inodes.length p8.ic] := ⟨_, rfl⟩
    have hrow9 : Row w9 g9 29 [.slice p8.ra C.rows.length p8.rc, .slice p8.oa C.owners.length p8.oc, .slice p8.ua C.used.length p8.uc, .slice p8.ia C.inodes.length p8.ic] := by rw [hw9]; exact HR8.out.setRow #[.slice p8.ra C.rows.length p8.rc, .slice p8.oa C.owners.length p8.oc, .slice p8.ua C.used.length p8.uc, .slice p8.ia C.inodes.length p8.ic]
    have hin9 : MetaIn w9 p8 C := by rw [hw9]; exact MetaIn.setRow4 HIN8.out HR8.out _
    have hxw9 : Ext wA w9 := by rw [hw9]; exact hHeld.setRow HS8.out _
    rw [← hw9]
    refine hK.out _ _ hxw9 (fun hHeld => ?_)
    have HR9 := Lib.hid hrow9
    have HIN9 := Lib.hid hin9
    have HXW9 := Lib.hid hxw9
    clear hK hrow9 hin9 hxw9 hw9
    refine takeD (i := 9) (v := ?_) rfl rfl (by kernel_rfl) (by kernel_rfl) (by kernel_rfl) (fun _ _ _ h => h) (Or.inl ⟨by rfl, ?_⟩) hHeld ?_
    rotate_left
    · (intro v hv; skip; go_simp; try (with_reducible rfl))
    (try simp only [List.setIfInBounds_toArray, List.set_cons_zero, List.set_cons_succ])
    refine wpAnyH_done (by kernel_rfl) ?_ _
    clear hHeld HR8 HIN8 HS8
    have HX9 := Lib.hid (HXA2.out.trans HXW9.out)
    have HRA9 := Lib.hid (HRA.out.ext HXW9.out)
    have HINA9 := Lib.hid (HINA.out.ext HXW9.out)
    have hsh := shown_ok w9
    go_wp2_with fail
    refine hsh.mono ?_
    rintro e w10 ⟨rfl, h10⟩
    have HR10 := Lib.hid (HR9.out.ext h10)
    have HRA10 := Lib.hid (HRA9.out.ext h10)
    have q0 := (HR10.out.cell? 0).trans rfl
    have q1 := (HR10.out.cell? 1).trans rfl
    have q2 := (HR10.out.cell? 2).trans rfl
    have q3 := (HR10.out.cell? 3).trans rfl
    have r0 := (HRA10.out.cell? 0).trans rfl
    have r1 := (HRA10.out.cell? 1).trans rfl
    have r2 := (HRA10.out.cell? 2).trans rfl
    have r3 := (HRA10.out.cell? 3).trans rfl
    have hsame := Same_yes pA p8 C w10 (HINA9.out.ext h10) (HIN9.out.ext h10)
    have hsame : Calls Try.prog 15 #[.agg #[.slice pA.ra C.rows.length pA.rc, .slice pA.oa C.owners.length pA.oc, .slice pA.ua C.used.length pA.uc, .slice pA.ia C.inodes.length pA.ic], .agg #[.slice p8.ra C.rows.length p8.rc, .slice p8.oa C.owners.length p8.oc, .slice p8.ua C.used.length p8.uc, .slice p8.ia C.inodes.length p8.ic]] w10 _ := hsame
    have HX10 := Lib.hid (HX9.out.trans h10)
    clear hsh h10
    go_wp2_with fail
    refine hsame.mono ?_
    rintro e w11 ⟨rfl, h11⟩
    have HX11 := Lib.hid (HX10.out.trans h11)
    have hq : (h == h) = true := by simp
    clear hsame h11 q0 q1 q2 q3 r0 r1 r2 r3
    go_wp2
    go_ret
    exact ⟨rfl, HX11.out⟩
  refine AllReadyH.cons rfl (fun K hK => ?_) AllReadyH.nil
  have hrow9 := Row.new v0 29 [.slice none 0 0, .slice none 0 0, .slice none 0 0, .slice none 0 0]
  have hX9 := (Ext.refl v0).alloc (.cells #[.slice none 0 0, .slice none 0 0, .slice none 0 0, .slice none 0 0] 29)
  obtain ⟨g9, hg9⟩ : ∃ z, z = v0.heap.size := ⟨_, rfl⟩
  obtain ⟨w8, hw8⟩ : ∃ z, z = v0.alloc (.cells #[.slice none 0 0, .slice none 0 0, .slice none 0 0, .slice none 0 0] 29) := ⟨_, rfl⟩
  have hrow9 : Row w8 g9 29 [.slice none 0 0, .slice none 0 0, .slice none 0 0, .slice none 0 0] := by rw [hw8, hg9]; exact hrow9
  rw [← hw8] at hX9
  go_simp
  rw [← hw8, ← hg9]
  have HR8 := Lib.hid hrow9
  have HS8 := Lib.hid (show wA.heap.size ≤ g9 by rw [hg9]; exact hHeld.size)
  refine hK.out _ _ (hHeld.trans hX9) (fun hHeld => ?_)
  clear hK hrow9 hX9 hw8 hg9
  refine wpAnyH_ready (rs := [2]) (by kernel_rfl) (by simp) ?_
  refine AllReadyH.cons rfl (fun K hK => ?_) AllReadyH.nil
  go_simp
  refine (HFEW.out _ (HXA2.out.trans hHeld)).mono ?_
  rintro e vn ⟨rfl, rfl⟩
  refine hK.out _ _ hHeld (fun hHeld => ?_)
  clear hK
  refine wpAnyH_ready (rs := [3]) (by kernel_rfl) (by simp) ?_
  refine AllReadyH.cons rfl (fun K hK => ?_) AllReadyH.nil
  go_simp
  refine (HTKB.out _ hHeld).mono ?_
  rintro e vt ⟨p8, rfl, hin8, hxn⟩
  refine hK.out _ _ (hHeld.trans hxn) (fun hHeld => ?_)
  have HIN8 := Lib.hid hin8
  have HR8 := Lib.hid (HR8.out.ext hxn)
  clear hK hxn hin8
  dsimp only [metaV, metaCs]
  refine takeD (i := 4) (v := ?_) rfl rfl (by kernel_rfl) (by kernel_rfl) (by kernel_rfl) (fun _ _ _ h => h) (Or.inl ⟨by rfl, ?_⟩) hHeld ?_
  rotate_left
  · (intro v hv; skip; go_simp; try (with_reducible rfl))
  (try simp only [List.setIfInBounds_toArray, List.set_cons_zero, List.set_cons_succ])
  refine takeD (i := 5) (v := ?_) rfl rfl (by kernel_rfl) (by kernel_rfl) (by kernel_rfl) (fun _ _ _ h => h) (Or.inl ⟨by rfl, ?_⟩) hHeld ?_
  rotate_left
  · (intro v hv; skip; go_simp; try (with_reducible rfl))
  (try simp only [List.setIfInBounds_toArray, List.set_cons_zero, List.set_cons_succ])
  refine takeD (i := 6) (v := ?_) rfl rfl (by kernel_rfl) (by kernel_rfl) (by kernel_rfl) (fun _ _ _ h => h) (Or.inl ⟨by rfl, ?_⟩) hHeld ?_
  rotate_left
  · (intro v hv; skip; go_simp; try (with_reducible rfl))
  (try simp only [List.setIfInBounds_toArray, List.set_cons_zero, List.set_cons_succ])
  refine wpAnyH_ready (rs := [8]) (by kernel_rfl) (by simp) ?_
  refine AllReadyH.cons rfl (fun K hK => ?_) AllReadyH.nil
  first | rw [if_pos (by rfl)] | skip
  refine store_rowN _ _ _ rfl rfl g9 #[.slice p8.ra C.rows.length p8.rc, .slice p8.oa C.owners.length p8.oc, .slice p8.ua C.used.length p8.uc, .slice p8.ia C.inodes.length p8.ic] rfl rfl 29 _ HR8.out infoMeta rfl (by simp [Value.oneCell']) ?_
  obtain ⟨w9, hw9⟩ : ∃ z, z = vt.setRow g9 #[.slice p8.ra C.rows.length p8.rc, .slice p8.oa C.owners.length p8.oc, .slice p8.ua C.used.length p8.uc, .slice p8.ia C.inodes.length p8.ic] := ⟨_, rfl⟩
  have hrow9 : Row w9 g9 29 [.slice p8.ra C.rows.length p8.rc, .slice p8.oa C.owners.length p8.oc, .slice p8.ua C.used.length p8.uc, .slice p8.ia C.inodes.length p8.ic] := by rw [hw9]; exact HR8.out.setRow #[.slice p8.ra C.rows.length p8.rc, .slice p8.oa C.owners.length p8.oc, .slice p8.ua C.used.length p8.uc, .slice p8.ia C.inodes.length p8.ic]
  have hin9 : MetaIn w9 p8 C := by rw [hw9]; exact MetaIn.setRow4 HIN8.out HR8.out _
  have hxw9 : Ext wA w9 := by rw [hw9]; exact hHeld.setRow HS8.out _
  rw [← hw9]
  refine hK.out _ _ hxw9 (fun hHeld => ?_)
  have HR9 := Lib.hid hrow9
  have HIN9 := Lib.hid hin9
  have HXW9 := Lib.hid hxw9
  clear hK hrow9 hin9 hxw9 hw9
  refine takeD (i := 9) (v := ?_) rfl rfl (by kernel_rfl) (by kernel_rfl) (by kernel_rfl) (fun _ _ _ h => h) (Or.inl ⟨by rfl, ?_⟩) hHeld ?_
  rotate_left
  · (intro v hv; skip; go_simp; try (with_reducible rfl))
  (try simp only [List.setIfInBounds_toArray, List.set_cons_zero, List.set_cons_succ])
  refine wpAnyH_done (by kernel_rfl) ?_ _
  clear hHeld HR8 HIN8 HS8
  have HX9 := Lib.hid (HXA2.out.trans HXW9.out)
  have HRA9 := Lib.hid (HRA.out.ext HXW9.out)
  have HINA9 := Lib.hid (HINA.out.ext HXW9.out)
  have hsh := shown_ok w9
  go_wp2_with fail
  refine hsh.mono ?_
  rintro e w10 ⟨rfl, h10⟩
  have HR10 := Lib.hid (HR9.out.ext h10)
  have HRA10 := Lib.hid (HRA9.out.ext h10)
  have q0 := (HR10.out.cell? 0).trans rfl
  have q1 := (HR10.out.cell? 1).trans rfl
  have q2 := (HR10.out.cell? 2).trans rfl
  have q3 := (HR10.out.cell? 3).trans rfl
  have r0 := (HRA10.out.cell? 0).trans rfl
  have r1 := (HRA10.out.cell? 1).trans rfl
  have r2 := (HRA10.out.cell? 2).trans rfl
  have r3 := (HRA10.out.cell? 3).trans rfl
  have hsame := Same_yes pA p8 C w10 (HINA9.out.ext h10) (HIN9.out.ext h10)
  have hsame : Calls Try.prog 15 #[.agg #[.slice pA.ra C.rows.length pA.rc, .slice pA.oa C.owners.length pA.oc, .slice pA.ua C.used.length pA.uc, .slice pA.ia C.inodes.length pA.ic], .agg #[.slice p8.ra C.rows.length p8.rc, .slice p8.oa C.owners.length p8.oc, .slice p8.ua C.used.length p8.uc, .slice p8.ia C.inodes.length p8.ic]] w10 _ := hsame
  have HX10 := Lib.hid (HX9.out.trans h10)
  clear hsh h10
  go_wp2_with fail
  refine hsame.mono ?_
  rintro e w11 ⟨rfl, h11⟩
  have HX11 := Lib.hid (HX10.out.trans h11)
  have hq : (h == h) = true := by simp
  clear hsame h11 q0 q1 q2 q3 r0 r1 r2 r3
  go_wp2
  go_ret
  exact ⟨rfl, HX11.out⟩
theorem law_MetaTakes {H : Type} {enc : TypeId × Value → H} {base : Nat} {d0 d1 : DataW H} {p0 p1 : List MemPlace} (v0 v1 : Value) (w : World)
    (ho0 : Value.okWide Try.prog w .any base 23 v0) (h0 : DataW.Trod enc Try.prog w 0 (fun _ => true) true 23 v0 d0 p0)
    (ho1 : Value.okWide Try.prog w .any base 35 v1) (h1 : DataW.Trod enc Try.prog w 0 (fun _ => true) true 35 v1 d1 p1) :
    Calls Try.prog 6 #[v0, v1] w fun e w' => e = .returned (.bool true) ∧ Below w.heap.size w w' := by
  obtain ⟨J, I, G, P, rfl⟩ := geo_in ho0 h0
  obtain ⟨a, n, cap, L, rfl, hnc, hcm, hL⟩ := secs_in ho1 h1
  exact takes_walk J I G P a n cap L w hnc hcm hL
end Go.Proofs.Ytnodinancnfoeaa.Mt
