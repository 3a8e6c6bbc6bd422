/- MtRO -/
import Derived.Test.YtnodinancnfoeaaTk5
import Derived.Test.YtnodinancnfoeaaTk6
import Derived.Deep.RegionHeld3
/- moatref14.New (turned from MtN and MtH by name). -/
namespace Go.Proofs.Ytnodinancnfoeaa.Mt
open Go.RowKit Words Mem Plain Ops Agg OwnS Intern Ino
set_option linter.ambiguousOpen false
set_option linter.unusedVariables false
set_option linter.unusedSimpArgs false

/-- What New has made lies in blocks of its own. -/
structure NewAt (lo : Nat) (v : World) (b0 b1 b2 b3 G I : Nat) : Prop where
  r0 : Row v b0 45 (rowsC (List.replicate 16 (0, 0)))
  r1 : Row v b1 3 (ints .i64 (List.replicate G 0))
  r2 : Row v b2 5 (ints .u8 (List.replicate 64 0))
  r3 : Row v b3 48 (flat inoC (List.replicate I Ino.zero))
  bd : (lo ≤ b0 ∧ lo ≤ b1 ∧ lo ≤ b2 ∧ lo ≤ b3) ∧ b1 ≠ b3 ∧ b0 ≠ b1 ∧ b0 ≠ b3 ∧ b2 ≠ b1 ∧ b2 ≠ b3
set_option maxHeartbeats 4000000 in
theorem rNew_own (J P : Int) (G I : Nat) (w : World) (hr : Super.rightB J I G P = true) :
    Calls Try.prog 12 #[Super.geoV J I G P] w fun e w' => ∃ b0 b1 b2 b3, e = .returned (.tuple #[.agg #[.slice (some ⟨b0, 0, none⟩) 16 16, .slice (some ⟨b1, 0, none⟩) G G, .slice (some ⟨b2, 0, none⟩) 64 64, .slice (some ⟨b3, 0, none⟩) I I], .int .i64 0]) ∧ NewAt w.heap.size w' b0 b1 b2 b3 G I ∧ Ext w w' := by
  have hbd := Super.right_bd hr
  have hg64 : G ≤ 64 := by omega
  have hi64 : I ≤ 64 := by omega
  have X1 := (Ext.refl w).alloc (.cells #[.int .i64 J, .int .i64 I, .int .i64 G, .int .i64 P] 23)
  have hrow1 := Row.new w 23 [.int .i64 J, .int .i64 I, .int .i64 G, .int .i64 P]
  have X2 := (Ext.refl (w.alloc (.cells #[.int .i64 J, .int .i64 I, .int .i64 G, .int .i64 P] 23))).alloc (.cells #[.slice none 0 0, .slice none 0 0, .slice none 0 0, .slice none 0 0] 29)
  have hrow2 := Row.new (w.alloc (.cells #[.int .i64 J, .int .i64 I, .int .i64 G, .int .i64 P] 23)) 29 [.slice none 0 0, .slice none 0 0, .slice none 0 0, .slice none 0 0]
  have hs1 : (w.alloc (.cells #[.int .i64 J, .int .i64 I, .int .i64 G, .int .i64 P] 23)).heap.size = w.heap.size + 1 := by simp
  rw [hs1] at hrow2
  have hgr := Super.rRight_ok J I G P ((w.alloc (.cells #[.int .i64 J, .int .i64 I, .int .i64 G, .int .i64 P] 23)).alloc (.cells #[.slice none 0 0, .slice none 0 0, .slice none 0 0, .slice none 0 0] 29))
  rw [hr] at hgr
  have HX2 := Lib.hid (X1.trans X2)
  have HROW1 := Lib.hid (hrow1.ext X2)
  have HROW2 := Lib.hid hrow2
  have hz := zeroMeta
  clear X1 X2 hrow1 hrow2 hs1 hr hbd
  go_enter Try.func12, Try.ntmps12
  go_wp2_with fail
  refine hgr.mono ?_
  rintro e w2 ⟨rfl, h2⟩
  have HX3 := Lib.hid (HX2.out.trans h2)
  have HR1 := Lib.hid (HROW1.out.ext h2)
  have HR2 := Lib.hid (HROW2.out.ext h2)
  clear hgr h2 HROW1 HROW2
  go_wp2_with fail
  have hX0 : Ext w2 w2.drew := (Ext.refl _).drew
  have hHeld0 : Ext w w2.drew ∧ Row w2.drew w.heap.size 23 [.int .i64 J, .int .i64 I, .int .i64 G, .int .i64 P] := ⟨HX3.out.trans hX0, HR1.out.ext hX0⟩
  refine wp_region_held_drew (S := (fun v => Ext w v ∧ Row v w.heap.size 23 [.int .i64 J, .int .i64 I, .int .i64 G, .int .i64 P])) (by kernel_rfl) hHeld0 (fun hHeld => ?_)
  generalize w2.drew = v0 at *
  clear hHeld0
  refine takeD (i := 1) (v := ?_) rfl rfl (by kernel_rfl) (by kernel_rfl) (by kernel_rfl) (fun _ _ _ h => h) (Or.inl ⟨by rfl, ?_⟩) hHeld ?_
  rotate_left
  · (intro v hv; (obtain ⟨hv0, hv1⟩ := hv; have c1 := (hv1.cell? 1).trans rfl; have c2 := (hv1.cell? 2).trans rfl); go_simp; try (with_reducible rfl))
  (try simp only [List.setIfInBounds_toArray, List.set_cons_zero, List.set_cons_succ])
  refine takeD (i := 2) (v := ?_) rfl rfl (by kernel_rfl) (by kernel_rfl) (by kernel_rfl) (fun _ _ _ h => h) (Or.inl ⟨by rfl, ?_⟩) hHeld ?_
  rotate_left
  · (intro v hv; (obtain ⟨hv0, hv1⟩ := hv; have c1 := (hv1.cell? 1).trans rfl; have c2 := (hv1.cell? 2).trans rfl); go_simp; try (with_reducible rfl))
  (try simp only [List.setIfInBounds_toArray, List.set_cons_zero, List.set_cons_succ])
  refine takeD (i := 5) (v := ?_) rfl rfl (by kernel_rfl) (by kernel_rfl) (by kernel_rfl) (fun _ _ _ h => h) (Or.inl ⟨by rfl, ?_⟩) hHeld ?_
  rotate_left
  · (intro v hv; (obtain ⟨hv0, hv1⟩ := hv; have c1 := (hv1.cell? 1).trans rfl; have c2 := (hv1.cell? 2).trans rfl); go_simp; try (with_reducible rfl))
  (try simp only [List.setIfInBounds_toArray, List.set_cons_zero, List.set_cons_succ])
  refine takeD (i := 6) (v := ?_) rfl rfl (by kernel_rfl) (by kernel_rfl) (by kernel_rfl) (fun _ _ _ h => h) (Or.inl ⟨by rfl, ?_⟩) hHeld ?_
  rotate_left
  · (intro v hv; (obtain ⟨hv0, hv1⟩ := hv; have c1 := (hv1.cell? 1).trans rfl; have c2 := (hv1.cell? 2).trans rfl); go_simp; try (with_reducible rfl))
  (try simp only [List.setIfInBounds_toArray, List.set_cons_zero, List.set_cons_succ])
  refine wpAnyH_ready (rs := [0, 3, 4, 7]) (by kernel_rfl) (by simp) ?_
  refine AllReadyH.cons rfl (fun K hK => ?_) ?_
  · have hmk0 := run_make_s v0 2 24 45 [.int .u16 0, .int .i64 0] 16 rfl (by decide) Try.underlying24 infoRC 16 (by decide) (by decide)
    rw [flat_repR] at hmk0
    have hmk : (Instr.makeSlice 24 (.int .i64 16) (.int .i64 16)).run Try.prog v0 = .ok (.slice (some ⟨v0.heap.size, 0, none⟩) 16 16) (v0.alloc (.cells (rowsC (List.replicate 16 (0, 0))).toArray 45)) := hmk0
    clear hmk0
    have hrow := Row.new v0 45 (rowsC (List.replicate 16 (0, 0)))
    have hXX := (Ext.refl v0).alloc (.cells ((rowsC (List.replicate 16 (0, 0)))).toArray 45)
    have HX0 := Lib.hid hXX
    have HW0 := Lib.hid hrow
    obtain ⟨b0, hb⟩ : ∃ q, q = v0.heap.size := ⟨_, rfl⟩
    have HB0 := Lib.hid hb
    rw [← hb] at hmk HW0
    clear hrow hXX hb
    generalize v0.alloc (.cells ((rowsC (List.replicate 16 (0, 0)))).toArray 45) = v1 at *
    go_simp
    refine hK.out _ _ ⟨hHeld.1.trans HX0.out, hHeld.2.ext HX0.out⟩ (fun hHeld => ?_)
    clear hK hmk
    refine wpAnyH_ready (rs := [3, 4, 7]) (by kernel_rfl) (by simp) ?_
    refine AllReadyH.cons rfl (fun K hK => ?_) ?_
    · have hmk := run_make_ints (P := Try.prog) v1 25 3 .i64 8 Try.underlying25 info64I .i64 .i64 G G rfl (by omega) (by omega)
      have hrow := Row.new v1 3 (ints .i64 (List.replicate G 0))
      have hXX := (Ext.refl v1).alloc (.cells ((ints .i64 (List.replicate G 0))).toArray 3)
      have HX1 := Lib.hid hXX
      have HW3 := Lib.hid hrow
      obtain ⟨b3, hb⟩ : ∃ q, q = v1.heap.size := ⟨_, rfl⟩
      have HB3 := Lib.hid hb
      rw [← hb] at hmk HW3
      clear hrow hXX hb
      generalize v1.alloc (.cells ((ints .i64 (List.replicate G 0))).toArray 3) = v2 at *
      go_simp
      refine hK.out _ _ ⟨hHeld.1.trans HX1.out, hHeld.2.ext HX1.out⟩ (fun hHeld => ?_)
      clear hK hmk
      refine wpAnyH_ready (rs := [4, 7]) (by kernel_rfl) (by simp) ?_
      refine AllReadyH.cons rfl (fun K hK => ?_) ?_
      · have hmk := run_make_ints (P := Try.prog) v2 26 5 .u8 1 Try.underlying26 infoBC .i64 .i64 64 64 rfl (by decide) (by decide)
        have hrow := Row.new v2 5 (ints .u8 (List.replicate 64 0))
        have hXX := (Ext.refl v2).alloc (.cells ((ints .u8 (List.replicate 64 0))).toArray 5)
        have HX2 := Lib.hid hXX
        have HW4 := Lib.hid hrow
        obtain ⟨b4, hb⟩ : ∃ q, q = v2.heap.size := ⟨_, rfl⟩
        have HB4 := Lib.hid hb
        rw [← hb] at hmk HW4
        clear hrow hXX hb
        generalize v2.alloc (.cells ((ints .u8 (List.replicate 64 0))).toArray 5) = v3 at *
        go_simp
        refine hK.out _ _ ⟨hHeld.1.trans HX2.out, hHeld.2.ext HX2.out⟩ (fun hHeld => ?_)
        clear hK hmk
        refine wpAnyH_ready (rs := [7]) (by kernel_rfl) (by simp) ?_
        refine AllReadyH.cons rfl (fun K hK => ?_) ?_
        · have hmk := run_make_s v3 14 27 48 (inoC Ino.zero) 104 (inoC_len _) (by decide) Try.underlying27 infoNC I (by omega) (by omega)
          rw [flat_repI] at hmk
          have hrow := Row.new v3 48 (flat inoC (List.replicate I Ino.zero))
          have hXX := (Ext.refl v3).alloc (.cells ((flat inoC (List.replicate I Ino.zero))).toArray 48)
          have HX3 := Lib.hid hXX
          have HW7 := Lib.hid hrow
          obtain ⟨b7, hb⟩ : ∃ q, q = v3.heap.size := ⟨_, rfl⟩
          have HB7 := Lib.hid hb
          rw [← hb] at hmk HW7
          clear hrow hXX hb
          generalize v3.alloc (.cells ((flat inoC (List.replicate I Ino.zero))).toArray 48) = v4 at *
          go_simp
          refine hK.out _ _ ⟨hHeld.1.trans HX3.out, hHeld.2.ext HX3.out⟩ (fun hHeld => ?_)
          clear hK hmk
          have HRm := Lib.hid (((((HR2.out.ext hX0).ext HX0.out).ext HX1.out).ext HX2.out).ext HX3.out)
          have HRR := Lib.hid (And.intro (((HW0.out.ext HX1.out).ext HX2.out).ext HX3.out) (And.intro ((HW3.out.ext HX2.out).ext HX3.out) (And.intro (HW4.out.ext HX3.out) HW7.out)))
          have HNE := Lib.hid (show b0 ≠ w.heap.size + 1 ∧ b3 ≠ w.heap.size + 1 ∧ b4 ≠ w.heap.size + 1 ∧ b7 ≠ w.heap.size + 1 from by
            have := HB0.out; have := HB3.out; have := HB4.out; have := HB7.out; have := HR2.out.lt; have := hX0.size; have := HX0.out.size; have := HX1.out.size; have := HX2.out.size
            omega)
          refine takeD (i := 8) (v := ?_) rfl rfl (by kernel_rfl) (by kernel_rfl) (by kernel_rfl) (fun _ _ _ h => h) (Or.inl ⟨by rfl, ?_⟩) hHeld ?_
          rotate_left
          · (intro v hv; (obtain ⟨hv0, hv1⟩ := hv; have c1 := (hv1.cell? 1).trans rfl; have c2 := (hv1.cell? 2).trans rfl); go_simp; try (with_reducible rfl))
          (try simp only [List.setIfInBounds_toArray, List.set_cons_zero, List.set_cons_succ])
          refine wpAnyH_ready (rs := [9]) (by kernel_rfl) (by simp) ?_
          refine AllReadyH.cons rfl (fun K hK => ?_) AllReadyH.nil
          rw [if_pos (by rfl)]
          refine store_rowN _ _ _ rfl rfl (w.heap.size + 1) #[.slice (some ⟨b0, 0, none⟩) 16 16, .slice (some ⟨b3, 0, none⟩) G G, .slice (some ⟨b4, 0, none⟩) 64 64, .slice (some ⟨b7, 0, none⟩) I I] rfl rfl 29 _ HRm.out infoMeta rfl (by simp [Value.oneCell']) ?_
          have HFIN := Lib.hid (NewAt.mk (lo := w.heap.size) (HRR.out.1.setRow_other #[.slice (some ⟨b0, 0, none⟩) 16 16, .slice (some ⟨b3, 0, none⟩) G G, .slice (some ⟨b4, 0, none⟩) 64 64, .slice (some ⟨b7, 0, none⟩) I I] HNE.out.1) (HRR.out.2.1.setRow_other _ HNE.out.2.1) (HRR.out.2.2.1.setRow_other _ HNE.out.2.2.1) (HRR.out.2.2.2.setRow_other _ HNE.out.2.2.2) (by
            have h0 := HB0.out; have h3 := HB3.out; have h4 := HB4.out; have h7 := HB7.out
            have l0 := HW0.out.lt; have l3 := HW3.out.lt; have l4 := HW4.out.lt; have l7 := HW7.out.lt
            have s := hX0.size; have s0 := HX0.out.size; have s1 := HX1.out.size; have s2 := HX2.out.size; have r := HR2.out.lt
            omega))
          have HRf := Lib.hid (HRm.out.setRow #[.slice (some ⟨b0, 0, none⟩) 16 16, .slice (some ⟨b3, 0, none⟩) G G, .slice (some ⟨b4, 0, none⟩) 64 64, .slice (some ⟨b7, 0, none⟩) I I])
          refine hK.out _ _ ⟨hHeld.1.setRow (Nat.le_succ _) _, hHeld.2.setRow_other _ (by omega)⟩ (fun hHeld => ?_)
          clear hK
          refine takeD (i := 10) (v := ?_) rfl rfl (by kernel_rfl) (by kernel_rfl) (by kernel_rfl) (fun _ _ _ h => h) (Or.inl ⟨by rfl, ?_⟩) hHeld ?_
          rotate_left
          · (intro v hv; (obtain ⟨hv0, hv1⟩ := hv; have c1 := (hv1.cell? 1).trans rfl; have c2 := (hv1.cell? 2).trans rfl); go_simp; try (with_reducible rfl))
          (try simp only [List.setIfInBounds_toArray, List.set_cons_zero, List.set_cons_succ])
          refine wpAnyH_done (by kernel_rfl) ?_ _
          have HH := Lib.hid hHeld
          clear hHeld
          go_wp2
          refine post_meta rfl (by rfl) (by rfl) HRf.out rfl ?_
          exact ⟨b0, b3, b4, b7, (by rfl), HFIN.out, HH.out.1⟩
        exact AllReadyH.nil
      refine AllReadyH.cons rfl (fun K hK => ?_) ?_
      · have hmk := run_make_s v2 14 27 48 (inoC Ino.zero) 104 (inoC_len _) (by decide) Try.underlying27 infoNC I (by omega) (by omega)
        rw [flat_repI] at hmk
        have hrow := Row.new v2 48 (flat inoC (List.replicate I Ino.zero))
        have hXX := (Ext.refl v2).alloc (.cells ((flat inoC (List.replicate I Ino.zero))).toArray 48)
        have HX2 := Lib.hid hXX
        have HW7 := Lib.hid hrow
        obtain ⟨b7, hb⟩ : ∃ q, q = v2.heap.size := ⟨_, rfl⟩
        have HB7 := Lib.hid hb
        rw [← hb] at hmk HW7
        clear hrow hXX hb
        generalize v2.alloc (.cells ((flat inoC (List.replicate I Ino.zero))).toArray 48) = v3 at *
        go_simp
        refine hK.out _ _ ⟨hHeld.1.trans HX2.out, hHeld.2.ext HX2.out⟩ (fun hHeld => ?_)
        clear hK hmk
        refine wpAnyH_ready (rs := [4]) (by kernel_rfl) (by simp) ?_
        refine AllReadyH.cons rfl (fun K hK => ?_) ?_
        · have hmk := run_make_ints (P := Try.prog) v3 26 5 .u8 1 Try.underlying26 infoBC .i64 .i64 64 64 rfl (by decide) (by decide)
          have hrow := Row.new v3 5 (ints .u8 (List.replicate 64 0))
          have hXX := (Ext.refl v3).alloc (.cells ((ints .u8 (List.replicate 64 0))).toArray 5)
          have HX3 := Lib.hid hXX
          have HW4 := Lib.hid hrow
          obtain ⟨b4, hb⟩ : ∃ q, q = v3.heap.size := ⟨_, rfl⟩
          have HB4 := Lib.hid hb
          rw [← hb] at hmk HW4
          clear hrow hXX hb
          generalize v3.alloc (.cells ((ints .u8 (List.replicate 64 0))).toArray 5) = v4 at *
          go_simp
          refine hK.out _ _ ⟨hHeld.1.trans HX3.out, hHeld.2.ext HX3.out⟩ (fun hHeld => ?_)
          clear hK hmk
          have HRm := Lib.hid (((((HR2.out.ext hX0).ext HX0.out).ext HX1.out).ext HX2.out).ext HX3.out)
          have HRR := Lib.hid (And.intro (((HW0.out.ext HX1.out).ext HX2.out).ext HX3.out) (And.intro ((HW3.out.ext HX2.out).ext HX3.out) (And.intro HW4.out (HW7.out.ext HX3.out))))
          have HNE := Lib.hid (show b0 ≠ w.heap.size + 1 ∧ b3 ≠ w.heap.size + 1 ∧ b4 ≠ w.heap.size + 1 ∧ b7 ≠ w.heap.size + 1 from by
            have := HB0.out; have := HB3.out; have := HB4.out; have := HB7.out; have := HR2.out.lt; have := hX0.size; have := HX0.out.size; have := HX1.out.size; have := HX2.out.size
            omega)
          refine takeD (i := 8) (v := ?_) rfl rfl (by kernel_rfl) (by kernel_rfl) (by kernel_rfl) (fun _ _ _ h => h) (Or.inl ⟨by rfl, ?_⟩) hHeld ?_
          rotate_left
          · (intro v hv; (obtain ⟨hv0, hv1⟩ := hv; have c1 := (hv1.cell? 1).trans rfl; have c2 := (hv1.cell? 2).trans rfl); go_simp; try (with_reducible rfl))
          (try simp only [List.setIfInBounds_toArray, List.set_cons_zero, List.set_cons_succ])
          refine wpAnyH_ready (rs := [9]) (by kernel_rfl) (by simp) ?_
          refine AllReadyH.cons rfl (fun K hK => ?_) AllReadyH.nil
          rw [if_pos (by rfl)]
          refine store_rowN _ _ _ rfl rfl (w.heap.size + 1) #[.slice (some ⟨b0, 0, none⟩) 16 16, .slice (some ⟨b3, 0, none⟩) G G, .slice (some ⟨b4, 0, none⟩) 64 64, .slice (some ⟨b7, 0, none⟩) I I] rfl rfl 29 _ HRm.out infoMeta rfl (by simp [Value.oneCell']) ?_
          have HFIN := Lib.hid (NewAt.mk (lo := w.heap.size) (HRR.out.1.setRow_other #[.slice (some ⟨b0, 0, none⟩) 16 16, .slice (some ⟨b3, 0, none⟩) G G, .slice (some ⟨b4, 0, none⟩) 64 64, .slice (some ⟨b7, 0, none⟩) I I] HNE.out.1) (HRR.out.2.1.setRow_other _ HNE.out.2.1) (HRR.out.2.2.1.setRow_other _ HNE.out.2.2.1) (HRR.out.2.2.2.setRow_other _ HNE.out.2.2.2) (by
            have h0 := HB0.out; have h3 := HB3.out; have h4 := HB4.out; have h7 := HB7.out
            have l0 := HW0.out.lt; have l3 := HW3.out.lt; have l4 := HW4.out.lt; have l7 := HW7.out.lt
            have s := hX0.size; have s0 := HX0.out.size; have s1 := HX1.out.size; have s2 := HX2.out.size; have r := HR2.out.lt
            omega))
          have HRf := Lib.hid (HRm.out.setRow #[.slice (some ⟨b0, 0, none⟩) 16 16, .slice (some ⟨b3, 0, none⟩) G G, .slice (some ⟨b4, 0, none⟩) 64 64, .slice (some ⟨b7, 0, none⟩) I I])
          refine hK.out _ _ ⟨hHeld.1.setRow (Nat.le_succ _) _, hHeld.2.setRow_other _ (by omega)⟩ (fun hHeld => ?_)
          clear hK
          refine takeD (i := 10) (v := ?_) rfl rfl (by kernel_rfl) (by kernel_rfl) (by kernel_rfl) (fun _ _ _ h => h) (Or.inl ⟨by rfl, ?_⟩) hHeld ?_
          rotate_left
          · (intro v hv; (obtain ⟨hv0, hv1⟩ := hv; have c1 := (hv1.cell? 1).trans rfl; have c2 := (hv1.cell? 2).trans rfl); go_simp; try (with_reducible rfl))
          (try simp only [List.setIfInBounds_toArray, List.set_cons_zero, List.set_cons_succ])
          refine wpAnyH_done (by kernel_rfl) ?_ _
          have HH := Lib.hid hHeld
          clear hHeld
          go_wp2
          refine post_meta rfl (by rfl) (by rfl) HRf.out rfl ?_
          exact ⟨b0, b3, b4, b7, (by rfl), HFIN.out, HH.out.1⟩
        exact AllReadyH.nil
      exact AllReadyH.nil
    refine AllReadyH.cons rfl (fun K hK => ?_) ?_
    · have hmk := run_make_ints (P := Try.prog) v1 26 5 .u8 1 Try.underlying26 infoBC .i64 .i64 64 64 rfl (by decide) (by decide)
      have hrow := Row.new v1 5 (ints .u8 (List.replicate 64 0))
      have hXX := (Ext.refl v1).alloc (.cells ((ints .u8 (List.replicate 64 0))).toArray 5)
      have HX1 := Lib.hid hXX
      have HW4 := Lib.hid hrow
      obtain ⟨b4, hb⟩ : ∃ q, q = v1.heap.size := ⟨_, rfl⟩
      have HB4 := Lib.hid hb
      rw [← hb] at hmk HW4
      clear hrow hXX hb
      generalize v1.alloc (.cells ((ints .u8 (List.replicate 64 0))).toArray 5) = v2 at *
      go_simp
      refine hK.out _ _ ⟨hHeld.1.trans HX1.out, hHeld.2.ext HX1.out⟩ (fun hHeld => ?_)
      clear hK hmk
      refine wpAnyH_ready (rs := [3, 7]) (by kernel_rfl) (by simp) ?_
      refine AllReadyH.cons rfl (fun K hK => ?_) ?_
      · have hmk := run_make_ints (P := Try.prog) v2 25 3 .i64 8 Try.underlying25 info64I .i64 .i64 G G rfl (by omega) (by omega)
        have hrow := Row.new v2 3 (ints .i64 (List.replicate G 0))
        have hXX := (Ext.refl v2).alloc (.cells ((ints .i64 (List.replicate G 0))).toArray 3)
        have HX2 := Lib.hid hXX
        have HW3 := Lib.hid hrow
        obtain ⟨b3, hb⟩ : ∃ q, q = v2.heap.size := ⟨_, rfl⟩
        have HB3 := Lib.hid hb
        rw [← hb] at hmk HW3
        clear hrow hXX hb
        generalize v2.alloc (.cells ((ints .i64 (List.replicate G 0))).toArray 3) = v3 at *
        go_simp
        refine hK.out _ _ ⟨hHeld.1.trans HX2.out, hHeld.2.ext HX2.out⟩ (fun hHeld => ?_)
        clear hK hmk
        refine wpAnyH_ready (rs := [7]) (by kernel_rfl) (by simp) ?_
        refine AllReadyH.cons rfl (fun K hK => ?_) ?_
        · have hmk := run_make_s v3 14 27 48 (inoC Ino.zero) 104 (inoC_len _) (by decide) Try.underlying27 infoNC I (by omega) (by omega)
          rw [flat_repI] at hmk
          have hrow := Row.new v3 48 (flat inoC (List.replicate I Ino.zero))
          have hXX := (Ext.refl v3).alloc (.cells ((flat inoC (List.replicate I Ino.zero))).toArray 48)
          have HX3 := Lib.hid hXX
          have HW7 := Lib.hid hrow
          obtain ⟨b7, hb⟩ : ∃ q, q = v3.heap.size := ⟨_, rfl⟩
          have HB7 := Lib.hid hb
          rw [← hb] at hmk HW7
          clear hrow hXX hb
          generalize v3.alloc (.cells ((flat inoC (List.replicate I Ino.zero))).toArray 48) = v4 at *
          go_simp
          refine hK.out _ _ ⟨hHeld.1.trans HX3.out, hHeld.2.ext HX3.out⟩ (fun hHeld => ?_)
          clear hK hmk
          have HRm := Lib.hid (((((HR2.out.ext hX0).ext HX0.out).ext HX1.out).ext HX2.out).ext HX3.out)
          have HRR := Lib.hid (And.intro (((HW0.out.ext HX1.out).ext HX2.out).ext HX3.out) (And.intro (HW3.out.ext HX3.out) (And.intro ((HW4.out.ext HX2.out).ext HX3.out) HW7.out)))
          have HNE := Lib.hid (show b0 ≠ w.heap.size + 1 ∧ b3 ≠ w.heap.size + 1 ∧ b4 ≠ w.heap.size + 1 ∧ b7 ≠ w.heap.size + 1 from by
            have := HB0.out; have := HB3.out; have := HB4.out; have := HB7.out; have := HR2.out.lt; have := hX0.size; have := HX0.out.size; have := HX1.out.size; have := HX2.out.size
            omega)
          refine takeD (i := 8) (v := ?_) rfl rfl (by kernel_rfl) (by kernel_rfl) (by kernel_rfl) (fun _ _ _ h => h) (Or.inl ⟨by rfl, ?_⟩) hHeld ?_
          rotate_left
          · (intro v hv; (obtain ⟨hv0, hv1⟩ := hv; have c1 := (hv1.cell? 1).trans rfl; have c2 := (hv1.cell? 2).trans rfl); go_simp; try (with_reducible rfl))
          (try simp only [List.setIfInBounds_toArray, List.set_cons_zero, List.set_cons_succ])
          refine wpAnyH_ready (rs := [9]) (by kernel_rfl) (by simp) ?_
          refine AllReadyH.cons rfl (fun K hK => ?_) AllReadyH.nil
          rw [if_pos (by rfl)]
          refine store_rowN _ _ _ rfl rfl (w.heap.size + 1) #[.slice (some ⟨b0, 0, none⟩) 16 16, .slice (some ⟨b3, 0, none⟩) G G, .slice (some ⟨b4, 0, none⟩) 64 64, .slice (some ⟨b7, 0, none⟩) I I] rfl rfl 29 _ HRm.out infoMeta rfl (by simp [Value.oneCell']) ?_
          have HFIN := Lib.hid (NewAt.mk (lo := w.heap.size) (HRR.out.1.setRow_other #[.slice (some ⟨b0, 0, none⟩) 16 16, .slice (some ⟨b3, 0, none⟩) G G, .slice (some ⟨b4, 0, none⟩) 64 64, .slice (some ⟨b7, 0, none⟩) I I] HNE.out.1) (HRR.out.2.1.setRow_other _ HNE.out.2.1) (HRR.out.2.2.1.setRow_other _ HNE.out.2.2.1) (HRR.out.2.2.2.setRow_other _ HNE.out.2.2.2) (by
            have h0 := HB0.out; have h3 := HB3.out; have h4 := HB4.out; have h7 := HB7.out
            have l0 := HW0.out.lt; have l3 := HW3.out.lt; have l4 := HW4.out.lt; have l7 := HW7.out.lt
            have s := hX0.size; have s0 := HX0.out.size; have s1 := HX1.out.size; have s2 := HX2.out.size; have r := HR2.out.lt
            omega))
          have HRf := Lib.hid (HRm.out.setRow #[.slice (some ⟨b0, 0, none⟩) 16 16, .slice (some ⟨b3, 0, none⟩) G G, .slice (some ⟨b4, 0, none⟩) 64 64, .slice (some ⟨b7, 0, none⟩) I I])
          refine hK.out _ _ ⟨hHeld.1.setRow (Nat.le_succ _) _, hHeld.2.setRow_other _ (by omega)⟩ (fun hHeld => ?_)
          clear hK
          refine takeD (i := 10) (v := ?_) rfl rfl (by kernel_rfl) (by kernel_rfl) (by kernel_rfl) (fun _ _ _ h => h) (Or.inl ⟨by rfl, ?_⟩) hHeld ?_
          rotate_left
          · (intro v hv; (obtain ⟨hv0, hv1⟩ := hv; have c1 := (hv1.cell? 1).trans rfl; have c2 := (hv1.cell? 2).trans rfl); go_simp; try (with_reducible rfl))
          (try simp only [List.setIfInBounds_toArray, List.set_cons_zero, List.set_cons_succ])
          refine wpAnyH_done (by kernel_rfl) ?_ _
          have HH := Lib.hid hHeld
          clear hHeld
          go_wp2
          refine post_meta rfl (by rfl) (by rfl) HRf.out rfl ?_
          exact ⟨b0, b3, b4, b7, (by rfl), HFIN.out, HH.out.1⟩
        exact AllReadyH.nil
      refine AllReadyH.cons rfl (fun K hK => ?_) ?_
      · have hmk := run_make_s v2 14 27 48 (inoC Ino.zero) 104 (inoC_len _) (by decide) Try.underlying27 infoNC I (by omega) (by omega)
        rw [flat_repI] at hmk
        have hrow := Row.new v2 48 (flat inoC (List.replicate I Ino.zero))
        have hXX := (Ext.refl v2).alloc (.cells ((flat inoC (List.replicate I Ino.zero))).toArray 48)
        have HX2 := Lib.hid hXX
        have HW7 := Lib.hid hrow
        obtain ⟨b7, hb⟩ : ∃ q, q = v2.heap.size := ⟨_, rfl⟩
        have HB7 := Lib.hid hb
        rw [← hb] at hmk HW7
        clear hrow hXX hb
        generalize v2.alloc (.cells ((flat inoC (List.replicate I Ino.zero))).toArray 48) = v3 at *
        go_simp
        refine hK.out _ _ ⟨hHeld.1.trans HX2.out, hHeld.2.ext HX2.out⟩ (fun hHeld => ?_)
        clear hK hmk
        refine wpAnyH_ready (rs := [3]) (by kernel_rfl) (by simp) ?_
        refine AllReadyH.cons rfl (fun K hK => ?_) ?_
        · have hmk := run_make_ints (P := Try.prog) v3 25 3 .i64 8 Try.underlying25 info64I .i64 .i64 G G rfl (by omega) (by omega)
          have hrow := Row.new v3 3 (ints .i64 (List.replicate G 0))
          have hXX := (Ext.refl v3).alloc (.cells ((ints .i64 (List.replicate G 0))).toArray 3)
          have HX3 := Lib.hid hXX
          have HW3 := Lib.hid hrow
          obtain ⟨b3, hb⟩ : ∃ q, q = v3.heap.size := ⟨_, rfl⟩
          have HB3 := Lib.hid hb
          rw [← hb] at hmk HW3
          clear hrow hXX hb
          generalize v3.alloc (.cells ((ints .i64 (List.replicate G 0))).toArray 3) = v4 at *
          go_simp
          refine hK.out _ _ ⟨hHeld.1.trans HX3.out, hHeld.2.ext HX3.out⟩ (fun hHeld => ?_)
          clear hK hmk
          have HRm := Lib.hid (((((HR2.out.ext hX0).ext HX0.out).ext HX1.out).ext HX2.out).ext HX3.out)
          have HRR := Lib.hid (And.intro (((HW0.out.ext HX1.out).ext HX2.out).ext HX3.out) (And.intro HW3.out (And.intro ((HW4.out.ext HX2.out).ext HX3.out) (HW7.out.ext HX3.out))))
          have HNE := Lib.hid (show b0 ≠ w.heap.size + 1 ∧ b3 ≠ w.heap.size + 1 ∧ b4 ≠ w.heap.size + 1 ∧ b7 ≠ w.heap.size + 1 from by
            have := HB0.out; have := HB3.out; have := HB4.out; have := HB7.out; have := HR2.out.lt; have := hX0.size; have := HX0.out.size; have := HX1.out.size; have := HX2.out.size
            omega)
          refine takeD (i := 8) (v := ?_) rfl rfl (by kernel_rfl) (by kernel_rfl) (by kernel_rfl) (fun _ _ _ h => h) (Or.inl ⟨by rfl, ?_⟩) hHeld ?_
          rotate_left
          · (intro v hv; (obtain ⟨hv0, hv1⟩ := hv; have c1 := (hv1.cell? 1).trans rfl; have c2 := (hv1.cell? 2).trans rfl); go_simp; try (with_reducible rfl))
          (try simp only [List.setIfInBounds_toArray, List.set_cons_zero, List.set_cons_succ])
          refine wpAnyH_ready (rs := [9]) (by kernel_rfl) (by simp) ?_
          refine AllReadyH.cons rfl (fun K hK => ?_) AllReadyH.nil
          rw [if_pos (by rfl)]
          refine store_rowN _ _ _ rfl rfl (w.heap.size + 1) #[.slice (some ⟨b0, 0, none⟩) 16 16, .slice (some ⟨b3, 0, none⟩) G G, .slice (some ⟨b4, 0, none⟩) 64 64, .slice (some ⟨b7, 0, none⟩) I I] rfl rfl 29 _ HRm.out infoMeta rfl (by simp [Value.oneCell']) ?_
          have HFIN := Lib.hid (NewAt.mk (lo := w.heap.size) (HRR.out.1.setRow_other #[.slice (some ⟨b0, 0, none⟩) 16 16, .slice (some ⟨b3, 0, none⟩) G G, .slice (some ⟨b4, 0, none⟩) 64 64, .slice (some ⟨b7, 0, none⟩) I I] HNE.out.1) (HRR.out.2.1.setRow_other _ HNE.out.2.1) (HRR.out.2.2.1.setRow_other _ HNE.out.2.2.1) (HRR.out.2.2.2.setRow_other _ HNE.out.2.2.2) (by
            have h0 := HB0.out; have h3 := HB3.out; have h4 := HB4.out; have h7 := HB7.out
            have l0 := HW0.out.lt; have l3 := HW3.out.lt; have l4 := HW4.out.lt; have l7 := HW7.out.lt
            have s := hX0.size; have s0 := HX0.out.size; have s1 := HX1.out.size; have s2 := HX2.out.size; have r := HR2.out.lt
            omega))
          have HRf := Lib.hid (HRm.out.setRow #[.slice (some ⟨b0, 0, none⟩) 16 16, .slice (some ⟨b3, 0, none⟩) G G, .slice (some ⟨b4, 0, none⟩) 64 64, .slice (some ⟨b7, 0, none⟩) I I])
          refine hK.out _ _ ⟨hHeld.1.setRow (Nat.le_succ _) _, hHeld.2.setRow_other _ (by omega)⟩ (fun hHeld => ?_)
          clear hK
          refine takeD (i := 10) (v := ?_) rfl rfl (by kernel_rfl) (by kernel_rfl) (by kernel_rfl) (fun _ _ _ h => h) (Or.inl ⟨by rfl, ?_⟩) hHeld ?_
          rotate_left
          · (intro v hv; (obtain ⟨hv0, hv1⟩ := hv; have c1 := (hv1.cell? 1).trans rfl; have c2 := (hv1.cell? 2).trans rfl); go_simp; try (with_reducible rfl))
          (try simp only [List.setIfInBounds_toArray, List.set_cons_zero, List.set_cons_succ])
          refine wpAnyH_done (by kernel_rfl) ?_ _
          have HH := Lib.hid hHeld
          clear hHeld
          go_wp2
          refine post_meta rfl (by rfl) (by rfl) HRf.out rfl ?_
          exact ⟨b0, b3, b4, b7, (by rfl), HFIN.out, HH.out.1⟩
        exact AllReadyH.nil
      exact AllReadyH.nil
    refine AllReadyH.cons rfl (fun K hK => ?_) ?_
    · have hmk := run_make_s v1 14 27 48 (inoC Ino.zero) 104 (inoC_len _) (by decide) Try.underlying27 infoNC I (by omega) (by omega)
      rw [flat_repI] at hmk
      have hrow := Row.new v1 48 (flat inoC (List.replicate I Ino.zero))
      have hXX := (Ext.refl v1).alloc (.cells ((flat inoC (List.replicate I Ino.zero))).toArray 48)
      have HX1 := Lib.hid hXX
      have HW7 := Lib.hid hrow
      obtain ⟨b7, hb⟩ : ∃ q, q = v1.heap.size := ⟨_, rfl⟩
      have HB7 := Lib.hid hb
      rw [← hb] at hmk HW7
      clear hrow hXX hb
      generalize v1.alloc (.cells ((flat inoC (List.replicate I Ino.zero))).toArray 48) = v2 at *
      go_simp
      refine hK.out _ _ ⟨hHeld.1.trans HX1.out, hHeld.2.ext HX1.out⟩ (fun hHeld => ?_)
      clear hK hmk
      refine wpAnyH_ready (rs := [3, 4]) (by kernel_rfl) (by simp) ?_
      refine AllReadyH.cons rfl (fun K hK => ?_) ?_
      · have hmk := run_make_ints (P := Try.prog) v2 25 3 .i64 8 Try.underlying25 info64I .i64 .i64 G G rfl (by omega) (by omega)
        have hrow := Row.new v2 3 (ints .i64 (List.replicate G 0))
        have hXX := (Ext.refl v2).alloc (.cells ((ints .i64 (List.replicate G 0))).toArray 3)
        have HX2 := Lib.hid hXX
        have HW3 := Lib.hid hrow
        obtain ⟨b3, hb⟩ : ∃ q, q = v2.heap.size := ⟨_, rfl⟩
        have HB3 := Lib.hid hb
        rw [← hb] at hmk HW3
        clear hrow hXX hb
        generalize v2.alloc (.cells ((ints .i64 (List.replicate G 0))).toArray 3) = v3 at *
        go_simp
        refine hK.out _ _ ⟨hHeld.1.trans HX2.out, hHeld.2.ext HX2.out⟩ (fun hHeld => ?_)
        clear hK hmk
        refine wpAnyH_ready (rs := [4]) (by kernel_rfl) (by simp) ?_
        refine AllReadyH.cons rfl (fun K hK => ?_) ?_
        · have hmk := run_make_ints (P := Try.prog) v3 26 5 .u8 1 Try.underlying26 infoBC .i64 .i64 64 64 rfl (by decide) (by decide)
          have hrow := Row.new v3 5 (ints .u8 (List.replicate 64 0))
          have hXX := (Ext.refl v3).alloc (.cells ((ints .u8 (List.replicate 64 0))).toArray 5)
          have HX3 := Lib.hid hXX
          have HW4 := Lib.hid hrow
          obtain ⟨b4, hb⟩ : ∃ q, q = v3.heap.size := ⟨_, rfl⟩
          have HB4 := Lib.hid hb
          rw [← hb] at hmk HW4
          clear hrow hXX hb
          generalize v3.alloc (.cells ((ints .u8 (List.replicate 64 0))).toArray 5) = v4 at *
          go_simp
          refine hK.out _ _ ⟨hHeld.1.trans HX3.out, hHeld.2.ext HX3.out⟩ (fun hHeld => ?_)
          clear hK hmk
          have HRm := Lib.hid (((((HR2.out.ext hX0).ext HX0.out).ext HX1.out).ext HX2.out).ext HX3.out)
          have HRR := Lib.hid (And.intro (((HW0.out.ext HX1.out).ext HX2.out).ext HX3.out) (And.intro (HW3.out.ext HX3.out) (And.intro HW4.out ((HW7.out.ext HX2.out).ext HX3.out))))
          have HNE := Lib.hid (show b0 ≠ w.heap.size + 1 ∧ b3 ≠ w.heap.size + 1 ∧ b4 ≠ w.heap.size + 1 ∧ b7 ≠ w.heap.size + 1 from by
            have := HB0.out; have := HB3.out; have := HB4.out; have := HB7.out; have := HR2.out.lt; have := hX0.size; have := HX0.out.size; have := HX1.out.size; have := HX2.out.size
            omega)
          refine takeD (i := 8) (v := ?_) rfl rfl (by kernel_rfl) (by kernel_rfl) (by kernel_rfl) (fun _ _ _ h => h) (Or.inl ⟨by rfl, ?_⟩) hHeld ?_
          rotate_left
          · (intro v hv; (obtain ⟨hv0, hv1⟩ := hv; have c1 := (hv1.cell? 1).trans rfl; have c2 := (hv1.cell? 2).trans rfl); go_simp; try (with_reducible rfl))
          (try simp only [List.setIfInBounds_toArray, List.set_cons_zero, List.set_cons_succ])
          refine wpAnyH_ready (rs := [9]) (by kernel_rfl) (by simp) ?_
          refine AllReadyH.cons rfl (fun K hK => ?_) AllReadyH.nil
          rw [if_pos (by rfl)]
          refine store_rowN _ _ _ rfl rfl (w.heap.size + 1) #[.slice (some ⟨b0, 0, none⟩) 16 16, .slice (some ⟨b3, 0, none⟩) G G, .slice (some ⟨b4, 0, none⟩) 64 64, .slice (some ⟨b7, 0, none⟩) I I] rfl rfl 29 _ HRm.out infoMeta rfl (by simp [Value.oneCell']) ?_
          have HFIN := Lib.hid (NewAt.mk (lo := w.heap.size) (HRR.out.1.setRow_other #[.slice (some ⟨b0, 0, none⟩) 16 16, .slice (some ⟨b3, 0, none⟩) G G, .slice (some ⟨b4, 0, none⟩) 64 64, .slice (some ⟨b7, 0, none⟩) I I] HNE.out.1) (HRR.out.2.1.setRow_other _ HNE.out.2.1) (HRR.out.2.2.1.setRow_other _ HNE.out.2.2.1) (HRR.out.2.2.2.setRow_other _ HNE.out.2.2.2) (by
            have h0 := HB0.out; have h3 := HB3.out; have h4 := HB4.out; have h7 := HB7.out
            have l0 := HW0.out.lt; have l3 := HW3.out.lt; have l4 := HW4.out.lt; have l7 := HW7.out.lt
            have s := hX0.size; have s0 := HX0.out.size; have s1 := HX1.out.size; have s2 := HX2.out.size; have r := HR2.out.lt
            omega))
          have HRf := Lib.hid (HRm.out.setRow #[.slice (some ⟨b0, 0, none⟩) 16 16, .slice (some ⟨b3, 0, none⟩) G G, .slice (some ⟨b4, 0, none⟩) 64 64, .slice (some ⟨b7, 0, none⟩) I I])
          refine hK.out _ _ ⟨hHeld.1.setRow (Nat.le_succ _) _, hHeld.2.setRow_other _ (by omega)⟩ (fun hHeld => ?_)
          clear hK
          refine takeD (i := 10) (v := ?_) rfl rfl (by kernel_rfl) (by kernel_rfl) (by kernel_rfl) (fun _ _ _ h => h) (Or.inl ⟨by rfl, ?_⟩) hHeld ?_
          rotate_left
          · (intro v hv; (obtain ⟨hv0, hv1⟩ := hv; have c1 := (hv1.cell? 1).trans rfl; have c2 := (hv1.cell? 2).trans rfl); go_simp; try (with_reducible rfl))
          (try simp only [List.setIfInBounds_toArray, List.set_cons_zero, List.set_cons_succ])
          refine wpAnyH_done (by kernel_rfl) ?_ _
          have HH := Lib.hid hHeld
          clear hHeld
          go_wp2
          refine post_meta rfl (by rfl) (by rfl) HRf.out rfl ?_
          exact ⟨b0, b3, b4, b7, (by rfl), HFIN.out, HH.out.1⟩
        exact AllReadyH.nil
      refine AllReadyH.cons rfl (fun K hK => ?_) ?_
      · have hmk := run_make_ints (P := Try.prog) v2 26 5 .u8 1 Try.underlying26 infoBC .i64 .i64 64 64 rfl (by decide) (by decide)
        have hrow := Row.new v2 5 (ints .u8 (List.replicate 64 0))
        have hXX := (Ext.refl v2).alloc (.cells ((ints .u8 (List.replicate 64 0))).toArray 5)
        have HX2 := Lib.hid hXX
        have HW4 := Lib.hid hrow
        obtain ⟨b4, hb⟩ : ∃ q, q = v2.heap.size := ⟨_, rfl⟩
        have HB4 := Lib.hid hb
        rw [← hb] at hmk HW4
        clear hrow hXX hb
        generalize v2.alloc (.cells ((ints .u8 (List.replicate 64 0))).toArray 5) = v3 at *
        go_simp
        refine hK.out _ _ ⟨hHeld.1.trans HX2.out, hHeld.2.ext HX2.out⟩ (fun hHeld => ?_)
        clear hK hmk
        refine wpAnyH_ready (rs := [3]) (by kernel_rfl) (by simp) ?_
        refine AllReadyH.cons rfl (fun K hK => ?_) ?_
        · have hmk := run_make_ints (P := Try.prog) v3 25 3 .i64 8 Try.underlying25 info64I .i64 .i64 G G rfl (by omega) (by omega)
          have hrow := Row.new v3 3 (ints .i64 (List.replicate G 0))
          have hXX := (Ext.refl v3).alloc (.cells ((ints .i64 (List.replicate G 0))).toArray 3)
          have HX3 := Lib.hid hXX
          have HW3 := Lib.hid hrow
          obtain ⟨b3, hb⟩ : ∃ q, q = v3.heap.size := ⟨_, rfl⟩
          have HB3 := Lib.hid hb
          rw [← hb] at hmk HW3
          clear hrow hXX hb
          generalize v3.alloc (.cells ((ints .i64 (List.replicate G 0))).toArray 3) = v4 at *
          go_simp
          refine hK.out _ _ ⟨hHeld.1.trans HX3.out, hHeld.2.ext HX3.out⟩ (fun hHeld => ?_)
          clear hK hmk
          have HRm := Lib.hid (((((HR2.out.ext hX0).ext HX0.out).ext HX1.out).ext HX2.out).ext HX3.out)
          have HRR := Lib.hid (And.intro (((HW0.out.ext HX1.out).ext HX2.out).ext HX3.out) (And.intro HW3.out (And.intro (HW4.out.ext HX3.out) ((HW7.out.ext HX2.out).ext HX3.out))))
          have HNE := Lib.hid (show b0 ≠ w.heap.size + 1 ∧ b3 ≠ w.heap.size + 1 ∧ b4 ≠ w.heap.size + 1 ∧ b7 ≠ w.heap.size + 1 from by
            have := HB0.out; have := HB3.out; have := HB4.out; have := HB7.out; have := HR2.out.lt; have := hX0.size; have := HX0.out.size; have := HX1.out.size; have := HX2.out.size
            omega)
          refine takeD (i := 8) (v := ?_) rfl rfl (by kernel_rfl) (by kernel_rfl) (by kernel_rfl) (fun _ _ _ h => h) (Or.inl ⟨by rfl, ?_⟩) hHeld ?_
          rotate_left
          · (intro v hv; (obtain ⟨hv0, hv1⟩ := hv; have c1 := (hv1.cell? 1).trans rfl; have c2 := (hv1.cell? 2).trans rfl); go_simp; try (with_reducible rfl))
          (try simp only [List.setIfInBounds_toArray, List.set_cons_zero, List.set_cons_succ])
          refine wpAnyH_ready (rs := [9]) (by kernel_rfl) (by simp) ?_
          refine AllReadyH.cons rfl (fun K hK => ?_) AllReadyH.nil
          rw [if_pos (by rfl)]
          refine store_rowN _ _ _ rfl rfl (w.heap.size + 1) #[.slice (some ⟨b0, 0, none⟩) 16 16, .slice (some ⟨b3, 0, none⟩) G G, .slice (some ⟨b4, 0, none⟩) 64 64, .slice (some ⟨b7, 0, none⟩) I I] rfl rfl 29 _ HRm.out infoMeta rfl (by simp [Value.oneCell']) ?_
          have HFIN := Lib.hid (NewAt.mk (lo := w.heap.size) (HRR.out.1.setRow_other #[.slice (some ⟨b0, 0, none⟩) 16 16, .slice (some ⟨b3, 0, none⟩) G G, .slice (some ⟨b4, 0, none⟩) 64 64, .slice (some ⟨b7, 0, none⟩) I I] HNE.out.1) (HRR.out.2.1.setRow_other _ HNE.out.2.1) (HRR.out.2.2.1.setRow_other _ HNE.out.2.2.1) (HRR.out.2.2.2.setRow_other _ HNE.out.2.2.2) (by
            have h0 := HB0.out; have h3 := HB3.out; have h4 := HB4.out; have h7 := HB7.out
            have l0 := HW0.out.lt; have l3 := HW3.out.lt; have l4 := HW4.out.lt; have l7 := HW7.out.lt
            have s := hX0.size; have s0 := HX0.out.size; have s1 := HX1.out.size; have s2 := HX2.out.size; have r := HR2.out.lt
            omega))
          have HRf := Lib.hid (HRm.out.setRow #[.slice (some ⟨b0, 0, none⟩) 16 16, .slice (some ⟨b3, 0, none⟩) G G, .slice (some ⟨b4, 0, none⟩) 64 64, .slice (some ⟨b7, 0, none⟩) I I])
          refine hK.out _ _ ⟨hHeld.1.setRow (Nat.le_succ _) _, hHeld.2.setRow_other _ (by omega)⟩ (fun hHeld => ?_)
          clear hK
          refine takeD (i := 10) (v := ?_) rfl rfl (by kernel_rfl) (by kernel_rfl) (by kernel_rfl) (fun _ _ _ h => h) (Or.inl ⟨by rfl, ?_⟩) hHeld ?_
          rotate_left
          · (intro v hv; (obtain ⟨hv0, hv1⟩ := hv; have c1 := (hv1.cell? 1).trans rfl; have c2 := (hv1.cell? 2).trans rfl); go_simp; try (with_reducible rfl))
          (try simp only [List.setIfInBounds_toArray, List.set_cons_zero, List.set_cons_succ])
          refine wpAnyH_done (by kernel_rfl) ?_ _
          have HH := Lib.hid hHeld
          clear hHeld
          go_wp2
          refine post_meta rfl (by rfl) (by rfl) HRf.out rfl ?_
          exact ⟨b0, b3, b4, b7, (by rfl), HFIN.out, HH.out.1⟩
        exact AllReadyH.nil
      exact AllReadyH.nil
    exact AllReadyH.nil
  refine AllReadyH.cons rfl (fun K hK => ?_) ?_
  · have hmk := run_make_ints (P := Try.prog) v0 25 3 .i64 8 Try.underlying25 info64I .i64 .i64 G G rfl (by omega) (by omega)
    have hrow := Row.new v0 3 (ints .i64 (List.replicate G 0))
    have hXX := (Ext.refl v0).alloc (.cells ((ints .i64 (List.replicate G 0))).toArray 3)
    have HX0 := Lib.hid hXX
    have HW3 := Lib.hid hrow
    obtain ⟨b3, hb⟩ : ∃ q, q = v0.heap.size := ⟨_, rfl⟩
    have HB3 := Lib.hid hb
    rw [← hb] at hmk HW3
    clear hrow hXX hb
    generalize v0.alloc (.cells ((ints .i64 (List.replicate G 0))).toArray 3) = v1 at *
    go_simp
    refine hK.out _ _ ⟨hHeld.1.trans HX0.out, hHeld.2.ext HX0.out⟩ (fun hHeld => ?_)
    clear hK hmk
    refine wpAnyH_ready (rs := [0, 4, 7]) (by kernel_rfl) (by simp) ?_
    refine AllReadyH.cons rfl (fun K hK => ?_) ?_
    · have hmk0 := run_make_s v1 2 24 45 [.int .u16 0, .int .i64 0] 16 rfl (by decide) Try.underlying24 infoRC 16 (by decide) (by decide)
      rw [flat_repR] at hmk0
      have hmk : (Instr.makeSlice 24 (.int .i64 16) (.int .i64 16)).run Try.prog v1 = .ok (.slice (some ⟨v1.heap.size, 0, none⟩) 16 16) (v1.alloc (.cells (rowsC (List.replicate 16 (0, 0))).toArray 45)) := hmk0
      clear hmk0
      have hrow := Row.new v1 45 (rowsC (List.replicate 16 (0, 0)))
      have hXX := (Ext.refl v1).alloc (.cells ((rowsC (List.replicate 16 (0, 0)))).toArray 45)
      have HX1 := Lib.hid hXX
      have HW0 := Lib.hid hrow
      obtain ⟨b0, hb⟩ : ∃ q, q = v1.heap.size := ⟨_, rfl⟩
      have HB0 := Lib.hid hb
      rw [← hb] at hmk HW0
      clear hrow hXX hb
      generalize v1.alloc (.cells ((rowsC (List.replicate 16 (0, 0)))).toArray 45) = v2 at *
      go_simp
      refine hK.out _ _ ⟨hHeld.1.trans HX1.out, hHeld.2.ext HX1.out⟩ (fun hHeld => ?_)
      clear hK hmk
      refine wpAnyH_ready (rs := [4, 7]) (by kernel_rfl) (by simp) ?_
      refine AllReadyH.cons rfl (fun K hK => ?_) ?_
      · have hmk := run_make_ints (P := Try.prog) v2 26 5 .u8 1 Try.underlying26 infoBC .i64 .i64 64 64 rfl (by decide) (by decide)
        have hrow := Row.new v2 5 (ints .u8 (List.replicate 64 0))
        have hXX := (Ext.refl v2).alloc (.cells ((ints .u8 (List.replicate 64 0))).toArray 5)
        have HX2 := Lib.hid hXX
        have HW4 := Lib.hid hrow
        obtain ⟨b4, hb⟩ : ∃ q, q = v2.heap.size := ⟨_, rfl⟩
        have HB4 := Lib.hid hb
        rw [← hb] at hmk HW4
        clear hrow hXX hb
        generalize v2.alloc (.cells ((ints .u8 (List.replicate 64 0))).toArray 5) = v3 at *
        go_simp
        refine hK.out _ _ ⟨hHeld.1.trans HX2.out, hHeld.2.ext HX2.out⟩ (fun hHeld => ?_)
        clear hK hmk
        refine wpAnyH_ready (rs := [7]) (by kernel_rfl) (by simp) ?_
        refine AllReadyH.cons rfl (fun K hK => ?_) ?_
        · have hmk := run_make_s v3 14 27 48 (inoC Ino.zero) 104 (inoC_len _) (by decide) Try.underlying27 infoNC I (by omega) (by omega)
          rw [flat_repI] at hmk
          have hrow := Row.new v3 48 (flat inoC (List.replicate I Ino.zero))
          have hXX := (Ext.refl v3).alloc (.cells ((flat inoC (List.replicate I Ino.zero))).toArray 48)
          have HX3 := Lib.hid hXX
          have HW7 := Lib.hid hrow
          obtain ⟨b7, hb⟩ : ∃ q, q = v3.heap.size := ⟨_, rfl⟩
          have HB7 := Lib.hid hb
          rw [← hb] at hmk HW7
          clear hrow hXX hb
          generalize v3.alloc (.cells ((flat inoC (List.replicate I Ino.zero))).toArray 48) = v4 at *
          go_simp
          refine hK.out _ _ ⟨hHeld.1.trans HX3.out, hHeld.2.ext HX3.out⟩ (fun hHeld => ?_)
          clear hK hmk
          have HRm := Lib.hid (((((HR2.out.ext hX0).ext HX0.out).ext HX1.out).ext HX2.out).ext HX3.out)
          have HRR := Lib.hid (And.intro ((HW0.out.ext HX2.out).ext HX3.out) (And.intro (((HW3.out.ext HX1.out).ext HX2.out).ext HX3.out) (And.intro (HW4.out.ext HX3.out) HW7.out)))
          have HNE := Lib.hid (show b0 ≠ w.heap.size + 1 ∧ b3 ≠ w.heap.size + 1 ∧ b4 ≠ w.heap.size + 1 ∧ b7 ≠ w.heap.size + 1 from by
            have := HB0.out; have := HB3.out; have := HB4.out; have := HB7.out; have := HR2.out.lt; have := hX0.size; have := HX0.out.size; have := HX1.out.size; have := HX2.out.size
            omega)
          refine takeD (i := 8) (v := ?_) rfl rfl (by kernel_rfl) (by kernel_rfl) (by kernel_rfl) (fun _ _ _ h => h) (Or.inl ⟨by rfl, ?_⟩) hHeld ?_
          rotate_left
          · (intro v hv; (obtain ⟨hv0, hv1⟩ := hv; have c1 := (hv1.cell? 1).trans rfl; have c2 := (hv1.cell? 2).trans rfl); go_simp; try (with_reducible rfl))
          (try simp only [List.setIfInBounds_toArray, List.set_cons_zero, List.set_cons_succ])
          refine wpAnyH_ready (rs := [9]) (by kernel_rfl) (by simp) ?_
          refine AllReadyH.cons rfl (fun K hK => ?_) AllReadyH.nil
          rw [if_pos (by rfl)]
          refine store_rowN _ _ _ rfl rfl (w.heap.size + 1) #[.slice (some ⟨b0, 0, none⟩) 16 16, .slice (some ⟨b3, 0, none⟩) G G, .slice (some ⟨b4, 0, none⟩) 64 64, .slice (some ⟨b7, 0, none⟩) I I] rfl rfl 29 _ HRm.out infoMeta rfl (by simp [Value.oneCell']) ?_
          have HFIN := Lib.hid (NewAt.mk (lo := w.heap.size) (HRR.out.1.setRow_other #[.slice (some ⟨b0, 0, none⟩) 16 16, .slice (some ⟨b3, 0, none⟩) G G, .slice (some ⟨b4, 0, none⟩) 64 64, .slice (some ⟨b7, 0, none⟩) I I] HNE.out.1) (HRR.out.2.1.setRow_other _ HNE.out.2.1) (HRR.out.2.2.1.setRow_other _ HNE.out.2.2.1) (HRR.out.2.2.2.setRow_other _ HNE.out.2.2.2) (by
            have h0 := HB0.out; have h3 := HB3.out; have h4 := HB4.out; have h7 := HB7.out
            have l0 := HW0.out.lt; have l3 := HW3.out.lt; have l4 := HW4.out.lt; have l7 := HW7.out.lt
            have s := hX0.size; have s0 := HX0.out.size; have s1 := HX1.out.size; have s2 := HX2.out.size; have r := HR2.out.lt
            omega))
          have HRf := Lib.hid (HRm.out.setRow #[.slice (some ⟨b0, 0, none⟩) 16 16, .slice (some ⟨b3, 0, none⟩) G G, .slice (some ⟨b4, 0, none⟩) 64 64, .slice (some ⟨b7, 0, none⟩) I I])
          refine hK.out _ _ ⟨hHeld.1.setRow (Nat.le_succ _) _, hHeld.2.setRow_other _ (by omega)⟩ (fun hHeld => ?_)
          clear hK
          refine takeD (i := 10) (v := ?_) rfl rfl (by kernel_rfl) (by kernel_rfl) (by kernel_rfl) (fun _ _ _ h => h) (Or.inl ⟨by rfl, ?_⟩) hHeld ?_
          rotate_left
          · (intro v hv; (obtain ⟨hv0, hv1⟩ := hv; have c1 := (hv1.cell? 1).trans rfl; have c2 := (hv1.cell? 2).trans rfl); go_simp; try (with_reducible rfl))
          (try simp only [List.setIfInBounds_toArray, List.set_cons_zero, List.set_cons_succ])
          refine wpAnyH_done (by kernel_rfl) ?_ _
          have HH := Lib.hid hHeld
          clear hHeld
          go_wp2
          refine post_meta rfl (by rfl) (by rfl) HRf.out rfl ?_
          exact ⟨b0, b3, b4, b7, (by rfl), HFIN.out, HH.out.1⟩
        exact AllReadyH.nil
      refine AllReadyH.cons rfl (fun K hK => ?_) ?_
      · have hmk := run_make_s v2 14 27 48 (inoC Ino.zero) 104 (inoC_len _) (by decide) Try.underlying27 infoNC I (by omega) (by omega)
        rw [flat_repI] at hmk
        have hrow := Row.new v2 48 (flat inoC (List.replicate I Ino.zero))
        have hXX := (Ext.refl v2).alloc (.cells ((flat inoC (List.replicate I Ino.zero))).toArray 48)
        have HX2 := Lib.hid hXX
        have HW7 := Lib.hid hrow
        obtain ⟨b7, hb⟩ : ∃ q, q = v2.heap.size := ⟨_, rfl⟩
        have HB7 := Lib.hid hb
        rw [← hb] at hmk HW7
        clear hrow hXX hb
        generalize v2.alloc (.cells ((flat inoC (List.replicate I Ino.zero))).toArray 48) = v3 at *
        go_simp
        refine hK.out _ _ ⟨hHeld.1.trans HX2.out, hHeld.2.ext HX2.out⟩ (fun hHeld => ?_)
        clear hK hmk
        refine wpAnyH_ready (rs := [4]) (by kernel_rfl) (by simp) ?_
        refine AllReadyH.cons rfl (fun K hK => ?_) ?_
        · have hmk := run_make_ints (P := Try.prog) v3 26 5 .u8 1 Try.underlying26 infoBC .i64 .i64 64 64 rfl (by decide) (by decide)
          have hrow := Row.new v3 5 (ints .u8 (List.replicate 64 0))
          have hXX := (Ext.refl v3).alloc (.cells ((ints .u8 (List.replicate 64 0))).toArray 5)
          have HX3 := Lib.hid hXX
          have HW4 := Lib.hid hrow
          obtain ⟨b4, hb⟩ : ∃ q, q = v3.heap.size := ⟨_, rfl⟩
          have HB4 := Lib.hid hb
          rw [← hb] at hmk HW4
          clear hrow hXX hb
          generalize v3.alloc (.cells ((ints .u8 (List.replicate 64 0))).toArray 5) = v4 at *
          go_simp
          refine hK.out _ _ ⟨hHeld.1.trans HX3.out, hHeld.2.ext HX3.out⟩ (fun hHeld => ?_)
          clear hK hmk
          have HRm := Lib.hid (((((HR2.out.ext hX0).ext HX0.out).ext HX1.out).ext HX2.out).ext HX3.out)
          have HRR := Lib.hid (And.intro ((HW0.out.ext HX2.out).ext HX3.out) (And.intro (((HW3.out.ext HX1.out).ext HX2.out).ext HX3.out) (And.intro HW4.out (HW7.out.ext HX3.out))))
          have HNE := Lib.hid (show b0 ≠ w.heap.size + 1 ∧ b3 ≠ w.heap.size + 1 ∧ b4 ≠ w.heap.size + 1 ∧ b7 ≠ w.heap.size + 1 from by
            have := HB0.out; have := HB3.out; have := HB4.out; have := HB7.out; have := HR2.out.lt; have := hX0.size; have := HX0.out.size; have := HX1.out.size; have := HX2.out.size
            omega)
          refine takeD (i := 8) (v := ?_) rfl rfl (by kernel_rfl) (by kernel_rfl) (by kernel_rfl) (fun _ _ _ h => h) (Or.inl ⟨by rfl, ?_⟩) hHeld ?_
          rotate_left
          · (intro v hv; (obtain ⟨hv0, hv1⟩ := hv; have c1 := (hv1.cell? 1).trans rfl; have c2 := (hv1.cell? 2).trans rfl); go_simp; try (with_reducible rfl))
          (try simp only [List.setIfInBounds_toArray, List.set_cons_zero, List.set_cons_succ])
          refine wpAnyH_ready (rs := [9]) (by kernel_rfl) (by simp) ?_
          refine AllReadyH.cons rfl (fun K hK => ?_) AllReadyH.nil
          rw [if_pos (by rfl)]
          refine store_rowN _ _ _ rfl rfl (w.heap.size + 1) #[.slice (some ⟨b0, 0, none⟩) 16 16, .slice (some ⟨b3, 0, none⟩) G G, .slice (some ⟨b4, 0, none⟩) 64 64, .slice (some ⟨b7, 0, none⟩) I I] rfl rfl 29 _ HRm.out infoMeta rfl (by simp [Value.oneCell']) ?_
          have HFIN := Lib.hid (NewAt.mk (lo := w.heap.size) (HRR.out.1.setRow_other #[.slice (some ⟨b0, 0, none⟩) 16 16, .slice (some ⟨b3, 0, none⟩) G G, .slice (some ⟨b4, 0, none⟩) 64 64, .slice (some ⟨b7, 0, none⟩) I I] HNE.out.1) (HRR.out.2.1.setRow_other _ HNE.out.2.1) (HRR.out.2.2.1.setRow_other _ HNE.out.2.2.1) (HRR.out.2.2.2.setRow_other _ HNE.out.2.2.2) (by
            have h0 := HB0.out; have h3 := HB3.out; have h4 := HB4.out; have h7 := HB7.out
            have l0 := HW0.out.lt; have l3 := HW3.out.lt; have l4 := HW4.out.lt; have l7 := HW7.out.lt
            have s := hX0.size; have s0 := HX0.out.size; have s1 := HX1.out.size; have s2 := HX2.out.size; have r := HR2.out.lt
            omega))
          have HRf := Lib.hid (HRm.out.setRow #[.slice (some ⟨b0, 0, none⟩) 16 16, .slice (some ⟨b3, 0, none⟩) G G, .slice (some ⟨b4, 0, none⟩) 64 64, .slice (some ⟨b7, 0, none⟩) I I])
          refine hK.out _ _ ⟨hHeld.1.setRow (Nat.le_succ _) _, hHeld.2.setRow_other _ (by omega)⟩ (fun hHeld => ?_)
          clear hK
          refine takeD (i := 10) (v := ?_) rfl rfl (by kernel_rfl) (by kernel_rfl) (by kernel_rfl) (fun _ _ _ h => h) (Or.inl ⟨by rfl, ?_⟩) hHeld ?_
          rotate_left
          · (intro v hv; (obtain ⟨hv0, hv1⟩ := hv; have c1 := (hv1.cell? 1).trans rfl; have c2 := (hv1.cell? 2).trans rfl); go_simp; try (with_reducible rfl))
          (try simp only [List.setIfInBounds_toArray, List.set_cons_zero, List.set_cons_succ])
          refine wpAnyH_done (by kernel_rfl) ?_ _
          have HH := Lib.hid hHeld
          clear hHeld
          go_wp2
          refine post_meta rfl (by rfl) (by rfl) HRf.out rfl ?_
          exact ⟨b0, b3, b4, b7, (by rfl), HFIN.out, HH.out.1⟩
        exact AllReadyH.nil
      exact AllReadyH.nil
    refine AllReadyH.cons rfl (fun K hK => ?_) ?_
    · have hmk := run_make_ints (P := Try.prog) v1 26 5 .u8 1 Try.underlying26 infoBC .i64 .i64 64 64 rfl (by decide) (by decide)
      have hrow := Row.new v1 5 (ints .u8 (List.replicate 64 0))
      have hXX := (Ext.refl v1).alloc (.cells ((ints .u8 (List.replicate 64 0))).toArray 5)
      have HX1 := Lib.hid hXX
      have HW4 := Lib.hid hrow
      obtain ⟨b4, hb⟩ : ∃ q, q = v1.heap.size := ⟨_, rfl⟩
      have HB4 := Lib.hid hb
      rw [← hb] at hmk HW4
      clear hrow hXX hb
      generalize v1.alloc (.cells ((ints .u8 (List.replicate 64 0))).toArray 5) = v2 at *
      go_simp
      refine hK.out _ _ ⟨hHeld.1.trans HX1.out, hHeld.2.ext HX1.out⟩ (fun hHeld => ?_)
      clear hK hmk
      refine wpAnyH_ready (rs := [0, 7]) (by kernel_rfl) (by simp) ?_
      refine AllReadyH.cons rfl (fun K hK => ?_) ?_
      · have hmk0 := run_make_s v2 2 24 45 [.int .u16 0, .int .i64 0] 16 rfl (by decide) Try.underlying24 infoRC 16 (by decide) (by decide)
        rw [flat_repR] at hmk0
        have hmk : (Instr.makeSlice 24 (.int .i64 16) (.int .i64 16)).run Try.prog v2 = .ok (.slice (some ⟨v2.heap.size, 0, none⟩) 16 16) (v2.alloc (.cells (rowsC (List.replicate 16 (0, 0))).toArray 45)) := hmk0
        clear hmk0
        have hrow := Row.new v2 45 (rowsC (List.replicate 16 (0, 0)))
        have hXX := (Ext.refl v2).alloc (.cells ((rowsC (List.replicate 16 (0, 0)))).toArray 45)
        have HX2 := Lib.hid hXX
        have HW0 := Lib.hid hrow
        obtain ⟨b0, hb⟩ : ∃ q, q = v2.heap.size := ⟨_, rfl⟩
        have HB0 := Lib.hid hb
        rw [← hb] at hmk HW0
        clear hrow hXX hb
        generalize v2.alloc (.cells ((rowsC (List.replicate 16 (0, 0)))).toArray 45) = v3 at *
        go_simp
        refine hK.out _ _ ⟨hHeld.1.trans HX2.out, hHeld.2.ext HX2.out⟩ (fun hHeld => ?_)
        clear hK hmk
        refine wpAnyH_ready (rs := [7]) (by kernel_rfl) (by simp) ?_
        refine AllReadyH.cons rfl (fun K hK => ?_) ?_
        · have hmk := run_make_s v3 14 27 48 (inoC Ino.zero) 104 (inoC_len _) (by decide) Try.underlying27 infoNC I (by omega) (by omega)
          rw [flat_repI] at hmk
          have hrow := Row.new v3 48 (flat inoC (List.replicate I Ino.zero))
          have hXX := (Ext.refl v3).alloc (.cells ((flat inoC (List.replicate I Ino.zero))).toArray 48)
          have HX3 := Lib.hid hXX
          have HW7 := Lib.hid hrow
          obtain ⟨b7, hb⟩ : ∃ q, q = v3.heap.size := ⟨_, rfl⟩
          have HB7 := Lib.hid hb
          rw [← hb] at hmk HW7
          clear hrow hXX hb
          generalize v3.alloc (.cells ((flat inoC (List.replicate I Ino.zero))).toArray 48) = v4 at *
          go_simp
          refine hK.out _ _ ⟨hHeld.1.trans HX3.out, hHeld.2.ext HX3.out⟩ (fun hHeld => ?_)
          clear hK hmk
          have HRm := Lib.hid (((((HR2.out.ext hX0).ext HX0.out).ext HX1.out).ext HX2.out).ext HX3.out)
          have HRR := Lib.hid (And.intro (HW0.out.ext HX3.out) (And.intro (((HW3.out.ext HX1.out).ext HX2.out).ext HX3.out) (And.intro ((HW4.out.ext HX2.out).ext HX3.out) HW7.out)))
          have HNE := Lib.hid (show b0 ≠ w.heap.size + 1 ∧ b3 ≠ w.heap.size + 1 ∧ b4 ≠ w.heap.size + 1 ∧ b7 ≠ w.heap.size + 1 from by
            have := HB0.out; have := HB3.out; have := HB4.out; have := HB7.out; have := HR2.out.lt; have := hX0.size; have := HX0.out.size; have := HX1.out.size; have := HX2.out.size
            omega)
          refine takeD (i := 8) (v := ?_) rfl rfl (by kernel_rfl) (by kernel_rfl) (by kernel_rfl) (fun _ _ _ h => h) (Or.inl ⟨by rfl, ?_⟩) hHeld ?_
          rotate_left
          · (intro v hv; (obtain ⟨hv0, hv1⟩ := hv; have c1 := (hv1.cell? 1).trans rfl; have c2 := (hv1.cell? 2).trans rfl); go_simp; try (with_reducible rfl))
          (try simp only [List.setIfInBounds_toArray, List.set_cons_zero, List.set_cons_succ])
          refine wpAnyH_ready (rs := [9]) (by kernel_rfl) (by simp) ?_
          refine AllReadyH.cons rfl (fun K hK => ?_) AllReadyH.nil
          rw [if_pos (by rfl)]
          refine store_rowN _ _ _ rfl rfl (w.heap.size + 1) #[.slice (some ⟨b0, 0, none⟩) 16 16, .slice (some ⟨b3, 0, none⟩) G G, .slice (some ⟨b4, 0, none⟩) 64 64, .slice (some ⟨b7, 0, none⟩) I I] rfl rfl 29 _ HRm.out infoMeta rfl (by simp [Value.oneCell']) ?_
          have HFIN := Lib.hid (NewAt.mk (lo := w.heap.size) (HRR.out.1.setRow_other #[.slice (some ⟨b0, 0, none⟩) 16 16, .slice (some ⟨b3, 0, none⟩) G G, .slice (some ⟨b4, 0, none⟩) 64 64, .slice (some ⟨b7, 0, none⟩) I I] HNE.out.1) (HRR.out.2.1.setRow_other _ HNE.out.2.1) (HRR.out.2.2.1.setRow_other _ HNE.out.2.2.1) (HRR.out.2.2.2.setRow_other _ HNE.out.2.2.2) (by
            have h0 := HB0.out; have h3 := HB3.out; have h4 := HB4.out; have h7 := HB7.out
            have l0 := HW0.out.lt; have l3 := HW3.out.lt; have l4 := HW4.out.lt; have l7 := HW7.out.lt
            have s := hX0.size; have s0 := HX0.out.size; have s1 := HX1.out.size; have s2 := HX2.out.size; have r := HR2.out.lt
            omega))
          have HRf := Lib.hid (HRm.out.setRow #[.slice (some ⟨b0, 0, none⟩) 16 16, .slice (some ⟨b3, 0, none⟩) G G, .slice (some ⟨b4, 0, none⟩) 64 64, .slice (some ⟨b7, 0, none⟩) I I])
          refine hK.out _ _ ⟨hHeld.1.setRow (Nat.le_succ _) _, hHeld.2.setRow_other _ (by omega)⟩ (fun hHeld => ?_)
          clear hK
          refine takeD (i := 10) (v := ?_) rfl rfl (by kernel_rfl) (by kernel_rfl) (by kernel_rfl) (fun _ _ _ h => h) (Or.inl ⟨by rfl, ?_⟩) hHeld ?_
          rotate_left
          · (intro v hv; (obtain ⟨hv0, hv1⟩ := hv; have c1 := (hv1.cell? 1).trans rfl; have c2 := (hv1.cell? 2).trans rfl); go_simp; try (with_reducible rfl))
          (try simp only [List.setIfInBounds_toArray, List.set_cons_zero, List.set_cons_succ])
          refine wpAnyH_done (by kernel_rfl) ?_ _
          have HH := Lib.hid hHeld
          clear hHeld
          go_wp2
          refine post_meta rfl (by rfl) (by rfl) HRf.out rfl ?_
          exact ⟨b0, b3, b4, b7, (by rfl), HFIN.out, HH.out.1⟩
        exact AllReadyH.nil
      refine AllReadyH.cons rfl (fun K hK => ?_) ?_
      · have hmk := run_make_s v2 14 27 48 (inoC Ino.zero) 104 (inoC_len _) (by decide) Try.underlying27 infoNC I (by omega) (by omega)
        rw [flat_repI] at hmk
        have hrow := Row.new v2 48 (flat inoC (List.replicate I Ino.zero))
        have hXX := (Ext.refl v2).alloc (.cells ((flat inoC (List.replicate I Ino.zero))).toArray 48)
        have HX2 := Lib.hid hXX
        have HW7 := Lib.hid hrow
        obtain ⟨b7, hb⟩ : ∃ q, q = v2.heap.size := ⟨_, rfl⟩
        have HB7 := Lib.hid hb
        rw [← hb] at hmk HW7
        clear hrow hXX hb
        generalize v2.alloc (.cells ((flat inoC (List.replicate I Ino.zero))).toArray 48) = v3 at *
        go_simp
        refine hK.out _ _ ⟨hHeld.1.trans HX2.out, hHeld.2.ext HX2.out⟩ (fun hHeld => ?_)
        clear hK hmk
        refine wpAnyH_ready (rs := [0]) (by kernel_rfl) (by simp) ?_
        refine AllReadyH.cons rfl (fun K hK => ?_) ?_
        · have hmk0 := run_make_s v3 2 24 45 [.int .u16 0, .int .i64 0] 16 rfl (by decide) Try.underlying24 infoRC 16 (by decide) (by decide)
          rw [flat_repR] at hmk0
          have hmk : (Instr.makeSlice 24 (.int .i64 16) (.int .i64 16)).run Try.prog v3 = .ok (.slice (some ⟨v3.heap.size, 0, none⟩) 16 16) (v3.alloc (.cells (rowsC (List.replicate 16 (0, 0))).toArray 45)) := hmk0
          clear hmk0
          have hrow := Row.new v3 45 (rowsC (List.replicate 16 (0, 0)))
          have hXX := (Ext.refl v3).alloc (.cells ((rowsC (List.replicate 16 (0, 0)))).toArray 45)
          have HX3 := Lib.hid hXX
          have HW0 := Lib.hid hrow
          obtain ⟨b0, hb⟩ : ∃ q, q = v3.heap.size := ⟨_, rfl⟩
          have HB0 := Lib.hid hb
          rw [← hb] at hmk HW0
          clear hrow hXX hb
          generalize v3.alloc (.cells ((rowsC (List.replicate 16 (0, 0)))).toArray 45) = v4 at *
          go_simp
          refine hK.out _ _ ⟨hHeld.1.trans HX3.out, hHeld.2.ext HX3.out⟩ (fun hHeld => ?_)
          clear hK hmk
          have HRm := Lib.hid (((((HR2.out.ext hX0).ext HX0.out).ext HX1.out).ext HX2.out).ext HX3.out)
          have HRR := Lib.hid (And.intro HW0.out (And.intro (((HW3.out.ext HX1.out).ext HX2.out).ext HX3.out) (And.intro ((HW4.out.ext HX2.out).ext HX3.out) (HW7.out.ext HX3.out))))
          have HNE := Lib.hid (show b0 ≠ w.heap.size + 1 ∧ b3 ≠ w.heap.size + 1 ∧ b4 ≠ w.heap.size + 1 ∧ b7 ≠ w.heap.size + 1 from by
            have := HB0.out; have := HB3.out; have := HB4.out; have := HB7.out; have := HR2.out.lt; have := hX0.size; have := HX0.out.size; have := HX1.out.size; have := HX2.out.size
            omega)
          refine takeD (i := 8) (v := ?_) rfl rfl (by kernel_rfl) (by kernel_rfl) (by kernel_rfl) (fun _ _ _ h => h) (Or.inl ⟨by rfl, ?_⟩) hHeld ?_
          rotate_left
          · (intro v hv; (obtain ⟨hv0, hv1⟩ := hv; have c1 := (hv1.cell? 1).trans rfl; have c2 := (hv1.cell? 2).trans rfl); go_simp; try (with_reducible rfl))
          (try simp only [List.setIfInBounds_toArray, List.set_cons_zero, List.set_cons_succ])
          refine wpAnyH_ready (rs := [9]) (by kernel_rfl) (by simp) ?_
          refine AllReadyH.cons rfl (fun K hK => ?_) AllReadyH.nil
          rw [if_pos (by rfl)]
          refine store_rowN _ _ _ rfl rfl (w.heap.size + 1) #[.slice (some ⟨b0, 0, none⟩) 16 16, .slice (some ⟨b3, 0, none⟩) G G, .slice (some ⟨b4, 0, none⟩) 64 64, .slice (some ⟨b7, 0, none⟩) I I] rfl rfl 29 _ HRm.out infoMeta rfl (by simp [Value.oneCell']) ?_
          have HFIN := Lib.hid (NewAt.mk (lo := w.heap.size) (HRR.out.1.setRow_other #[.slice (some ⟨b0, 0, none⟩) 16 16, .slice (some ⟨b3, 0, none⟩) G G, .slice (some ⟨b4, 0, none⟩) 64 64, .slice (some ⟨b7, 0, none⟩) I I] HNE.out.1) (HRR.out.2.1.setRow_other _ HNE.out.2.1) (HRR.out.2.2.1.setRow_other _ HNE.out.2.2.1) (HRR.out.2.2.2.setRow_other _ HNE.out.2.2.2) (by
            have h0 := HB0.out; have h3 := HB3.out; have h4 := HB4.out; have h7 := HB7.out
            have l0 := HW0.out.lt; have l3 := HW3.out.lt; have l4 := HW4.out.lt; have l7 := HW7.out.lt
            have s := hX0.size; have s0 := HX0.out.size; have s1 := HX1.out.size; have s2 := HX2.out.size; have r := HR2.out.lt
            omega))
          have HRf := Lib.hid (HRm.out.setRow #[.slice (some ⟨b0, 0, none⟩) 16 16, .slice (some ⟨b3, 0, none⟩) G G, .slice (some ⟨b4, 0, none⟩) 64 64, .slice (some ⟨b7, 0, none⟩) I I])
          refine hK.out _ _ ⟨hHeld.1.setRow (Nat.le_succ _) _, hHeld.2.setRow_other _ (by omega)⟩ (fun hHeld => ?_)
          clear hK
          refine takeD (i := 10) (v := ?_) rfl rfl (by kernel_rfl) (by kernel_rfl) (by kernel_rfl) (fun _ _ _ h => h) (Or.inl ⟨by rfl, ?_⟩) hHeld ?_
          rotate_left
          · (intro v hv; (obtain ⟨hv0, hv1⟩ := hv; have c1 := (hv1.cell? 1).trans rfl; have c2 := (hv1.cell? 2).trans rfl); go_simp; try (with_reducible rfl))
          (try simp only [List.setIfInBounds_toArray, List.set_cons_zero, List.set_cons_succ])
          refine wpAnyH_done (by kernel_rfl) ?_ _
          have HH := Lib.hid hHeld
          clear hHeld
          go_wp2
          refine post_meta rfl (by rfl) (by rfl) HRf.out rfl ?_
          exact ⟨b0, b3, b4, b7, (by rfl), HFIN.out, HH.out.1⟩
        exact AllReadyH.nil
      exact AllReadyH.nil
    refine AllReadyH.cons rfl (fun K hK => ?_) ?_
    · have hmk := run_make_s v1 14 27 48 (inoC Ino.zero) 104 (inoC_len _) (by decide) Try.underlying27 infoNC I (by omega) (by omega)
      rw [flat_repI] at hmk
      have hrow := Row.new v1 48 (flat inoC (List.replicate I Ino.zero))
      have hXX := (Ext.refl v1).alloc (.cells ((flat inoC (List.replicate I Ino.zero))).toArray 48)
      have HX1 := Lib.hid hXX
      have HW7 := Lib.hid hrow
      obtain ⟨b7, hb⟩ : ∃ q, q = v1.heap.size := ⟨_, rfl⟩
      have HB7 := Lib.hid hb
      rw [← hb] at hmk HW7
      clear hrow hXX hb
      generalize v1.alloc (.cells ((flat inoC (List.replicate I Ino.zero))).toArray 48) = v2 at *
      go_simp
      refine hK.out _ _ ⟨hHeld.1.trans HX1.out, hHeld.2.ext HX1.out⟩ (fun hHeld => ?_)
      clear hK hmk
      refine wpAnyH_ready (rs := [0, 4]) (by kernel_rfl) (by simp) ?_
      refine AllReadyH.cons rfl (fun K hK => ?_) ?_
      · have hmk0 := run_make_s v2 2 24 45 [.int .u16 0, .int .i64 0] 16 rfl (by decide) Try.underlying24 infoRC 16 (by decide) (by decide)
        rw [flat_repR] at hmk0
        have hmk : (Instr.makeSlice 24 (.int .i64 16) (.int .i64 16)).run Try.prog v2 = .ok (.slice (some ⟨v2.heap.size, 0, none⟩) 16 16) (v2.alloc (.cells (rowsC (List.replicate 16 (0, 0))).toArray 45)) := hmk0
        clear hmk0
        have hrow := Row.new v2 45 (rowsC (List.replicate 16 (0, 0)))
        have hXX := (Ext.refl v2).alloc (.cells ((rowsC (List.replicate 16 (0, 0)))).toArray 45)
        have HX2 := Lib.hid hXX
        have HW0 := Lib.hid hrow
        obtain ⟨b0, hb⟩ : ∃ q, q = v2.heap.size := ⟨_, rfl⟩
        have HB0 := Lib.hid hb
        rw [← hb] at hmk HW0
        clear hrow hXX hb
        generalize v2.alloc (.cells ((rowsC (List.replicate 16 (0, 0)))).toArray 45) = v3 at *
        go_simp
        refine hK.out _ _ ⟨hHeld.1.trans HX2.out, hHeld.2.ext HX2.out⟩ (fun hHeld => ?_)
        clear hK hmk
        refine wpAnyH_ready (rs := [4]) (by kernel_rfl) (by simp) ?_
        refine AllReadyH.cons rfl (fun K hK => ?_) ?_
        · have hmk := run_make_ints (P := Try.prog) v3 26 5 .u8 1 Try.underlying26 infoBC .i64 .i64 64 64 rfl (by decide) (by decide)
          have hrow := Row.new v3 5 (ints .u8 (List.replicate 64 0))
          have hXX := (Ext.refl v3).alloc (.cells ((ints .u8 (List.replicate 64 0))).toArray 5)
          have HX3 := Lib.hid hXX
          have HW4 := Lib.hid hrow
          obtain ⟨b4, hb⟩ : ∃ q, q = v3.heap.size := ⟨_, rfl⟩
          have HB4 := Lib.hid hb
          rw [← hb] at hmk HW4
          clear hrow hXX hb
          generalize v3.alloc (.cells ((ints .u8 (List.replicate 64 0))).toArray 5) = v4 at *
          go_simp
          refine hK.out _ _ ⟨hHeld.1.trans HX3.out, hHeld.2.ext HX3.out⟩ (fun hHeld => ?_)
          clear hK hmk
          have HRm := Lib.hid (((((HR2.out.ext hX0).ext HX0.out).ext HX1.out).ext HX2.out).ext HX3.out)
          have HRR := Lib.hid (And.intro (HW0.out.ext HX3.out) (And.intro (((HW3.out.ext HX1.out).ext HX2.out).ext HX3.out) (And.intro HW4.out ((HW7.out.ext HX2.out).ext HX3.out))))
          have HNE := Lib.hid (show b0 ≠ w.heap.size + 1 ∧ b3 ≠ w.heap.size + 1 ∧ b4 ≠ w.heap.size + 1 ∧ b7 ≠ w.heap.size + 1 from by
            have := HB0.out; have := HB3.out; have := HB4.out; have := HB7.out; have := HR2.out.lt; have := hX0.size; have := HX0.out.size; have := HX1.out.size; have := HX2.out.size
            omega)
          refine takeD (i := 8) (v := ?_) rfl rfl (by kernel_rfl) (by kernel_rfl) (by kernel_rfl) (fun _ _ _ h => h) (Or.inl ⟨by rfl, ?_⟩) hHeld ?_
          rotate_left
          · (intro v hv; (obtain ⟨hv0, hv1⟩ := hv; have c1 := (hv1.cell? 1).trans rfl; have c2 := (hv1.cell? 2).trans rfl); go_simp; try (with_reducible rfl))
          (try simp only [List.setIfInBounds_toArray, List.set_cons_zero, List.set_cons_succ])
          refine wpAnyH_ready (rs := [9]) (by kernel_rfl) (by simp) ?_
          refine AllReadyH.cons rfl (fun K hK => ?_) AllReadyH.nil
          rw [if_pos (by rfl)]
          refine store_rowN _ _ _ rfl rfl (w.heap.size + 1) #[.slice (some ⟨b0, 0, none⟩) 16 16, .slice (some ⟨b3, 0, none⟩) G G, .slice (some ⟨b4, 0, none⟩) 64 64, .slice (some ⟨b7, 0, none⟩) I I] rfl rfl 29 _ HRm.out infoMeta rfl (by simp [Value.oneCell']) ?_
          have HFIN := Lib.hid (NewAt.mk (lo := w.heap.size) (HRR.out.1.setRow_other #[.slice (some ⟨b0, 0, none⟩) 16 16, .slice (some ⟨b3, 0, none⟩) G G, .slice (some ⟨b4, 0, none⟩) 64 64, .slice (some ⟨b7, 0, none⟩) I I] HNE.out.1) (HRR.out.2.1.setRow_other _ HNE.out.2.1) (HRR.out.2.2.1.setRow_other _ HNE.out.2.2.1) (HRR.out.2.2.2.setRow_other _ HNE.out.2.2.2) (by
            have h0 := HB0.out; have h3 := HB3.out; have h4 := HB4.out; have h7 := HB7.out
            have l0 := HW0.out.lt; have l3 := HW3.out.lt; have l4 := HW4.out.lt; have l7 := HW7.out.lt
            have s := hX0.size; have s0 := HX0.out.size; have s1 := HX1.out.size; have s2 := HX2.out.size; have r := HR2.out.lt
            omega))
          have HRf := Lib.hid (HRm.out.setRow #[.slice (some ⟨b0, 0, none⟩) 16 16, .slice (some ⟨b3, 0, none⟩) G G, .slice (some ⟨b4, 0, none⟩) 64 64, .slice (some ⟨b7, 0, none⟩) I I])
          refine hK.out _ _ ⟨hHeld.1.setRow (Nat.le_succ _) _, hHeld.2.setRow_other _ (by omega)⟩ (fun hHeld => ?_)
          clear hK
          refine takeD (i := 10) (v := ?_) rfl rfl (by kernel_rfl) (by kernel_rfl) (by kernel_rfl) (fun _ _ _ h => h) (Or.inl ⟨by rfl, ?_⟩) hHeld ?_
          rotate_left
          · (intro v hv; (obtain ⟨hv0, hv1⟩ := hv; have c1 := (hv1.cell? 1).trans rfl; have c2 := (hv1.cell? 2).trans rfl); go_simp; try (with_reducible rfl))
          (try simp only [List.setIfInBounds_toArray, List.set_cons_zero, List.set_cons_succ])
          refine wpAnyH_done (by kernel_rfl) ?_ _
          have HH := Lib.hid hHeld
          clear hHeld
          go_wp2
          refine post_meta rfl (by rfl) (by rfl) HRf.out rfl ?_
          exact ⟨b0, b3, b4, b7, (by rfl), HFIN.out, HH.out.1⟩
        exact AllReadyH.nil
      refine AllReadyH.cons rfl (fun K hK => ?_) ?_
      · have hmk := run_make_ints (P := Try.prog) v2 26 5 .u8 1 Try.underlying26 infoBC .i64 .i64 64 64 rfl (by decide) (by decide)
        have hrow := Row.new v2 5 (ints .u8 (List.replicate 64 0))
        have hXX := (Ext.refl v2).alloc (.cells ((ints .u8 (List.replicate 64 0))).toArray 5)
        have HX2 := Lib.hid hXX
        have HW4 := Lib.hid hrow
        obtain ⟨b4, hb⟩ : ∃ q, q = v2.heap.size := ⟨_, rfl⟩
        have HB4 := Lib.hid hb
        rw [← hb] at hmk HW4
        clear hrow hXX hb
        generalize v2.alloc (.cells ((ints .u8 (List.replicate 64 0))).toArray 5) = v3 at *
        go_simp
        refine hK.out _ _ ⟨hHeld.1.trans HX2.out, hHeld.2.ext HX2.out⟩ (fun hHeld => ?_)
        clear hK hmk
        refine wpAnyH_ready (rs := [0]) (by kernel_rfl) (by simp) ?_
        refine AllReadyH.cons rfl (fun K hK => ?_) ?_
        · have hmk0 := run_make_s v3 2 24 45 [.int .u16 0, .int .i64 0] 16 rfl (by decide) Try.underlying24 infoRC 16 (by decide) (by decide)
          rw [flat_repR] at hmk0
          have hmk : (Instr.makeSlice 24 (.int .i64 16) (.int .i64 16)).run Try.prog v3 = .ok (.slice (some ⟨v3.heap.size, 0, none⟩) 16 16) (v3.alloc (.cells (rowsC (List.replicate 16 (0, 0))).toArray 45)) := hmk0
          clear hmk0
          have hrow := Row.new v3 45 (rowsC (List.replicate 16 (0, 0)))
          have hXX := (Ext.refl v3).alloc (.cells ((rowsC (List.replicate 16 (0, 0)))).toArray 45)
          have HX3 := Lib.hid hXX
          have HW0 := Lib.hid hrow
          obtain ⟨b0, hb⟩ : ∃ q, q = v3.heap.size := ⟨_, rfl⟩
          have HB0 := Lib.hid hb
          rw [← hb] at hmk HW0
          clear hrow hXX hb
          generalize v3.alloc (.cells ((rowsC (List.replicate 16 (0, 0)))).toArray 45) = v4 at *
          go_simp
          refine hK.out _ _ ⟨hHeld.1.trans HX3.out, hHeld.2.ext HX3.out⟩ (fun hHeld => ?_)
          clear hK hmk
          have HRm := Lib.hid (((((HR2.out.ext hX0).ext HX0.out).ext HX1.out).ext HX2.out).ext HX3.out)
          have HRR := Lib.hid (And.intro HW0.out (And.intro (((HW3.out.ext HX1.out).ext HX2.out).ext HX3.out) (And.intro (HW4.out.ext HX3.out) ((HW7.out.ext HX2.out).ext HX3.out))))
          have HNE := Lib.hid (show b0 ≠ w.heap.size + 1 ∧ b3 ≠ w.heap.size + 1 ∧ b4 ≠ w.heap.size + 1 ∧ b7 ≠ w.heap.size + 1 from by
            have := HB0.out; have := HB3.out; have := HB4.out; have := HB7.out; have := HR2.out.lt; have := hX0.size; have := HX0.out.size; have := HX1.out.size; have := HX2.out.size
            omega)
          refine takeD (i := 8) (v := ?_) rfl rfl (by kernel_rfl) (by kernel_rfl) (by kernel_rfl) (fun _ _ _ h => h) (Or.inl ⟨by rfl, ?_⟩) hHeld ?_
          rotate_left
          · (intro v hv; (obtain ⟨hv0, hv1⟩ := hv; have c1 := (hv1.cell? 1).trans rfl; have c2 := (hv1.cell? 2).trans rfl); go_simp; try (with_reducible rfl))
          (try simp only [List.setIfInBounds_toArray, List.set_cons_zero, List.set_cons_succ])
          refine wpAnyH_ready (rs := [9]) (by kernel_rfl) (by simp) ?_
          refine AllReadyH.cons rfl (fun K hK => ?_) AllReadyH.nil
          rw [if_pos (by rfl)]
          refine store_rowN _ _ _ rfl rfl (w.heap.size + 1) #[.slice (some ⟨b0, 0, none⟩) 16 16, .slice (some ⟨b3, 0, none⟩) G G, .slice (some ⟨b4, 0, none⟩) 64 64, .slice (some ⟨b7, 0, none⟩) I I] rfl rfl 29 _ HRm.out infoMeta rfl (by simp [Value.oneCell']) ?_
          have HFIN := Lib.hid (NewAt.mk (lo := w.heap.size) (HRR.out.1.setRow_other #[.slice (some ⟨b0, 0, none⟩) 16 16, .slice (some ⟨b3, 0, none⟩) G G, .slice (some ⟨b4, 0, none⟩) 64 64, .slice (some ⟨b7, 0, none⟩) I I] HNE.out.1) (HRR.out.2.1.setRow_other _ HNE.out.2.1) (HRR.out.2.2.1.setRow_other _ HNE.out.2.2.1) (HRR.out.2.2.2.setRow_other _ HNE.out.2.2.2) (by
            have h0 := HB0.out; have h3 := HB3.out; have h4 := HB4.out; have h7 := HB7.out
            have l0 := HW0.out.lt; have l3 := HW3.out.lt; have l4 := HW4.out.lt; have l7 := HW7.out.lt
            have s := hX0.size; have s0 := HX0.out.size; have s1 := HX1.out.size; have s2 := HX2.out.size; have r := HR2.out.lt
            omega))
          have HRf := Lib.hid (HRm.out.setRow #[.slice (some ⟨b0, 0, none⟩) 16 16, .slice (some ⟨b3, 0, none⟩) G G, .slice (some ⟨b4, 0, none⟩) 64 64, .slice (some ⟨b7, 0, none⟩) I I])
          refine hK.out _ _ ⟨hHeld.1.setRow (Nat.le_succ _) _, hHeld.2.setRow_other _ (by omega)⟩ (fun hHeld => ?_)
          clear hK
          refine takeD (i := 10) (v := ?_) rfl rfl (by kernel_rfl) (by kernel_rfl) (by kernel_rfl) (fun _ _ _ h => h) (Or.inl ⟨by rfl, ?_⟩) hHeld ?_
          rotate_left
          · (intro v hv; (obtain ⟨hv0, hv1⟩ := hv; have c1 := (hv1.cell? 1).trans rfl; have c2 := (hv1.cell? 2).trans rfl); go_simp; try (with_reducible rfl))
          (try simp only [List.setIfInBounds_toArray, List.set_cons_zero, List.set_cons_succ])
          refine wpAnyH_done (by kernel_rfl) ?_ _
          have HH := Lib.hid hHeld
          clear hHeld
          go_wp2
          refine post_meta rfl (by rfl) (by rfl) HRf.out rfl ?_
          exact ⟨b0, b3, b4, b7, (by rfl), HFIN.out, HH.out.1⟩
        exact AllReadyH.nil
      exact AllReadyH.nil
    exact AllReadyH.nil
  refine AllReadyH.cons rfl (fun K hK => ?_) ?_
  · have hmk := run_make_ints (P := Try.prog) v0 26 5 .u8 1 Try.underlying26 infoBC .i64 .i64 64 64 rfl (by decide) (by decide)
    have hrow := Row.new v0 5 (ints .u8 (List.replicate 64 0))
    have hXX := (Ext.refl v0).alloc (.cells ((ints .u8 (List.replicate 64 0))).toArray 5)
    have HX0 := Lib.hid hXX
    have HW4 := Lib.hid hrow
    obtain ⟨b4, hb⟩ : ∃ q, q = v0.heap.size := ⟨_, rfl⟩
    have HB4 := Lib.hid hb
    rw [← hb] at hmk HW4
    clear hrow hXX hb
    generalize v0.alloc (.cells ((ints .u8 (List.replicate 64 0))).toArray 5) = v1 at *
    go_simp
    refine hK.out _ _ ⟨hHeld.1.trans HX0.out, hHeld.2.ext HX0.out⟩ (fun hHeld => ?_)
    clear hK hmk
    refine wpAnyH_ready (rs := [0, 3, 7]) (by kernel_rfl) (by simp) ?_
    refine AllReadyH.cons rfl (fun K hK => ?_) ?_
    · have hmk0 := run_make_s v1 2 24 45 [.int .u16 0, .int .i64 0] 16 rfl (by decide) Try.underlying24 infoRC 16 (by decide) (by decide)
      rw [flat_repR] at hmk0
      have hmk : (Instr.makeSlice 24 (.int .i64 16) (.int .i64 16)).run Try.prog v1 = .ok (.slice (some ⟨v1.heap.size, 0, none⟩) 16 16) (v1.alloc (.cells (rowsC (List.replicate 16 (0, 0))).toArray 45)) := hmk0
      clear hmk0
      have hrow := Row.new v1 45 (rowsC (List.replicate 16 (0, 0)))
      have hXX := (Ext.refl v1).alloc (.cells ((rowsC (List.replicate 16 (0, 0)))).toArray 45)
      have HX1 := Lib.hid hXX
      have HW0 := Lib.hid hrow
      obtain ⟨b0, hb⟩ : ∃ q, q = v1.heap.size := ⟨_, rfl⟩
      have HB0 := Lib.hid hb
      rw [← hb] at hmk HW0
      clear hrow hXX hb
      generalize v1.alloc (.cells ((rowsC (List.replicate 16 (0, 0)))).toArray 45) = v2 at *
      go_simp
      refine hK.out _ _ ⟨hHeld.1.trans HX1.out, hHeld.2.ext HX1.out⟩ (fun hHeld => ?_)
      clear hK hmk
      refine wpAnyH_ready (rs := [3, 7]) (by kernel_rfl) (by simp) ?_
      refine AllReadyH.cons rfl (fun K hK => ?_) ?_
      · have hmk := run_make_ints (P := Try.prog) v2 25 3 .i64 8 Try.underlying25 info64I .i64 .i64 G G rfl (by omega) (by omega)
        have hrow := Row.new v2 3 (ints .i64 (List.replicate G 0))
        have hXX := (Ext.refl v2).alloc (.cells ((ints .i64 (List.replicate G 0))).toArray 3)
        have HX2 := Lib.hid hXX
        have HW3 := Lib.hid hrow
        obtain ⟨b3, hb⟩ : ∃ q, q = v2.heap.size := ⟨_, rfl⟩
        have HB3 := Lib.hid hb
        rw [← hb] at hmk HW3
        clear hrow hXX hb
        generalize v2.alloc (.cells ((ints .i64 (List.replicate G 0))).toArray 3) = v3 at *
        go_simp
        refine hK.out _ _ ⟨hHeld.1.trans HX2.out, hHeld.2.ext HX2.out⟩ (fun hHeld => ?_)
        clear hK hmk
        refine wpAnyH_ready (rs := [7]) (by kernel_rfl) (by simp) ?_
        refine AllReadyH.cons rfl (fun K hK => ?_) ?_
        · have hmk := run_make_s v3 14 27 48 (inoC Ino.zero) 104 (inoC_len _) (by decide) Try.underlying27 infoNC I (by omega) (by omega)
          rw [flat_repI] at hmk
          have hrow := Row.new v3 48 (flat inoC (List.replicate I Ino.zero))
          have hXX := (Ext.refl v3).alloc (.cells ((flat inoC (List.replicate I Ino.zero))).toArray 48)
          have HX3 := Lib.hid hXX
          have HW7 := Lib.hid hrow
          obtain ⟨b7, hb⟩ : ∃ q, q = v3.heap.size := ⟨_, rfl⟩
          have HB7 := Lib.hid hb
          rw [← hb] at hmk HW7
          clear hrow hXX hb
          generalize v3.alloc (.cells ((flat inoC (List.replicate I Ino.zero))).toArray 48) = v4 at *
          go_simp
          refine hK.out _ _ ⟨hHeld.1.trans HX3.out, hHeld.2.ext HX3.out⟩ (fun hHeld => ?_)
          clear hK hmk
          have HRm := Lib.hid (((((HR2.out.ext hX0).ext HX0.out).ext HX1.out).ext HX2.out).ext HX3.out)
          have HRR := Lib.hid (And.intro ((HW0.out.ext HX2.out).ext HX3.out) (And.intro (HW3.out.ext HX3.out) (And.intro (((HW4.out.ext HX1.out).ext HX2.out).ext HX3.out) HW7.out)))
          have HNE := Lib.hid (show b0 ≠ w.heap.size + 1 ∧ b3 ≠ w.heap.size + 1 ∧ b4 ≠ w.heap.size + 1 ∧ b7 ≠ w.heap.size + 1 from by
            have := HB0.out; have := HB3.out; have := HB4.out; have := HB7.out; have := HR2.out.lt; have := hX0.size; have := HX0.out.size; have := HX1.out.size; have := HX2.out.size
            omega)
          refine takeD (i := 8) (v := ?_) rfl rfl (by kernel_rfl) (by kernel_rfl) (by kernel_rfl) (fun _ _ _ h => h) (Or.inl ⟨by rfl, ?_⟩) hHeld ?_
          rotate_left
          · (intro v hv; (obtain ⟨hv0, hv1⟩ := hv; have c1 := (hv1.cell? 1).trans rfl; have c2 := (hv1.cell? 2).trans rfl); go_simp; try (with_reducible rfl))
          (try simp only [List.setIfInBounds_toArray, List.set_cons_zero, List.set_cons_succ])
          refine wpAnyH_ready (rs := [9]) (by kernel_rfl) (by simp) ?_
          refine AllReadyH.cons rfl (fun K hK => ?_) AllReadyH.nil
          rw [if_pos (by rfl)]
          refine store_rowN _ _ _ rfl rfl (w.heap.size + 1) #[.slice (some ⟨b0, 0, none⟩) 16 16, .slice (some ⟨b3, 0, none⟩) G G, .slice (some ⟨b4, 0, none⟩) 64 64, .slice (some ⟨b7, 0, none⟩) I I] rfl rfl 29 _ HRm.out infoMeta rfl (by simp [Value.oneCell']) ?_
          have HFIN := Lib.hid (NewAt.mk (lo := w.heap.size) (HRR.out.1.setRow_other #[.slice (some ⟨b0, 0, none⟩) 16 16, .slice (some ⟨b3, 0, none⟩) G G, .slice (some ⟨b4, 0, none⟩) 64 64, .slice (some ⟨b7, 0, none⟩) I I] HNE.out.1) (HRR.out.2.1.setRow_other _ HNE.out.2.1) (HRR.out.2.2.1.setRow_other _ HNE.out.2.2.1) (HRR.out.2.2.2.setRow_other _ HNE.out.2.2.2) (by
            have h0 := HB0.out; have h3 := HB3.out; have h4 := HB4.out; have h7 := HB7.out
            have l0 := HW0.out.lt; have l3 := HW3.out.lt; have l4 := HW4.out.lt; have l7 := HW7.out.lt
            have s := hX0.size; have s0 := HX0.out.size; have s1 := HX1.out.size; have s2 := HX2.out.size; have r := HR2.out.lt
            omega))
          have HRf := Lib.hid (HRm.out.setRow #[.slice (some ⟨b0, 0, none⟩) 16 16, .slice (some ⟨b3, 0, none⟩) G G, .slice (some ⟨b4, 0, none⟩) 64 64, .slice (some ⟨b7, 0, none⟩) I I])
          refine hK.out _ _ ⟨hHeld.1.setRow (Nat.le_succ _) _, hHeld.2.setRow_other _ (by omega)⟩ (fun hHeld => ?_)
          clear hK
          refine takeD (i := 10) (v := ?_) rfl rfl (by kernel_rfl) (by kernel_rfl) (by kernel_rfl) (fun _ _ _ h => h) (Or.inl ⟨by rfl, ?_⟩) hHeld ?_
          rotate_left
          · (intro v hv; (obtain ⟨hv0, hv1⟩ := hv; have c1 := (hv1.cell? 1).trans rfl; have c2 := (hv1.cell? 2).trans rfl); go_simp; try (with_reducible rfl))
          (try simp only [List.setIfInBounds_toArray, List.set_cons_zero, List.set_cons_succ])
          refine wpAnyH_done (by kernel_rfl) ?_ _
          have HH := Lib.hid hHeld
          clear hHeld
          go_wp2
          refine post_meta rfl (by rfl) (by rfl) HRf.out rfl ?_
          exact ⟨b0, b3, b4, b7, (by rfl), HFIN.out, HH.out.1⟩
        exact AllReadyH.nil
      refine AllReadyH.cons rfl (fun K hK => ?_) ?_
      · have hmk := run_make_s v2 14 27 48 (inoC Ino.zero) 104 (inoC_len _) (by decide) Try.underlying27 infoNC I (by omega) (by omega)
        rw [flat_repI] at hmk
        have hrow := Row.new v2 48 (flat inoC (List.replicate I Ino.zero))
        have hXX := (Ext.refl v2).alloc (.cells ((flat inoC (List.replicate I Ino.zero))).toArray 48)
        have HX2 := Lib.hid hXX
        have HW7 := Lib.hid hrow
        obtain ⟨b7, hb⟩ : ∃ q, q = v2.heap.size := ⟨_, rfl⟩
        have HB7 := Lib.hid hb
        rw [← hb] at hmk HW7
        clear hrow hXX hb
        generalize v2.alloc (.cells ((flat inoC (List.replicate I Ino.zero))).toArray 48) = v3 at *
        go_simp
        refine hK.out _ _ ⟨hHeld.1.trans HX2.out, hHeld.2.ext HX2.out⟩ (fun hHeld => ?_)
        clear hK hmk
        refine wpAnyH_ready (rs := [3]) (by kernel_rfl) (by simp) ?_
        refine AllReadyH.cons rfl (fun K hK => ?_) ?_
        · have hmk := run_make_ints (P := Try.prog) v3 25 3 .i64 8 Try.underlying25 info64I .i64 .i64 G G rfl (by omega) (by omega)
          have hrow := Row.new v3 3 (ints .i64 (List.replicate G 0))
          have hXX := (Ext.refl v3).alloc (.cells ((ints .i64 (List.replicate G 0))).toArray 3)
          have HX3 := Lib.hid hXX
          have HW3 := Lib.hid hrow
          obtain ⟨b3, hb⟩ : ∃ q, q = v3.heap.size := ⟨_, rfl⟩
          have HB3 := Lib.hid hb
          rw [← hb] at hmk HW3
          clear hrow hXX hb
          generalize v3.alloc (.cells ((ints .i64 (List.replicate G 0))).toArray 3) = v4 at *
          go_simp
          refine hK.out _ _ ⟨hHeld.1.trans HX3.out, hHeld.2.ext HX3.out⟩ (fun hHeld => ?_)
          clear hK hmk
          have HRm := Lib.hid (((((HR2.out.ext hX0).ext HX0.out).ext HX1.out).ext HX2.out).ext HX3.out)
          have HRR := Lib.hid (And.intro ((HW0.out.ext HX2.out).ext HX3.out) (And.intro HW3.out (And.intro (((HW4.out.ext HX1.out).ext HX2.out).ext HX3.out) (HW7.out.ext HX3.out))))
          have HNE := Lib.hid (show b0 ≠ w.heap.size + 1 ∧ b3 ≠ w.heap.size + 1 ∧ b4 ≠ w.heap.size + 1 ∧ b7 ≠ w.heap.size + 1 from by
            have := HB0.out; have := HB3.out; have := HB4.out; have := HB7.out; have := HR2.out.lt; have := hX0.size; have := HX0.out.size; have := HX1.out.size; have := HX2.out.size
            omega)
          refine takeD (i := 8) (v := ?_) rfl rfl (by kernel_rfl) (by kernel_rfl) (by kernel_rfl) (fun _ _ _ h => h) (Or.inl ⟨by rfl, ?_⟩) hHeld ?_
          rotate_left
          · (intro v hv; (obtain ⟨hv0, hv1⟩ := hv; have c1 := (hv1.cell? 1).trans rfl; have c2 := (hv1.cell? 2).trans rfl); go_simp; try (with_reducible rfl))
          (try simp only [List.setIfInBounds_toArray, List.set_cons_zero, List.set_cons_succ])
          refine wpAnyH_ready (rs := [9]) (by kernel_rfl) (by simp) ?_
          refine AllReadyH.cons rfl (fun K hK => ?_) AllReadyH.nil
          rw [if_pos (by rfl)]
          refine store_rowN _ _ _ rfl rfl (w.heap.size + 1) #[.slice (some ⟨b0, 0, none⟩) 16 16, .slice (some ⟨b3, 0, none⟩) G G, .slice (some ⟨b4, 0, none⟩) 64 64, .slice (some ⟨b7, 0, none⟩) I I] rfl rfl 29 _ HRm.out infoMeta rfl (by simp [Value.oneCell']) ?_
          have HFIN := Lib.hid (NewAt.mk (lo := w.heap.size) (HRR.out.1.setRow_other #[.slice (some ⟨b0, 0, none⟩) 16 16, .slice (some ⟨b3, 0, none⟩) G G, .slice (some ⟨b4, 0, none⟩) 64 64, .slice (some ⟨b7, 0, none⟩) I I] HNE.out.1) (HRR.out.2.1.setRow_other _ HNE.out.2.1) (HRR.out.2.2.1.setRow_other _ HNE.out.2.2.1) (HRR.out.2.2.2.setRow_other _ HNE.out.2.2.2) (by
            have h0 := HB0.out; have h3 := HB3.out; have h4 := HB4.out; have h7 := HB7.out
            have l0 := HW0.out.lt; have l3 := HW3.out.lt; have l4 := HW4.out.lt; have l7 := HW7.out.lt
            have s := hX0.size; have s0 := HX0.out.size; have s1 := HX1.out.size; have s2 := HX2.out.size; have r := HR2.out.lt
            omega))
          have HRf := Lib.hid (HRm.out.setRow #[.slice (some ⟨b0, 0, none⟩) 16 16, .slice (some ⟨b3, 0, none⟩) G G, .slice (some ⟨b4, 0, none⟩) 64 64, .slice (some ⟨b7, 0, none⟩) I I])
          refine hK.out _ _ ⟨hHeld.1.setRow (Nat.le_succ _) _, hHeld.2.setRow_other _ (by omega)⟩ (fun hHeld => ?_)
          clear hK
          refine takeD (i := 10) (v := ?_) rfl rfl (by kernel_rfl) (by kernel_rfl) (by kernel_rfl) (fun _ _ _ h => h) (Or.inl ⟨by rfl, ?_⟩) hHeld ?_
          rotate_left
          · (intro v hv; (obtain ⟨hv0, hv1⟩ := hv; have c1 := (hv1.cell? 1).trans rfl; have c2 := (hv1.cell? 2).trans rfl); go_simp; try (with_reducible rfl))
          (try simp only [List.setIfInBounds_toArray, List.set_cons_zero, List.set_cons_succ])
          refine wpAnyH_done (by kernel_rfl) ?_ _
          have HH := Lib.hid hHeld
          clear hHeld
          go_wp2
          refine post_meta rfl (by rfl) (by rfl) HRf.out rfl ?_
          exact ⟨b0, b3, b4, b7, (by rfl), HFIN.out, HH.out.1⟩
        exact AllReadyH.nil
      exact AllReadyH.nil
    refine AllReadyH.cons rfl (fun K hK => ?_) ?_
    · have hmk := run_make_ints (P := Try.prog) v1 25 3 .i64 8 Try.underlying25 info64I .i64 .i64 G G rfl (by omega) (by omega)
      have hrow := Row.new v1 3 (ints .i64 (List.replicate G 0))
      have hXX := (Ext.refl v1).alloc (.cells ((ints .i64 (List.replicate G 0))).toArray 3)
      have HX1 := Lib.hid hXX
      have HW3 := Lib.hid hrow
      obtain ⟨b3, hb⟩ : ∃ q, q = v1.heap.size := ⟨_, rfl⟩
      have HB3 := Lib.hid hb
      rw [← hb] at hmk HW3
      clear hrow hXX hb
      generalize v1.alloc (.cells ((ints .i64 (List.replicate G 0))).toArray 3) = v2 at *
      go_simp
      refine hK.out _ _ ⟨hHeld.1.trans HX1.out, hHeld.2.ext HX1.out⟩ (fun hHeld => ?_)
      clear hK hmk
      refine wpAnyH_ready (rs := [0, 7]) (by kernel_rfl) (by simp) ?_
      refine AllReadyH.cons rfl (fun K hK => ?_) ?_
      · have hmk0 := run_make_s v2 2 24 45 [.int .u16 0, .int .i64 0] 16 rfl (by decide) Try.underlying24 infoRC 16 (by decide) (by decide)
        rw [flat_repR] at hmk0
        have hmk : (Instr.makeSlice 24 (.int .i64 16) (.int .i64 16)).run Try.prog v2 = .ok (.slice (some ⟨v2.heap.size, 0, none⟩) 16 16) (v2.alloc (.cells (rowsC (List.replicate 16 (0, 0))).toArray 45)) := hmk0
        clear hmk0
        have hrow := Row.new v2 45 (rowsC (List.replicate 16 (0, 0)))
        have hXX := (Ext.refl v2).alloc (.cells ((rowsC (List.replicate 16 (0, 0)))).toArray 45)
        have HX2 := Lib.hid hXX
        have HW0 := Lib.hid hrow
        obtain ⟨b0, hb⟩ : ∃ q, q = v2.heap.size := ⟨_, rfl⟩
        have HB0 := Lib.hid hb
        rw [← hb] at hmk HW0
        clear hrow hXX hb
        generalize v2.alloc (.cells ((rowsC (List.replicate 16 (0, 0)))).toArray 45) = v3 at *
        go_simp
        refine hK.out _ _ ⟨hHeld.1.trans HX2.out, hHeld.2.ext HX2.out⟩ (fun hHeld => ?_)
        clear hK hmk
        refine wpAnyH_ready (rs := [7]) (by kernel_rfl) (by simp) ?_
        refine AllReadyH.cons rfl (fun K hK => ?_) ?_
        · have hmk := run_make_s v3 14 27 48 (inoC Ino.zero) 104 (inoC_len _) (by decide) Try.underlying27 infoNC I (by omega) (by omega)
          rw [flat_repI] at hmk
          have hrow := Row.new v3 48 (flat inoC (List.replicate I Ino.zero))
          have hXX := (Ext.refl v3).alloc (.cells ((flat inoC (List.replicate I Ino.zero))).toArray 48)
          have HX3 := Lib.hid hXX
          have HW7 := Lib.hid hrow
          obtain ⟨b7, hb⟩ : ∃ q, q = v3.heap.size := ⟨_, rfl⟩
          have HB7 := Lib.hid hb
          rw [← hb] at hmk HW7
          clear hrow hXX hb
          generalize v3.alloc (.cells ((flat inoC (List.replicate I Ino.zero))).toArray 48) = v4 at *
          go_simp
          refine hK.out _ _ ⟨hHeld.1.trans HX3.out, hHeld.2.ext HX3.out⟩ (fun hHeld => ?_)
          clear hK hmk
          have HRm := Lib.hid (((((HR2.out.ext hX0).ext HX0.out).ext HX1.out).ext HX2.out).ext HX3.out)
          have HRR := Lib.hid (And.intro (HW0.out.ext HX3.out) (And.intro ((HW3.out.ext HX2.out).ext HX3.out) (And.intro (((HW4.out.ext HX1.out).ext HX2.out).ext HX3.out) HW7.out)))
          have HNE := Lib.hid (show b0 ≠ w.heap.size + 1 ∧ b3 ≠ w.heap.size + 1 ∧ b4 ≠ w.heap.size + 1 ∧ b7 ≠ w.heap.size + 1 from by
            have := HB0.out; have := HB3.out; have := HB4.out; have := HB7.out; have := HR2.out.lt; have := hX0.size; have := HX0.out.size; have := HX1.out.size; have := HX2.out.size
            omega)
          refine takeD (i := 8) (v := ?_) rfl rfl (by kernel_rfl) (by kernel_rfl) (by kernel_rfl) (fun _ _ _ h => h) (Or.inl ⟨by rfl, ?_⟩) hHeld ?_
          rotate_left
          · (intro v hv; (obtain ⟨hv0, hv1⟩ := hv; have c1 := (hv1.cell? 1).trans rfl; have c2 := (hv1.cell? 2).trans rfl); go_simp; try (with_reducible rfl))
          (try simp only [List.setIfInBounds_toArray, List.set_cons_zero, List.set_cons_succ])
          refine wpAnyH_ready (rs := [9]) (by kernel_rfl) (by simp) ?_
          refine AllReadyH.cons rfl (fun K hK => ?_) AllReadyH.nil
          rw [if_pos (by rfl)]
          refine store_rowN _ _ _ rfl rfl (w.heap.size + 1) #[.slice (some ⟨b0, 0, none⟩) 16 16, .slice (some ⟨b3, 0, none⟩) G G, .slice (some ⟨b4, 0, none⟩) 64 64, .slice (some ⟨b7, 0, none⟩) I I] rfl rfl 29 _ HRm.out infoMeta rfl (by simp [Value.oneCell']) ?_
          have HFIN := Lib.hid (NewAt.mk (lo := w.heap.size) (HRR.out.1.setRow_other #[.slice (some ⟨b0, 0, none⟩) 16 16, .slice (some ⟨b3, 0, none⟩) G G, .slice (some ⟨b4, 0, none⟩) 64 64, .slice (some ⟨b7, 0, none⟩) I I] HNE.out.1) (HRR.out.2.1.setRow_other _ HNE.out.2.1) (HRR.out.2.2.1.setRow_other _ HNE.out.2.2.1) (HRR.out.2.2.2.setRow_other _ HNE.out.2.2.2) (by
            have h0 := HB0.out; have h3 := HB3.out; have h4 := HB4.out; have h7 := HB7.out
            have l0 := HW0.out.lt; have l3 := HW3.out.lt; have l4 := HW4.out.lt; have l7 := HW7.out.lt
            have s := hX0.size; have s0 := HX0.out.size; have s1 := HX1.out.size; have s2 := HX2.out.size; have r := HR2.out.lt
            omega))
          have HRf := Lib.hid (HRm.out.setRow #[.slice (some ⟨b0, 0, none⟩) 16 16, .slice (some ⟨b3, 0, none⟩) G G, .slice (some ⟨b4, 0, none⟩) 64 64, .slice (some ⟨b7, 0, none⟩) I I])
          refine hK.out _ _ ⟨hHeld.1.setRow (Nat.le_succ _) _, hHeld.2.setRow_other _ (by omega)⟩ (fun hHeld => ?_)
          clear hK
          refine takeD (i := 10) (v := ?_) rfl rfl (by kernel_rfl) (by kernel_rfl) (by kernel_rfl) (fun _ _ _ h => h) (Or.inl ⟨by rfl, ?_⟩) hHeld ?_
          rotate_left
          · (intro v hv; (obtain ⟨hv0, hv1⟩ := hv; have c1 := (hv1.cell? 1).trans rfl; have c2 := (hv1.cell? 2).trans rfl); go_simp; try (with_reducible rfl))
          (try simp only [List.setIfInBounds_toArray, List.set_cons_zero, List.set_cons_succ])
          refine wpAnyH_done (by kernel_rfl) ?_ _
          have HH := Lib.hid hHeld
          clear hHeld
          go_wp2
          refine post_meta rfl (by rfl) (by rfl) HRf.out rfl ?_
          exact ⟨b0, b3, b4, b7, (by rfl), HFIN.out, HH.out.1⟩
        exact AllReadyH.nil
      refine AllReadyH.cons rfl (fun K hK => ?_) ?_
      · have hmk := run_make_s v2 14 27 48 (inoC Ino.zero) 104 (inoC_len _) (by decide) Try.underlying27 infoNC I (by omega) (by omega)
        rw [flat_repI] at hmk
        have hrow := Row.new v2 48 (flat inoC (List.replicate I Ino.zero))
        have hXX := (Ext.refl v2).alloc (.cells ((flat inoC (List.replicate I Ino.zero))).toArray 48)
        have HX2 := Lib.hid hXX
        have HW7 := Lib.hid hrow
        obtain ⟨b7, hb⟩ : ∃ q, q = v2.heap.size := ⟨_, rfl⟩
        have HB7 := Lib.hid hb
        rw [← hb] at hmk HW7
        clear hrow hXX hb
        generalize v2.alloc (.cells ((flat inoC (List.replicate I Ino.zero))).toArray 48) = v3 at *
        go_simp
        refine hK.out _ _ ⟨hHeld.1.trans HX2.out, hHeld.2.ext HX2.out⟩ (fun hHeld => ?_)
        clear hK hmk
        refine wpAnyH_ready (rs := [0]) (by kernel_rfl) (by simp) ?_
        refine AllReadyH.cons rfl (fun K hK => ?_) ?_
        · have hmk0 := run_make_s v3 2 24 45 [.int .u16 0, .int .i64 0] 16 rfl (by decide) Try.underlying24 infoRC 16 (by decide) (by decide)
          rw [flat_repR] at hmk0
          have hmk : (Instr.makeSlice 24 (.int .i64 16) (.int .i64 16)).run Try.prog v3 = .ok (.slice (some ⟨v3.heap.size, 0, none⟩) 16 16) (v3.alloc (.cells (rowsC (List.replicate 16 (0, 0))).toArray 45)) := hmk0
          clear hmk0
          have hrow := Row.new v3 45 (rowsC (List.replicate 16 (0, 0)))
          have hXX := (Ext.refl v3).alloc (.cells ((rowsC (List.replicate 16 (0, 0)))).toArray 45)
          have HX3 := Lib.hid hXX
          have HW0 := Lib.hid hrow
          obtain ⟨b0, hb⟩ : ∃ q, q = v3.heap.size := ⟨_, rfl⟩
          have HB0 := Lib.hid hb
          rw [← hb] at hmk HW0
          clear hrow hXX hb
          generalize v3.alloc (.cells ((rowsC (List.replicate 16 (0, 0)))).toArray 45) = v4 at *
          go_simp
          refine hK.out _ _ ⟨hHeld.1.trans HX3.out, hHeld.2.ext HX3.out⟩ (fun hHeld => ?_)
          clear hK hmk
          have HRm := Lib.hid (((((HR2.out.ext hX0).ext HX0.out).ext HX1.out).ext HX2.out).ext HX3.out)
          have HRR := Lib.hid (And.intro HW0.out (And.intro ((HW3.out.ext HX2.out).ext HX3.out) (And.intro (((HW4.out.ext HX1.out).ext HX2.out).ext HX3.out) (HW7.out.ext HX3.out))))
          have HNE := Lib.hid (show b0 ≠ w.heap.size + 1 ∧ b3 ≠ w.heap.size + 1 ∧ b4 ≠ w.heap.size + 1 ∧ b7 ≠ w.heap.size + 1 from by
            have := HB0.out; have := HB3.out; have := HB4.out; have := HB7.out; have := HR2.out.lt; have := hX0.size; have := HX0.out.size; have := HX1.out.size; have := HX2.out.size
            omega)
          refine takeD (i := 8) (v := ?_) rfl rfl (by kernel_rfl) (by kernel_rfl) (by kernel_rfl) (fun _ _ _ h => h) (Or.inl ⟨by rfl, ?_⟩) hHeld ?_
          rotate_left
          · (intro v hv; (obtain ⟨hv0, hv1⟩ := hv; have c1 := (hv1.cell? 1).trans rfl; have c2 := (hv1.cell? 2).trans rfl); go_simp; try (with_reducible rfl))
          (try simp only [List.setIfInBounds_toArray, List.set_cons_zero, List.set_cons_succ])
          refine wpAnyH_ready (rs := [9]) (by kernel_rfl) (by simp) ?_
          refine AllReadyH.cons rfl (fun K hK => ?_) AllReadyH.nil
          rw [if_pos (by rfl)]
          refine store_rowN _ _ _ rfl rfl (w.heap.size + 1) #[.slice (some ⟨b0, 0, none⟩) 16 16, .slice (some ⟨b3, 0, none⟩) G G, .slice (some ⟨b4, 0, none⟩) 64 64, .slice (some ⟨b7, 0, none⟩) I I] rfl rfl 29 _ HRm.out infoMeta rfl (by simp [Value.oneCell']) ?_
          have HFIN := Lib.hid (NewAt.mk (lo := w.heap.size) (HRR.out.1.setRow_other #[.slice (some ⟨b0, 0, none⟩) 16 16, .slice (some ⟨b3, 0, none⟩) G G, .slice (some ⟨b4, 0, none⟩) 64 64, .slice (some ⟨b7, 0, none⟩) I I] HNE.out.1) (HRR.out.2.1.setRow_other _ HNE.out.2.1) (HRR.out.2.2.1.setRow_other _ HNE.out.2.2.1) (HRR.out.2.2.2.setRow_other _ HNE.out.2.2.2) (by
            have h0 := HB0.out; have h3 := HB3.out; have h4 := HB4.out; have h7 := HB7.out
            have l0 := HW0.out.lt; have l3 := HW3.out.lt; have l4 := HW4.out.lt; have l7 := HW7.out.lt
            have s := hX0.size; have s0 := HX0.out.size; have s1 := HX1.out.size; have s2 := HX2.out.size; have r := HR2.out.lt
            omega))
          have HRf := Lib.hid (HRm.out.setRow #[.slice (some ⟨b0, 0, none⟩) 16 16, .slice (some ⟨b3, 0, none⟩) G G, .slice (some ⟨b4, 0, none⟩) 64 64, .slice (some ⟨b7, 0, none⟩) I I])
          refine hK.out _ _ ⟨hHeld.1.setRow (Nat.le_succ _) _, hHeld.2.setRow_other _ (by omega)⟩ (fun hHeld => ?_)
          clear hK
          refine takeD (i := 10) (v := ?_) rfl rfl (by kernel_rfl) (by kernel_rfl) (by kernel_rfl) (fun _ _ _ h => h) (Or.inl ⟨by rfl, ?_⟩) hHeld ?_
          rotate_left
          · (intro v hv; (obtain ⟨hv0, hv1⟩ := hv; have c1 := (hv1.cell? 1).trans rfl; have c2 := (hv1.cell? 2).trans rfl); go_simp; try (with_reducible rfl))
          (try simp only [List.setIfInBounds_toArray, List.set_cons_zero, List.set_cons_succ])
          refine wpAnyH_done (by kernel_rfl) ?_ _
          have HH := Lib.hid hHeld
          clear hHeld
          go_wp2
          refine post_meta rfl (by rfl) (by rfl) HRf.out rfl ?_
          exact ⟨b0, b3, b4, b7, (by rfl), HFIN.out, HH.out.1⟩
        exact AllReadyH.nil
      exact AllReadyH.nil
    refine AllReadyH.cons rfl (fun K hK => ?_) ?_
    · have hmk := run_make_s v1 14 27 48 (inoC Ino.zero) 104 (inoC_len _) (by decide) Try.underlying27 infoNC I (by omega) (by omega)
      rw [flat_repI] at hmk
      have hrow := Row.new v1 48 (flat inoC (List.replicate I Ino.zero))
      have hXX := (Ext.refl v1).alloc (.cells ((flat inoC (List.replicate I Ino.zero))).toArray 48)
      have HX1 := Lib.hid hXX
      have HW7 := Lib.hid hrow
      obtain ⟨b7, hb⟩ : ∃ q, q = v1.heap.size := ⟨_, rfl⟩
      have HB7 := Lib.hid hb
      rw [← hb] at hmk HW7
      clear hrow hXX hb
      generalize v1.alloc (.cells ((flat inoC (List.replicate I Ino.zero))).toArray 48) = v2 at *
      go_simp
      refine hK.out _ _ ⟨hHeld.1.trans HX1.out, hHeld.2.ext HX1.out⟩ (fun hHeld => ?_)
      clear hK hmk
      refine wpAnyH_ready (rs := [0, 3]) (by kernel_rfl) (by simp) ?_
      refine AllReadyH.cons rfl (fun K hK => ?_) ?_
      · have hmk0 := run_make_s v2 2 24 45 [.int .u16 0, .int .i64 0] 16 rfl (by decide) Try.underlying24 infoRC 16 (by decide) (by decide)
        rw [flat_repR] at hmk0
        have hmk : (Instr.makeSlice 24 (.int .i64 16) (.int .i64 16)).run Try.prog v2 = .ok (.slice (some ⟨v2.heap.size, 0, none⟩) 16 16) (v2.alloc (.cells (rowsC (List.replicate 16 (0, 0))).toArray 45)) := hmk0
        clear hmk0
        have hrow := Row.new v2 45 (rowsC (List.replicate 16 (0, 0)))
        have hXX := (Ext.refl v2).alloc (.cells ((rowsC (List.replicate 16 (0, 0)))).toArray 45)
        have HX2 := Lib.hid hXX
        have HW0 := Lib.hid hrow
        obtain ⟨b0, hb⟩ : ∃ q, q = v2.heap.size := ⟨_, rfl⟩
        have HB0 := Lib.hid hb
        rw [← hb] at hmk HW0
        clear hrow hXX hb
        generalize v2.alloc (.cells ((rowsC (List.replicate 16 (0, 0)))).toArray 45) = v3 at *
        go_simp
        refine hK.out _ _ ⟨hHeld.1.trans HX2.out, hHeld.2.ext HX2.out⟩ (fun hHeld => ?_)
        clear hK hmk
        refine wpAnyH_ready (rs := [3]) (by kernel_rfl) (by simp) ?_
        refine AllReadyH.cons rfl (fun K hK => ?_) ?_
        · have hmk := run_make_ints (P := Try.prog) v3 25 3 .i64 8 Try.underlying25 info64I .i64 .i64 G G rfl (by omega) (by omega)
          have hrow := Row.new v3 3 (ints .i64 (List.replicate G 0))
          have hXX := (Ext.refl v3).alloc (.cells ((ints .i64 (List.replicate G 0))).toArray 3)
          have HX3 := Lib.hid hXX
          have HW3 := Lib.hid hrow
          obtain ⟨b3, hb⟩ : ∃ q, q = v3.heap.size := ⟨_, rfl⟩
          have HB3 := Lib.hid hb
          rw [← hb] at hmk HW3
          clear hrow hXX hb
          generalize v3.alloc (.cells ((ints .i64 (List.replicate G 0))).toArray 3) = v4 at *
          go_simp
          refine hK.out _ _ ⟨hHeld.1.trans HX3.out, hHeld.2.ext HX3.out⟩ (fun hHeld => ?_)
          clear hK hmk
          have HRm := Lib.hid (((((HR2.out.ext hX0).ext HX0.out).ext HX1.out).ext HX2.out).ext HX3.out)
          have HRR := Lib.hid (And.intro (HW0.out.ext HX3.out) (And.intro HW3.out (And.intro (((HW4.out.ext HX1.out).ext HX2.out).ext HX3.out) ((HW7.out.ext HX2.out).ext HX3.out))))
          have HNE := Lib.hid (show b0 ≠ w.heap.size + 1 ∧ b3 ≠ w.heap.size + 1 ∧ b4 ≠ w.heap.size + 1 ∧ b7 ≠ w.heap.size + 1 from by
            have := HB0.out; have := HB3.out; have := HB4.out; have := HB7.out; have := HR2.out.lt; have := hX0.size; have := HX0.out.size; have := HX1.out.size; have := HX2.out.size
            omega)
          refine takeD (i := 8) (v := ?_) rfl rfl (by kernel_rfl) (by kernel_rfl) (by kernel_rfl) (fun _ _ _ h => h) (Or.inl ⟨by rfl, ?_⟩) hHeld ?_
          rotate_left
          · (intro v hv; (obtain ⟨hv0, hv1⟩ := hv; have c1 := (hv1.cell? 1).trans rfl; have c2 := (hv1.cell? 2).trans rfl); go_simp; try (with_reducible rfl))
          (try simp only [List.setIfInBounds_toArray, List.set_cons_zero, List.set_cons_succ])
          refine wpAnyH_ready (rs := [9]) (by kernel_rfl) (by simp) ?_
          refine AllReadyH.cons rfl (fun K hK => ?_) AllReadyH.nil
          rw [if_pos (by rfl)]
          refine store_rowN _ _ _ rfl rfl (w.heap.size + 1) #[.slice (some ⟨b0, 0, none⟩) 16 16, .slice (some ⟨b3, 0, none⟩) G G, .slice (some ⟨b4, 0, none⟩) 64 64, .slice (some ⟨b7, 0, none⟩) I I] rfl rfl 29 _ HRm.out infoMeta rfl (by simp [Value.oneCell']) ?_
          have HFIN := Lib.hid (NewAt.mk (lo := w.heap.size) (HRR.out.1.setRow_other #[.slice (some ⟨b0, 0, none⟩) 16 16, .slice (some ⟨b3, 0, none⟩) G G, .slice (some ⟨b4, 0, none⟩) 64 64, .slice (some ⟨b7, 0, none⟩) I I] HNE.out.1) (HRR.out.2.1.setRow_other _ HNE.out.2.1) (HRR.out.2.2.1.setRow_other _ HNE.out.2.2.1) (HRR.out.2.2.2.setRow_other _ HNE.out.2.2.2) (by
            have h0 := HB0.out; have h3 := HB3.out; have h4 := HB4.out; have h7 := HB7.out
            have l0 := HW0.out.lt; have l3 := HW3.out.lt; have l4 := HW4.out.lt; have l7 := HW7.out.lt
            have s := hX0.size; have s0 := HX0.out.size; have s1 := HX1.out.size; have s2 := HX2.out.size; have r := HR2.out.lt
            omega))
          have HRf := Lib.hid (HRm.out.setRow #[.slice (some ⟨b0, 0, none⟩) 16 16, .slice (some ⟨b3, 0, none⟩) G G, .slice (some ⟨b4, 0, none⟩) 64 64, .slice (some ⟨b7, 0, none⟩) I I])
          refine hK.out _ _ ⟨hHeld.1.setRow (Nat.le_succ _) _, hHeld.2.setRow_other _ (by omega)⟩ (fun hHeld => ?_)
          clear hK
          refine takeD (i := 10) (v := ?_) rfl rfl (by kernel_rfl) (by kernel_rfl) (by kernel_rfl) (fun _ _ _ h => h) (Or.inl ⟨by rfl, ?_⟩) hHeld ?_
          rotate_left
          · (intro v hv; (obtain ⟨hv0, hv1⟩ := hv; have c1 := (hv1.cell? 1).trans rfl; have c2 := (hv1.cell? 2).trans rfl); go_simp; try (with_reducible rfl))
          (try simp only [List.setIfInBounds_toArray, List.set_cons_zero, List.set_cons_succ])
          refine wpAnyH_done (by kernel_rfl) ?_ _
          have HH := Lib.hid hHeld
          clear hHeld
          go_wp2
          refine post_meta rfl (by rfl) (by rfl) HRf.out rfl ?_
          exact ⟨b0, b3, b4, b7, (by rfl), HFIN.out, HH.out.1⟩
        exact AllReadyH.nil
      refine AllReadyH.cons rfl (fun K hK => ?_) ?_
      · have hmk := run_make_ints (P := Try.prog) v2 25 3 .i64 8 Try.underlying25 info64I .i64 .i64 G G rfl (by omega) (by omega)
        have hrow := Row.new v2 3 (ints .i64 (List.replicate G 0))
        have hXX := (Ext.refl v2).alloc (.cells ((ints .i64 (List.replicate G 0))).toArray 3)
        have HX2 := Lib.hid hXX
        have HW3 := Lib.hid hrow
        obtain ⟨b3, hb⟩ : ∃ q, q = v2.heap.size := ⟨_, rfl⟩
        have HB3 := Lib.hid hb
        rw [← hb] at hmk HW3
        clear hrow hXX hb
        generalize v2.alloc (.cells ((ints .i64 (List.replicate G 0))).toArray 3) = v3 at *
        go_simp
        refine hK.out _ _ ⟨hHeld.1.trans HX2.out, hHeld.2.ext HX2.out⟩ (fun hHeld => ?_)
        clear hK hmk
        refine wpAnyH_ready (rs := [0]) (by kernel_rfl) (by simp) ?_
        refine AllReadyH.cons rfl (fun K hK => ?_) ?_
        · have hmk0 := run_make_s v3 2 24 45 [.int .u16 0, .int .i64 0] 16 rfl (by decide) Try.underlying24 infoRC 16 (by decide) (by decide)
          rw [flat_repR] at hmk0
          have hmk : (Instr.makeSlice 24 (.int .i64 16) (.int .i64 16)).run Try.prog v3 = .ok (.slice (some ⟨v3.heap.size, 0, none⟩) 16 16) (v3.alloc (.cells (rowsC (List.replicate 16 (0, 0))).toArray 45)) := hmk0
          clear hmk0
          have hrow := Row.new v3 45 (rowsC (List.replicate 16 (0, 0)))
          have hXX := (Ext.refl v3).alloc (.cells ((rowsC (List.replicate 16 (0, 0)))).toArray 45)
          have HX3 := Lib.hid hXX
          have HW0 := Lib.hid hrow
          obtain ⟨b0, hb⟩ : ∃ q, q = v3.heap.size := ⟨_, rfl⟩
          have HB0 := Lib.hid hb
          rw [← hb] at hmk HW0
          clear hrow hXX hb
          generalize v3.alloc (.cells ((rowsC (List.replicate 16 (0, 0)))).toArray 45) = v4 at *
          go_simp
          refine hK.out _ _ ⟨hHeld.1.trans HX3.out, hHeld.2.ext HX3.out⟩ (fun hHeld => ?_)
          clear hK hmk
          have HRm := Lib.hid (((((HR2.out.ext hX0).ext HX0.out).ext HX1.out).ext HX2.out).ext HX3.out)
          have HRR := Lib.hid (And.intro HW0.out (And.intro (HW3.out.ext HX3.out) (And.intro (((HW4.out.ext HX1.out).ext HX2.out).ext HX3.out) ((HW7.out.ext HX2.out).ext HX3.out))))
          have HNE := Lib.hid (show b0 ≠ w.heap.size + 1 ∧ b3 ≠ w.heap.size + 1 ∧ b4 ≠ w.heap.size + 1 ∧ b7 ≠ w.heap.size + 1 from by
            have := HB0.out; have := HB3.out; have := HB4.out; have := HB7.out; have := HR2.out.lt; have := hX0.size; have := HX0.out.size; have := HX1.out.size; have := HX2.out.size
            omega)
          refine takeD (i := 8) (v := ?_) rfl rfl (by kernel_rfl) (by kernel_rfl) (by kernel_rfl) (fun _ _ _ h => h) (Or.inl ⟨by rfl, ?_⟩) hHeld ?_
          rotate_left
          · (intro v hv; (obtain ⟨hv0, hv1⟩ := hv; have c1 := (hv1.cell? 1).trans rfl; have c2 := (hv1.cell? 2).trans rfl); go_simp; try (with_reducible rfl))
          (try simp only [List.setIfInBounds_toArray, List.set_cons_zero, List.set_cons_succ])
          refine wpAnyH_ready (rs := [9]) (by kernel_rfl) (by simp) ?_
          refine AllReadyH.cons rfl (fun K hK => ?_) AllReadyH.nil
          rw [if_pos (by rfl)]
          refine store_rowN _ _ _ rfl rfl (w.heap.size + 1) #[.slice (some ⟨b0, 0, none⟩) 16 16, .slice (some ⟨b3, 0, none⟩) G G, .slice (some ⟨b4, 0, none⟩) 64 64, .slice (some ⟨b7, 0, none⟩) I I] rfl rfl 29 _ HRm.out infoMeta rfl (by simp [Value.oneCell']) ?_
          have HFIN := Lib.hid (NewAt.mk (lo := w.heap.size) (HRR.out.1.setRow_other #[.slice (some ⟨b0, 0, none⟩) 16 16, .slice (some ⟨b3, 0, none⟩) G G, .slice (some ⟨b4, 0, none⟩) 64 64, .slice (some ⟨b7, 0, none⟩) I I] HNE.out.1) (HRR.out.2.1.setRow_other _ HNE.out.2.1) (HRR.out.2.2.1.setRow_other _ HNE.out.2.2.1) (HRR.out.2.2.2.setRow_other _ HNE.out.2.2.2) (by
            have h0 := HB0.out; have h3 := HB3.out; have h4 := HB4.out; have h7 := HB7.out
            have l0 := HW0.out.lt; have l3 := HW3.out.lt; have l4 := HW4.out.lt; have l7 := HW7.out.lt
            have s := hX0.size; have s0 := HX0.out.size; have s1 := HX1.out.size; have s2 := HX2.out.size; have r := HR2.out.lt
            omega))
          have HRf := Lib.hid (HRm.out.setRow #[.slice (some ⟨b0, 0, none⟩) 16 16, .slice (some ⟨b3, 0, none⟩) G G, .slice (some ⟨b4, 0, none⟩) 64 64, .slice (some ⟨b7, 0, none⟩) I I])
          refine hK.out _ _ ⟨hHeld.1.setRow (Nat.le_succ _) _, hHeld.2.setRow_other _ (by omega)⟩ (fun hHeld => ?_)
          clear hK
          refine takeD (i := 10) (v := ?_) rfl rfl (by kernel_rfl) (by kernel_rfl) (by kernel_rfl) (fun _ _ _ h => h) (Or.inl ⟨by rfl, ?_⟩) hHeld ?_
          rotate_left
          · (intro v hv; (obtain ⟨hv0, hv1⟩ := hv; have c1 := (hv1.cell? 1).trans rfl; have c2 := (hv1.cell? 2).trans rfl); go_simp; try (with_reducible rfl))
          (try simp only [List.setIfInBounds_toArray, List.set_cons_zero, List.set_cons_succ])
          refine wpAnyH_done (by kernel_rfl) ?_ _
          have HH := Lib.hid hHeld
          clear hHeld
          go_wp2
          refine post_meta rfl (by rfl) (by rfl) HRf.out rfl ?_
          exact ⟨b0, b3, b4, b7, (by rfl), HFIN.out, HH.out.1⟩
        exact AllReadyH.nil
      exact AllReadyH.nil
    exact AllReadyH.nil
  refine AllReadyH.cons rfl (fun K hK => ?_) ?_
  · have hmk := run_make_s v0 14 27 48 (inoC Ino.zero) 104 (inoC_len _) (by decide) Try.underlying27 infoNC I (by omega) (by omega)
    rw [flat_repI] at hmk
    have hrow := Row.new v0 48 (flat inoC (List.replicate I Ino.zero))
    have hXX := (Ext.refl v0).alloc (.cells ((flat inoC (List.replicate I Ino.zero))).toArray 48)
    have HX0 := Lib.hid hXX
    have HW7 := Lib.hid hrow
    obtain ⟨b7, hb⟩ : ∃ q, q = v0.heap.size := ⟨_, rfl⟩
    have HB7 := Lib.hid hb
    rw [← hb] at hmk HW7
    clear hrow hXX hb
    generalize v0.alloc (.cells ((flat inoC (List.replicate I Ino.zero))).toArray 48) = v1 at *
    go_simp
    refine hK.out _ _ ⟨hHeld.1.trans HX0.out, hHeld.2.ext HX0.out⟩ (fun hHeld => ?_)
    clear hK hmk
    refine wpAnyH_ready (rs := [0, 3, 4]) (by kernel_rfl) (by simp) ?_
    refine AllReadyH.cons rfl (fun K hK => ?_) ?_
    · have hmk0 := run_make_s v1 2 24 45 [.int .u16 0, .int .i64 0] 16 rfl (by decide) Try.underlying24 infoRC 16 (by decide) (by decide)
      rw [flat_repR] at hmk0
      have hmk : (Instr.makeSlice 24 (.int .i64 16) (.int .i64 16)).run Try.prog v1 = .ok (.slice (some ⟨v1.heap.size, 0, none⟩) 16 16) (v1.alloc (.cells (rowsC (List.replicate 16 (0, 0))).toArray 45)) := hmk0
      clear hmk0
      have hrow := Row.new v1 45 (rowsC (List.replicate 16 (0, 0)))
      have hXX := (Ext.refl v1).alloc (.cells ((rowsC (List.replicate 16 (0, 0)))).toArray 45)
      have HX1 := Lib.hid hXX
      have HW0 := Lib.hid hrow
      obtain ⟨b0, hb⟩ : ∃ q, q = v1.heap.size := ⟨_, rfl⟩
      have HB0 := Lib.hid hb
      rw [← hb] at hmk HW0
      clear hrow hXX hb
      generalize v1.alloc (.cells ((rowsC (List.replicate 16 (0, 0)))).toArray 45) = v2 at *
      go_simp
      refine hK.out _ _ ⟨hHeld.1.trans HX1.out, hHeld.2.ext HX1.out⟩ (fun hHeld => ?_)
      clear hK hmk
      refine wpAnyH_ready (rs := [3, 4]) (by kernel_rfl) (by simp) ?_
      refine AllReadyH.cons rfl (fun K hK => ?_) ?_
      · have hmk := run_make_ints (P := Try.prog) v2 25 3 .i64 8 Try.underlying25 info64I .i64 .i64 G G rfl (by omega) (by omega)
        have hrow := Row.new v2 3 (ints .i64 (List.replicate G 0))
        have hXX := (Ext.refl v2).alloc (.cells ((ints .i64 (List.replicate G 0))).toArray 3)
        have HX2 := Lib.hid hXX
        have HW3 := Lib.hid hrow
        obtain ⟨b3, hb⟩ : ∃ q, q = v2.heap.size := ⟨_, rfl⟩
        have HB3 := Lib.hid hb
        rw [← hb] at hmk HW3
        clear hrow hXX hb
        generalize v2.alloc (.cells ((ints .i64 (List.replicate G 0))).toArray 3) = v3 at *
        go_simp
        refine hK.out _ _ ⟨hHeld.1.trans HX2.out, hHeld.2.ext HX2.out⟩ (fun hHeld => ?_)
        clear hK hmk
        refine wpAnyH_ready (rs := [4]) (by kernel_rfl) (by simp) ?_
        refine AllReadyH.cons rfl (fun K hK => ?_) ?_
        · have hmk := run_make_ints (P := Try.prog) v3 26 5 .u8 1 Try.underlying26 infoBC .i64 .i64 64 64 rfl (by decide) (by decide)
          have hrow := Row.new v3 5 (ints .u8 (List.replicate 64 0))
          have hXX := (Ext.refl v3).alloc (.cells ((ints .u8 (List.replicate 64 0))).toArray 5)
          have HX3 := Lib.hid hXX
          have HW4 := Lib.hid hrow
          obtain ⟨b4, hb⟩ : ∃ q, q = v3.heap.size := ⟨_, rfl⟩
          have HB4 := Lib.hid hb
          rw [← hb] at hmk HW4
          clear hrow hXX hb
          generalize v3.alloc (.cells ((ints .u8 (List.replicate 64 0))).toArray 5) = v4 at *
          go_simp
          refine hK.out _ _ ⟨hHeld.1.trans HX3.out, hHeld.2.ext HX3.out⟩ (fun hHeld => ?_)
          clear hK hmk
          have HRm := Lib.hid (((((HR2.out.ext hX0).ext HX0.out).ext HX1.out).ext HX2.out).ext HX3.out)
          have HRR := Lib.hid (And.intro ((HW0.out.ext HX2.out).ext HX3.out) (And.intro (HW3.out.ext HX3.out) (And.intro HW4.out (((HW7.out.ext HX1.out).ext HX2.out).ext HX3.out))))
          have HNE := Lib.hid (show b0 ≠ w.heap.size + 1 ∧ b3 ≠ w.heap.size + 1 ∧ b4 ≠ w.heap.size + 1 ∧ b7 ≠ w.heap.size + 1 from by
            have := HB0.out; have := HB3.out; have := HB4.out; have := HB7.out; have := HR2.out.lt; have := hX0.size; have := HX0.out.size; have := HX1.out.size; have := HX2.out.size
            omega)
          refine takeD (i := 8) (v := ?_) rfl rfl (by kernel_rfl) (by kernel_rfl) (by kernel_rfl) (fun _ _ _ h => h) (Or.inl ⟨by rfl, ?_⟩) hHeld ?_
          rotate_left
          · (intro v hv; (obtain ⟨hv0, hv1⟩ := hv; have c1 := (hv1.cell? 1).trans rfl; have c2 := (hv1.cell? 2).trans rfl); go_simp; try (with_reducible rfl))
          (try simp only [List.setIfInBounds_toArray, List.set_cons_zero, List.set_cons_succ])
          refine wpAnyH_ready (rs := [9]) (by kernel_rfl) (by simp) ?_
          refine AllReadyH.cons rfl (fun K hK => ?_) AllReadyH.nil
          rw [if_pos (by rfl)]
          refine store_rowN _ _ _ rfl rfl (w.heap.size + 1) #[.slice (some ⟨b0, 0, none⟩) 16 16, .slice (some ⟨b3, 0, none⟩) G G, .slice (some ⟨b4, 0, none⟩) 64 64, .slice (some ⟨b7, 0, none⟩) I I] rfl rfl 29 _ HRm.out infoMeta rfl (by simp [Value.oneCell']) ?_
          have HFIN := Lib.hid (NewAt.mk (lo := w.heap.size) (HRR.out.1.setRow_other #[.slice (some ⟨b0, 0, none⟩) 16 16, .slice (some ⟨b3, 0, none⟩) G G, .slice (some ⟨b4, 0, none⟩) 64 64, .slice (some ⟨b7, 0, none⟩) I I] HNE.out.1) (HRR.out.2.1.setRow_other _ HNE.out.2.1) (HRR.out.2.2.1.setRow_other _ HNE.out.2.2.1) (HRR.out.2.2.2.setRow_other _ HNE.out.2.2.2) (by
            have h0 := HB0.out; have h3 := HB3.out; have h4 := HB4.out; have h7 := HB7.out
            have l0 := HW0.out.lt; have l3 := HW3.out.lt; have l4 := HW4.out.lt; have l7 := HW7.out.lt
            have s := hX0.size; have s0 := HX0.out.size; have s1 := HX1.out.size; have s2 := HX2.out.size; have r := HR2.out.lt
            omega))
          have HRf := Lib.hid (HRm.out.setRow #[.slice (some ⟨b0, 0, none⟩) 16 16, .slice (some ⟨b3, 0, none⟩) G G, .slice (some ⟨b4, 0, none⟩) 64 64, .slice (some ⟨b7, 0, none⟩) I I])
          refine hK.out _ _ ⟨hHeld.1.setRow (Nat.le_succ _) _, hHeld.2.setRow_other _ (by omega)⟩ (fun hHeld => ?_)
          clear hK
          refine takeD (i := 10) (v := ?_) rfl rfl (by kernel_rfl) (by kernel_rfl) (by kernel_rfl) (fun _ _ _ h => h) (Or.inl ⟨by rfl, ?_⟩) hHeld ?_
          rotate_left
          · (intro v hv; (obtain ⟨hv0, hv1⟩ := hv; have c1 := (hv1.cell? 1).trans rfl; have c2 := (hv1.cell? 2).trans rfl); go_simp; try (with_reducible rfl))
          (try simp only [List.setIfInBounds_toArray, List.set_cons_zero, List.set_cons_succ])
          refine wpAnyH_done (by kernel_rfl) ?_ _
          have HH := Lib.hid hHeld
          clear hHeld
          go_wp2
          refine post_meta rfl (by rfl) (by rfl) HRf.out rfl ?_
          exact ⟨b0, b3, b4, b7, (by rfl), HFIN.out, HH.out.1⟩
        exact AllReadyH.nil
      refine AllReadyH.cons rfl (fun K hK => ?_) ?_
      · have hmk := run_make_ints (P := Try.prog) v2 26 5 .u8 1 Try.underlying26 infoBC .i64 .i64 64 64 rfl (by decide) (by decide)
        have hrow := Row.new v2 5 (ints .u8 (List.replicate 64 0))
        have hXX := (Ext.refl v2).alloc (.cells ((ints .u8 (List.replicate 64 0))).toArray 5)
        have HX2 := Lib.hid hXX
        have HW4 := Lib.hid hrow
        obtain ⟨b4, hb⟩ : ∃ q, q = v2.heap.size := ⟨_, rfl⟩
        have HB4 := Lib.hid hb
        rw [← hb] at hmk HW4
        clear hrow hXX hb
        generalize v2.alloc (.cells ((ints .u8 (List.replicate 64 0))).toArray 5) = v3 at *
        go_simp
        refine hK.out _ _ ⟨hHeld.1.trans HX2.out, hHeld.2.ext HX2.out⟩ (fun hHeld => ?_)
        clear hK hmk
        refine wpAnyH_ready (rs := [3]) (by kernel_rfl) (by simp) ?_
        refine AllReadyH.cons rfl (fun K hK => ?_) ?_
        · have hmk := run_make_ints (P := Try.prog) v3 25 3 .i64 8 Try.underlying25 info64I .i64 .i64 G G rfl (by omega) (by omega)
          have hrow := Row.new v3 3 (ints .i64 (List.replicate G 0))
          have hXX := (Ext.refl v3).alloc (.cells ((ints .i64 (List.replicate G 0))).toArray 3)
          have HX3 := Lib.hid hXX
          have HW3 := Lib.hid hrow
          obtain ⟨b3, hb⟩ : ∃ q, q = v3.heap.size := ⟨_, rfl⟩
          have HB3 := Lib.hid hb
          rw [← hb] at hmk HW3
          clear hrow hXX hb
          generalize v3.alloc (.cells ((ints .i64 (List.replicate G 0))).toArray 3) = v4 at *
          go_simp
          refine hK.out _ _ ⟨hHeld.1.trans HX3.out, hHeld.2.ext HX3.out⟩ (fun hHeld => ?_)
          clear hK hmk
          have HRm := Lib.hid (((((HR2.out.ext hX0).ext HX0.out).ext HX1.out).ext HX2.out).ext HX3.out)
          have HRR := Lib.hid (And.intro ((HW0.out.ext HX2.out).ext HX3.out) (And.intro HW3.out (And.intro (HW4.out.ext HX3.out) (((HW7.out.ext HX1.out).ext HX2.out).ext HX3.out))))
          have HNE := Lib.hid (show b0 ≠ w.heap.size + 1 ∧ b3 ≠ w.heap.size + 1 ∧ b4 ≠ w.heap.size + 1 ∧ b7 ≠ w.heap.size + 1 from by
            have := HB0.out; have := HB3.out; have := HB4.out; have := HB7.out; have := HR2.out.lt; have := hX0.size; have := HX0.out.size; have := HX1.out.size; have := HX2.out.size
            omega)
          refine takeD (i := 8) (v := ?_) rfl rfl (by kernel_rfl) (by kernel_rfl) (by kernel_rfl) (fun _ _ _ h => h) (Or.inl ⟨by rfl, ?_⟩) hHeld ?_
          rotate_left
          · (intro v hv; (obtain ⟨hv0, hv1⟩ := hv; have c1 := (hv1.cell? 1).trans rfl; have c2 := (hv1.cell? 2).trans rfl); go_simp; try (with_reducible rfl))
          (try simp only [List.setIfInBounds_toArray, List.set_cons_zero, List.set_cons_succ])
          refine wpAnyH_ready (rs := [9]) (by kernel_rfl) (by simp) ?_
          refine AllReadyH.cons rfl (fun K hK => ?_) AllReadyH.nil
          rw [if_pos (by rfl)]
          refine store_rowN _ _ _ rfl rfl (w.heap.size + 1) #[.slice (some ⟨b0, 0, none⟩) 16 16, .slice (some ⟨b3, 0, none⟩) G G, .slice (some ⟨b4, 0, none⟩) 64 64, .slice (some ⟨b7, 0, none⟩) I I] rfl rfl 29 _ HRm.out infoMeta rfl (by simp [Value.oneCell']) ?_
          have HFIN := Lib.hid (NewAt.mk (lo := w.heap.size) (HRR.out.1.setRow_other #[.slice (some ⟨b0, 0, none⟩) 16 16, .slice (some ⟨b3, 0, none⟩) G G, .slice (some ⟨b4, 0, none⟩) 64 64, .slice (some ⟨b7, 0, none⟩) I I] HNE.out.1) (HRR.out.2.1.setRow_other _ HNE.out.2.1) (HRR.out.2.2.1.setRow_other _ HNE.out.2.2.1) (HRR.out.2.2.2.setRow_other _ HNE.out.2.2.2) (by
            have h0 := HB0.out; have h3 := HB3.out; have h4 := HB4.out; have h7 := HB7.out
            have l0 := HW0.out.lt; have l3 := HW3.out.lt; have l4 := HW4.out.lt; have l7 := HW7.out.lt
            have s := hX0.size; have s0 := HX0.out.size; have s1 := HX1.out.size; have s2 := HX2.out.size; have r := HR2.out.lt
            omega))
          have HRf := Lib.hid (HRm.out.setRow #[.slice (some ⟨b0, 0, none⟩) 16 16, .slice (some ⟨b3, 0, none⟩) G G, .slice (some ⟨b4, 0, none⟩) 64 64, .slice (some ⟨b7, 0, none⟩) I I])
          refine hK.out _ _ ⟨hHeld.1.setRow (Nat.le_succ _) _, hHeld.2.setRow_other _ (by omega)⟩ (fun hHeld => ?_)
          clear hK
          refine takeD (i := 10) (v := ?_) rfl rfl (by kernel_rfl) (by kernel_rfl) (by kernel_rfl) (fun _ _ _ h => h) (Or.inl ⟨by rfl, ?_⟩) hHeld ?_
          rotate_left
          · (intro v hv; (obtain ⟨hv0, hv1⟩ := hv; have c1 := (hv1.cell? 1).trans rfl; have c2 := (hv1.cell? 2).trans rfl); go_simp; try (with_reducible rfl))
          (try simp only [List.setIfInBounds_toArray, List.set_cons_zero, List.set_cons_succ])
          refine wpAnyH_done (by kernel_rfl) ?_ _
          have HH := Lib.hid hHeld
          clear hHeld
          go_wp2
          refine post_meta rfl (by rfl) (by rfl) HRf.out rfl ?_
          exact ⟨b0, b3, b4, b7, (by rfl), HFIN.out, HH.out.1⟩
        exact AllReadyH.nil
      exact AllReadyH.nil
    refine AllReadyH.cons rfl (fun K hK => ?_) ?_
    · have hmk := run_make_ints (P := Try.prog) v1 25 3 .i64 8 Try.underlying25 info64I .i64 .i64 G G rfl (by omega) (by omega)
      have hrow := Row.new v1 3 (ints .i64 (List.replicate G 0))
      have hXX := (Ext.refl v1).alloc (.cells ((ints .i64 (List.replicate G 0))).toArray 3)
      have HX1 := Lib.hid hXX
      have HW3 := Lib.hid hrow
      obtain ⟨b3, hb⟩ : ∃ q, q = v1.heap.size := ⟨_, rfl⟩
      have HB3 := Lib.hid hb
      rw [← hb] at hmk HW3
      clear hrow hXX hb
      generalize v1.alloc (.cells ((ints .i64 (List.replicate G 0))).toArray 3) = v2 at *
      go_simp
      refine hK.out _ _ ⟨hHeld.1.trans HX1.out, hHeld.2.ext HX1.out⟩ (fun hHeld => ?_)
      clear hK hmk
      refine wpAnyH_ready (rs := [0, 4]) (by kernel_rfl) (by simp) ?_
      refine AllReadyH.cons rfl (fun K hK => ?_) ?_
      · have hmk0 := run_make_s v2 2 24 45 [.int .u16 0, .int .i64 0] 16 rfl (by decide) Try.underlying24 infoRC 16 (by decide) (by decide)
        rw [flat_repR] at hmk0
        have hmk : (Instr.makeSlice 24 (.int .i64 16) (.int .i64 16)).run Try.prog v2 = .ok (.slice (some ⟨v2.heap.size, 0, none⟩) 16 16) (v2.alloc (.cells (rowsC (List.replicate 16 (0, 0))).toArray 45)) := hmk0
        clear hmk0
        have hrow := Row.new v2 45 (rowsC (List.replicate 16 (0, 0)))
        have hXX := (Ext.refl v2).alloc (.cells ((rowsC (List.replicate 16 (0, 0)))).toArray 45)
        have HX2 := Lib.hid hXX
        have HW0 := Lib.hid hrow
        obtain ⟨b0, hb⟩ : ∃ q, q = v2.heap.size := ⟨_, rfl⟩
        have HB0 := Lib.hid hb
        rw [← hb] at hmk HW0
        clear hrow hXX hb
        generalize v2.alloc (.cells ((rowsC (List.replicate 16 (0, 0)))).toArray 45) = v3 at *
        go_simp
        refine hK.out _ _ ⟨hHeld.1.trans HX2.out, hHeld.2.ext HX2.out⟩ (fun hHeld => ?_)
        clear hK hmk
        refine wpAnyH_ready (rs := [4]) (by kernel_rfl) (by simp) ?_
        refine AllReadyH.cons rfl (fun K hK => ?_) ?_
        · have hmk := run_make_ints (P := Try.prog) v3 26 5 .u8 1 Try.underlying26 infoBC .i64 .i64 64 64 rfl (by decide) (by decide)
          have hrow := Row.new v3 5 (ints .u8 (List.replicate 64 0))
          have hXX := (Ext.refl v3).alloc (.cells ((ints .u8 (List.replicate 64 0))).toArray 5)
          have HX3 := Lib.hid hXX
          have HW4 := Lib.hid hrow
          obtain ⟨b4, hb⟩ : ∃ q, q = v3.heap.size := ⟨_, rfl⟩
          have HB4 := Lib.hid hb
          rw [← hb] at hmk HW4
          clear hrow hXX hb
          generalize v3.alloc (.cells ((ints .u8 (List.replicate 64 0))).toArray 5) = v4 at *
          go_simp
          refine hK.out _ _ ⟨hHeld.1.trans HX3.out, hHeld.2.ext HX3.out⟩ (fun hHeld => ?_)
          clear hK hmk
          have HRm := Lib.hid (((((HR2.out.ext hX0).ext HX0.out).ext HX1.out).ext HX2.out).ext HX3.out)
          have HRR := Lib.hid (And.intro (HW0.out.ext HX3.out) (And.intro ((HW3.out.ext HX2.out).ext HX3.out) (And.intro HW4.out (((HW7.out.ext HX1.out).ext HX2.out).ext HX3.out))))
          have HNE := Lib.hid (show b0 ≠ w.heap.size + 1 ∧ b3 ≠ w.heap.size + 1 ∧ b4 ≠ w.heap.size + 1 ∧ b7 ≠ w.heap.size + 1 from by
            have := HB0.out; have := HB3.out; have := HB4.out; have := HB7.out; have := HR2.out.lt; have := hX0.size; have := HX0.out.size; have := HX1.out.size; have := HX2.out.size
            omega)
          refine takeD (i := 8) (v := ?_) rfl rfl (by kernel_rfl) (by kernel_rfl) (by kernel_rfl) (fun _ _ _ h => h) (Or.inl ⟨by rfl, ?_⟩) hHeld ?_
          rotate_left
          · (intro v hv; (obtain ⟨hv0, hv1⟩ := hv; have c1 := (hv1.cell? 1).trans rfl; have c2 := (hv1.cell? 2).trans rfl); go_simp; try (with_reducible rfl))
          (try simp only [List.setIfInBounds_toArray, List.set_cons_zero, List.set_cons_succ])
          refine wpAnyH_ready (rs := [9]) (by kernel_rfl) (by simp) ?_
          refine AllReadyH.cons rfl (fun K hK => ?_) AllReadyH.nil
          rw [if_pos (by rfl)]
          refine store_rowN _ _ _ rfl rfl (w.heap.size + 1) #[.slice (some ⟨b0, 0, none⟩) 16 16, .slice (some ⟨b3, 0, none⟩) G G, .slice (some ⟨b4, 0, none⟩) 64 64, .slice (some ⟨b7, 0, none⟩) I I] rfl rfl 29 _ HRm.out infoMeta rfl (by simp [Value.oneCell']) ?_
          have HFIN := Lib.hid (NewAt.mk (lo := w.heap.size) (HRR.out.1.setRow_other #[.slice (some ⟨b0, 0, none⟩) 16 16, .slice (some ⟨b3, 0, none⟩) G G, .slice (some ⟨b4, 0, none⟩) 64 64, .slice (some ⟨b7, 0, none⟩) I I] HNE.out.1) (HRR.out.2.1.setRow_other _ HNE.out.2.1) (HRR.out.2.2.1.setRow_other _ HNE.out.2.2.1) (HRR.out.2.2.2.setRow_other _ HNE.out.2.2.2) (by
            have h0 := HB0.out; have h3 := HB3.out; have h4 := HB4.out; have h7 := HB7.out
            have l0 := HW0.out.lt; have l3 := HW3.out.lt; have l4 := HW4.out.lt; have l7 := HW7.out.lt
            have s := hX0.size; have s0 := HX0.out.size; have s1 := HX1.out.size; have s2 := HX2.out.size; have r := HR2.out.lt
            omega))
          have HRf := Lib.hid (HRm.out.setRow #[.slice (some ⟨b0, 0, none⟩) 16 16, .slice (some ⟨b3, 0, none⟩) G G, .slice (some ⟨b4, 0, none⟩) 64 64, .slice (some ⟨b7, 0, none⟩) I I])
          refine hK.out _ _ ⟨hHeld.1.setRow (Nat.le_succ _) _, hHeld.2.setRow_other _ (by omega)⟩ (fun hHeld => ?_)
          clear hK
          refine takeD (i := 10) (v := ?_) rfl rfl (by kernel_rfl) (by kernel_rfl) (by kernel_rfl) (fun _ _ _ h => h) (Or.inl ⟨by rfl, ?_⟩) hHeld ?_
          rotate_left
          · (intro v hv; (obtain ⟨hv0, hv1⟩ := hv; have c1 := (hv1.cell? 1).trans rfl; have c2 := (hv1.cell? 2).trans rfl); go_simp; try (with_reducible rfl))
          (try simp only [List.setIfInBounds_toArray, List.set_cons_zero, List.set_cons_succ])
          refine wpAnyH_done (by kernel_rfl) ?_ _
          have HH := Lib.hid hHeld
          clear hHeld
          go_wp2
          refine post_meta rfl (by rfl) (by rfl) HRf.out rfl ?_
          exact ⟨b0, b3, b4, b7, (by rfl), HFIN.out, HH.out.1⟩
        exact AllReadyH.nil
      refine AllReadyH.cons rfl (fun K hK => ?_) ?_
      · have hmk := run_make_ints (P := Try.prog) v2 26 5 .u8 1 Try.underlying26 infoBC .i64 .i64 64 64 rfl (by decide) (by decide)
        have hrow := Row.new v2 5 (ints .u8 (List.replicate 64 0))
        have hXX := (Ext.refl v2).alloc (.cells ((ints .u8 (List.replicate 64 0))).toArray 5)
        have HX2 := Lib.hid hXX
        have HW4 := Lib.hid hrow
        obtain ⟨b4, hb⟩ : ∃ q, q = v2.heap.size := ⟨_, rfl⟩
        have HB4 := Lib.hid hb
        rw [← hb] at hmk HW4
        clear hrow hXX hb
        generalize v2.alloc (.cells ((ints .u8 (List.replicate 64 0))).toArray 5) = v3 at *
        go_simp
        refine hK.out _ _ ⟨hHeld.1.trans HX2.out, hHeld.2.ext HX2.out⟩ (fun hHeld => ?_)
        clear hK hmk
        refine wpAnyH_ready (rs := [0]) (by kernel_rfl) (by simp) ?_
        refine AllReadyH.cons rfl (fun K hK => ?_) ?_
        · have hmk0 := run_make_s v3 2 24 45 [.int .u16 0, .int .i64 0] 16 rfl (by decide) Try.underlying24 infoRC 16 (by decide) (by decide)
          rw [flat_repR] at hmk0
          have hmk : (Instr.makeSlice 24 (.int .i64 16) (.int .i64 16)).run Try.prog v3 = .ok (.slice (some ⟨v3.heap.size, 0, none⟩) 16 16) (v3.alloc (.cells (rowsC (List.replicate 16 (0, 0))).toArray 45)) := hmk0
          clear hmk0
          have hrow := Row.new v3 45 (rowsC (List.replicate 16 (0, 0)))
          have hXX := (Ext.refl v3).alloc (.cells ((rowsC (List.replicate 16 (0, 0)))).toArray 45)
          have HX3 := Lib.hid hXX
          have HW0 := Lib.hid hrow
          obtain ⟨b0, hb⟩ : ∃ q, q = v3.heap.size := ⟨_, rfl⟩
          have HB0 := Lib.hid hb
          rw [← hb] at hmk HW0
          clear hrow hXX hb
          generalize v3.alloc (.cells ((rowsC (List.replicate 16 (0, 0)))).toArray 45) = v4 at *
          go_simp
          refine hK.out _ _ ⟨hHeld.1.trans HX3.out, hHeld.2.ext HX3.out⟩ (fun hHeld => ?_)
          clear hK hmk
          have HRm := Lib.hid (((((HR2.out.ext hX0).ext HX0.out).ext HX1.out).ext HX2.out).ext HX3.out)
          have HRR := Lib.hid (And.intro HW0.out (And.intro ((HW3.out.ext HX2.out).ext HX3.out) (And.intro (HW4.out.ext HX3.out) (((HW7.out.ext HX1.out).ext HX2.out).ext HX3.out))))
          have HNE := Lib.hid (show b0 ≠ w.heap.size + 1 ∧ b3 ≠ w.heap.size + 1 ∧ b4 ≠ w.heap.size + 1 ∧ b7 ≠ w.heap.size + 1 from by
            have := HB0.out; have := HB3.out; have := HB4.out; have := HB7.out; have := HR2.out.lt; have := hX0.size; have := HX0.out.size; have := HX1.out.size; have := HX2.out.size
            omega)
          refine takeD (i := 8) (v := ?_) rfl rfl (by kernel_rfl) (by kernel_rfl) (by kernel_rfl) (fun _ _ _ h => h) (Or.inl ⟨by rfl, ?_⟩) hHeld ?_
          rotate_left
          · (intro v hv; (obtain ⟨hv0, hv1⟩ := hv; have c1 := (hv1.cell? 1).trans rfl; have c2 := (hv1.cell? 2).trans rfl); go_simp; try (with_reducible rfl))
          (try simp only [List.setIfInBounds_toArray, List.set_cons_zero, List.set_cons_succ])
          refine wpAnyH_ready (rs := [9]) (by kernel_rfl) (by simp) ?_
          refine AllReadyH.cons rfl (fun K hK => ?_) AllReadyH.nil
          rw [if_pos (by rfl)]
          refine store_rowN _ _ _ rfl rfl (w.heap.size + 1) #[.slice (some ⟨b0, 0, none⟩) 16 16, .slice (some ⟨b3, 0, none⟩) G G, .slice (some ⟨b4, 0, none⟩) 64 64, .slice (some ⟨b7, 0, none⟩) I I] rfl rfl 29 _ HRm.out infoMeta rfl (by simp [Value.oneCell']) ?_
          have HFIN := Lib.hid (NewAt.mk (lo := w.heap.size) (HRR.out.1.setRow_other #[.slice (some ⟨b0, 0, none⟩) 16 16, .slice (some ⟨b3, 0, none⟩) G G, .slice (some ⟨b4, 0, none⟩) 64 64, .slice (some ⟨b7, 0, none⟩) I I] HNE.out.1) (HRR.out.2.1.setRow_other _ HNE.out.2.1) (HRR.out.2.2.1.setRow_other _ HNE.out.2.2.1) (HRR.out.2.2.2.setRow_other _ HNE.out.2.2.2) (by
            have h0 := HB0.out; have h3 := HB3.out; have h4 := HB4.out; have h7 := HB7.out
            have l0 := HW0.out.lt; have l3 := HW3.out.lt; have l4 := HW4.out.lt; have l7 := HW7.out.lt
            have s := hX0.size; have s0 := HX0.out.size; have s1 := HX1.out.size; have s2 := HX2.out.size; have r := HR2.out.lt
            omega))
          have HRf := Lib.hid (HRm.out.setRow #[.slice (some ⟨b0, 0, none⟩) 16 16, .slice (some ⟨b3, 0, none⟩) G G, .slice (some ⟨b4, 0, none⟩) 64 64, .slice (some ⟨b7, 0, none⟩) I I])
          refine hK.out _ _ ⟨hHeld.1.setRow (Nat.le_succ _) _, hHeld.2.setRow_other _ (by omega)⟩ (fun hHeld => ?_)
          clear hK
          refine takeD (i := 10) (v := ?_) rfl rfl (by kernel_rfl) (by kernel_rfl) (by kernel_rfl) (fun _ _ _ h => h) (Or.inl ⟨by rfl, ?_⟩) hHeld ?_
          rotate_left
          · (intro v hv; (obtain ⟨hv0, hv1⟩ := hv; have c1 := (hv1.cell? 1).trans rfl; have c2 := (hv1.cell? 2).trans rfl); go_simp; try (with_reducible rfl))
          (try simp only [List.setIfInBounds_toArray, List.set_cons_zero, List.set_cons_succ])
          refine wpAnyH_done (by kernel_rfl) ?_ _
          have HH := Lib.hid hHeld
          clear hHeld
          go_wp2
          refine post_meta rfl (by rfl) (by rfl) HRf.out rfl ?_
          exact ⟨b0, b3, b4, b7, (by rfl), HFIN.out, HH.out.1⟩
        exact AllReadyH.nil
      exact AllReadyH.nil
    refine AllReadyH.cons rfl (fun K hK => ?_) ?_
    · have hmk := run_make_ints (P := Try.prog) v1 26 5 .u8 1 Try.underlying26 infoBC .i64 .i64 64 64 rfl (by decide) (by decide)
      have hrow := Row.new v1 5 (ints .u8 (List.replicate 64 0))
      have hXX := (Ext.refl v1).alloc (.cells ((ints .u8 (List.replicate 64 0))).toArray 5)
      have HX1 := Lib.hid hXX
      have HW4 := Lib.hid hrow
      obtain ⟨b4, hb⟩ : ∃ q, q = v1.heap.size := ⟨_, rfl⟩
      have HB4 := Lib.hid hb
      rw [← hb] at hmk HW4
      clear hrow hXX hb
      generalize v1.alloc (.cells ((ints .u8 (List.replicate 64 0))).toArray 5) = v2 at *
      go_simp
      refine hK.out _ _ ⟨hHeld.1.trans HX1.out, hHeld.2.ext HX1.out⟩ (fun hHeld => ?_)
      clear hK hmk
      refine wpAnyH_ready (rs := [0, 3]) (by kernel_rfl) (by simp) ?_
      refine AllReadyH.cons rfl (fun K hK => ?_) ?_
      · have hmk0 := run_make_s v2 2 24 45 [.int .u16 0, .int .i64 0] 16 rfl (by decide) Try.underlying24 infoRC 16 (by decide) (by decide)
        rw [flat_repR] at hmk0
        have hmk : (Instr.makeSlice 24 (.int .i64 16) (.int .i64 16)).run Try.prog v2 = .ok (.slice (some ⟨v2.heap.size, 0, none⟩) 16 16) (v2.alloc (.cells (rowsC (List.replicate 16 (0, 0))).toArray 45)) := hmk0
        clear hmk0
        have hrow := Row.new v2 45 (rowsC (List.replicate 16 (0, 0)))
        have hXX := (Ext.refl v2).alloc (.cells ((rowsC (List.replicate 16 (0, 0)))).toArray 45)
        have HX2 := Lib.hid hXX
        have HW0 := Lib.hid hrow
        obtain ⟨b0, hb⟩ : ∃ q, q = v2.heap.size := ⟨_, rfl⟩
        have HB0 := Lib.hid hb
        rw [← hb] at hmk HW0
        clear hrow hXX hb
        generalize v2.alloc (.cells ((rowsC (List.replicate 16 (0, 0)))).toArray 45) = v3 at *
        go_simp
        refine hK.out _ _ ⟨hHeld.1.trans HX2.out, hHeld.2.ext HX2.out⟩ (fun hHeld => ?_)
        clear hK hmk
        refine wpAnyH_ready (rs := [3]) (by kernel_rfl) (by simp) ?_
        refine AllReadyH.cons rfl (fun K hK => ?_) ?_
        · have hmk := run_make_ints (P := Try.prog) v3 25 3 .i64 8 Try.underlying25 info64I .i64 .i64 G G rfl (by omega) (by omega)
          have hrow := Row.new v3 3 (ints .i64 (List.replicate G 0))
          have hXX := (Ext.refl v3).alloc (.cells ((ints .i64 (List.replicate G 0))).toArray 3)
          have HX3 := Lib.hid hXX
          have HW3 := Lib.hid hrow
          obtain ⟨b3, hb⟩ : ∃ q, q = v3.heap.size := ⟨_, rfl⟩
          have HB3 := Lib.hid hb
          rw [← hb] at hmk HW3
          clear hrow hXX hb
          generalize v3.alloc (.cells ((ints .i64 (List.replicate G 0))).toArray 3) = v4 at *
          go_simp
          refine hK.out _ _ ⟨hHeld.1.trans HX3.out, hHeld.2.ext HX3.out⟩ (fun hHeld => ?_)
          clear hK hmk
          have HRm := Lib.hid (((((HR2.out.ext hX0).ext HX0.out).ext HX1.out).ext HX2.out).ext HX3.out)
          have HRR := Lib.hid (And.intro (HW0.out.ext HX3.out) (And.intro HW3.out (And.intro ((HW4.out.ext HX2.out).ext HX3.out) (((HW7.out.ext HX1.out).ext HX2.out).ext HX3.out))))
          have HNE := Lib.hid (show b0 ≠ w.heap.size + 1 ∧ b3 ≠ w.heap.size + 1 ∧ b4 ≠ w.heap.size + 1 ∧ b7 ≠ w.heap.size + 1 from by
            have := HB0.out; have := HB3.out; have := HB4.out; have := HB7.out; have := HR2.out.lt; have := hX0.size; have := HX0.out.size; have := HX1.out.size; have := HX2.out.size
            omega)
          refine takeD (i := 8) (v := ?_) rfl rfl (by kernel_rfl) (by kernel_rfl) (by kernel_rfl) (fun _ _ _ h => h) (Or.inl ⟨by rfl, ?_⟩) hHeld ?_
          rotate_left
          · (intro v hv; (obtain ⟨hv0, hv1⟩ := hv; have c1 := (hv1.cell? 1).trans rfl; have c2 := (hv1.cell? 2).trans rfl); go_simp; try (with_reducible rfl))
          (try simp only [List.setIfInBounds_toArray, List.set_cons_zero, List.set_cons_succ])
          refine wpAnyH_ready (rs := [9]) (by kernel_rfl) (by simp) ?_
          refine AllReadyH.cons rfl (fun K hK => ?_) AllReadyH.nil
          rw [if_pos (by rfl)]
          refine store_rowN _ _ _ rfl rfl (w.heap.size + 1) #[.slice (some ⟨b0, 0, none⟩) 16 16, .slice (some ⟨b3, 0, none⟩) G G, .slice (some ⟨b4, 0, none⟩) 64 64, .slice (some ⟨b7, 0, none⟩) I I] rfl rfl 29 _ HRm.out infoMeta rfl (by simp [Value.oneCell']) ?_
          have HFIN := Lib.hid (NewAt.mk (lo := w.heap.size) (HRR.out.1.setRow_other #[.slice (some ⟨b0, 0, none⟩) 16 16, .slice (some ⟨b3, 0, none⟩) G G, .slice (some ⟨b4, 0, none⟩) 64 64, .slice (some ⟨b7, 0, none⟩) I I] HNE.out.1) (HRR.out.2.1.setRow_other _ HNE.out.2.1) (HRR.out.2.2.1.setRow_other _ HNE.out.2.2.1) (HRR.out.2.2.2.setRow_other _ HNE.out.2.2.2) (by
            have h0 := HB0.out; have h3 := HB3.out; have h4 := HB4.out; have h7 := HB7.out
            have l0 := HW0.out.lt; have l3 := HW3.out.lt; have l4 := HW4.out.lt; have l7 := HW7.out.lt
            have s := hX0.size; have s0 := HX0.out.size; have s1 := HX1.out.size; have s2 := HX2.out.size; have r := HR2.out.lt
            omega))
          have HRf := Lib.hid (HRm.out.setRow #[.slice (some ⟨b0, 0, none⟩) 16 16, .slice (some ⟨b3, 0, none⟩) G G, .slice (some ⟨b4, 0, none⟩) 64 64, .slice (some ⟨b7, 0, none⟩) I I])
          refine hK.out _ _ ⟨hHeld.1.setRow (Nat.le_succ _) _, hHeld.2.setRow_other _ (by omega)⟩ (fun hHeld => ?_)
          clear hK
          refine takeD (i := 10) (v := ?_) rfl rfl (by kernel_rfl) (by kernel_rfl) (by kernel_rfl) (fun _ _ _ h => h) (Or.inl ⟨by rfl, ?_⟩) hHeld ?_
          rotate_left
          · (intro v hv; (obtain ⟨hv0, hv1⟩ := hv; have c1 := (hv1.cell? 1).trans rfl; have c2 := (hv1.cell? 2).trans rfl); go_simp; try (with_reducible rfl))
          (try simp only [List.setIfInBounds_toArray, List.set_cons_zero, List.set_cons_succ])
          refine wpAnyH_done (by kernel_rfl) ?_ _
          have HH := Lib.hid hHeld
          clear hHeld
          go_wp2
          refine post_meta rfl (by rfl) (by rfl) HRf.out rfl ?_
          exact ⟨b0, b3, b4, b7, (by rfl), HFIN.out, HH.out.1⟩
        exact AllReadyH.nil
      refine AllReadyH.cons rfl (fun K hK => ?_) ?_
      · have hmk := run_make_ints (P := Try.prog) v2 25 3 .i64 8 Try.underlying25 info64I .i64 .i64 G G rfl (by omega) (by omega)
        have hrow := Row.new v2 3 (ints .i64 (List.replicate G 0))
        have hXX := (Ext.refl v2).alloc (.cells ((ints .i64 (List.replicate G 0))).toArray 3)
        have HX2 := Lib.hid hXX
        have HW3 := Lib.hid hrow
        obtain ⟨b3, hb⟩ : ∃ q, q = v2.heap.size := ⟨_, rfl⟩
        have HB3 := Lib.hid hb
        rw [← hb] at hmk HW3
        clear hrow hXX hb
        generalize v2.alloc (.cells ((ints .i64 (List.replicate G 0))).toArray 3) = v3 at *
        go_simp
        refine hK.out _ _ ⟨hHeld.1.trans HX2.out, hHeld.2.ext HX2.out⟩ (fun hHeld => ?_)
        clear hK hmk
        refine wpAnyH_ready (rs := [0]) (by kernel_rfl) (by simp) ?_
        refine AllReadyH.cons rfl (fun K hK => ?_) ?_
        · have hmk0 := run_make_s v3 2 24 45 [.int .u16 0, .int .i64 0] 16 rfl (by decide) Try.underlying24 infoRC 16 (by decide) (by decide)
          rw [flat_repR] at hmk0
          have hmk : (Instr.makeSlice 24 (.int .i64 16) (.int .i64 16)).run Try.prog v3 = .ok (.slice (some ⟨v3.heap.size, 0, none⟩) 16 16) (v3.alloc (.cells (rowsC (List.replicate 16 (0, 0))).toArray 45)) := hmk0
          clear hmk0
          have hrow := Row.new v3 45 (rowsC (List.replicate 16 (0, 0)))
          have hXX := (Ext.refl v3).alloc (.cells ((rowsC (List.replicate 16 (0, 0)))).toArray 45)
          have HX3 := Lib.hid hXX
          have HW0 := Lib.hid hrow
          obtain ⟨b0, hb⟩ : ∃ q, q = v3.heap.size := ⟨_, rfl⟩
          have HB0 := Lib.hid hb
          rw [← hb] at hmk HW0
          clear hrow hXX hb
          generalize v3.alloc (.cells ((rowsC (List.replicate 16 (0, 0)))).toArray 45) = v4 at *
          go_simp
          refine hK.out _ _ ⟨hHeld.1.trans HX3.out, hHeld.2.ext HX3.out⟩ (fun hHeld => ?_)
          clear hK hmk
          have HRm := Lib.hid (((((HR2.out.ext hX0).ext HX0.out).ext HX1.out).ext HX2.out).ext HX3.out)
          have HRR := Lib.hid (And.intro HW0.out (And.intro (HW3.out.ext HX3.out) (And.intro ((HW4.out.ext HX2.out).ext HX3.out) (((HW7.out.ext HX1.out).ext HX2.out).ext HX3.out))))
          have HNE := Lib.hid (show b0 ≠ w.heap.size + 1 ∧ b3 ≠ w.heap.size + 1 ∧ b4 ≠ w.heap.size + 1 ∧ b7 ≠ w.heap.size + 1 from by
            have := HB0.out; have := HB3.out; have := HB4.out; have := HB7.out; have := HR2.out.lt; have := hX0.size; have := HX0.out.size; have := HX1.out.size; have := HX2.out.size
            omega)
          refine takeD (i := 8) (v := ?_) rfl rfl (by kernel_rfl) (by kernel_rfl) (by kernel_rfl) (fun _ _ _ h => h) (Or.inl ⟨by rfl, ?_⟩) hHeld ?_
          rotate_left
          · (intro v hv; (obtain ⟨hv0, hv1⟩ := hv; have c1 := (hv1.cell? 1).trans rfl; have c2 := (hv1.cell? 2).trans rfl); go_simp; try (with_reducible rfl))
          (try simp only [List.setIfInBounds_toArray, List.set_cons_zero, List.set_cons_succ])
          refine wpAnyH_ready (rs := [9]) (by kernel_rfl) (by simp) ?_
          refine AllReadyH.cons rfl (fun K hK => ?_) AllReadyH.nil
          rw [if_pos (by rfl)]
          refine store_rowN _ _ _ rfl rfl (w.heap.size + 1) #[.slice (some ⟨b0, 0, none⟩) 16 16, .slice (some ⟨b3, 0, none⟩) G G, .slice (some ⟨b4, 0, none⟩) 64 64, .slice (some ⟨b7, 0, none⟩) I I] rfl rfl 29 _ HRm.out infoMeta rfl (by simp [Value.oneCell']) ?_
          have HFIN := Lib.hid (NewAt.mk (lo := w.heap.size) (HRR.out.1.setRow_other #[.slice (some ⟨b0, 0, none⟩) 16 16, .slice (some ⟨b3, 0, none⟩) G G, .slice (some ⟨b4, 0, none⟩) 64 64, .slice (some ⟨b7, 0, none⟩) I I] HNE.out.1) (HRR.out.2.1.setRow_other _ HNE.out.2.1) (HRR.out.2.2.1.setRow_other _ HNE.out.2.2.1) (HRR.out.2.2.2.setRow_other _ HNE.out.2.2.2) (by
            have h0 := HB0.out; have h3 := HB3.out; have h4 := HB4.out; have h7 := HB7.out
            have l0 := HW0.out.lt; have l3 := HW3.out.lt; have l4 := HW4.out.lt; have l7 := HW7.out.lt
            have s := hX0.size; have s0 := HX0.out.size; have s1 := HX1.out.size; have s2 := HX2.out.size; have r := HR2.out.lt
            omega))
          have HRf := Lib.hid (HRm.out.setRow #[.slice (some ⟨b0, 0, none⟩) 16 16, .slice (some ⟨b3, 0, none⟩) G G, .slice (some ⟨b4, 0, none⟩) 64 64, .slice (some ⟨b7, 0, none⟩) I I])
          refine hK.out _ _ ⟨hHeld.1.setRow (Nat.le_succ _) _, hHeld.2.setRow_other _ (by omega)⟩ (fun hHeld => ?_)
          clear hK
          refine takeD (i := 10) (v := ?_) rfl rfl (by kernel_rfl) (by kernel_rfl) (by kernel_rfl) (fun _ _ _ h => h) (Or.inl ⟨by rfl, ?_⟩) hHeld ?_
          rotate_left
          · (intro v hv; (obtain ⟨hv0, hv1⟩ := hv; have c1 := (hv1.cell? 1).trans rfl; have c2 := (hv1.cell? 2).trans rfl); go_simp; try (with_reducible rfl))
          (try simp only [List.setIfInBounds_toArray, List.set_cons_zero, List.set_cons_succ])
          refine wpAnyH_done (by kernel_rfl) ?_ _
          have HH := Lib.hid hHeld
          clear hHeld
          go_wp2
          refine post_meta rfl (by rfl) (by rfl) HRf.out rfl ?_
          exact ⟨b0, b3, b4, b7, (by rfl), HFIN.out, HH.out.1⟩
        exact AllReadyH.nil
      exact AllReadyH.nil
    exact AllReadyH.nil
  exact AllReadyH.nil
end Go.Proofs.Ytnodinancnfoeaa.Mt
