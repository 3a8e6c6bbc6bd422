/- The journal's head. -/
import Derived.Test.YtfodpphbdbeciaaJnB
import Derived.Test.YtfodpphbdbeciaaLayP
import Derived.Test.YtfodpphbdbeciaaFillP
import Derived.Test.YtfodpphbdbeciaaSealP
import Derived.Deep.DeepCutAuto
import Derived.Test.YtfodpphbdbeciaaGuard
namespace Go.Proofs.Ytfodpphbdbeciaa.Jn
open Go.RowKit Words Mem Plain Ops Agg OwnS Dk
open Go.Proofs.Ytfodpphbdbeciaa.Field Go.Proofs.Ytfodpphbdbeciaa.Sum
set_option maxRecDepth 100000
set_option linter.ambiguousOpen false
set_option linter.unusedVariables false
set_option linter.unusedSimpArgs false

/-- A head's bytes. -/
def headB (s c : Int) : List Int := sealN (filled (layed 8 [s] ++ layed 2 [c]) 60)
theorem head10 (s c : Int) : (layed 8 [s] ++ layed 2 [c]).length = 10 := by rw [List.length_append, length_layed, length_layed]; rfl
theorem headB_len (s c : Int) : (headB s c).length = 64 := by unfold headB; rw [length_seal, length_filled _ _ (by rw [head10]; decide)]
theorem headB_bytes (s c : Int) : isBytes (headB s c) := isBytes_seal (isBytes_filled _ _ (fun x hx => by
  rcases List.mem_append.1 hx with hx | hx
  · exact isBytes_layed _ _ x hx
  · exact isBytes_layed _ _ x hx))
theorem zeroPatch (w : World) : (zeroValue 37).run Try.prog w = .ok (.agg #[.int .i64 0, .slice none 0 0, .int .u16 0]) w := by kernel_rfl
theorem infoPatch : (Try.prog.info? 37).map (·.size) = some 3 := by kernel_rfl
theorem info8' : (Try.prog.info? 5).map (fun i => (i.zero, i.size, i.bytes)) = some (some (.int .u8 0), 1, 1) := by kernel_rfl
set_option maxHeartbeats 8000000 in
theorem head_ok {u : World} {gj g : Nat} {f n s0 : Int} (h : Row u gj 67 (jRow g f n s0)) (s c : Int) (hs : 0 ≤ s ∧ s < 18446744073709551616) (hc : 0 ≤ c ∧ c < 65536) :
    Calls Try.prog 30 #[.pointer (some ⟨gj, 0, none⟩), .int .u64 s, .int .i64 c] u fun e w' => ∃ bh, e = .returned (.agg #[.int .i64 f, .slice (some ⟨bh, 0, none⟩) 64 64, .int .u16 0]) ∧ u.heap.size ≤ bh ∧ Row w' bh 5 (ints .u8 (headB s c)) ∧ Ext u w' := by
  have X1 := (Ext.refl u).alloc (.cells #[.int .i64 0, .slice none 0 0, .int .u16 0] 37)
  have hrow1 := Row.new u 37 [.int .i64 0, .slice none 0 0, .int .u16 0]
  obtain ⟨w1, hw1⟩ : ∃ z, z = u.alloc (.cells #[.int .i64 0, .slice none 0 0, .int .u16 0] 37) := ⟨_, rfl⟩
  have hrow1 : Row w1 u.heap.size 37 [.int .i64 0, .slice none 0 0, .int .u16 0] := by rw [hw1]; exact hrow1
  rw [← hw1] at X1
  have HX1 := Lib.hid X1
  have HR1 := Lib.hid hrow1
  have HW1 := Lib.hid hw1
  have HJ := Lib.hid h
  have hz := zeroPatch
  have hlay := Lay_yes 8 (some ⟨w1.heap.size, 0, none⟩) 1 1 [s] (w1.alloc (.cells #[.int .u64 s] 40)) (by decide) (by decide) rfl ((Row.new w1 40 [.int .u64 s]).sl0) (fun x hx => by simp at hx; subst hx; exact hs) (by
    refine okLay_of (n := 1) rfl (by decide) (fun x hx => ?_)
    simp at hx; subst hx
    unfold fitsB; rw [p8]; exact decide_eq_true hs.2)
  have HLAY := Lib.hid hlay
  have HLX := Lib.hid ((Ext.refl w1).alloc (.cells #[.int .u64 s] 40))
  clear X1 hrow1 hw1 h hlay
  go_enter Try.func30, Try.ntmps30
  go_upto_region 1 with fail
  rw [← HW1.out]
  go_wp2_with fail
  refine HLAY.out.mono ?_
  rintro e w2 ⟨rfl, hr2, h2⟩
  obtain ⟨b2, hb2⟩ : ∃ z, z = (w1.alloc (.cells #[.int .u64 s] 40)).heap.size := ⟨_, rfl⟩
  rw [← hb2] at hr2 ⊢
  have HRBN := Lib.hid (show u.heap.size < b2 by rw [hb2]; exact Nat.lt_of_lt_of_le HR1.out.lt HLX.out.size)
  have HB2 := Lib.hid (show u.heap.size ≤ b2 by rw [hb2]; exact Nat.le_trans HX1.out.size HLX.out.size)
  have HR2 := Lib.hid hr2
  have HX2 := Lib.hid (HX1.out.trans (HLX.out.trans h2))
  have HRB := Lib.hid (HR1.out.ext (HLX.out.trans h2))
  have hconv : IntKind.u64.wrap c = c := IntWalk.u64_in _ (by omega)
  have HLAY2 := Lib.hid (Lay_yes 2 (some ⟨w2.heap.size, 0, none⟩) 1 1 [c] (w2.alloc (.cells #[.int .u64 c] 40)) (by decide) (by decide) rfl ((Row.new w2 40 [.int .u64 c]).sl0) (fun x hx => by simp at hx; subst hx; omega) (by
    refine okLay_of (n := 1) rfl (by decide) (fun x hx => ?_)
    simp at hx; subst hx
    unfold fitsB; rw [p2]; exact decide_eq_true hc.2))
  have HLX2 := Lib.hid ((Ext.refl w2).alloc (.cells #[.int .u64 c] 40))
  clear hb2 hr2 h2 HLAY HR1 HX1 HLX HW1
  go_wp2_with fail
  refine HLAY2.out.mono ?_
  rintro e w3 ⟨rfl, hr3, h3⟩
  obtain ⟨b3, hb3⟩ : ∃ z, z = (w2.alloc (.cells #[.int .u64 c] 40)).heap.size := ⟨_, rfl⟩
  rw [← hb3] at hr3 ⊢
  have HR3 := Lib.hid hr3
  have HR23 := Lib.hid (HR2.out.ext (HLX2.out.trans h3))
  have HX3 := Lib.hid (HX2.out.trans (HLX2.out.trans h3))
  have HRB3 := Lib.hid (HRB.out.ext (HLX2.out.trans h3))
  have hl8 : (layed 8 [s]).length = 8 := by rw [length_layed]; rfl
  have hl2 : (layed 2 [c]).length = 2 := by rw [length_layed]; rfl
  have hown : w3.ownsRow u.heap.size 5 1 (.slice (some ⟨b2, 0, none⟩) 8 8) 8 (ints .u8 (layed 8 [s])) := ownS_of HR23.out HB2.out (by rw [ints_length, hl8]) (by decide)
  obtain ⟨a4, c4, w4, hap, ho4, hg4, _⟩ := run_append_s (P := Try.prog) w3 u.heap.size 1 (by decide) 34 34 5 _ 1 Try.underlying34 info8' rfl hown (a := some ⟨b3, 0, none⟩) (m := 2) 2 (news := ints .u8 (layed 2 [c])) (by rw [ints_length, hl2]) HR3.out.sl0 (fun e => by cases e) (ints_oneCell' _ _) (by decide) (by decide) HX3.out.size
  have hX4 : Ext u w4 := Ext_grown HX3.out (Nat.le_refl _) HX3.out.size hg4 (fun z hz => by
    simp [Value.ownBlock] at hz
    subst hz
    exact HB2.out)
  rw [← ints_append] at ho4
  have HSL4 := Lib.hid (ownS_sl ho4)
  have hrb4 : Row w4 u.heap.size 37 [.int .i64 0, .slice none 0 0, .int .u16 0] := (hg4.block u.heap.size HRB3.out.lt (fun e => by
    simp [Value.ownBlock] at e
    have := HRBN.out
    omega)).trans HRB3.out
  have HRB4 := Lib.hid hrb4
  have HX4 := Lib.hid hX4
  have HFILL := Lib.hid (Fill_ok a4 10 c4 60 (layed 8 [s] ++ layed 2 [c]) w4 (head10 s c) HSL4.out (by decide) (by decide))
  clear hb3 hr3 h3 hl8 hl2 hown ho4 hg4 hX4 hrb4 HLAY2 HR2 HX2 HRB HLX2
  go_wp2_with (at_builtin; refine Guard.wpList_append_want _ rfl _ _ _ _ rfl _ _ rfl rfl _ _ hap ?_)
  refine HFILL.out.mono ?_
  rintro e w5 ⟨rfl, hw5⟩
  have hrow5 := Row.new w4 5 (ints .u8 (filled (layed 8 [s] ++ layed 2 [c]) 60))
  rw [← hw5] at hrow5
  have hX45 : Ext w4 w5 := by rw [hw5]; exact (Ext.refl w4).alloc _
  obtain ⟨b5, hb5⟩ : ∃ z, z = w4.heap.size := ⟨_, rfl⟩
  rw [← hb5] at hrow5 ⊢
  have HR5 := Lib.hid hrow5
  have HRB5 := Lib.hid (HRB4.out.ext hX45)
  have HX5 := Lib.hid (HX4.out.trans hX45)
  have HJ5 := Lib.hid (HJ.out.ext HX5.out)
  have hlf : (filled (layed 8 [s] ++ layed 2 [c]) 60).length = 60 := length_filled _ _ (by rw [head10]; decide)
  have hbf : isBytes (filled (layed 8 [s] ++ layed 2 [c]) 60) := isBytes_filled _ _ (fun x hx => by
    rcases List.mem_append.1 hx with hx | hx
    · exact isBytes_layed _ _ x hx
    · exact isBytes_layed _ _ x hx)
  have HSEAL := Lib.hid (fun (v : World) (e : Ext w5 v) => Seal_ok (some ⟨b5, 0, none⟩) 60 60 (filled (layed 8 [s] ++ layed 2 [c]) 60) v hlf (by decide) hbf ((HR5.out.ext e).sl0) (by decide) (by decide))
  clear hw5 hrow5 hX45 hb5 hlf hbf hap HFILL HSL4
  go_wp2_with fail
  refine wp_region_held_drew (S := (fun v => Row v gj 67 (jRow g f n s0) ∧ Ext u v)) (by kernel_rfl) ⟨HJ5.out.ext (Ext.refl _).drew, HX5.out.trans (Ext.refl _).drew⟩ (fun hHeld => ?_)
  have HXV := Lib.hid (show Ext w5 w5.drew from (Ext.refl _).drew)
  generalize w5.drew = v0 at *
  refine takeD (i := 0) (v := ?_) rfl rfl (by kernel_rfl) (by kernel_rfl) (by kernel_rfl) (fun _ _ _ h => h) (Or.inl ⟨by rfl, ?_⟩) hHeld ?_
  rotate_left
  · (intro v hv; (obtain ⟨hv0, hv1⟩ := hv; have c1 := (hv0.cell? 1).trans rfl); go_simp; try (with_reducible rfl))
  (try simp only [List.setIfInBounds_toArray, List.set_cons_zero, List.set_cons_succ])
  refine takeD (i := 1) (v := ?_) rfl rfl (by kernel_rfl) (by kernel_rfl) (by kernel_rfl) (fun _ _ _ h => h) (Or.inl ⟨by rfl, ?_⟩) hHeld ?_
  rotate_left
  · (intro v hv; (obtain ⟨hv0, hv1⟩ := hv; have c1 := (hv0.cell? 1).trans rfl); go_simp; try (with_reducible rfl))
  (try simp only [List.setIfInBounds_toArray, List.set_cons_zero, List.set_cons_succ])
  refine takeD (i := 2) (v := ?_) rfl rfl (by kernel_rfl) (by kernel_rfl) (by kernel_rfl) (fun _ _ _ h => h) (Or.inl ⟨by rfl, ?_⟩) hHeld ?_
  rotate_left
  · (intro v hv; (obtain ⟨hv0, hv1⟩ := hv; have c1 := (hv0.cell? 1).trans rfl); go_simp; try (with_reducible rfl))
  (try simp only [List.setIfInBounds_toArray, List.set_cons_zero, List.set_cons_succ])
  refine takeD (i := 3) (v := ?_) rfl rfl (by kernel_rfl) (by kernel_rfl) (by kernel_rfl) (fun _ _ _ h => h) (Or.inl ⟨by rfl, ?_⟩) hHeld ?_
  rotate_left
  · (intro v hv; (obtain ⟨hv0, hv1⟩ := hv; have c1 := (hv0.cell? 1).trans rfl); go_simp; try (with_reducible rfl))
  (try simp only [List.setIfInBounds_toArray, List.set_cons_zero, List.set_cons_succ])
  refine takeD (i := 4) (v := ?_) rfl rfl (by kernel_rfl) (by kernel_rfl) (by kernel_rfl) (fun _ _ _ h => h) (Or.inl ⟨by rfl, ?_⟩) hHeld ?_
  rotate_left
  · (intro v hv; (obtain ⟨hv0, hv1⟩ := hv; have c1 := (hv0.cell? 1).trans rfl); go_simp; try (with_reducible rfl))
  (try simp only [List.setIfInBounds_toArray, List.set_cons_zero, List.set_cons_succ])
  refine wpAnyH_ready (rs := [5]) (by kernel_rfl) (by simp) ?_
  refine AllReadyH.cons rfl (fun K hK => ?_) AllReadyH.nil
  go_simp
  refine (HSEAL.out _ HXV.out).mono ?_
  rintro e v1 ⟨rfl, hr6, hx6⟩
  obtain ⟨b6, hb6⟩ : ∃ z, z = v0.heap.size := ⟨_, rfl⟩
  rw [← hb6] at hr6 ⊢
  have HB6 := Lib.hid (show u.heap.size < b6 by rw [hb6]; exact Nat.lt_of_lt_of_le HRB5.out.lt HXV.out.size)
  have HR6 := Lib.hid hr6
  have HXV := Lib.hid (HXV.out.trans hx6)
  refine hK.out _ _ ⟨hHeld.1.ext hx6, hHeld.2.trans hx6⟩ (fun hHeld => ?_)
  clear hK hr6 hx6 hb6
  refine takeD (i := 6) (v := ?_) rfl rfl (by kernel_rfl) (by kernel_rfl) (by kernel_rfl) (fun _ _ _ h => h) (Or.inl ⟨by rfl, ?_⟩) hHeld ?_
  rotate_left
  · (intro v hv; (obtain ⟨hv0, hv1⟩ := hv; have c1 := (hv0.cell? 1).trans rfl); go_simp; try (with_reducible rfl))
  (try simp only [List.setIfInBounds_toArray, List.set_cons_zero, List.set_cons_succ])
  refine wpAnyH_ready (rs := [7]) (by kernel_rfl) (by simp) ?_
  refine AllReadyH.cons rfl (fun K hK => ?_) AllReadyH.nil
  first | rw [if_pos (by rfl)] | skip
  refine store_rowN _ _ _ rfl rfl u.heap.size #[.int .i64 f, .slice (some ⟨b6, 0, none⟩) 64 64, .int .u16 0] rfl rfl 37 _ (HRB5.out.ext HXV.out) infoPatch rfl (by simp [Value.oneCell']) ?_
  have hrf := (HRB5.out.ext HXV.out).setRow #[.int .i64 f, .slice (some ⟨b6, 0, none⟩) 64 64, .int .u16 0]
  have hr6f := HR6.out.setRow_other #[.int .i64 f, .slice (some ⟨b6, 0, none⟩) 64 64, .int .u16 0] (Nat.ne_of_gt HB6.out)
  have hxf : Ext u (v1.setRow u.heap.size #[.int .i64 f, .slice (some ⟨b6, 0, none⟩) 64 64, .int .u16 0]) := hHeld.2.setRow (Nat.le_refl _) _
  have hgj : gj ≠ u.heap.size := by have := HJ.out.lt; omega
  refine hK.out _ _ ⟨hHeld.1.setRow_other _ hgj, hxf⟩ (fun hHeld => ?_)
  have HRF := Lib.hid hrf
  have HR6F := Lib.hid hr6f
  have HXF := Lib.hid hxf
  clear hK hrf hr6f hxf hgj
  refine wpAnyH_done (by kernel_rfl) ?_ _
  clear hHeld
  go_wp2
  refine bodyPost_ret (v := .agg #[.int .i64 f, .slice (some ⟨b6, 0, none⟩) 64 64, .int .u16 0]) ?_ rfl ?_
  · have hrow := HRF.out
    exact results_cell_row Try.results30 _ _ u.heap.size 37 #[.int .i64 f, .slice (some ⟨b6, 0, none⟩) 64 64, .int .u16 0] (0, 0) _ rfl (by unfold Row at hrow; simpa using hrow) Try.underlying37 rfl infoPatch
  · exact ⟨b6, rfl, Nat.le_of_lt HB6.out, HR6F.out, HXF.out⟩
end Go.Proofs.Ytfodpphbdbeciaa.Jn
