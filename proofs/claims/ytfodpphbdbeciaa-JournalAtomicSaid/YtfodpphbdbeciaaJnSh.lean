/- moatlaw07's shown (printed by gen_jnsh.py). -/
import Derived.Test.YtfodpphbdbeciaaJnO
import Derived.Test.YtfodpphbdbeciaaJnQ
namespace Go.Proofs.Ytfodpphbdbeciaa.Jn
open Go.RowKit Words Mem Plain Ops Agg OwnS Dk
open Go.Proofs.Ytfodpphbdbeciaa.Field Go.Proofs.Ytfodpphbdbeciaa.Sum
set_option maxRecDepth 100000
set_option linter.ambiguousOpen false
set_option linter.unusedVariables false
set_option linter.unusedSimpArgs false

theorem shown_commit : (commitR (newD 20) 4 (7 + 1 : Nat) 0 [⟨2, allB 5, 5⟩]).2 = (1, 0) ∧ (commitR (newD 20) 4 (7 + 1 : Nat) 0 [⟨2, allB 5, 5⟩]).1.done = 9 ∧ readR (commitR (newD 20) 4 (7 + 1 : Nat) 0 [⟨2, allB 5, 5⟩]).1 2 = (allB 5, 0) := by
  decide +kernel
theorem shown_zero : readR (newD 20) (4 : Nat) = (List.replicate 64 0, 0) := by decide +kernel
theorem field_patch (i t : Int) (ap : Nat) (v : World) : (Instr.field 37 (.agg #[.int .i64 i, .slice (some ⟨ap, 0, none⟩) 64 64, .int .u16 t]) 1).run Try.prog v = .ok (.slice (some ⟨ap, 0, none⟩) 64 64) v := by kernel_rfl
set_option maxHeartbeats 16000000 in
theorem shown_ok (w : World) : Calls Try.prog 9 #[] w fun e w' => e = .returned (.bool true) ∧ Ext w w' := by
  have HNEW := Lib.hid (New_atM 20 w (by decide))
  go_enter Try.func9, Try.ntmps9
  go_wp2_with fail
  refine HNEW.out.mono ?_
  rintro e w1 ⟨g, gs, sc, rfl, hA⟩
  have HA1 := Lib.hid hA
  have HOP := Lib.hid (Open_zero hA 4 8 (by decide) (by decide) (by decide) shown_zero)
  clear hA HNEW
  go_wp2_with fail
  refine HOP.out.mono ?_
  rintro e w2 ⟨gj, rfl, hgj, hr2, h2⟩
  have HR2 := Lib.hid hr2
  have HX2 := Lib.hid h2
  have HA2 := Lib.hid (HA1.out.add (Y := fun q => q = gj) h2 (fun q hq => by subst hq; exact .inr ⟨hgj, hr2.lt⟩))
  have hroom := Room_ok (w := w2) (gj := gj) (g := g) (f := 4) (s := 0) 7 hr2 (by decide)
  rw [show roomN (7 + 1 : Nat) = 6 by decide] at hroom
  have hn15 := Need_ok 15 w2 (by decide) (by decide)
  rw [show needN 15 = 16 by decide] at hn15
  have hn16 := Need_ok 16 w2 (by decide) (by decide)
  rw [show needN 16 = 18 by decide] at hn16
  have HPAT := Lib.hid (patch_ok 2 5 w2 (by decide))
  clear HOP hr2 h2
  go_wp2_with (first
    | (go_at_call 14; refine hroom.mono ?_; rintro e w' ⟨rfl, rfl⟩)
    | fail)
  refine hn15.mono ?_
  rintro e w' ⟨rfl, rfl⟩
  go_wp2_with fail
  refine hn16.mono ?_
  rintro e w' ⟨rfl, rfl⟩
  clear hroom hn15 hn16
  go_wp2_with fail
  refine HPAT.out.mono ?_
  rintro e w3 ⟨a3, rfl, ha3, hr3, h3⟩
  obtain ⟨t1, ht1⟩ : ∃ t : It, t = ⟨⟨2, allB 5, 5⟩, some ⟨a3, 0, none⟩, 64⟩ := ⟨_, rfl⟩
  have HT1V := Lib.hid (show Value.agg #[.int .i64 2, .slice (some ⟨a3, 0, none⟩) 64 64, .int .u16 5] = .agg (itC t1).toArray by rw [ht1]; rfl)
  have hrow4 := Row.new w3 37 (itC t1)
  have hX4 := (Ext.refl w3).alloc (.cells (itC t1).toArray 37)
  obtain ⟨g4, hg4⟩ : ∃ z, z = w3.heap.size := ⟨_, rfl⟩
  obtain ⟨w4, hw4⟩ : ∃ z, z = w3.alloc (.cells (itC t1).toArray 37) := ⟨_, rfl⟩
  have hrow4 : Row w4 g4 37 (itC t1) := by rw [hw4, hg4]; exact hrow4
  rw [← hw4] at hX4
  obtain ⟨X, hXX⟩ : ∃ X : Nat → Prop, X = fun q => q = gj ∨ (w2.heap.size ≤ q ∧ q < w4.heap.size) := ⟨_, rfl⟩
  have hA4 : AtM w g gs sc (newD 20) X w4 := HA2.out.add (h3.trans hX4) (fun q hq => by rw [hXX] at hq; exact hq)
  have hPats : PatsIn X w4 (some ⟨g4, 0, none⟩) 1 [⟨2, allB 5, 5⟩] := by
    have h1 := one_pats (Y := X) hrow4 (by rw [ht1]; exact ⟨allB_bytes (by decide), by show (0 : Int) ≤ 5; decide, by show (5 : Int) ≤ 65535; decide⟩) (by rw [ht1]; exact (hr3.ext hX4).sl0) (by rw [ht1]; exact ⟨Nat.le_of_eq (allB_len 5), by show 64 ≤ 9223372036854775807; decide⟩) (by rw [hXX]; exact .inr ⟨by rw [hg4]; exact h3.size, hrow4.lt⟩) (fun ad e => by
      rw [ht1] at e; cases e
      rw [hXX]; exact .inr ⟨ha3, (hr3.ext hX4).lt⟩)
    rw [ht1] at h1
    exact h1
  have HCM := Lib.hid (Commit_ok (b := 0) (nk := 7) hA4 (newD_wf (by decide) 0) (HR2.out.ext (h3.trans hX4)) (by rw [hXX]; exact .inl rfl) (by decide) (by decide) (by decide) (some ⟨g4, 0, none⟩) 1 1 [⟨2, allB 5, 5⟩] hPats (by decide) (by decide) (by decide) (by decide))
  have HSC := Lib.hid shown_commit
  have HW4 := Lib.hid hw4
  have HG4 := Lib.hid hg4
  generalize hCR : commitR (newD 20) 4 (7 + 1 : Nat) 0 [⟨2, allB 5, 5⟩] = CR at *
  obtain ⟨D5, s5, c5⟩ := CR
  have e5 := HSC.out.1
  dsimp only at e5
  cases e5
  have HD9 := Lib.hid HSC.out.2.1
  have HRD := Lib.hid HSC.out.2.2
  dsimp only at HD9 HRD
  clear hCR HSC hPats hrow4 hX4 hw4 hg4 ht1 hr3 h3 HPAT hA4 hXX
  go_wp2_with (refine wpList_onePat rfl _ rfl t1 HT1V.out ?_; rw [← HW4.out, ← HG4.out])
  refine HCM.out.mono ?_
  rintro e w5 ⟨rfl, hA5, hr5, -⟩
  dsimp only at hA5 hr5 ⊢
  have HA5 := Lib.hid hA5
  have HR5 := Lib.hid hr5
  have HREAD := Lib.hid (show Calls Try.prog 26 #[.pointer (some ⟨g, 0, none⟩), .int .i64 2] w5 (Field.Gave .u8 5 w5 (allB 5, 0)) from by rw [← HRD.out]; exact Read_atM hA5 2)
  clear hA5 hr5 HCM
  go_wp2_with fail
  refine HREAD.out.mono ?_
  rintro e w6 ⟨a6, c6, rfl, ho6, h6⟩
  dsimp only at ho6 ⊢
  rw [allB_len] at ho6 ⊢
  obtain ⟨S5, hS5⟩ : ∃ q, q = strOf (allB 5) := ⟨_, rfl⟩
  have HS5 := Lib.hid hS5
  have hq1 : (S5.toList == S5.toList) = true := by simp
  have HSL := Lib.hid (ownS_sl ho6)
  have HA6 := Lib.hid (HA5.out.ext h6)
  have HR6 := Lib.hid (HR5.out.ext h6)
  have HALL := Lib.hid (show ∀ v v' : World, (AtM w g gs sc D5 X v ∧ Row v gj 67 (jRow g 4 (7 + 1 : Nat) 1) ∧ Sl v a6 (ints .u8 (allB 5))) → Ext v v' → (AtM w g gs sc D5 X v' ∧ Row v' gj 67 (jRow g 4 (7 + 1 : Nat) 1) ∧ Sl v' a6 (ints .u8 (allB 5))) from fun v v' h e => ⟨h.1.ext e, h.2.1.ext e, h.2.2.ext e⟩)
  clear ho6 h6 hS5 HREAD
  go_wp2_with fail
  refine wp_region_held_drew (S := (fun v => AtM w g gs sc D5 X v ∧ Row v gj 67 (jRow g 4 (7 + 1 : Nat) 1) ∧ Sl v a6 (ints .u8 (allB 5)))) (by kernel_rfl) (HALL.out w6 _ ⟨HA6.out, HR6.out, HSL.out⟩ (Ext.refl _).drew) (fun hHeld => ?_)
  generalize w6.drew = v0 at *
  refine takeD (i := 0) (v := ?_) rfl rfl (by kernel_rfl) (by kernel_rfl) (by kernel_rfl) (fun _ _ _ h => h) (Or.inl ⟨by rfl, ?_⟩) hHeld ?_
  rotate_left
  · (intro v hv; (obtain ⟨hv0, hv1, hv2⟩ := hv); go_simp; try (with_reducible rfl))
  (try simp only [List.setIfInBounds_toArray, List.set_cons_zero, List.set_cons_succ])
  refine takeD (i := 1) (v := ?_) rfl rfl (by kernel_rfl) (by kernel_rfl) (by kernel_rfl) (fun _ _ _ h => h) (Or.inl ⟨by rfl, ?_⟩) hHeld ?_
  rotate_left
  · (intro v hv; (obtain ⟨hv0, hv1, hv2⟩ := hv); go_simp; try (with_reducible rfl))
  (try simp only [List.setIfInBounds_toArray, List.set_cons_zero, List.set_cons_succ])
  refine takeD (i := 2) (v := ?_) rfl rfl (by kernel_rfl) (by kernel_rfl) (by kernel_rfl) (fun _ _ _ h => h) (Or.inl ⟨by rfl, ?_⟩) hHeld ?_
  rotate_left
  · (intro v hv; (obtain ⟨hv0, hv1, hv2⟩ := hv); go_simp; try (with_reducible rfl))
  (try simp only [List.setIfInBounds_toArray, List.set_cons_zero, List.set_cons_succ])
  refine takeD (i := 3) (v := ?_) rfl rfl (by kernel_rfl) (by kernel_rfl) (by kernel_rfl) (fun _ _ _ h => h) (Or.inl ⟨by rfl, ?_⟩) hHeld ?_
  rotate_left
  · (intro v hv; (obtain ⟨hv0, hv1, hv2⟩ := hv); go_simp; try (with_reducible rfl))
  (try simp only [List.setIfInBounds_toArray, List.set_cons_zero, List.set_cons_succ])
  refine wpAnyH_ready (rs := [4]) (by kernel_rfl) (by simp) ?_
  refine AllReadyH.cons rfl (fun K hK => ?_) AllReadyH.nil
  go_simp
  refine (Done_atM hHeld.1).mono ?_
  rintro e vn ⟨rfl, rfl⟩
  rw [HD9.out]
  refine hK.out _ _ hHeld (fun hHeld => ?_)
  clear hK
  refine takeD (i := 5) (v := ?_) rfl rfl (by kernel_rfl) (by kernel_rfl) (by kernel_rfl) (fun _ _ _ h => h) (Or.inl ⟨by rfl, ?_⟩) hHeld ?_
  rotate_left
  · (intro v hv; (obtain ⟨hv0, hv1, hv2⟩ := hv); go_simp; try (with_reducible rfl))
  (try simp only [List.setIfInBounds_toArray, List.set_cons_zero, List.set_cons_succ])
  refine takeD (i := 6) (v := ?_) rfl rfl (by kernel_rfl) (by kernel_rfl) (by kernel_rfl) (fun _ _ _ h => h) (Or.inl ⟨by rfl, ?_⟩) hHeld ?_
  rotate_left
  · (intro v hv; (obtain ⟨hv0, hv1, hv2⟩ := hv); go_simp; try (with_reducible rfl))
  (try simp only [List.setIfInBounds_toArray, List.set_cons_zero, List.set_cons_succ])
  refine takeD (i := 7) (v := ?_) rfl rfl (by kernel_rfl) (by kernel_rfl) (by kernel_rfl) (fun _ _ _ h => h) (Or.inl ⟨by rfl, ?_⟩) hHeld ?_
  rotate_left
  · (intro v hv; (obtain ⟨hv0, hv1, hv2⟩ := hv); go_simp; try (with_reducible rfl))
  (try simp only [List.setIfInBounds_toArray, List.set_cons_zero, List.set_cons_succ])
  refine takeD (i := 8) (v := ?_) rfl rfl (by kernel_rfl) (by kernel_rfl) (by kernel_rfl) (fun _ _ _ h => h) (Or.inl ⟨by rfl, ?_⟩) hHeld ?_
  rotate_left
  · (intro v hv; (obtain ⟨hv0, hv1, hv2⟩ := hv); go_simp; try (with_reducible rfl))
  (try simp only [List.setIfInBounds_toArray, List.set_cons_zero, List.set_cons_succ])
  refine wpAnyH_ready (rs := [9]) (by kernel_rfl) (by simp) ?_
  refine AllReadyH.cons rfl (fun K hK => ?_) AllReadyH.nil
  go_simp
  refine (Seq_ok hHeld.2.1).mono ?_
  rintro e vn ⟨rfl, rfl⟩
  refine hK.out _ _ hHeld (fun hHeld => ?_)
  clear hK
  refine takeD (i := 10) (v := ?_) rfl rfl (by kernel_rfl) (by kernel_rfl) (by kernel_rfl) (fun _ _ _ h => h) (Or.inl ⟨by rfl, ?_⟩) hHeld ?_
  rotate_left
  · (intro v hv; (obtain ⟨hv0, hv1, hv2⟩ := hv); go_simp; try (with_reducible rfl))
  (try simp only [List.setIfInBounds_toArray, List.set_cons_zero, List.set_cons_succ])
  refine takeD (i := 11) (v := ?_) rfl rfl (by kernel_rfl) (by kernel_rfl) (by kernel_rfl) (fun _ _ _ h => h) (Or.inl ⟨by rfl, ?_⟩) hHeld ?_
  rotate_left
  · (intro v hv; (obtain ⟨hv0, hv1, hv2⟩ := hv); go_simp; try (with_reducible rfl))
  (try simp only [List.setIfInBounds_toArray, List.set_cons_zero, List.set_cons_succ])
  refine takeD (i := 12) (v := ?_) rfl rfl (by kernel_rfl) (by kernel_rfl) (by kernel_rfl) (fun _ _ _ h => h) (Or.inl ⟨by rfl, ?_⟩) hHeld ?_
  rotate_left
  · (intro v hv; (obtain ⟨hv0, hv1, hv2⟩ := hv); go_simp; try (with_reducible rfl))
  (try simp only [List.setIfInBounds_toArray, List.set_cons_zero, List.set_cons_succ])
  refine takeD (i := 13) (v := ?_) rfl rfl (by kernel_rfl) (by kernel_rfl) (by kernel_rfl) (fun _ _ _ h => h) (Or.inl ⟨by rfl, ?_⟩) hHeld ?_
  rotate_left
  · (intro v hv; (obtain ⟨hv0, hv1, hv2⟩ := hv); go_simp; try (with_reducible rfl))
  (try simp only [List.setIfInBounds_toArray, List.set_cons_zero, List.set_cons_succ])
  refine takeD (i := 14) (v := (.string S5)) rfl rfl (by kernel_rfl) (by kernel_rfl) (by kernel_rfl) (fun _ _ _ h => h) (Or.inl ⟨by rfl, ?_⟩) hHeld ?_
  · (intro v hv; (obtain ⟨hv0, hv1, hv2⟩ := hv; have cvv := conv8 v c6 hv2 (allB_len 5); rw [← HS5.out] at cvv); go_simp; try (with_reducible rfl))
  (try simp only [List.setIfInBounds_toArray, List.set_cons_zero, List.set_cons_succ])
  refine wpAnyH_ready (rs := [15]) (by kernel_rfl) (by simp) ?_
  refine AllReadyH.cons rfl (fun K hK => ?_) AllReadyH.nil
  go_simp
  refine (patch_ok 2 5 _ (by decide)).mono ?_
  rintro e vp ⟨ap, rfl, hap, hrp, hxp⟩
  have cvp := conv8 vp 64 hrp.sl0 (allB_len 5)
  rw [← HS5.out] at cvp
  refine hK.out _ _ (HALL.out _ _ hHeld hxp) (fun hHeld => ?_)
  clear hK
  refine takeD (i := 16) (v := (.slice (some ⟨ap, 0, none⟩) 64 64)) rfl rfl (by kernel_rfl) (by kernel_rfl) (by kernel_rfl) (fun _ _ _ h => h) (Or.inl ⟨by rfl, ?_⟩) hHeld ?_
  · (intro v hv; (obtain ⟨hv0, hv1, hv2⟩ := hv; have hfl := field_patch 2 5 ap v); go_simp; try (with_reducible rfl))
  (try simp only [List.setIfInBounds_toArray, List.set_cons_zero, List.set_cons_succ])
  refine wpAnyH_ready (rs := [17]) (by kernel_rfl) (by simp) ?_
  refine AllReadyH.cons rfl (fun K hK => ?_) AllReadyH.nil
  go_simp
  refine hK.out _ _ hHeld (fun hHeld => ?_)
  clear hK
  refine takeD (i := 18) (v := ?_) rfl rfl (by kernel_rfl) (by kernel_rfl) (by kernel_rfl) (fun _ _ _ h => h) (Or.inl ⟨by rfl, ?_⟩) hHeld ?_
  rotate_left
  · (intro v hv; (obtain ⟨hv0, hv1, hv2⟩ := hv); go_simp; try (with_reducible rfl))
  (try simp only [List.setIfInBounds_toArray, List.set_cons_zero, List.set_cons_succ])
  refine takeD (i := 19) (v := ?_) rfl rfl (by kernel_rfl) (by kernel_rfl) (by kernel_rfl) (fun _ _ _ h => h) (Or.inl ⟨by rfl, ?_⟩) hHeld ?_
  rotate_left
  · (intro v hv; (obtain ⟨hv0, hv1, hv2⟩ := hv); go_simp; try (with_reducible rfl))
  (try simp only [List.setIfInBounds_toArray, List.set_cons_zero, List.set_cons_succ])
  refine takeD (i := 20) (v := ?_) rfl rfl (by kernel_rfl) (by kernel_rfl) (by kernel_rfl) (fun _ _ _ h => h) (Or.inl ⟨by rfl, ?_⟩) hHeld ?_
  rotate_left
  · (intro v hv; (obtain ⟨hv0, hv1, hv2⟩ := hv); go_simp; try (with_reducible rfl))
  (try simp only [List.setIfInBounds_toArray, List.set_cons_zero, List.set_cons_succ])
  refine wpAnyH_done (by kernel_rfl) ?_ _
  have HH := Lib.hid hHeld
  clear hHeld
  go_wp2
  go_ret
  exact ⟨rfl, HH.out.1.1⟩
end Go.Proofs.Ytfodpphbdbeciaa.Jn
