/- moatlaw05.shown. -/
import Derived.Test.YtfonkicpjkcchaaDkS
namespace Go.Proofs.Ytfonkicpjkcchaa.Dk
open Go.RowKit Words Mem Plain Ops Agg OwnS
set_option linter.ambiguousOpen false
set_option linter.unusedVariables false
set_option linter.unusedSimpArgs false

def sh0 : Dsk := newD 5
def sh1 : Dsk := (writeR sh0 3 (allB 1) 1).1
def sh2 : Dsk := (flushR sh1).1
def sh3 : Dsk := (writeR sh2 3 (allB 2) 2).1
def sh4 : Dsk := (writeR sh3 4 (allB 3) 3).1
def sh5 : Dsk := crashR sh4 2
theorem se1 : (writeR sh0 3 (allB 1) 1).2 = 0 := by kernel_rfl
theorem se2 : (flushR sh1).2 = 0 := by kernel_rfl
theorem se3 : (writeR sh2 3 (allB 2) 2).2 = 0 := by kernel_rfl
theorem se4 : (writeR sh3 4 (allB 3) 3).2 = 0 := by kernel_rfl
theorem se5 : readR sh5 3 = (allB 1, 0) := by kernel_rfl
theorem se6 : readR sh5 4 = (allB 3, 0) := by kernel_rfl
theorem swf0 : sh0.Wf 0 := newD_wf (by decide) 0
theorem swf1 : sh1.Wf 1 := write_wf swf0 3 (by decide)
theorem swf2 : sh2.Wf 2 := flush_wf swf1
theorem swf3 : sh3.Wf 3 := write_wf swf2 3 (by decide)
theorem swf4 : sh4.Wf 4 := write_wf swf3 4 (by decide)

set_option maxHeartbeats 4000000 in
theorem shown_ok (w : World) : Calls Try.prog 8 #[] w fun e w' => e = .returned (.bool true) ∧ Ext w w' := by
  have hnew : Calls Try.prog 9 #[.int .i64 5] w _ := New_at 5 w (by decide)
  go_enter Try.func8, Try.ntmps8
  go_wp2_with fail
  refine hnew.mono ?_
  rintro e u0 ⟨g, gs, sc, rfl, h0⟩
  have H0 := Lib.hid h0
  clear hnew h0
  have hp1 : Calls Try.prog 12 #[.int .i64 3, .int .u8 1] u0 _ := patch_ok 3 1 u0 (by decide)
  go_wp2_with fail
  refine hp1.mono ?_
  rintro e u1 ⟨a1, rfl, ha, hr, hx⟩
  have hw1 := Write_at (D := sh0) H0.out swf0 (by decide) hx ha hr 3
  rw [se1] at hw1
  clear hp1 ha hr hx
  go_wp2_with fail
  refine hw1.mono ?_
  rintro e u2 ⟨rfl, h1⟩
  have hf := Flush_at (D := sh1) h1 swf1 (by decide)
  rw [se2] at hf
  clear hw1 h1
  go_wp2_with fail
  refine hf.mono ?_
  rintro e u3 ⟨rfl, h2⟩
  have H2 := Lib.hid h2
  clear hf h2
  have hp1 : Calls Try.prog 12 #[.int .i64 3, .int .u8 2] u3 _ := patch_ok 3 2 u3 (by decide)
  go_wp2_with fail
  refine hp1.mono ?_
  rintro e u4 ⟨a1, rfl, ha, hr, hx⟩
  have hw1 := Write_at (D := sh2) H2.out swf2 (by decide) hx ha hr 3
  rw [se3] at hw1
  clear hp1 ha hr hx
  go_wp2_with fail
  refine hw1.mono ?_
  rintro e u5 ⟨rfl, h3⟩
  have H3 := Lib.hid h3
  clear hw1 h3
  have hp1 : Calls Try.prog 12 #[.int .i64 4, .int .u8 3] u5 _ := patch_ok 4 3 u5 (by decide)
  go_wp2_with fail
  refine hp1.mono ?_
  rintro e u6 ⟨a1, rfl, ha, hr, hx⟩
  have hw1 := Write_at (D := sh3) H3.out swf3 (by decide) hx ha hr 4
  rw [se4] at hw1
  clear hp1 ha hr hx
  go_wp2_with fail
  refine hw1.mono ?_
  rintro e u7 ⟨rfl, h4⟩
  have hc := Crash_at (D := sh4) h4 swf4 (by decide) 2
  clear hw1 h4
  go_wp2_with fail
  refine hc.mono ?_
  rintro e u8 ⟨rfl, h5⟩
  have H5 := Lib.hid h5
  have hrd := Read_at (D := sh5) h5 3
  rw [se5] at hrd
  clear hc h5
  go_wp2_with fail
  refine hrd.mono ?_
  rintro e u9 ⟨a9, c9, rfl, ho9, hx9⟩
  dsimp only at ho9 ⊢
  rw [allB_len] at ho9 ⊢
  have HO9 := Lib.hid ho9
  have H9 := Lib.hid (H5.out.ext hx9)
  have hrd2 := Read_at (D := sh5) H9.out 4
  rw [se6] at hrd2
  clear hrd ho9 hx9
  go_wp2_with fail
  refine hrd2.mono ?_
  rintro e u10 ⟨a10, c10, rfl, ho10, hx10⟩
  dsimp only at ho10 ⊢
  rw [allB_len] at ho10 ⊢
  have HO10 := Lib.hid ho10
  have HO9' := Lib.hid (ownsRow_ext HO9.out hx10)
  have H10 := Lib.hid (H9.out.ext hx10)
  clear hrd2 ho10 hx10 HO9
  go_wp2_with fail
  have hconv : ∀ (v : World) (a : Option Addr) (c : Nat) (xs : List Int), Sl v a (ints .u8 xs) → xs.length = 64 → (convert 29 9 (.slice a 64 c)).run Try.prog v = .ok (.string (strOf xs)) v := fun v a c xs hs hl => run_conv_str (P := Try.prog) v 29 9 5 Try.underlying29 Try.underlying5 Try.underlying9 c hs hl
  have HCV := Lib.hid hconv
  have hall : ∀ v : World, Ext u10 v → (Ext u10 v ∧ (convert 29 9 (.slice a9 64 c9)).run Try.prog v = .ok (.string (strOf (allB 1))) v ∧ (convert 29 9 (.slice a10 64 c10)).run Try.prog v = .ok (.string (strOf (allB 3))) v) := fun v hv => ⟨hv, hconv v a9 c9 _ (ownsRow_sl (ownsRow_ext HO9'.out hv)) (allB_len 1), hconv v a10 c10 _ (ownsRow_sl (ownsRow_ext HO10.out hv)) (allB_len 3)⟩
  have HALL := Lib.hid hall
  have HS0 := Lib.hid (hall u10 (Ext.refl _))
  have HK := Lib.hid (show ∀ v v' : World, (Ext u10 v ∧ (convert 29 9 (.slice a9 64 c9)).run Try.prog v = .ok (.string (strOf (allB 1))) v ∧ (convert 29 9 (.slice a10 64 c10)).run Try.prog v = .ok (.string (strOf (allB 3))) v) → Ext v v' → (Ext u10 v' ∧ (convert 29 9 (.slice a9 64 c9)).run Try.prog v' = .ok (.string (strOf (allB 1))) v' ∧ (convert 29 9 (.slice a10 64 c10)).run Try.prog v' = .ok (.string (strOf (allB 3))) v') from fun v v' h e => hall v' (h.1.trans e))
  obtain ⟨S1, hS1⟩ : ∃ q, q = strOf (allB 1) := ⟨_, rfl⟩
  obtain ⟨S3, hS3⟩ : ∃ q, q = strOf (allB 3) := ⟨_, rfl⟩
  rw [← hS1, ← hS3] at HS0 HK
  have HE := Lib.hid (And.intro hS1 hS3)
  have hq1 : (S1.toList == S1.toList) = true := by simp
  have hq3 : (S3.toList == S3.toList) = true := by simp
  clear hall HALL hconv hS1 hS3
  refine wp_region_held_drew (S := (fun v => Ext u10 v ∧ (convert 29 9 (.slice a9 64 c9)).run Try.prog v = .ok (.string S1) v ∧ (convert 29 9 (.slice a10 64 c10)).run Try.prog v = .ok (.string S3) v)) (by kernel_rfl) (HK.out _ _ HS0.out ((Ext.refl _).drew)) (fun hHeld => ?_)
  refine takeD (i := 0) (v := ?_) rfl rfl (by kernel_rfl) (by kernel_rfl) (by kernel_rfl) (fun _ _ _ h => h) (Or.inl ⟨by rfl, ?_⟩) hHeld ?_
  rotate_left
  · (intro v hv; (try dsimp only at hv); go_simp; try (with_reducible rfl))
  (try simp only [List.setIfInBounds_toArray, List.set_cons_zero, List.set_cons_succ])
  refine takeD (i := 1) (v := (.string S1)) rfl rfl (by kernel_rfl) (by kernel_rfl) (by kernel_rfl) (fun _ _ _ h => h) (Or.inl ⟨by rfl, ?_⟩) hHeld ?_
  · (intro v hv; obtain ⟨_, hv1, hv2⟩ := hv; go_simp; try (with_reducible rfl))
  (try simp only [List.setIfInBounds_toArray, List.set_cons_zero, List.set_cons_succ])
  refine wpAnyH_ready (rs := [2]) (by kernel_rfl) (by simp) ?_
  refine AllReadyH.cons rfl (fun K hK => ?_) AllReadyH.nil
  go_simp
  have k1 : Calls Try.prog 18 #[.int .u8 1] _ _ := sector_ok 1 u10.drew
  refine k1.mono ?_
  rintro e v1 ⟨b1, rfl, hb1, hr1, hx1⟩
  have cv1 := HCV.out v1 (some ⟨b1, 0, none⟩) 64 _ hr1.sl0 (allB_len 1)
  rw [← HE.out.1] at cv1
  refine hK.out _ _ (HK.out _ _ hHeld hx1) (fun hHeld => ?_)
  clear hK
  refine wpAnyH_ready (rs := [3]) (by kernel_rfl) (by simp) ?_
  refine AllReadyH.cons rfl (fun K hK => ?_) AllReadyH.nil
  go_simp
  refine hK.out _ _ hHeld (fun hHeld => ?_)
  clear hK
  refine takeD (i := 4) (v := ?_) rfl rfl (by kernel_rfl) (by kernel_rfl) (by kernel_rfl) (fun _ _ _ h => h) (Or.inl ⟨by rfl, ?_⟩) hHeld ?_
  rotate_left
  · (intro v hv; obtain ⟨_, hv1, hv2⟩ := hv; go_simp; try (with_reducible rfl))
  (try simp only [List.setIfInBounds_toArray, List.set_cons_zero, List.set_cons_succ])
  refine takeD (i := 5) (v := ?_) rfl rfl (by kernel_rfl) (by kernel_rfl) (by kernel_rfl) (fun _ _ _ h => h) (Or.inl ⟨by rfl, ?_⟩) hHeld ?_
  rotate_left
  · (intro v hv; obtain ⟨_, hv1, hv2⟩ := hv; go_simp; try (with_reducible rfl))
  (try simp only [List.setIfInBounds_toArray, List.set_cons_zero, List.set_cons_succ])
  refine takeD (i := 6) (v := ?_) rfl rfl (by kernel_rfl) (by kernel_rfl) (by kernel_rfl) (fun _ _ _ h => h) (Or.inl ⟨by rfl, ?_⟩) hHeld ?_
  rotate_left
  · (intro v hv; obtain ⟨_, hv1, hv2⟩ := hv; go_simp; try (with_reducible rfl))
  (try simp only [List.setIfInBounds_toArray, List.set_cons_zero, List.set_cons_succ])
  refine takeD (i := 7) (v := ?_) rfl rfl (by kernel_rfl) (by kernel_rfl) (by kernel_rfl) (fun _ _ _ h => h) (Or.inl ⟨by rfl, ?_⟩) hHeld ?_
  rotate_left
  · (intro v hv; obtain ⟨_, hv1, hv2⟩ := hv; go_simp; try (with_reducible rfl))
  (try simp only [List.setIfInBounds_toArray, List.set_cons_zero, List.set_cons_succ])
  refine wpAnyH_ready (rs := [8]) (by kernel_rfl) (by simp) ?_
  refine AllReadyH.cons rfl (fun K hK => ?_) AllReadyH.nil
  go_simp
  have k3 : Calls Try.prog 18 #[.int .u8 3] _ _ := sector_ok 3 v1
  refine k3.mono ?_
  rintro e v3 ⟨b3, rfl, hb3, hr3, hx3⟩
  have cv3 := HCV.out v3 (some ⟨b3, 0, none⟩) 64 _ hr3.sl0 (allB_len 3)
  rw [← HE.out.2] at cv3
  refine hK.out _ _ (HK.out _ _ hHeld hx3) (fun hHeld => ?_)
  clear hK
  refine wpAnyH_ready (rs := [9]) (by kernel_rfl) (by simp) ?_
  refine AllReadyH.cons rfl (fun K hK => ?_) AllReadyH.nil
  go_simp
  refine hK.out _ _ hHeld (fun hHeld => ?_)
  clear hK
  refine takeD (i := 10) (v := ?_) rfl rfl (by kernel_rfl) (by kernel_rfl) (by kernel_rfl) (fun _ _ _ h => h) (Or.inl ⟨by rfl, ?_⟩) hHeld ?_
  rotate_left
  · (intro v hv; obtain ⟨_, hv1, hv2⟩ := hv; go_simp; try (with_reducible rfl))
  (try simp only [List.setIfInBounds_toArray, List.set_cons_zero, List.set_cons_succ])
  refine takeD (i := 11) (v := ?_) rfl rfl (by kernel_rfl) (by kernel_rfl) (by kernel_rfl) (fun _ _ _ h => h) (Or.inl ⟨by rfl, ?_⟩) hHeld ?_
  rotate_left
  · (intro v hv; obtain ⟨_, hv1, hv2⟩ := hv; go_simp; try (with_reducible rfl))
  (try simp only [List.setIfInBounds_toArray, List.set_cons_zero, List.set_cons_succ])
  refine takeD (i := 12) (v := ?_) rfl rfl (by kernel_rfl) (by kernel_rfl) (by kernel_rfl) (fun _ _ _ h => h) (Or.inl ⟨by rfl, ?_⟩) hHeld ?_
  rotate_left
  · (intro v hv; obtain ⟨_, hv1, hv2⟩ := hv; go_simp; try (with_reducible rfl))
  (try simp only [List.setIfInBounds_toArray, List.set_cons_zero, List.set_cons_succ])
  refine wpAnyH_done (by kernel_rfl) ?_ _
  go_wp2
  go_ret
  exact ⟨rfl, H10.out.1.trans hHeld.1⟩
end Go.Proofs.Ytfonkicpjkcchaa.Dk
