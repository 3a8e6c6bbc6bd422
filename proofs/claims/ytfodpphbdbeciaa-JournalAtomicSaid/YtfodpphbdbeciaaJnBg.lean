/- begin, of a head (printed by gen_jnbg.py). -/
import Derived.Test.YtfodpphbdbeciaaJnSh
import Derived.Test.YtfodpphbdbeciaaOpenP
import Derived.Test.YtfodpphbdbeciaaSplP
namespace Go.Proofs.Ytfodpphbdbeciaa.Jn
open Go.RowKit Words Mem Plain Ops Agg OwnS Dk
open Go.Proofs.Ytfodpphbdbeciaa.Field Go.Proofs.Ytfodpphbdbeciaa.Sum
set_option maxRecDepth 100000
set_option linter.ambiguousOpen false
set_option linter.unusedVariables false
set_option linter.unusedSimpArgs false

/-- A head's first part. -/
def headF (s c : Int) : List Int := filled (layed 8 [s] ++ layed 2 [c]) 60
theorem headF_len (s c : Int) : (headF s c).length = 60 := length_filled _ _ (by rw [head10]; decide)
theorem headB_parts (s c : Int) : headB s c = headF s c ++ bytesOf 4 (moreN 1 (headF s c)) := rfl
theorem headB_take (s c : Int) : (headB s c).take 60 = headF s c := by rw [headB_parts, List.take_left' (headF_len s c)]
theorem headB_ne (s c : Int) : headB s c ≠ List.replicate 64 0 := fun e => by
  have h1 : headF s c = List.replicate 60 0 := by rw [← headB_take, e]; rfl
  have h2 : bytesOf 4 (moreN 1 (headF s c)) = List.replicate 4 0 := by
    have := congrArg (List.drop 60) e
    rw [headB_parts, List.drop_left' (headF_len s c)] at this
    exact this
  rw [h1] at h2
  exact absurd h2 (by decide +kernel)
theorem headB_sum (s c : Int) : numOf (((headB s c).drop 60).take 4) = moreN 1 ((headB s c).take 60) := by
  rw [headB_take, headB_parts, List.drop_left' (headF_len s c), List.take_of_length_le (by simp [bytesOf])]
  have hb := more_bd 1 (headF s c)
  rw [numOf_bytesOf_of 4 _ hb.1 (by rw [p4]; exact hb.2)]
theorem headF_seq (s c : Int) (hs : 0 ≤ s ∧ s < 18446744073709551616) : numOf (((headF s c).drop 0).take 8) = s := by
  have e : ((headF s c).drop 0).take 8 = bytesOf 8 s := by
    unfold headF filled
    rw [List.drop_zero, List.append_assoc, List.take_left' (by rw [length_layed]; rfl)]
    simp [layed]
  rw [e]
  exact numOf_bytesOf_of 8 s hs.1 (by rw [p8]; exact hs.2)
theorem headF_count (s c : Int) (hc : 0 ≤ c ∧ c < 65536) : numOf (((headF s c).drop 8).take 2) = c := by
  have e : ((headF s c).drop 8).take 2 = bytesOf 2 c := by
    unfold headF filled
    rw [List.append_assoc, List.drop_left' (by rw [length_layed]; rfl), List.take_left' (by rw [length_layed]; rfl)]
    simp [layed]
  rw [e]
  exact numOf_bytesOf_of 2 c hc.1 (by rw [p2]; exact hc.2)
set_option maxHeartbeats 16000000 in
theorem begin_head {u : World} {gj g nk : Nat} {f s0 : Int} (hj : Row u gj 67 (jRow g f (nk + 1 : Nat) s0)) (hn : nk ≤ 4096) (a : Option Addr) (c : Nat) (s q : Int) (hsl : Sl u a (ints .u8 (headB s q))) (hs : 0 ≤ s ∧ s < 18446744073709551616) (hq : 0 ≤ q ∧ q < 65536) (hqr : q ≤ roomN (nk + 1 : Nat)) (hc : 64 ≤ c) (hcm : c ≤ 9223372036854775807) (hna : ∀ ad, a = some ad → ad.block ≠ gj) :
    Calls Try.prog 28 #[.pointer (some ⟨gj, 0, none⟩), .slice a 64 c] u fun e w' => e = .returned (.tuple #[.int .i64 q, .bool true]) ∧ Row w' gj 67 (jRow g f (nk + 1 : Nat) s) ∧ Dk.Chg (fun k => k = gj) u w' := by
  obtain ⟨S0, hS0⟩ : ∃ z, z = strOf (headB s q) := ⟨_, rfl⟩
  obtain ⟨Z0, hZ0⟩ : ∃ z, z = strOf (List.replicate 64 0) := ⟨_, rfl⟩
  have HS0 := Lib.hid hS0
  have HZ0 := Lib.hid hZ0
  have hne : (S0.toList == Z0.toList) = false := by
    rw [hS0, hZ0, strOf_eq (headB_bytes s q) (fun x hx => by obtain rfl := List.eq_of_mem_replicate hx; decide)]
    exact decide_eq_false (headB_ne s q)
  have hee : (S0.toList == S0.toList) = true := by simp
  have HJ := Lib.hid hj
  have HSL := Lib.hid hsl
  have HQ := Lib.hid hqr
  have HCC := Lib.hid (And.intro hc hcm)
  have HNE := Lib.hid hna
  clear hS0 hZ0 hj hsl hqr hc hcm hna
  go_enter Try.func28, Try.ntmps28
  go_wp2_with fail
  refine wp_region_held_drew (S := (fun v => Ext u v ∧ Sl v a (ints .u8 (headB s q)))) (by kernel_rfl) ⟨(Ext.refl _).drew, HSL.out.ext (Ext.refl _).drew⟩ (fun hHeld => ?_)
  generalize u.drew = v0 at *
  refine takeD (i := 0) (v := ?_) rfl rfl (by kernel_rfl) (by kernel_rfl) (by kernel_rfl) (fun _ _ _ h => h) (Or.inl ⟨by rfl, ?_⟩) hHeld ?_
  rotate_left
  · (intro v hv; (obtain ⟨hv0, hv1⟩ := hv); go_simp; try (with_reducible rfl))
  (try simp only [List.setIfInBounds_toArray, List.set_cons_zero, List.set_cons_succ])
  refine takeD (i := 1) (v := (.string S0)) rfl rfl (by kernel_rfl) (by kernel_rfl) (by kernel_rfl) (fun _ _ _ h => h) (Or.inl ⟨by rfl, ?_⟩) hHeld ?_
  · (intro v hv; (obtain ⟨hv0, hv1⟩ := hv; have cvv := conv8 v c hv1 (headB_len s q); rw [← HS0.out] at cvv); go_simp; try (with_reducible rfl))
  (try simp only [List.setIfInBounds_toArray, List.set_cons_zero, List.set_cons_succ])
  have hmk := run_make_ints (P := Try.prog) v0 34 5 .u8 1 Try.underlying34 info8' .i64 .i64 64 64 rfl (by decide) (by decide)
  have hrow5 := Row.new v0 5 (ints .u8 (List.replicate 64 0))
  have hX5 := (Ext.refl v0).alloc (.cells (ints .u8 (List.replicate 64 0)).toArray 5)
  obtain ⟨b5, hb5⟩ : ∃ q, q = v0.heap.size := ⟨_, rfl⟩
  rw [← hb5] at hmk hrow5
  clear hb5
  generalize v0.alloc (.cells (ints .u8 (List.replicate 64 0)).toArray 5) = v1 at *
  have cv5 := conv8 v1 64 hrow5.sl0 (by simp : (List.replicate 64 (0 : Int)).length = 64)
  rw [← HZ0.out] at cv5
  refine wpAnyH_ready (rs := [2]) (by kernel_rfl) (by simp) ?_
  refine AllReadyH.cons rfl (fun K hK => ?_) AllReadyH.nil
  go_simp
  refine hK.out _ _ ⟨hHeld.1.trans hX5, hHeld.2.ext hX5⟩ (fun hHeld => ?_)
  clear hK
  refine wpAnyH_ready (rs := [3]) (by kernel_rfl) (by simp) ?_
  refine AllReadyH.cons rfl (fun K hK => ?_) AllReadyH.nil
  go_simp
  refine hK.out _ _ hHeld (fun hHeld => ?_)
  clear hK
  refine takeD (i := 4) (v := ?_) rfl rfl (by kernel_rfl) (by kernel_rfl) (by kernel_rfl) (fun _ _ _ h => h) (Or.inl ⟨by rfl, ?_⟩) hHeld ?_
  rotate_left
  · (intro v hv; (obtain ⟨hv0, hv1⟩ := hv); go_simp; try (with_reducible rfl))
  (try simp only [List.setIfInBounds_toArray, List.set_cons_zero, List.set_cons_succ])
  refine wpAnyH_done (by kernel_rfl) ?_ _
  have HH := Lib.hid hHeld
  clear hHeld hmk hrow5 hX5 cv5
  have HO := Lib.hid (Open_yes a 60 c (headB s q) v1 (headB_len s q) (by decide) (headB_bytes s q) HH.out.2 HCC.out.1 HCC.out.2 (headB_sum s q))
  go_wp2_with fail
  refine HO.out.mono ?_
  rintro e w2 ⟨rfl, hw2⟩
  rw [headB_take] at hw2
  have hrow2 := Row.new v1 5 (ints .u8 (headF s q))
  have hX2 := (Ext.refl v1).alloc (.cells (ints .u8 (headF s q)).toArray 5)
  rw [← hw2] at hrow2 hX2
  obtain ⟨b2, hb2⟩ : ∃ z, z = v1.heap.size := ⟨_, rfl⟩
  rw [← hb2] at hrow2 ⊢
  have HX2 := Lib.hid (HH.out.1.trans hX2)
  have HSL2 := Lib.hid (HSL.out.ext HX2.out)
  have HJ2 := Lib.hid (HJ.out.ext HX2.out)
  have hbF : isBytes (headF s q) := isBytes_filled _ _ (fun x hx => by
    rcases List.mem_append.1 hx with hx | hx
    · exact isBytes_layed _ _ x hx
    · exact isBytes_layed _ _ x hx)
  have hg1 := Get_yes (some ⟨b2, 0, none⟩) 60 60 (headF s q) 0 8 w2 (headF_len s q) (by decide) (by decide) (by decide) hbF hrow2.sl0 (by decide)
  have hg2 := Get_yes (some ⟨b2, 0, none⟩) 60 60 (headF s q) 8 2 w2 (headF_len s q) (by decide) (by decide) (by decide) hbF hrow2.sl0 (by decide)
  rw [headF_seq s q hs] at hg1
  rw [headF_count s q hq] at hg2
  have HG1 := Lib.hid (show Calls Try.prog 37 #[.slice (some ⟨b2, 0, none⟩) 60 60, .int .i64 0, .int .i64 8] w2 fun e w' => e = .returned (.tuple #[.int .u64 s, .int .i64 0]) ∧ w2 = w' from hg1)
  have HG2 := Lib.hid (show Calls Try.prog 37 #[.slice (some ⟨b2, 0, none⟩) 60 60, .int .i64 8, .int .i64 2] w2 fun e w' => e = .returned (.tuple #[.int .u64 q, .int .i64 0]) ∧ w2 = w' from hg2)
  clear hw2 hrow2 hX2 hb2 hbF hg1 hg2 HO
  go_wp2_with fail
  refine HG1.out.mono ?_
  rintro e w' ⟨rfl, rfl⟩
  go_wp2_with fail
  refine HG2.out.mono ?_
  rintro e w' ⟨rfl, rfl⟩
  have c3 := (HJ2.out.cell? 3).trans rfl
  have f3 := HJ2.out.frozen 3
  have hwq : IntKind.i64.wrap q = q := IntWalk.i64_in _ (by omega)
  obtain ⟨w4, hw4⟩ : ∃ z, z = w2.setCell ⟨gj, 3, none⟩ (.int .u64 s) := ⟨_, rfl⟩
  have HJ4 := Lib.hid (show Row w4 gj 67 (jRow g f (nk + 1 : Nat) s) by rw [hw4]; exact Row.set HJ2.out 3 _)
  have HC4 := Lib.hid (show Dk.Chg (fun k => k = gj) u w4 by rw [hw4]; exact (Dk.Chg.ofExt _ HX2.out).trans (Dk.Chg.ofBy (By.set w2 gj 3 (.int .u64 s)) rfl))
  have hsl4 : Sl w4 a (ints .u8 (headB s q)) := by
    rw [hw4]
    refine sl_kept HSL2.out (fun ad e => (By.set w2 gj 3 (.int .u64 s)).block _ ?_ (by have := HNE.out ad e; simpa using this))
    obtain ⟨ad', e', hc'⟩ := HSL2.out 0 (by rw [ints_length, headB_len]; decide)
    rw [e] at e'; cases e'
    have := World.block_lt_of_cell? w2 _ hc'
    have hb : (ad.add 0).block = ad.block := by unfold Addr.add; split <;> rfl
    rw [hb] at this
    exact this
  have HW4 := Lib.hid hw4
  have HSL4 := Lib.hid hsl4
  obtain ⟨rm, hrm⟩ : ∃ z, z = roomN (nk + 1 : Nat) := ⟨_, rfl⟩
  have HRM := Lib.hid hrm
  have hqr : q ≤ rm := by rw [hrm]; exact HQ.out
  clear hw4 hsl4 hrm HG1 HG2
  go_wp2_with fail
  rw [← HW4.out]
  refine wp_region_held_drew (S := (fun v => Row v gj 67 (jRow g f (nk + 1 : Nat) s) ∧ Sl v a (ints .u8 (headB s q)))) (by kernel_rfl) ⟨HJ4.out.ext (Ext.refl _).drew, HSL4.out.ext (Ext.refl _).drew⟩ (fun hHeld => ?_)
  have HXD := Lib.hid (show Ext w4 w4.drew from (Ext.refl _).drew)
  generalize w4.drew = v5 at *
  refine takeD (i := 0) (v := ?_) rfl rfl (by kernel_rfl) (by kernel_rfl) (by kernel_rfl) (fun _ _ _ h => h) (Or.inl ⟨by rfl, ?_⟩) hHeld ?_
  rotate_left
  · (intro v hv; (obtain ⟨hv0, hv1⟩ := hv); go_simp; try (with_reducible rfl))
  (try simp only [List.setIfInBounds_toArray, List.set_cons_zero, List.set_cons_succ])
  refine takeD (i := 1) (v := ?_) rfl rfl (by kernel_rfl) (by kernel_rfl) (by kernel_rfl) (fun _ _ _ h => h) (Or.inl ⟨by rfl, ?_⟩) hHeld ?_
  rotate_left
  · (intro v hv; (obtain ⟨hv0, hv1⟩ := hv); go_simp; try (with_reducible rfl))
  (try simp only [List.setIfInBounds_toArray, List.set_cons_zero, List.set_cons_succ])
  refine takeD (i := 2) (v := ?_) rfl rfl (by kernel_rfl) (by kernel_rfl) (by kernel_rfl) (fun _ _ _ h => h) (Or.inl ⟨by rfl, ?_⟩) hHeld ?_
  rotate_left
  · (intro v hv; (obtain ⟨hv0, hv1⟩ := hv); go_simp; try (with_reducible rfl))
  (try simp only [List.setIfInBounds_toArray, List.set_cons_zero, List.set_cons_succ])
  refine takeD (i := 3) (v := ?_) rfl rfl (by kernel_rfl) (by kernel_rfl) (by kernel_rfl) (fun _ _ _ h => h) (Or.inl ⟨by rfl, ?_⟩) hHeld ?_
  rotate_left
  · (intro v hv; (obtain ⟨hv0, hv1⟩ := hv); go_simp; try (with_reducible rfl))
  (try simp only [List.setIfInBounds_toArray, List.set_cons_zero, List.set_cons_succ])
  refine takeD (i := 4) (v := ?_) rfl rfl (by kernel_rfl) (by kernel_rfl) (by kernel_rfl) (fun _ _ _ h => h) (Or.inl ⟨by rfl, ?_⟩) hHeld ?_
  rotate_left
  · (intro v hv; (obtain ⟨hv0, hv1⟩ := hv); go_simp; try (with_reducible rfl))
  (try simp only [List.setIfInBounds_toArray, List.set_cons_zero, List.set_cons_succ])
  refine takeD (i := 5) (v := ?_) rfl rfl (by kernel_rfl) (by kernel_rfl) (by kernel_rfl) (fun _ _ _ h => h) (Or.inl ⟨by rfl, ?_⟩) hHeld ?_
  rotate_left
  · (intro v hv; (obtain ⟨hv0, hv1⟩ := hv); go_simp; try (with_reducible rfl))
  (try simp only [List.setIfInBounds_toArray, List.set_cons_zero, List.set_cons_succ])
  refine takeD (i := 9) (v := ?_) rfl rfl (by kernel_rfl) (by kernel_rfl) (by kernel_rfl) (fun _ _ _ h => h) (Or.inl ⟨by rfl, ?_⟩) hHeld ?_
  rotate_left
  · (intro v hv; (obtain ⟨hv0, hv1⟩ := hv); go_simp; try (with_reducible rfl))
  (try simp only [List.setIfInBounds_toArray, List.set_cons_zero, List.set_cons_succ])
  refine takeD (i := 10) (v := (.string S0)) rfl rfl (by kernel_rfl) (by kernel_rfl) (by kernel_rfl) (fun _ _ _ h => h) (Or.inl ⟨by rfl, ?_⟩) hHeld ?_
  · (intro v hv; (obtain ⟨hv0, hv1⟩ := hv; have cvv := conv8 v c hv1 (headB_len s q); rw [← HS0.out] at cvv); go_simp; try (with_reducible rfl))
  (try simp only [List.setIfInBounds_toArray, List.set_cons_zero, List.set_cons_succ])
  refine wpAnyH_ready (rs := [6]) (by kernel_rfl) (by simp) ?_
  refine AllReadyH.cons rfl (fun K hK => ?_) AllReadyH.nil
  go_simp
  refine (head_ok hHeld.1 s q hs hq).mono ?_
  rintro e vp ⟨ap, rfl, hap, hrp, hxp⟩
  have cvp := conv8 vp 64 hrp.sl0 (headB_len s q)
  rw [← HS0.out] at cvp
  have HVP := Lib.hid hxp
  refine hK.out _ _ ⟨hHeld.1.ext hxp, hHeld.2.ext hxp⟩ (fun hHeld => ?_)
  clear hK
  refine takeD (i := 7) (v := (.slice (some ⟨ap, 0, none⟩) 64 64)) rfl rfl (by kernel_rfl) (by kernel_rfl) (by kernel_rfl) (fun _ _ _ h => h) (Or.inl ⟨by rfl, ?_⟩) hHeld ?_
  · (intro v hv; (obtain ⟨hv0, hv1⟩ := hv; have hfl := field_patch f 0 ap v); go_simp; try (with_reducible rfl))
  (try simp only [List.setIfInBounds_toArray, List.set_cons_zero, List.set_cons_succ])
  refine wpAnyH_ready (rs := [8]) (by kernel_rfl) (by simp) ?_
  refine AllReadyH.cons rfl (fun K hK => ?_) AllReadyH.nil
  go_simp
  refine hK.out _ _ hHeld (fun hHeld => ?_)
  clear hK
  refine takeD (i := 11) (v := ?_) rfl rfl (by kernel_rfl) (by kernel_rfl) (by kernel_rfl) (fun _ _ _ h => h) (Or.inl ⟨by rfl, ?_⟩) hHeld ?_
  rotate_left
  · (intro v hv; (obtain ⟨hv0, hv1⟩ := hv); go_simp; try (with_reducible rfl))
  (try simp only [List.setIfInBounds_toArray, List.set_cons_zero, List.set_cons_succ])
  refine takeD (i := 12) (v := ?_) rfl rfl (by kernel_rfl) (by kernel_rfl) (by kernel_rfl) (fun _ _ _ h => h) (Or.inl ⟨by rfl, ?_⟩) hHeld ?_
  rotate_left
  · (intro v hv; (obtain ⟨hv0, hv1⟩ := hv); go_simp; try (with_reducible rfl))
  (try simp only [List.setIfInBounds_toArray, List.set_cons_zero, List.set_cons_succ])
  refine takeD (i := 13) (v := ?_) rfl rfl (by kernel_rfl) (by kernel_rfl) (by kernel_rfl) (fun _ _ _ h => h) (Or.inl ⟨by rfl, ?_⟩) hHeld ?_
  rotate_left
  · (intro v hv; (obtain ⟨hv0, hv1⟩ := hv); go_simp; try (with_reducible rfl))
  (try simp only [List.setIfInBounds_toArray, List.set_cons_zero, List.set_cons_succ])
  refine takeD (i := 14) (v := ?_) rfl rfl (by kernel_rfl) (by kernel_rfl) (by kernel_rfl) (fun _ _ _ h => h) (Or.inl ⟨by rfl, ?_⟩) hHeld ?_
  rotate_left
  · (intro v hv; (obtain ⟨hv0, hv1⟩ := hv); go_simp; try (with_reducible rfl))
  (try simp only [List.setIfInBounds_toArray, List.set_cons_zero, List.set_cons_succ])
  refine takeD (i := 15) (v := ?_) rfl rfl (by kernel_rfl) (by kernel_rfl) (by kernel_rfl) (fun _ _ _ h => h) (Or.inl ⟨by rfl, ?_⟩) hHeld ?_
  rotate_left
  · (intro v hv; (obtain ⟨hv0, hv1⟩ := hv); go_simp; try (with_reducible rfl))
  (try simp only [List.setIfInBounds_toArray, List.set_cons_zero, List.set_cons_succ])
  refine wpAnyH_ready (rs := [16]) (by kernel_rfl) (by simp) ?_
  refine AllReadyH.cons rfl (fun K hK => ?_) AllReadyH.nil
  go_simp
  refine (Room_ok nk hHeld.1 (by omega)).mono ?_
  rintro e vn ⟨rfl, rfl⟩
  rw [← HRM.out]
  refine hK.out _ _ hHeld (fun hHeld => ?_)
  clear hK
  refine takeD (i := 17) (v := ?_) rfl rfl (by kernel_rfl) (by kernel_rfl) (by kernel_rfl) (fun _ _ _ h => h) (Or.inl ⟨by rfl, ?_⟩) hHeld ?_
  rotate_left
  · (intro v hv; (obtain ⟨hv0, hv1⟩ := hv); go_simp; try (with_reducible rfl))
  (try simp only [List.setIfInBounds_toArray, List.set_cons_zero, List.set_cons_succ])
  refine takeD (i := 18) (v := ?_) rfl rfl (by kernel_rfl) (by kernel_rfl) (by kernel_rfl) (fun _ _ _ h => h) (Or.inl ⟨by rfl, ?_⟩) hHeld ?_
  rotate_left
  · (intro v hv; (obtain ⟨hv0, hv1⟩ := hv); go_simp; try (with_reducible rfl))
  (try simp only [List.setIfInBounds_toArray, List.set_cons_zero, List.set_cons_succ])
  refine takeD (i := 19) (v := ?_) rfl rfl (by kernel_rfl) (by kernel_rfl) (by kernel_rfl) (fun _ _ _ h => h) (Or.inl ⟨by rfl, ?_⟩) hHeld ?_
  rotate_left
  · (intro v hv; (obtain ⟨hv0, hv1⟩ := hv); go_simp; try (with_reducible rfl))
  (try simp only [List.setIfInBounds_toArray, List.set_cons_zero, List.set_cons_succ])
  refine takeD (i := 20) (v := ?_) rfl rfl (by kernel_rfl) (by kernel_rfl) (by kernel_rfl) (fun _ _ _ h => h) (Or.inl ⟨by rfl, ?_⟩) hHeld ?_
  rotate_left
  · (intro v hv; (obtain ⟨hv0, hv1⟩ := hv); go_simp; try (with_reducible rfl))
  (try simp only [List.setIfInBounds_toArray, List.set_cons_zero, List.set_cons_succ])
  refine wpAnyH_done (by kernel_rfl) ?_ _
  have HF := Lib.hid hHeld
  clear hHeld
  go_wp2
  go_ret2
  exact ⟨rfl, HF.out.1, HC4.out.trans (Dk.Chg.ofExt _ (HXD.out.trans HVP.out))⟩
end Go.Proofs.Ytfodpphbdbeciaa.Jn
