/- moatlaw14's shown (printed by gen_sh14.py). -/
import Derived.Test.YtnodinancnfoeaaMtH
namespace Go.Proofs.Ytnodinancnfoeaa.Mt
open Go.RowKit Words Mem Plain Ops Agg OwnS Intern Ino
open Go.Proofs.Ytnodinancnfoeaa.Field
set_option linter.ambiguousOpen false
set_option linter.unusedVariables false
set_option linter.unusedSimpArgs false

theorem conv8 (v : World) {a : Option Addr} {n : Nat} (c : Nat) {xs : List Int} (h : Sl v a (ints .u8 xs)) (hl : xs.length = n) : (convert 26 9 (.slice a n c)).run Try.prog v = .ok (.string (strOf xs)) v :=
  run_conv_str (P := Try.prog) v 26 9 5 Try.underlying26 Try.underlying5 Try.underlying9 c h hl
theorem zeroGeo (w : World) : (zeroValue 23).run Try.prog w = .ok (.agg #[.int .i64 0, .int .i64 0, .int .i64 0, .int .i64 0]) w := by kernel_rfl
theorem infoGeo4 : (Try.prog.info? 23).map (·.size) = some 4 := by kernel_rfl
theorem zeros_bytes (n : Nat) : ∀ xs ∈ List.replicate n (List.replicate 64 (0 : Int)), isBytes xs := fun xs hx => by
  obtain rfl := List.eq_of_mem_replicate hx
  intro x hx
  obtain rfl := List.eq_of_mem_replicate hx
  decide
/-- One of some sectors of bytes 0. -/
theorem ls_zero {w : World} {a : Option Addr} {n m : Nat} (h : LsIn w a n (List.replicate m (List.replicate 64 0))) {k : Nat} (hk : k < n) : ∃ b off x c, a = some ⟨b, off, none⟩ ∧ w.cell? ⟨b, off + k, none⟩ = some (.slice x 64 c) ∧ Sl w x (ints .u8 (List.replicate 64 0)) := by
  have hl := h.1
  obtain ⟨b, off, ha, hi⟩ := h.2 (by omega)
  obtain ⟨x, m', c, h1, h2, _, _, h4, _, _⟩ := hi k (by omega)
  rw [List.getElem_replicate] at h2 h4
  rw [List.length_replicate] at h2
  subst h2
  exact ⟨b, off, x, c, ha, h1, h4⟩
set_option maxHeartbeats 8000000 in
set_option maxRecDepth 100000 in
theorem shown_ok (w : World) : Calls Try.prog 9 #[] w fun e w' => e = .returned (.bool true) ∧ Ext w w' := by
  have hr : Super.rightB 20 8 2 4 = true := by decide +kernel
  have hnew := New_yes 20 4 2 8 (w.alloc (.cells #[.int .i64 20, .int .i64 8, .int .i64 2, .int .i64 4] 23)) hr
  have hnew : Calls Try.prog 11 #[.agg #[.int .i64 20, .int .i64 8, .int .i64 2, .int .i64 4]] (w.alloc (.cells #[.int .i64 20, .int .i64 8, .int .i64 2, .int .i64 4] 23)) _ := hnew
  have hl0 := lay0 (J := 20) (P := 4) (G := 2) (q := 4) hr
  have HL0 := Lib.hid hl0
  have HX1 := Lib.hid ((Ext.refl w).alloc (.cells #[.int .i64 20, .int .i64 8, .int .i64 2, .int .i64 4] 23))
  have HR1 := Lib.hid (Row.new w 23 [.int .i64 20, .int .i64 8, .int .i64 2, .int .i64 4])
  have hz := zeroGeo
  have hz2 := zeroMeta
  clear hr hl0
  go_enter Try.func9, Try.ntmps9
  go_wp2_with fail
  refine hnew.mono ?_
  rintro e w2 ⟨p, rfl, hin, h2⟩
  have HIN := Lib.hid hin
  have HX2 := Lib.hid (HX1.out.trans h2)
  have HR2 := Lib.hid (HR1.out.ext h2)
  have hX3 := (Ext.refl w2).alloc (.cells #[.slice p.ra 16 p.rc, .slice p.oa 2 p.oc, .slice p.ua 64 p.uc, .slice p.ia 8 p.ic] 29)
  have HR3 := Lib.hid (HR2.out.ext hX3)
  have HM3 := Lib.hid (Row.new w2 29 [.slice p.ra 16 p.rc, .slice p.oa 2 p.oc, .slice p.ua 64 p.uc, .slice p.ia 8 p.ic])
  have hlay := Lay_ok 20 8 2 4 p (newM 2 8) _ (hin.ext hX3)
  have HX3 := Lib.hid (HX2.out.trans hX3)
  have g0 := (HR3.out.cell? 0).trans rfl
  have g1 := (HR3.out.cell? 1).trans rfl
  have g2 := (HR3.out.cell? 2).trans rfl
  have g3 := (HR3.out.cell? 3).trans rfl
  have hl8 : layM 20 8 2 4 (newM 2 8) = (List.replicate 7 (List.replicate 64 0), 0) := HL0.out
  rw [hl8] at hlay
  have hlay : Calls Try.prog 13 #[.agg #[.int .i64 20, .int .i64 8, .int .i64 2, .int .i64 4], .agg #[.slice p.ra 16 p.rc, .slice p.oa 2 p.oc, .slice p.ua 64 p.uc, .slice p.ia 8 p.ic]] (w2.alloc (.cells #[.slice p.ra 16 p.rc, .slice p.oa 2 p.oc, .slice p.ua 64 p.uc, .slice p.ia 8 p.ic] 29)) _ := hlay
  clear hnew hin h2 hX3 hl8
  rw [show metaV p (newM 2 8) = .agg #[.slice p.ra 16 p.rc, .slice p.oa 2 p.oc, .slice p.ua 64 p.uc, .slice p.ia 8 p.ic] from rfl]
  go_wp2_with fail
  refine hlay.mono ?_
  rintro e w4 ⟨a, cap, rfl, hS, h4⟩
  dsimp only at hS ⊢
  rw [List.length_replicate] at hS ⊢
  have HLS := Lib.hid (hS.ls (zeros_bytes 7))
  have HX4 := Lib.hid (HX3.out.trans h4)
  have HM4 := Lib.hid (HM3.out.ext h4)
  have k0 := (HM4.out.cell? 0).trans rfl
  have k1 := (HM4.out.cell? 1).trans rfl
  have k2 := (HM4.out.cell? 2).trans rfl
  have k3 := (HM4.out.cell? 3).trans rfl
  clear hlay hS h4 g0 g1 g2 g3
  go_wp2_with fail
  go_loopw [56] (fun v wr => ∃ k : Nat, k ≤ 7 ∧ v = .int .i64 k ∧ Ext w4 wr) (fun v _ => 7 - (intOf v).toNat)
  case atStart => exact ⟨0, by omega, rfl, Ext.refl _⟩
  case round =>
    obtain ⟨k, hk, rfl, hX⟩ := hrel
    have HX := Lib.hid hX
    clear hX k0 k1 k2 k3
    by_cases hlt : k < 7
    · obtain ⟨ob, oo, sx, scx, rfl, hoc, hsx⟩ := ls_zero (HLS.out.ext HX.out) hlt
      have hk7 : (k : Int) < 7 := by omega
      obtain ⟨S0, hS0⟩ : ∃ q, q = strOf (List.replicate 64 0) := ⟨_, rfl⟩
      have HS0 := Lib.hid hS0
      have hq1 : (S0.toList == S0.toList) = true := by simp
      have HALL := Lib.hid (show ∀ v : World, Ext wr v → (Ext wr v ∧ v.cell? ⟨ob, oo + k, none⟩ = some (.slice sx 64 scx) ∧ (convert 26 9 (.slice sx 64 scx)).run Try.prog v = .ok (.string S0) v) from fun v hv => ⟨hv, hv.keep hoc, by rw [hS0]; exact conv8 v scx (hsx.ext hv) (by simp)⟩)
      clear hS0 hoc hsx
      go_wp2_with fail
      refine wp_region_held_drew (S := (fun v => Ext wr v ∧ v.cell? ⟨ob, oo + k, none⟩ = some (.slice sx 64 scx) ∧ (convert 26 9 (.slice sx 64 scx)).run Try.prog v = .ok (.string S0) v)) (by kernel_rfl) (HALL.out _ ((Ext.refl _).drew)) (fun hHeld => ?_)
      generalize wr.drew = v0 at *
      refine takeD (i := 0) (v := ?_) rfl rfl (by kernel_rfl) (by kernel_rfl) (by kernel_rfl) (fun _ _ _ h => h) (Or.inl ⟨by rfl, ?_⟩) hHeld ?_
      rotate_left
      · (intro v hv; (try obtain ⟨hv0, hv1, hv2⟩ := hv); go_simp; try (with_reducible rfl))
      (try simp only [List.setIfInBounds_toArray, List.set_cons_zero, List.set_cons_succ])
      refine takeD (i := 1) (v := ?_) rfl rfl (by kernel_rfl) (by kernel_rfl) (by kernel_rfl) (fun _ _ _ h => h) (Or.inl ⟨by rfl, ?_⟩) hHeld ?_
      rotate_left
      · (intro v hv; (try obtain ⟨hv0, hv1, hv2⟩ := hv); go_simp; try (with_reducible rfl))
      (try simp only [List.setIfInBounds_toArray, List.set_cons_zero, List.set_cons_succ])
      refine takeD (i := 2) (v := ?_) rfl rfl (by kernel_rfl) (by kernel_rfl) (by kernel_rfl) (fun _ _ _ h => h) (Or.inl ⟨by rfl, ?_⟩) hHeld ?_
      rotate_left
      · (intro v hv; (try obtain ⟨hv0, hv1, hv2⟩ := hv); go_simp; try (with_reducible rfl))
      (try simp only [List.setIfInBounds_toArray, List.set_cons_zero, List.set_cons_succ])
      refine takeD (i := 3) (v := ?_) rfl rfl (by kernel_rfl) (by kernel_rfl) (by kernel_rfl) (fun _ _ _ h => h) (Or.inl ⟨by rfl, ?_⟩) hHeld ?_
      rotate_left
      · (intro v hv; (try obtain ⟨hv0, hv1, hv2⟩ := hv); go_simp; try (with_reducible rfl))
      (try simp only [List.setIfInBounds_toArray, List.set_cons_zero, List.set_cons_succ])
      refine takeD (i := 4) (v := (.string S0)) rfl rfl (by kernel_rfl) (by kernel_rfl) (by kernel_rfl) (fun _ _ _ h => h) (Or.inl ⟨by rfl, ?_⟩) hHeld ?_
      · (intro v hv; (try obtain ⟨hv0, hv1, hv2⟩ := hv); go_simp; try (with_reducible rfl))
      (try simp only [List.setIfInBounds_toArray, List.set_cons_zero, List.set_cons_succ])
      have hmk := run_make_ints (P := Try.prog) v0 26 5 .u8 1 Try.underlying26 infoBC .i64 .i64 64 64 rfl (by decide) (by decide)
      have hrow5 := Row.new v0 5 (ints .u8 (List.replicate 64 0))
      have hX5 := (Ext.refl v0).alloc (.cells (ints .u8 (List.replicate 64 0)).toArray 5)
      obtain ⟨b5, hb5⟩ : ∃ q, q = v0.heap.size := ⟨_, rfl⟩
      rw [← hb5] at hmk hrow5
      clear hb5
      generalize v0.alloc (.cells (ints .u8 (List.replicate 64 0)).toArray 5) = v1 at *
      have cv5 := conv8 v1 64 hrow5.sl0 (by simp : (List.replicate 64 (0 : Int)).length = 64)
      rw [← HS0.out] at cv5
      refine wpAnyH_ready (rs := [5]) (by kernel_rfl) (by simp) ?_
      refine AllReadyH.cons rfl (fun K hK => ?_) AllReadyH.nil
      go_simp
      refine hK.out _ _ (HALL.out _ (hHeld.1.trans hX5)) (fun hHeld => ?_)
      clear hK
      refine wpAnyH_ready (rs := [6]) (by kernel_rfl) (by simp) ?_
      refine AllReadyH.cons rfl (fun K hK => ?_) AllReadyH.nil
      go_simp
      refine hK.out _ _ hHeld (fun hHeld => ?_)
      clear hK
      refine takeD (i := 7) (v := ?_) rfl rfl (by kernel_rfl) (by kernel_rfl) (by kernel_rfl) (fun _ _ _ h => h) (Or.inl ⟨by rfl, ?_⟩) hHeld ?_
      rotate_left
      · (intro v hv; (try obtain ⟨hv0, hv1, hv2⟩ := hv); go_simp; try (with_reducible rfl))
      (try simp only [List.setIfInBounds_toArray, List.set_cons_zero, List.set_cons_succ])
      refine wpAnyH_done (by kernel_rfl) ?_ _
      have HH := Lib.hid hHeld
      clear hHeld hmk hrow5 hX5 cv5
      go_wp2
      go_roundw
      case rel => exact ⟨k + 1, hlt, by go_num, HX.out.trans HH.out.1⟩
      case measure => simp [intOf]; omega
    · obtain rfl : k = 7 := by omega
      go_wp2
      go_ret
      exact ⟨rfl, HX4.out.trans HX.out⟩
end Go.Proofs.Ytnodinancnfoeaa.Mt
