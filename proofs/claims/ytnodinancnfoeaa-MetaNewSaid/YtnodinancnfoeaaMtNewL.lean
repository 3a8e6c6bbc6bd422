/- The law MetaNew (printed by gen_metanew14.py). -/
import Derived.Test.YtnodinancnfoeaaMtQ
import Derived.Deep.DeepCutAuto
namespace Go.Proofs.Ytnodinancnfoeaa.Mt
open Go.RowKit Words Mem Plain Ops Agg OwnS Intern Ino
open Go.Joins Go.ChangeShapes Go.WideShapes Go.Deep
set_option linter.ambiguousOpen false
set_option linter.unusedVariables false
set_option linter.unusedSimpArgs false

set_option maxHeartbeats 16000000 in
set_option maxRecDepth 100000 in
theorem new_walk (J I G P : Int) (w : World) :
    Calls Try.prog 8 #[Super.geoV J I G P] w fun e w' => e = .returned (.bool true) ∧ Ext w w' := by
  have X1 := (Ext.refl w).alloc (.cells #[.int .i64 J, .int .i64 I, .int .i64 G, .int .i64 P] 23)
  have hrow1 := Row.new w 23 [.int .i64 J, .int .i64 I, .int .i64 G, .int .i64 P]
  obtain ⟨w1, hw1⟩ : ∃ z, z = w.alloc (.cells #[.int .i64 J, .int .i64 I, .int .i64 G, .int .i64 P] 23) := ⟨_, rfl⟩
  rw [← hw1] at X1
  have hrow1 : Row w1 w.heap.size 23 [.int .i64 J, .int .i64 I, .int .i64 G, .int .i64 P] := by rw [hw1]; exact hrow1
  have HX1 := Lib.hid X1
  have HR1 := Lib.hid hrow1
  have HW1 := Lib.hid hw1
  have hsh := shown_ok w1
  have hz := zeroMeta
  clear X1 hrow1 hw1
  go_enter Try.func8, Try.ntmps8
  go_wp2_with fail
  rw [← HW1.out]
  refine hsh.mono ?_
  rintro e w2 ⟨rfl, h2⟩
  have HX2 := Lib.hid (HX1.out.trans h2)
  have HR2 := Lib.hid (HR1.out.ext h2)
  clear hsh h2 HW1 HX1 HR1
  have g0 := (HR2.out.cell? 0).trans rfl
  have g1 := (HR2.out.cell? 1).trans rfl
  have g2 := (HR2.out.cell? 2).trans rfl
  have g3 := (HR2.out.cell? 3).trans rfl
  cases hr : Super.rightB J I G P
  · have hnew := New_no J I G P w2 hr
    clear hr
    go_wp2_with fail
    refine hnew.mono ?_
    rintro e w3 ⟨rfl, h3⟩
    have X4 := h3.alloc (.cells #[.slice none 0 0, .slice none 0 0, .slice none 0 0, .slice none 0 0] 29)
    have hrow4 := Row.new w3 29 [.slice none 0 0, .slice none 0 0, .slice none 0 0, .slice none 0 0]
    obtain ⟨w4, hw4⟩ : ∃ z, z = w3.alloc (.cells #[.slice none 0 0, .slice none 0 0, .slice none 0 0, .slice none 0 0] 29) := ⟨_, rfl⟩
    rw [← hw4] at X4
    have hrow4 : Row w4 w3.heap.size 29 [.slice none 0 0, .slice none 0 0, .slice none 0 0, .slice none 0 0] := by rw [hw4]; exact hrow4
    have HX4 := Lib.hid (HX2.out.trans X4)
    have HR4 := Lib.hid hrow4
    have hsame := Same_yes nilP nilP nilM w4 (nil_in _) (nil_in _)
    have hsame : Calls Try.prog 15 #[.agg #[.slice none 0 0, .slice none 0 0, .slice none 0 0, .slice none 0 0], .agg #[.slice none 0 0, .slice none 0 0, .slice none 0 0, .slice none 0 0]] w4 _ := hsame
    have HW4 := Lib.hid hw4
    have q0 := (HR4.out.cell? 0).trans rfl
    have q1 := (HR4.out.cell? 1).trans rfl
    have q2 := (HR4.out.cell? 2).trans rfl
    have q3 := (HR4.out.cell? 3).trans rfl
    clear hnew h3 X4 hrow4 hw4 g0 g1 g2 g3
    rw [show metaV nilP nilM = .agg #[.slice none 0 0, .slice none 0 0, .slice none 0 0, .slice none 0 0] from rfl]
    go_wp2_with fail
    rw [← HW4.out]
    go_wp2_with fail
    refine hsame.mono ?_
    rintro e w5 ⟨rfl, h5⟩
    have HX5 := Lib.hid (HX4.out.trans h5)
    clear hsame h5 q0 q1 q2 q3
    go_wp2
    go_ret
    exact ⟨rfl, HX5.out⟩
  have hbd := Super.right_bd hr
  obtain ⟨go, rfl⟩ : ∃ q : Nat, G = q := ⟨G.toNat, by omega⟩
  obtain ⟨q, rfl⟩ : ∃ q : Nat, I = (2 * q : Nat) := ⟨(I / 2).toNat, by omega⟩
  have hgo : go ≤ 64 := by omega
  have hqq : 1 ≤ q ∧ q ≤ 32 := by omega
  have hnew := New_yes J P go (2 * q) w2 hr
  have HR0 := Lib.hid (right0 (J := J) (P := P) (G := go) (I := 2 * q) hr)
  have HL0 := Lib.hid (lay0 (J := J) (P := P) (G := go) (q := q) hr)
  have HS0 := Lib.hid (sect0 (G := go) (q := q) hgo)
  obtain ⟨ni, hni⟩ : ∃ z, z = 2 * q := ⟨_, rfl⟩
  rw [← hni] at hnew HR0 HL0 HS0 HR2 g1
  rw [← hni]
  have HNI := Lib.hid hni
  clear hbd hr hni
  go_wp2_with fail
  refine hnew.mono ?_
  rintro e w3 ⟨p, rfl, hin, h3⟩
  obtain ⟨M, hM⟩ : ∃ z, z = newM go ni := ⟨_, rfl⟩
  have HRL := Lib.hid (show M.rows.length = 16 ∧ M.owners.length = go ∧ M.used.length = 64 ∧ M.inodes.length = ni by rw [hM]; simp [newM])
  rw [← hM] at hin HR0 HL0 HS0 ⊢
  have X4 := h3.alloc (.cells #[.slice p.ra M.rows.length p.rc, .slice p.oa M.owners.length p.oc, .slice p.ua M.used.length p.uc, .slice p.ia M.inodes.length p.ic] 29)
  have hrow4 := Row.new w3 29 [.slice p.ra M.rows.length p.rc, .slice p.oa M.owners.length p.oc, .slice p.ua M.used.length p.uc, .slice p.ia M.inodes.length p.ic]
  obtain ⟨w4, hw4⟩ : ∃ z, z = w3.alloc (.cells #[.slice p.ra M.rows.length p.rc, .slice p.oa M.owners.length p.oc, .slice p.ua M.used.length p.uc, .slice p.ia M.inodes.length p.ic] 29) := ⟨_, rfl⟩
  obtain ⟨g4, hg4⟩ : ∃ z, z = w3.heap.size := ⟨_, rfl⟩
  have hrow4 : Row w4 g4 29 [.slice p.ra M.rows.length p.rc, .slice p.oa M.owners.length p.oc, .slice p.ua M.used.length p.uc, .slice p.ia M.inodes.length p.ic] := by rw [hw4, hg4]; exact hrow4
  rw [← hw4] at X4
  have hin4 : MetaIn w4 p M := hin.ext (by rw [hw4]; exact (Ext.refl _).alloc _)
  have HX4 := Lib.hid (HX2.out.trans X4)
  have HR4 := Lib.hid hrow4
  have HG4 := Lib.hid (HR2.out.ext X4)
  have HIN := Lib.hid hin4
  have HW4 := Lib.hid hw4
  have HGG := Lib.hid hg4
  have HM := Lib.hid hM
  have hlay := Lay_ok J ni go P p M w4 hin4
  rw [HL0.out] at hlay
  have hlay : Calls Try.prog 13 #[Super.geoV J ni go P, .agg #[.slice p.ra M.rows.length p.rc, .slice p.oa M.owners.length p.oc, .slice p.ua M.used.length p.uc, .slice p.ia M.inodes.length p.ic]] w4 _ := hlay
  have q0 := (HR4.out.cell? 0).trans rfl
  have q1 := (HR4.out.cell? 1).trans rfl
  have q2 := (HR4.out.cell? 2).trans rfl
  have q3 := (HR4.out.cell? 3).trans rfl
  clear g0 g1 g2 g3 hnew hin h3 X4 hrow4 hin4 hw4 hg4 hM
  have g0 := (HG4.out.cell? 0).trans rfl
  have g1 := (HG4.out.cell? 1).trans rfl
  have g2 := (HG4.out.cell? 2).trans rfl
  have g3 := (HG4.out.cell? 3).trans rfl
  dsimp only [metaV, metaCs]
  go_upto_region 3 with fail
  rw [← HW4.out, ← HGG.out]
  go_wp2_with fail
  refine hlay.mono ?_
  rintro e w5 ⟨a, cap, rfl, hS, h5⟩
  dsimp only at hS ⊢
  rw [List.length_replicate] at hS ⊢
  have HCAP := Lib.hid (show 3 + q ≤ cap ∧ cap ≤ 9223372036854775807 from by obtain ⟨H, _, hh, _⟩ := hS.ex; exact ownS_cap hh)
  have HLS := Lib.hid (hS.ls (zeros_bytes (3 + q)))
  have HX5 := Lib.hid (HX4.out.trans h5)
  have HR5 := Lib.hid (HR4.out.ext h5)
  have HG5 := Lib.hid (HG4.out.ext h5)
  have HIN5 := Lib.hid (HIN.out.ext h5)
  clear hlay hS h5 g0 g1 g2 g3 q0 q1 q2 q3
  have q0 := (HR5.out.cell? 0).trans rfl
  have q1 := (HR5.out.cell? 1).trans rfl
  have q2 := (HR5.out.cell? 2).trans rfl
  have q3 := (HR5.out.cell? 3).trans rfl
  have g0 := (HG5.out.cell? 0).trans rfl
  have g1 := (HG5.out.cell? 1).trans rfl
  have g2 := (HG5.out.cell? 2).trans rfl
  have g3 := (HG5.out.cell? 3).trans rfl
  have hright := Right_ok J ni go P p M w5 HIN5.out
  rw [HR0.out] at hright
  have hright : Calls Try.prog 16 #[Super.geoV J ni go P, .agg #[.slice p.ra M.rows.length p.rc, .slice p.oa M.owners.length p.oc, .slice p.ua M.used.length p.uc, .slice p.ia M.inodes.length p.ic]] w5 _ := hright
  go_wp2_with fail
  refine hright.mono ?_
  rintro e w6 ⟨rfl, h6⟩
  have HX6 := Lib.hid (HX5.out.trans h6)
  have HR6 := Lib.hid (HR5.out.ext h6)
  have HG6 := Lib.hid (HG5.out.ext h6)
  have HIN6 := Lib.hid (HIN5.out.ext h6)
  have HLS6 := Lib.hid (HLS.out.ext h6)
  clear hright h6 g0 g1 g2 g3 q0 q1 q2 q3
  obtain ⟨n3, hn3⟩ : ∃ z, z = 3 + q := ⟨_, rfl⟩
  rw [← hn3] at HCAP HLS6 HL0 HS0 ⊢
  have hn35 : n3 ≤ 35 ∧ 4 ≤ n3 := by omega
  have HN3 := Lib.hid hn3
  clear hn3
  go_wp2_with fail
  go_loopw [45] (fun v wr => ∃ k : Nat, k ≤ n3 ∧ v = .int .i64 k ∧ Ext w6 wr) (fun v _ => n3 - (intOf v).toNat)
  case atStart => exact ⟨0, by omega, rfl, Ext.refl _⟩
  case round =>
    obtain ⟨k, hk, rfl, hX⟩ := hrel
    have HX := Lib.hid hX
    clear hX
    by_cases hlt : k < n3
    · obtain ⟨ob, oo, sx, scx, rfl, hoc, hsx⟩ := ls_zero (HLS6.out.ext HX.out) hlt
      have hk7 : (k : Int) < n3 := by omega
      obtain ⟨S0, hS0⟩ : ∃ q, q = strOf (List.replicate 64 0) := ⟨_, rfl⟩
      have HS0 := Lib.hid hS0
      have hq1 : (S0.toList == S0.toList) = true := by simp
      have HALL := Lib.hid (show ∀ v : World, Ext wr v → (Ext wr v ∧ v.cell? ⟨ob, oo + k, none⟩ = some (.slice sx 64 scx) ∧ (convert 26 9 (.slice sx 64 scx)).run Try.prog v = .ok (.string S0) v) from fun v hv => ⟨hv, hv.keep hoc, by rw [hS0]; exact conv8 v scx (hsx.ext hv) (by simp)⟩)
      clear hS0 hoc hsx
      go_wp2_with fail
      refine wp_region_held_drew (S := (fun v => Ext wr v ∧ v.cell? ⟨ob, oo + k, none⟩ = some (.slice sx 64 scx) ∧ (convert 26 9 (.slice sx 64 scx)).run Try.prog v = .ok (.string S0) v)) (by kernel_rfl) (HALL.out _ ((Ext.refl _).drew)) (fun hHeld => ?_)
      generalize wr.drew = v0 at *
      refine takeD (i := 0) (v := ?_) rfl rfl (by kernel_rfl) (by kernel_rfl) (by kernel_rfl) (fun _ _ _ h => h) (Or.inl ⟨by rfl, ?_⟩) hHeld ?_
      rotate_left
      · (intro v hv; (try obtain ⟨hv0, hv1, hv2⟩ := hv); go_simp; try (with_reducible rfl))
      (try simp only [List.setIfInBounds_toArray, List.set_cons_zero, List.set_cons_succ])
      refine takeD (i := 1) (v := ?_) rfl rfl (by kernel_rfl) (by kernel_rfl) (by kernel_rfl) (fun _ _ _ h => h) (Or.inl ⟨by rfl, ?_⟩) hHeld ?_
      rotate_left
      · (intro v hv; (try obtain ⟨hv0, hv1, hv2⟩ := hv); go_simp; try (with_reducible rfl))
      (try simp only [List.setIfInBounds_toArray, List.set_cons_zero, List.set_cons_succ])
      refine takeD (i := 2) (v := ?_) rfl rfl (by kernel_rfl) (by kernel_rfl) (by kernel_rfl) (fun _ _ _ h => h) (Or.inl ⟨by rfl, ?_⟩) hHeld ?_
      rotate_left
      · (intro v hv; (try obtain ⟨hv0, hv1, hv2⟩ := hv); go_simp; try (with_reducible rfl))
      (try simp only [List.setIfInBounds_toArray, List.set_cons_zero, List.set_cons_succ])
      refine takeD (i := 3) (v := ?_) rfl rfl (by kernel_rfl) (by kernel_rfl) (by kernel_rfl) (fun _ _ _ h => h) (Or.inl ⟨by rfl, ?_⟩) hHeld ?_
      rotate_left
      · (intro v hv; (try obtain ⟨hv0, hv1, hv2⟩ := hv); go_simp; try (with_reducible rfl))
      (try simp only [List.setIfInBounds_toArray, List.set_cons_zero, List.set_cons_succ])
      refine takeD (i := 4) (v := (.string S0)) rfl rfl (by kernel_rfl) (by kernel_rfl) (by kernel_rfl) (fun _ _ _ h => h) (Or.inl ⟨by rfl, ?_⟩) hHeld ?_
      · (intro v hv; (try obtain ⟨hv0, hv1, hv2⟩ := hv); go_simp; try (with_reducible rfl))
      (try simp only [List.setIfInBounds_toArray, List.set_cons_zero, List.set_cons_succ])
      have hmk := run_make_ints (P := Try.prog) v0 26 5 .u8 1 Try.underlying26 infoBC .i64 .i64 64 64 rfl (by decide) (by decide)
      have hrow5 := Row.new v0 5 (ints .u8 (List.replicate 64 0))
      have hX5 := (Ext.refl v0).alloc (.cells (ints .u8 (List.replicate 64 0)).toArray 5)
      obtain ⟨b5, hb5⟩ : ∃ q, q = v0.heap.size := ⟨_, rfl⟩
      rw [← hb5] at hmk hrow5
      clear hb5
      generalize v0.alloc (.cells (ints .u8 (List.replicate 64 0)).toArray 5) = v1 at *
      have cv5 := conv8 v1 64 hrow5.sl0 (by simp : (List.replicate 64 (0 : Int)).length = 64)
      rw [← HS0.out] at cv5
      refine wpAnyH_ready (rs := [5]) (by kernel_rfl) (by simp) ?_
      refine AllReadyH.cons rfl (fun K hK => ?_) AllReadyH.nil
      go_simp
      refine hK.out _ _ (HALL.out _ (hHeld.1.trans hX5)) (fun hHeld => ?_)
      clear hK
      refine wpAnyH_ready (rs := [6]) (by kernel_rfl) (by simp) ?_
      refine AllReadyH.cons rfl (fun K hK => ?_) AllReadyH.nil
      go_simp
      refine hK.out _ _ hHeld (fun hHeld => ?_)
      clear hK
      refine takeD (i := 7) (v := ?_) rfl rfl (by kernel_rfl) (by kernel_rfl) (by kernel_rfl) (fun _ _ _ h => h) (Or.inl ⟨by rfl, ?_⟩) hHeld ?_
      rotate_left
      · (intro v hv; (try obtain ⟨hv0, hv1, hv2⟩ := hv); go_simp; try (with_reducible rfl))
      (try simp only [List.setIfInBounds_toArray, List.set_cons_zero, List.set_cons_succ])
      refine wpAnyH_done (by kernel_rfl) ?_ _
      have HH := Lib.hid hHeld
      clear hHeld hmk hrow5 hX5 cv5
      go_wp2
      go_roundw
      case rel => exact ⟨k + 1, hlt, by go_num, HX.out.trans HH.out.1⟩
      case measure => simp [intOf]; omega
    · obtain rfl : k = n3 := by omega
      have HG7 := Lib.hid (HG6.out.ext HX.out)
      have g0 := (HG7.out.cell? 0).trans rfl
      have g1 := (HG7.out.cell? 1).trans rfl
      have g2 := (HG7.out.cell? 2).trans rfl
      have g3 := (HG7.out.cell? 3).trans rfl
      have htk := Take_ok J ni go P a k cap (List.replicate k (List.replicate 64 0)) wr (HLS6.out.ext HX.out) (by omega) HCAP.out.1 HCAP.out.2
      rw [← HS0.out, take_sect HR0.out HIN6.out.wfr HIN6.out.wfi] at htk
      go_wp2_with fail
      refine htk.mono ?_
      rintro e w8 ⟨p2, rfl, hin8, h8⟩
      have X9 := h8.alloc (.cells #[.slice p2.ra M.rows.length p2.rc, .slice p2.oa M.owners.length p2.oc, .slice p2.ua M.used.length p2.uc, .slice p2.ia M.inodes.length p2.ic] 29)
      have hrow9 := Row.new w8 29 [.slice p2.ra M.rows.length p2.rc, .slice p2.oa M.owners.length p2.oc, .slice p2.ua M.used.length p2.uc, .slice p2.ia M.inodes.length p2.ic]
      obtain ⟨w9, hw9⟩ : ∃ z, z = w8.alloc (.cells #[.slice p2.ra M.rows.length p2.rc, .slice p2.oa M.owners.length p2.oc, .slice p2.ua M.used.length p2.uc, .slice p2.ia M.inodes.length p2.ic] 29) := ⟨_, rfl⟩
      obtain ⟨g9, hg9⟩ : ∃ z, z = w8.heap.size := ⟨_, rfl⟩
      have hrow9 : Row w9 g9 29 [.slice p2.ra M.rows.length p2.rc, .slice p2.oa M.owners.length p2.oc, .slice p2.ua M.used.length p2.uc, .slice p2.ia M.inodes.length p2.ic] := by rw [hw9, hg9]; exact hrow9
      rw [← hw9] at X9
      have hin9 : MetaIn w9 p2 M := hin8.ext (by rw [hw9]; exact (Ext.refl _).alloc _)
      have HX9 := Lib.hid ((HX6.out.trans HX.out).trans X9)
      have HR9 := Lib.hid (HR6.out.ext (HX.out.trans X9))
      have hsame := Same_yes p2 p M w9 hin9 (HIN6.out.ext (HX.out.trans X9))
      have hsame : Calls Try.prog 15 #[.agg #[.slice p2.ra M.rows.length p2.rc, .slice p2.oa M.owners.length p2.oc, .slice p2.ua M.used.length p2.uc, .slice p2.ia M.inodes.length p2.ic], .agg #[.slice p.ra M.rows.length p.rc, .slice p.oa M.owners.length p.oc, .slice p.ua M.used.length p.uc, .slice p.ia M.inodes.length p.ic]] w9 _ := hsame
      have HRR := Lib.hid hrow9
      have HW9 := Lib.hid hw9
      have HG9 := Lib.hid hg9
      have q0 := (HR9.out.cell? 0).trans rfl
      have q1 := (HR9.out.cell? 1).trans rfl
      have q2 := (HR9.out.cell? 2).trans rfl
      have q3 := (HR9.out.cell? 3).trans rfl
      have s0 := (HRR.out.cell? 0).trans rfl
      have s1 := (HRR.out.cell? 1).trans rfl
      have s2 := (HRR.out.cell? 2).trans rfl
      have s3 := (HRR.out.cell? 3).trans rfl
      clear g0 g1 g2 g3 htk hin8 h8 X9 hrow9 hin9 hw9 hg9
      dsimp only [metaV, metaCs]
      go_upto_region 15 with fail
      rw [← HW9.out, ← HG9.out]
      go_wp2_with fail
      refine hsame.mono ?_
      rintro e w10 ⟨rfl, h10⟩
      have HX10 := Lib.hid (HX9.out.trans h10)
      clear hsame h10 q0 q1 q2 q3 s0 s1 s2 s3
      have h3k : (3 : Int) < k := by omega
      go_wp2
      go_ret
      exact ⟨rfl, HX10.out⟩
theorem law_MetaNew {H : Type} {enc : TypeId × Value → H} {base : Nat} {d0 : DataW H} {p0 : List MemPlace} (v0 : Value) (w : World)
    (ho0 : Value.okWide Try.prog w .any base 23 v0) (h0 : DataW.Trod enc Try.prog w 0 (fun _ => true) true 23 v0 d0 p0) :
    Calls Try.prog 8 #[v0] w fun e w' => e = .returned (.bool true) ∧ Below w.heap.size w w' := by
  obtain ⟨J, I, G, P, rfl⟩ := geo_in ho0 h0
  exact new_walk J I G P w
end Go.Proofs.Ytnodinancnfoeaa.Mt
