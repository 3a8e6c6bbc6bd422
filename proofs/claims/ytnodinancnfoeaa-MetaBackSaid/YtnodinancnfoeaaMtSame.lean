/- moatref14.Same of the same (printed by gen_same14.py). -/
import Derived.Test.YtnodinancnfoeaaMtSS
import Derived.Test.YtnodinancnfoeaaRSame
namespace Go.Proofs.Ytnodinancnfoeaa.Mt
open Go.RowKit Words Mem Plain Ops Agg OwnS Intern Ino
open Go.Proofs.Ytnodinancnfoeaa.Field
set_option linter.ambiguousOpen false
set_option linter.unusedVariables false
set_option linter.unusedSimpArgs false

def BoxM (w : World) (bm : Nat) (p : Pl) (M : MetaT) : Prop :=
  w.cell? ⟨bm, 0, none⟩ = some (.slice p.ra M.rows.length p.rc) ∧ w.cell? ⟨bm, 1, none⟩ = some (.slice p.oa M.owners.length p.oc) ∧ w.cell? ⟨bm, 2, none⟩ = some (.slice p.ua M.used.length p.uc) ∧ w.cell? ⟨bm, 3, none⟩ = some (.slice p.ia M.inodes.length p.ic)
theorem BoxM.ext {w w' : World} {bm : Nat} {p : Pl} {M : MetaT} (h : BoxM w bm p M) (e : Ext w w') : BoxM w' bm p M := by
  obtain ⟨k0, k1, k2, k3⟩ := h
  exact ⟨e.keep k0, e.keep k1, e.keep k2, e.keep k3⟩
theorem BoxM.new (w : World) (p : Pl) (M : MetaT) : BoxM (w.alloc (.cells #[.slice p.ra M.rows.length p.rc, .slice p.oa M.owners.length p.oc, .slice p.ua M.used.length p.uc, .slice p.ia M.inodes.length p.ic] 29)) w.heap.size p M := by
  have h := Row.new w 29 [.slice p.ra M.rows.length p.rc, .slice p.oa M.owners.length p.oc, .slice p.ua M.used.length p.uc, .slice p.ia M.inodes.length p.ic]
  exact ⟨(h.cell? 0).trans rfl, (h.cell? 1).trans rfl, (h.cell? 2).trans rfl, (h.cell? 3).trans rfl⟩
theorem ino_range {w : World} {a : Option Addr} {L : List Ino} (h : Sl w a (flat inoC L)) {k : Nat} (hk : k < L.length) : ∃ b off, a = some ⟨b, off, none⟩ ∧ w.rangeAt b (off + k * 14) (inoC L[k]) := by
  have hfl : (flat inoC L).length = L.length * 14 := flat_length inoC_len _
  have hle : (k + 1) * 14 ≤ L.length * 14 := Nat.mul_le_mul_right 14 hk
  obtain ⟨b, off, ha, hc⟩ := h.at (by omega)
  refine ⟨b, off, ha, fun q v hv => ?_⟩
  have hq : q < 14 := by have := (List.getElem?_eq_some_iff.1 hv).1; rw [inoC_len] at this; exact this
  have := hc (k * 14 + q) (by omega)
  rw [Nat.add_assoc, this, ← hv, ← flat_at inoC_len L k hk q hq, List.getElem?_eq_getElem]
set_option maxHeartbeats 8000000 in
set_option maxRecDepth 100000 in
theorem Same_yes (p q : Pl) (M : MetaT) (w : World) (h : MetaIn w p M) (h' : MetaIn w q M) :
    Calls Try.prog 15 #[metaV p M, metaV q M] w fun e w' => e = .returned (.bool true) ∧ Ext w w' := by
  have X1 := (Ext.refl w).alloc (.cells #[.slice p.ra M.rows.length p.rc, .slice p.oa M.owners.length p.oc, .slice p.ua M.used.length p.uc, .slice p.ia M.inodes.length p.ic] 29)
  have hb1 := BoxM.new w p M
  have hs1 : (w.alloc (.cells #[.slice p.ra M.rows.length p.rc, .slice p.oa M.owners.length p.oc, .slice p.ua M.used.length p.uc, .slice p.ia M.inodes.length p.ic] 29)).heap.size = w.heap.size + 1 := by simp
  generalize hw1 : w.alloc (.cells #[.slice p.ra M.rows.length p.rc, .slice p.oa M.owners.length p.oc, .slice p.ua M.used.length p.uc, .slice p.ia M.inodes.length p.ic] 29) = w1 at *
  have X2 := (Ext.refl w1).alloc (.cells #[.slice q.ra M.rows.length q.rc, .slice q.oa M.owners.length q.oc, .slice q.ua M.used.length q.uc, .slice q.ia M.inodes.length q.ic] 29)
  have hb2 := BoxM.new w1 q M
  rw [hs1] at hb2
  have HX2 := Lib.hid (X1.trans X2)
  have HB1 := Lib.hid (hb1.ext X2)
  have HB2 := Lib.hid hb2
  have hsame := Intern.Same_ok M.rows M.rows p.ra q.ra p.rc q.rc _ (by have := h.few; omega) (h.rows.ext (X1.trans X2)) (h'.rows.ext (X1.trans X2))
  rw [show sameR M.rows M.rows = true by simp [sameR]] at hsame
  have HP := Lib.hid h
  have HQ := Lib.hid h'
  have hf := h.few
  obtain ⟨m0, m1, m2, m3⟩ := HB1.out
  obtain ⟨n0, n1, n2, n3⟩ := HB2.out
  clear X1 X2 hb1 hb2 hs1 h h'
  subst hw1
  go_enter Try.func15, Try.ntmps15
  go_wp2_with fail
  refine hsame.mono ?_
  rintro e w2 ⟨rfl, h2⟩
  have HX3 := Lib.hid (HX2.out.trans h2)
  have HC1 := Lib.hid (HB1.out.ext h2)
  have HC2 := Lib.hid (HB2.out.ext h2)
  clear hsame h2 m0 m1 m2 m3 n0 n1 n2 n3 HB1 HB2
  obtain ⟨m0, m1, m2, m3⟩ := HC1.out
  obtain ⟨n0, n1, n2, n3⟩ := HC2.out
  have cv1 := conv8 w2 p.uc (HP.out.used.ext HX3.out) (rfl : M.used.length = M.used.length)
  have cv2 := conv8 w2 q.uc (HQ.out.used.ext HX3.out) (rfl : M.used.length = M.used.length)
  generalize strOf M.used = SU at *
  have hq1 : (SU.toList == SU.toList) = true := by simp
  go_wp2
  go_loopw [5] (fun v wr => ∃ k : Nat, k ≤ M.owners.length ∧ v = .int .i64 k ∧ Ext w2 wr) (fun v _ => M.owners.length - (intOf v).toNat)
  case atStart => exact ⟨0, by omega, rfl, Ext.refl _⟩
  case round =>
    obtain ⟨k, hk, rfl, hX⟩ := hrel
    have HX := Lib.hid hX
    clear hX m0 m1 m2 m3 n0 n1 n2 n3 cv1 cv2
    obtain ⟨m0, m1, m2, m3⟩ := HC1.out.ext HX.out
    obtain ⟨n0, n1, n2, n3⟩ := HC2.out.ext HX.out
    by_cases hlt : k < M.owners.length
    · obtain ⟨b1, o1, ha1, hx1⟩ := (HP.out.owners.ext (HX3.out.trans HX.out)).ints (by omega)
      obtain ⟨b2, o2, ha2, hx2⟩ := (HQ.out.owners.ext (HX3.out.trans HX.out)).ints (by omega)
      have hx1 := hx1 k hlt
      have hx2 := hx2 k hlt
      have hkn : (k : Int) < (M.owners.length : Int) := by omega
      have hk0 : (0 : Int) ≤ k := by omega
      rw [ha1] at m1
      rw [ha2] at n1
      generalize M.owners[k] = x at *
      clear m0 m2 m3 n0 n2 n3
      go_wp2_with fail
      refine wp_region_held_drew (S := (fun v => Ext wr v ∧ v.cell? ⟨w.heap.size, 1, none⟩ = some (.slice (some ⟨b1, o1, none⟩) M.owners.length p.oc) ∧ v.cell? ⟨w.heap.size + 1, 1, none⟩ = some (.slice (some ⟨b2, o2, none⟩) M.owners.length q.oc) ∧ v.cell? ⟨b1, o1 + k, none⟩ = some (.int .i64 x) ∧ v.cell? ⟨b2, o2 + k, none⟩ = some (.int .i64 x))) (by kernel_rfl) ⟨(Ext.refl _).drew, (Ext.refl _).drew.keep m1, (Ext.refl _).drew.keep n1, (Ext.refl _).drew.keep hx1, (Ext.refl _).drew.keep hx2⟩ (fun hHeld => ?_)
      refine takeD (i := 0) (v := ?_) rfl rfl (by kernel_rfl) (by kernel_rfl) (by kernel_rfl) (fun _ _ _ h => h) (Or.inl ⟨by rfl, ?_⟩) hHeld ?_
      rotate_left
      · (intro v hv; (try obtain ⟨hv0, hv1, hv2, hv3, hv4⟩ := hv); go_simp; try (with_reducible rfl))
      (try simp only [List.setIfInBounds_toArray, List.set_cons_zero, List.set_cons_succ])
      refine takeD (i := 1) (v := ?_) rfl rfl (by kernel_rfl) (by kernel_rfl) (by kernel_rfl) (fun _ _ _ h => h) (Or.inl ⟨by rfl, ?_⟩) hHeld ?_
      rotate_left
      · (intro v hv; (try obtain ⟨hv0, hv1, hv2, hv3, hv4⟩ := hv); go_simp; try (with_reducible rfl))
      (try simp only [List.setIfInBounds_toArray, List.set_cons_zero, List.set_cons_succ])
      refine takeD (i := 2) (v := ?_) rfl rfl (by kernel_rfl) (by kernel_rfl) (by kernel_rfl) (fun _ _ _ h => h) (Or.inl ⟨by rfl, ?_⟩) hHeld ?_
      rotate_left
      · (intro v hv; (try obtain ⟨hv0, hv1, hv2, hv3, hv4⟩ := hv); go_simp; try (with_reducible rfl))
      (try simp only [List.setIfInBounds_toArray, List.set_cons_zero, List.set_cons_succ])
      refine takeD (i := 3) (v := ?_) rfl rfl (by kernel_rfl) (by kernel_rfl) (by kernel_rfl) (fun _ _ _ h => h) (Or.inl ⟨by rfl, ?_⟩) hHeld ?_
      rotate_left
      · (intro v hv; (try obtain ⟨hv0, hv1, hv2, hv3, hv4⟩ := hv); go_simp; try (with_reducible rfl))
      (try simp only [List.setIfInBounds_toArray, List.set_cons_zero, List.set_cons_succ])
      refine takeD (i := 4) (v := ?_) rfl rfl (by kernel_rfl) (by kernel_rfl) (by kernel_rfl) (fun _ _ _ h => h) (Or.inl ⟨by rfl, ?_⟩) hHeld ?_
      rotate_left
      · (intro v hv; (try obtain ⟨hv0, hv1, hv2, hv3, hv4⟩ := hv); go_simp; try (with_reducible rfl))
      (try simp only [List.setIfInBounds_toArray, List.set_cons_zero, List.set_cons_succ])
      refine takeD (i := 5) (v := ?_) rfl rfl (by kernel_rfl) (by kernel_rfl) (by kernel_rfl) (fun _ _ _ h => h) (Or.inl ⟨by rfl, ?_⟩) hHeld ?_
      rotate_left
      · (intro v hv; (try obtain ⟨hv0, hv1, hv2, hv3, hv4⟩ := hv); go_simp; try (with_reducible rfl))
      (try simp only [List.setIfInBounds_toArray, List.set_cons_zero, List.set_cons_succ])
      refine takeD (i := 6) (v := ?_) rfl rfl (by kernel_rfl) (by kernel_rfl) (by kernel_rfl) (fun _ _ _ h => h) (Or.inl ⟨by rfl, ?_⟩) hHeld ?_
      rotate_left
      · (intro v hv; (try obtain ⟨hv0, hv1, hv2, hv3, hv4⟩ := hv); go_simp; try (with_reducible rfl))
      (try simp only [List.setIfInBounds_toArray, List.set_cons_zero, List.set_cons_succ])
      refine takeD (i := 7) (v := ?_) rfl rfl (by kernel_rfl) (by kernel_rfl) (by kernel_rfl) (fun _ _ _ h => h) (Or.inl ⟨by rfl, ?_⟩) hHeld ?_
      rotate_left
      · (intro v hv; (try obtain ⟨hv0, hv1, hv2, hv3, hv4⟩ := hv); go_simp; try (with_reducible rfl))
      (try simp only [List.setIfInBounds_toArray, List.set_cons_zero, List.set_cons_succ])
      refine takeD (i := 8) (v := ?_) rfl rfl (by kernel_rfl) (by kernel_rfl) (by kernel_rfl) (fun _ _ _ h => h) (Or.inl ⟨by rfl, ?_⟩) hHeld ?_
      rotate_left
      · (intro v hv; (try obtain ⟨hv0, hv1, hv2, hv3, hv4⟩ := hv); go_simp; try (with_reducible rfl))
      (try simp only [List.setIfInBounds_toArray, List.set_cons_zero, List.set_cons_succ])
      refine takeD (i := 9) (v := ?_) rfl rfl (by kernel_rfl) (by kernel_rfl) (by kernel_rfl) (fun _ _ _ h => h) (Or.inl ⟨by rfl, ?_⟩) hHeld ?_
      rotate_left
      · (intro v hv; (try obtain ⟨hv0, hv1, hv2, hv3, hv4⟩ := hv); go_simp; try (with_reducible rfl))
      (try simp only [List.setIfInBounds_toArray, List.set_cons_zero, List.set_cons_succ])
      refine takeD (i := 10) (v := ?_) rfl rfl (by kernel_rfl) (by kernel_rfl) (by kernel_rfl) (fun _ _ _ h => h) (Or.inl ⟨by rfl, ?_⟩) hHeld ?_
      rotate_left
      · (intro v hv; (try obtain ⟨hv0, hv1, hv2, hv3, hv4⟩ := hv); go_simp; try (with_reducible rfl))
      (try simp only [List.setIfInBounds_toArray, List.set_cons_zero, List.set_cons_succ])
      refine wpAnyH_done (by kernel_rfl) ?_ _
      have HH := Lib.hid hHeld
      clear hHeld
      go_wp2
      go_roundw
      case rel => exact ⟨k + 1, hlt, by go_num, HX.out.trans HH.out.1⟩
      case measure => simp [intOf]; omega
    · obtain rfl : k = M.owners.length := by omega
      go_wp2
      go_loopw [6] (fun v wr2 => ∃ k : Nat, k ≤ M.inodes.length ∧ v = .int .i64 k ∧ Ext w2 wr2) (fun v _ => M.inodes.length - (intOf v).toNat)
      case atStart => exact ⟨0, by omega, rfl, HX.out⟩
      case round =>
        obtain ⟨k, hk, rfl, hX4⟩ := hrel
        have HX4 := Lib.hid hX4
        clear hX4 m0 m1 m2 m3 n0 n1 n2 n3
        obtain ⟨m0, m1, m2, m3⟩ := HC1.out.ext HX4.out
        obtain ⟨n0, n1, n2, n3⟩ := HC2.out.ext HX4.out
        by_cases hlt : k < M.inodes.length
        · obtain ⟨b1, o1, ha1, hx1⟩ := ino_range (HP.out.inodes.ext (HX3.out.trans HX4.out)) hlt
          obtain ⟨b2, o2, ha2, hx2⟩ := ino_range (HQ.out.inodes.ext (HX3.out.trans HX4.out)) hlt
          have hkn : (k : Int) < (M.inodes.length : Int) := by omega
          have hk0 : (0 : Int) ≤ k := by omega
          rw [ha1] at m3
          rw [ha2] at n3
          generalize M.inodes[k] = n at *
          have hx1 : wr.rangeAt b1 (o1 + k * 14) [.int .u8 n.k, .int .u8 n.r, .int .i64 n.l, .int .i64 n.s, .int .i64 n.d0, .int .i64 n.d1, .int .i64 n.d2, .int .i64 n.d3, .int .i64 n.d4, .int .i64 n.d5, .int .i64 n.d6, .int .i64 n.d7, .int .i64 n.i, .int .i64 n.j] := hx1
          have hx2 : wr.rangeAt b2 (o2 + k * 14) [.int .u8 n.k, .int .u8 n.r, .int .i64 n.l, .int .i64 n.s, .int .i64 n.d0, .int .i64 n.d1, .int .i64 n.d2, .int .i64 n.d3, .int .i64 n.d4, .int .i64 n.d5, .int .i64 n.d6, .int .i64 n.d7, .int .i64 n.i, .int .i64 n.j] := hx2
          have hneq := fun v : World => neqIno n n v
          simp only [Ino.eqB_self, Bool.not_true] at hneq
          clear m0 m1 m2 n0 n1 n2
          go_wp2_with fail
          refine wp_region_held_drew (S := (fun v => Ext wr v ∧ v.cell? ⟨w.heap.size, 3, none⟩ = some (.slice (some ⟨b1, o1, none⟩) M.inodes.length p.ic) ∧ v.cell? ⟨w.heap.size + 1, 3, none⟩ = some (.slice (some ⟨b2, o2, none⟩) M.inodes.length q.ic) ∧ v.rangeAt b1 (o1 + k * 14) [.int .u8 n.k, .int .u8 n.r, .int .i64 n.l, .int .i64 n.s, .int .i64 n.d0, .int .i64 n.d1, .int .i64 n.d2, .int .i64 n.d3, .int .i64 n.d4, .int .i64 n.d5, .int .i64 n.d6, .int .i64 n.d7, .int .i64 n.i, .int .i64 n.j] ∧ v.rangeAt b2 (o2 + k * 14) [.int .u8 n.k, .int .u8 n.r, .int .i64 n.l, .int .i64 n.s, .int .i64 n.d0, .int .i64 n.d1, .int .i64 n.d2, .int .i64 n.d3, .int .i64 n.d4, .int .i64 n.d5, .int .i64 n.d6, .int .i64 n.d7, .int .i64 n.i, .int .i64 n.j])) (by kernel_rfl) ⟨(Ext.refl _).drew, (Ext.refl _).drew.keep m3, (Ext.refl _).drew.keep n3, fun j v hv => (Ext.refl _).drew.keep (hx1 j v hv), fun j v hv => (Ext.refl _).drew.keep (hx2 j v hv)⟩ (fun hHeld => ?_)
          refine takeD (i := 0) (v := ?_) rfl rfl (by kernel_rfl) (by kernel_rfl) (by kernel_rfl) (fun _ _ _ h => h) (Or.inl ⟨by rfl, ?_⟩) hHeld ?_
          rotate_left
          · (intro v hv; (try obtain ⟨hv0, hv1, hv2, hv3, hv4⟩ := hv); go_simp; try (with_reducible rfl))
          (try simp only [List.setIfInBounds_toArray, List.set_cons_zero, List.set_cons_succ])
          refine takeD (i := 1) (v := ?_) rfl rfl (by kernel_rfl) (by kernel_rfl) (by kernel_rfl) (fun _ _ _ h => h) (Or.inl ⟨by rfl, ?_⟩) hHeld ?_
          rotate_left
          · (intro v hv; (try obtain ⟨hv0, hv1, hv2, hv3, hv4⟩ := hv); go_simp; try (with_reducible rfl))
          (try simp only [List.setIfInBounds_toArray, List.set_cons_zero, List.set_cons_succ])
          refine takeD (i := 2) (v := ?_) rfl rfl (by kernel_rfl) (by kernel_rfl) (by kernel_rfl) (fun _ _ _ h => h) (Or.inl ⟨by rfl, ?_⟩) hHeld ?_
          rotate_left
          · (intro v hv; (try obtain ⟨hv0, hv1, hv2, hv3, hv4⟩ := hv); go_simp; try (with_reducible rfl))
          (try simp only [List.setIfInBounds_toArray, List.set_cons_zero, List.set_cons_succ])
          refine takeD (i := 3) (v := ?_) rfl rfl (by kernel_rfl) (by kernel_rfl) (by kernel_rfl) (fun _ _ _ h => h) (Or.inl ⟨by rfl, ?_⟩) hHeld ?_
          rotate_left
          · (intro v hv; (try obtain ⟨hv0, hv1, hv2, hv3, hv4⟩ := hv); go_simp; try (with_reducible rfl))
          (try simp only [List.setIfInBounds_toArray, List.set_cons_zero, List.set_cons_succ])
          refine takeD (i := 4) (v := (.agg n.cs)) rfl rfl (by kernel_rfl) (by kernel_rfl) (by kernel_rfl) (fun _ _ _ h => h) (yieldsIf_load_mid (by rfl) _ _ rfl b1 (o1 + k * 14) rfl [.int .u8 n.k, .int .u8 n.r, .int .i64 n.l, .int .i64 n.s, .int .i64 n.d0, .int .i64 n.d1, .int .i64 n.d2, .int .i64 n.d3, .int .i64 n.d4, .int .i64 n.d5, .int .i64 n.d6, .int .i64 n.d7, .int .i64 n.i, .int .i64 n.j] _ (fun v hv => hv.2.2.2.1) Try.underlying48 rfl infoIno) hHeld ?_
          (try simp only [List.setIfInBounds_toArray, List.set_cons_zero, List.set_cons_succ])
          refine takeD (i := 5) (v := ?_) rfl rfl (by kernel_rfl) (by kernel_rfl) (by kernel_rfl) (fun _ _ _ h => h) (Or.inl ⟨by rfl, ?_⟩) hHeld ?_
          rotate_left
          · (intro v hv; (try obtain ⟨hv0, hv1, hv2, hv3, hv4⟩ := hv); go_simp; try (with_reducible rfl))
          (try simp only [List.setIfInBounds_toArray, List.set_cons_zero, List.set_cons_succ])
          refine takeD (i := 6) (v := ?_) rfl rfl (by kernel_rfl) (by kernel_rfl) (by kernel_rfl) (fun _ _ _ h => h) (Or.inl ⟨by rfl, ?_⟩) hHeld ?_
          rotate_left
          · (intro v hv; (try obtain ⟨hv0, hv1, hv2, hv3, hv4⟩ := hv); go_simp; try (with_reducible rfl))
          (try simp only [List.setIfInBounds_toArray, List.set_cons_zero, List.set_cons_succ])
          refine takeD (i := 7) (v := ?_) rfl rfl (by kernel_rfl) (by kernel_rfl) (by kernel_rfl) (fun _ _ _ h => h) (Or.inl ⟨by rfl, ?_⟩) hHeld ?_
          rotate_left
          · (intro v hv; (try obtain ⟨hv0, hv1, hv2, hv3, hv4⟩ := hv); go_simp; try (with_reducible rfl))
          (try simp only [List.setIfInBounds_toArray, List.set_cons_zero, List.set_cons_succ])
          refine takeD (i := 8) (v := ?_) rfl rfl (by kernel_rfl) (by kernel_rfl) (by kernel_rfl) (fun _ _ _ h => h) (Or.inl ⟨by rfl, ?_⟩) hHeld ?_
          rotate_left
          · (intro v hv; (try obtain ⟨hv0, hv1, hv2, hv3, hv4⟩ := hv); go_simp; try (with_reducible rfl))
          (try simp only [List.setIfInBounds_toArray, List.set_cons_zero, List.set_cons_succ])
          refine takeD (i := 9) (v := (.agg n.cs)) rfl rfl (by kernel_rfl) (by kernel_rfl) (by kernel_rfl) (fun _ _ _ h => h) (yieldsIf_load_mid (by rfl) _ _ rfl b2 (o2 + k * 14) rfl [.int .u8 n.k, .int .u8 n.r, .int .i64 n.l, .int .i64 n.s, .int .i64 n.d0, .int .i64 n.d1, .int .i64 n.d2, .int .i64 n.d3, .int .i64 n.d4, .int .i64 n.d5, .int .i64 n.d6, .int .i64 n.d7, .int .i64 n.i, .int .i64 n.j] _ (fun v hv => hv.2.2.2.2) Try.underlying48 rfl infoIno) hHeld ?_
          (try simp only [List.setIfInBounds_toArray, List.set_cons_zero, List.set_cons_succ])
          refine takeD (i := 10) (v := (.bool false)) rfl rfl (by kernel_rfl) (by kernel_rfl) (by kernel_rfl) (fun _ _ _ h => h) (Or.inl ⟨by rfl, ?_⟩) hHeld ?_
          · (intro v hv; (try obtain ⟨hv0, hv1, hv2, hv3, hv4⟩ := hv); go_simp; try (with_reducible rfl))
          (try simp only [List.setIfInBounds_toArray, List.set_cons_zero, List.set_cons_succ])
          refine wpAnyH_done (by kernel_rfl) ?_ _
          have HH := Lib.hid hHeld
          clear hHeld
          go_wp2
          go_roundw
          case rel => exact ⟨k + 1, hlt, by go_num, HX4.out.trans HH.out.1⟩
          case measure => simp [intOf]; omega
        · obtain rfl : k = M.inodes.length := by omega
          go_wp2
          go_ret
          exact ⟨rfl, HX3.out.trans HX4.out⟩
end Go.Proofs.Ytnodinancnfoeaa.Mt
