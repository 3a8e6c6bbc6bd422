/- The law DiskApart (written by gen_apart.py). -/
import Derived.Test.YtfonkicpjkcchaaDkRun
namespace Go.Proofs.Ytfonkicpjkcchaa.Dk
open Go.RowKit Words Mem Plain Ops Agg OwnS
open Go.Joins Go.ChangeShapes Go.WideShapes Go.Deep
set_option linter.ambiguousOpen false
set_option linter.unusedVariables false
set_option linter.unusedSimpArgs false

theorem DiskAt.same {w w' : World} {base g : Nat} {sa : Option Addr} {sc : Nat} {wa : Option Addr} {wc : Nat} {D : Dsk} (h : DiskAt w base g sa sc wa wc D) (hF : ∀ k, foot g sa wa k → w'.heap[k]? = w.heap[k]?) : DiskAt w' base g sa sc wa wc D :=
  ⟨(hF g (.inl rfl)).trans h.row, ownS_block h.secs (fun ad e => hF _ (.inr (.inl ⟨ad, e, rfl⟩))), ownS_block h.waits (fun ad e => hF _ (.inr (.inr ⟨ad, e, rfl⟩))), h.hb, h.sg, h.wg, h.sw⟩
/-- A disk is crashed beside its copy. -/
theorem Crash_beside {w1 u2 u3 : World} {g gs sc gk gsk sck : Nat} {D K : Dsk} {b : Nat} (hd : At w1 g gs sc D u2) (hk : At u2 gk gsk sck K u3) (hwf : D.Wf b) (hb : b ≤ 100000000) (there : Int) :
    Calls Try.prog 15 #[.pointer (some ⟨g, 0, none⟩), .int .u64 there] u3 fun e w' => e = .returned (.tuple #[]) ∧ DiskAt w' w1.heap.size g (some ⟨gs, 0, none⟩) sc none 0 (crashR D there) ∧ AtM w1 gk gsk sck K (foot g (some ⟨gs, 0, none⟩) none) w' := by
  obtain ⟨h1, wa, wc, h2⟩ := hd
  obtain ⟨k1, ka, kc, k2⟩ := hk
  have h3 := h2.ext k1
  refine (Crash_walk h3 (by have := hwf.many; omega) hwf.few (fun x hx => (hwf.waits x hx).1) there).mono ?_
  rintro e w' ⟨he, hD, hC⟩
  refine ⟨he, hD, Chg.ext (h1.trans k1) hC (fun k hk => (h3.foot_ge k hk).1), ka, kc, (k2.chg hC (fun k hk hf => ?_)).low h1.size, fun k hk => ⟨(hD.foot_ge k hk).2, (hD.foot_ge k hk).1, fun hf => ?_⟩⟩
  · have := (k2.foot_ge k hk).1
    have := (h2.foot_ge k hf).2
    omega
  · have := (k2.foot_ge k hf).1
    have hf2 : foot g (some ⟨gs, 0, none⟩) wa k := by
      rcases hk with e | e | ⟨ad, e, _⟩
      · exact .inl e
      · exact .inr (.inl e)
      · cases e
    have := (h2.foot_ge k hf2).2
    omega
theorem At_same {w1 w w' : World} {g gs sc : Nat} {D : Dsk} (h : DiskAt w w1.heap.size g (some ⟨gs, 0, none⟩) sc none 0 D) (hS : Same (foot g (some ⟨gs, 0, none⟩) none) w w') (hx : Ext w1 w') : At w1 g gs sc D w' :=
  ⟨hx, none, 0, h.same hS⟩

set_option maxHeartbeats 8000000 in
theorem apart_walk (a1 : Option Addr) (n1 cap1 : Nat) (a2 : Option Addr) (n2 cap2 : Nat) (w : World) (hs1 : n1 ≤ cap1) (hm1 : cap1 ≤ 9223372036854775807) (hs2 : n2 ≤ cap2) (hm2 : cap2 ≤ 9223372036854775807)
    (ha1 : ActsAt w a1 n1) (ha2 : ActsAt w a2 n2) :
    Calls Try.prog 7 #[.slice a1 n1 cap1, .slice a2 n2 cap2] w fun e w' => e = .returned (.bool true) ∧ Ext w w' := by
  have HA1 := Lib.hid ha1
  have HA2 := Lib.hid ha2
  have HF1 := Lib.hid (fun (v : World) (e : Ext w v) => few_ok a1 n1 cap1 v hs1 hm1 (ha1.ext e))
  have HF2 := Lib.hid (fun (v : World) (e : Ext w v) => few_ok a2 n2 cap2 v hs2 hm2 (ha2.ext e))
  clear ha1 ha2 hs1 hs2 hm1 hm2
  go_enter Try.func7, Try.ntmps7
  go_wp2_with fail
  refine (shown_ok w).mono ?_
  rintro e w1 ⟨rfl, h1⟩
  have HX1 := Lib.hid h1
  clear h1
  have hnew : Calls Try.prog 9 #[.int .i64 10] w1 _ := New_at 10 w1 (by decide)
  go_wp2_with fail
  refine hnew.mono ?_
  rintro e w2 ⟨g, gs, sc, rfl, h2⟩
  have H2 := Lib.hid h2
  have hf := HF1.out w2 (HX1.out.trans h2.1)
  clear hnew h2 HF1
  go_wp2_with fail
  refine hf.mono ?_
  rintro e w2' ⟨hw2, m1, rfl, hm1, hm1'⟩
  subst hw2
  clear hf
  have HM1 := Lib.hid (HA1.out.fewer hm1)
  clear hm1
  have HLN := Lib.hid (newD_wf (n := 10) (by decide) 0)
  have HL0 := Lib.hid (show (newD 10).secs.length = 10 from rfl)
  go_wp2_with fail
  go_loopw [31] (fun v wr => ∃ (k : Nat) (D : Dsk), k ≤ m1 ∧ v = .int .i64 k ∧ D.Wf k ∧ D.secs.length = 10 ∧ At w1 g gs sc D wr) (fun v _ => m1 - (intOf v).toNat)
  case atStart => exact ⟨0, _, by omega, rfl, HLN.out, HL0.out, H2.out⟩
  case round =>
    obtain ⟨k, D, hk, rfl, hWf, hLen, hA⟩ := hrel
    have HWF := Lib.hid hWf
    have HLEN := Lib.hid hLen
    have HA := Lib.hid hA
    clear hWf hLen hA
    by_cases hlt : k < m1
    · obtain ⟨b, off, rfl, hacts⟩ := HM1.out (by omega)
      obtain ⟨x, hx, hc⟩ := hacts k hlt
      obtain ⟨c0, c1, c2, c3, c4, c5⟩ := hc.ext (HX1.out.trans HA.out.1)
      have HRUN := Lib.hid (fun (v : World) (hv : At w1 g gs sc D v) => run_ok hv HWF.out (by omega) x hx)
      clear hacts hc hx
      obtain ⟨kind, pos, c, bp, bl, bc, tag, there⟩ := x
      dsimp only at *
      have hrow := Row.new wr 34 [.int .u8 kind, .int .i64 pos, .int .u8 c, .slice bp bl bc, .int .u16 tag, .int .u64 there]
      have hrun := HRUN.out _ (HA.out.ext ((Ext.refl wr).alloc (.cells #[.int .u8 kind, .int .i64 pos, .int .u8 c, .slice bp bl bc, .int .u16 tag, .int .u64 there] 34)))
      have k0 := (hrow.cell? 0).trans rfl
      have k1 := (hrow.cell? 1).trans rfl
      have k2 := (hrow.cell? 2).trans rfl
      have k3 := (hrow.cell? 3).trans rfl
      have k4 := (hrow.cell? 4).trans rfl
      have k5 := (hrow.cell? 5).trans rfl
      clear hrow HRUN
      go_wp2_with fail
      refine hrun.mono ?_
      rintro e u2 ⟨rfl, D', hA2, hW2, hL2⟩
      have HN := Lib.hid (And.intro hW2 (And.intro (hL2.trans HLEN.out) hA2))
      clear hrun hA2 hW2 hL2
      go_wp2
      go_roundw
      case rel => exact ⟨k + 1, D', hlt, by go_num, HN.out.1, HN.out.2.1, HN.out.2.2⟩
      case measure => simp [intOf]; omega
    · obtain rfl : k = m1 := by omega
      clear hk hlt HM1 HA1 H2 HLN HL0
      have hcp := Copy_at HA.out HWF.out (by omega) (by rw [HLEN.out]; decide)
      go_wp2_with fail
      refine hcp.mono ?_
      rintro e u1 ⟨gc, gsc, scc, rfl, hC⟩
      have HC := Lib.hid hC
      have HA2' := Lib.hid (HA.out.ext hC.1)
      clear hcp hC
      have hsn := seen_ok HA2'.out HLEN.out
      go_wp2_with fail
      refine hsn.mono ?_
      rintro e u2 ⟨rfl, hx2⟩
      have HC2 := Lib.hid (HC.out.ext hx2)
      have HD2 := Lib.hid (HA2'.out.ext hx2)
      clear hsn hx2 HC HA2'
      have hsn := seen_ok HC2.out HLEN.out
      have hq1 : ((seenR D).toList == (seenR D).toList) = true := by simp
      go_wp2_with fail
      refine hsn.mono ?_
      rintro e u3 ⟨rfl, hx3⟩
      have HC3 := Lib.hid (HC2.out.ext hx3)
      have HD3 := Lib.hid (HD2.out.ext hx3)
      have hf := HF2.out u3 (HX1.out.trans (HD2.out.1.trans hx3))
      clear hsn hx3 HC2 HD2 HF2
      go_wp2_with fail
      refine hf.mono ?_
      rintro e u3' ⟨hw2, m2, rfl, hm2, hm2'⟩
      subst hw2
      have HM2 := Lib.hid (HA2.out.fewer hm2)
      clear hf hm2 HA2
      obtain ⟨b0, hb0⟩ : ∃ q, q = k := ⟨_, rfl⟩
      have HW0 := Lib.hid (show D.Wf b0 by rw [hb0]; exact HWF.out)
      have hb120 : b0 ≤ 120 := by omega
      have HLEN0 := HLEN
      have HD0 := HA
      obtain ⟨D0, hD0⟩ : ∃ q, q = D := ⟨_, rfl⟩
      go_wp2_with fail
      go_loopw [57] (fun v wr2 => ∃ (j : Nat) (E : Dsk), j ≤ m2 ∧ v = .int .i64 j ∧ E.Wf (b0 + j) ∧ E.secs.length = 10 ∧ At wr gc gsc scc E wr2) (fun v _ => m2 - (intOf v).toNat)
      case atStart => exact ⟨0, D, by omega, rfl, HW0.out, HLEN.out, HC3.out⟩
      case round =>
        obtain ⟨j, E, hj, rfl, hWf, hLen, hE⟩ := hrel
        have HWE := Lib.hid hWf
        have HLE := Lib.hid hLen
        have HE := Lib.hid hE
        clear hWf hLen hE
        by_cases hlt : j < m2
        · obtain ⟨b, off, rfl, hacts⟩ := HM2.out (by omega)
          obtain ⟨x, hx, hc⟩ := hacts j hlt
          obtain ⟨c0, c1, c2, c3, c4, c5⟩ := hc.ext (HX1.out.trans (HD0.out.1.trans HE.out.1))
          have hrun := run_ok (HE.out.ext ((Ext.refl wr).alloc (.cells #[.int .u8 x.kind, .int .i64 x.pos, .int .u8 x.c, .slice x.bp x.bl x.bc, .int .u16 x.tag, .int .u64 x.there] 34))) HWE.out (by omega) x hx
          clear hacts hc hx
          obtain ⟨kind, pos, c, bp, bl, bc, tag, there⟩ := x
          dsimp only at *
          have hrow := Row.new wr 34 [.int .u8 kind, .int .i64 pos, .int .u8 c, .slice bp bl bc, .int .u16 tag, .int .u64 there]
          have k0 := (hrow.cell? 0).trans rfl
          have k1 := (hrow.cell? 1).trans rfl
          have k2 := (hrow.cell? 2).trans rfl
          have k3 := (hrow.cell? 3).trans rfl
          have k4 := (hrow.cell? 4).trans rfl
          have k5 := (hrow.cell? 5).trans rfl
          clear hrow
          go_wp2_with fail
          refine hrun.mono ?_
          rintro e u2 ⟨rfl, E', hA2, hW2, hL2⟩
          have HN := Lib.hid (And.intro hW2 (And.intro (hL2.trans HLE.out) hA2))
          clear hrun hA2 hW2 hL2
          go_wp2
          go_roundw
          case rel => exact ⟨j + 1, E', hlt, by go_num, by rw [← Nat.add_assoc]; exact HN.out.1, HN.out.2.1, HN.out.2.2⟩
          case measure => simp [intOf]; omega
        · obtain rfl : j = m2 := by omega
          clear hj hlt HM2 HW0 hb0 hb120 HLEN0 hD0
          have HDW := Lib.hid (HD0.out.ext HE.out.1)
          have hsn := seen_ok HDW.out HLEN.out
          go_wp2_with fail
          refine hsn.mono ?_
          rintro e v1 ⟨rfl, hx1⟩
          have HD1 := Lib.hid (HDW.out.ext hx1)
          have hcp := Copy_at HD1.out HWF.out (by omega) (by rw [HLEN.out]; decide)
          clear hsn hx1
          go_wp2_with fail
          refine hcp.mono ?_
          rintro e v2 ⟨gk, gsk, sck, rfl, hK⟩
          have hcr : Calls Try.prog 15 #[.pointer (some ⟨g, 0, none⟩), .int .u64 6] v2 _ := Crash_beside HD1.out hK HWF.out (by omega) 6
          clear hcp hK
          go_wp2_with fail
          refine hcr.mono ?_
          rintro e v3 ⟨rfl, hD3, hK3⟩
          have HD3 := Lib.hid hD3
          have hcr : Calls Try.prog 15 #[.pointer (some ⟨gk, 0, none⟩), .int .u64 6] v3 _ := Crash_atM hK3 HWF.out (by omega) 6
          clear hD3 hK3
          go_wp2_with fail
          refine hcr.mono ?_
          rintro e v4 ⟨rfl, hK4, hS4⟩
          have HK4 := Lib.hid hK4
          have HD4 := Lib.hid (At_same HD3.out hS4 hK4.1)
          have hl4 : (crashR D 6).secs.length = 10 := by rw [crash_len]; exact HLEN.out
          have HL4 := Lib.hid hl4
          clear hcr hK4 hS4 hl4
          generalize crashR D 6 = D4 at *
          have hq2 : ((seenR D4).toList == (seenR D4).toList) = true := by simp
          have hsn := seen_ok HD4.out HL4.out
          go_wp2_with fail
          refine hsn.mono ?_
          rintro e v5 ⟨rfl, hx5⟩
          have HK5 := Lib.hid (HK4.out.ext hx5)
          have hsn := seen_ok HK5.out HL4.out
          clear hx5
          go_wp2_with fail
          refine hsn.mono ?_
          rintro e v6 ⟨rfl, hx6⟩
          have HFIN := Lib.hid (HX1.out.trans (HK5.out.1.trans hx6))
          clear hsn hx6
          go_wp2
          go_ret
          exact ⟨rfl, HFIN.out⟩

theorem law_DiskApart {H : Type} {enc : TypeId × Value → H} {base : Nat} {d0 d1 : DataW H} {p0 p1 : List MemPlace} (v0 v1 : Value) (w : World)
    (ho0 : Value.okWide Try.prog w .any base 22 v0) (h0 : DataW.Trod enc Try.prog w 0 (fun _ => true) true 22 v0 d0 p0)
    (ho1 : Value.okWide Try.prog w .any base 22 v1) (h1 : DataW.Trod enc Try.prog w 0 (fun _ => true) true 22 v1 d1 p1) :
    Calls Try.prog 7 #[v0, v1] w fun e w' => e = .returned (.bool true) ∧ Below w.heap.size w w' := by
  obtain ⟨a1, n1, cap1, rfl, hn1, hm1, hs1⟩ := acts_in ho0 h0
  obtain ⟨a2, n2, cap2, rfl, hn2, hm2, hs2⟩ := acts_in ho1 h1
  exact apart_walk a1 n1 cap1 a2 n2 cap2 w hn1 hm1 hn2 hm2 hs1 hs2
end Go.Proofs.Ytfonkicpjkcchaa.Dk
