/- Commit's walk. -/
import Derived.Test.YtfodpphbdbeciaaJnC
import Derived.Deep.DeepCutAuto
namespace Go.Proofs.Ytfodpphbdbeciaa.Jn
open Go.RowKit Words Mem Plain Ops Agg OwnS Dk
open Go.Proofs.Ytfodpphbdbeciaa.Field Go.Proofs.Ytfodpphbdbeciaa.Sum
set_option maxRecDepth 100000
set_option linter.ambiguousOpen false
set_option linter.unusedVariables false
set_option linter.unusedSimpArgs false

theorem Commit_nil (a : Option Addr) (m cap : Nat) (w : World) : Calls Try.prog 15 #[.pointer none, .slice a m cap] w fun e w' => e = .returned (.int .i64 2) ∧ w = w' := by
  go_enter Try.func15, Try.ntmps15
  go_wp2
  go_ret
  exact ⟨rfl, rfl⟩
/-- What Commit answers with. -/
def Done (w0 u : World) (g gs sc gj : Nat) (X : Nat → Prop) (f n : Int) (R : Dsk × Int × Int) (e : Ending) (w' : World) : Prop :=
  e = .returned (.int .i64 R.2.2) ∧ AtM w0 g gs sc R.1 X w' ∧ Row w' gj 67 (jRow g f n R.2.1) ∧ Same (fun q => X q ∧ q ≠ gj) u w'
set_option maxHeartbeats 16000000 in
theorem Commit_ok {w0 u : World} {g gs sc gj : Nat} {X : Nat → Prop} {D : Dsk} {f s : Int} {nk b : Nat} (hA : AtM w0 g gs sc D X u) (hwf : D.Wf b) (hj : Row u gj 67 (jRow g f (nk + 1 : Nat) s)) (hX : X gj) (hf : 0 ≤ f ∧ f ≤ 100000) (hn : nk ≤ 4096) (hs : 0 ≤ s ∧ s ≤ 18446744073709551615)
    (a : Option Addr) (m cap : Nat) (L : List PT) (hL : PatsIn X u a m L) (hm : m ≤ 1000000) (hcap : m ≤ cap) (hcm : cap ≤ 9223372036854775807) (hb : b ≤ 1000000) :
    Calls Try.prog 15 #[.pointer (some ⟨gj, 0, none⟩), .slice a m cap] u (Done w0 u g gs sc gj X f (nk + 1 : Nat) (commitR D f (nk + 1 : Nat) s L)) := by
  have HA := Lib.hid hA
  have HWF := Lib.hid hwf
  have HJ := Lib.hid hj
  have HL := Lib.hid hL
  have HCAP := Lib.hid (And.intro hcap hcm)
  clear hA hwf hj hL hcap hcm
  have hSS : ∀ {v : World}, Same X u v → Same (fun q => X q ∧ q ≠ gj) u v := fun h => h.sub (fun q hq => hq.1)
  by_cases hL0 : L = []
  · have HV := Lib.hid (show commitR D f (nk + 1 : Nat) s L = (D, s, 0) by unfold commitR; rw [if_pos hL0])
    have hm0 : m = 0 := by rw [← HL.out.1, hL0]; rfl
    subst hm0
    go_enter Try.func15, Try.ntmps15
    go_wp2
    go_ret
    rw [HV.out]
    exact ⟨rfl, HA.out, HJ.out, hSS (Same.refl _ _)⟩
  have hm1 : 0 < m := by
    rw [← HL.out.1]
    exact List.length_pos_iff.2 hL0
  have hmne : ((m : Int) == 0) = false := by simp; omega
  have hroom := Room_ok nk HJ.out (by omega)
  obtain ⟨room, hrm⟩ : ∃ z, z = roomN (nk + 1 : Nat) := ⟨_, rfl⟩
  rw [← hrm] at hroom
  have HROOM := Lib.hid hrm
  have HL0 := Lib.hid hL0
  clear hrm hL0
  go_enter Try.func15, Try.ntmps15
  go_wp2_with fail
  refine hroom.mono ?_
  rintro e w1 ⟨rfl, rfl⟩
  clear hroom
  by_cases hlong : room < m
  · have HV := Lib.hid (show commitR D f (nk + 1 : Nat) s L = (D, s, 4) by unfold commitR; rw [if_neg HL0.out, if_pos (by rw [← HROOM.out, HL.out.1]; exact hlong)])
    go_wp2
    go_ret
    rw [HV.out]
    exact ⟨rfl, HA.out, HJ.out, hSS (Same.refl _ _)⟩
  have hlong' : ¬ ((room : Int) < m) := hlong
  have HLONG := Lib.hid hlong
  have hout := fun (v : World) (e : Ext u v) (i : Int) => outside_ok (HA.out.ext e) (HJ.out.ext e) hf ⟨by omega, by omega⟩ i
  have HOUT := Lib.hid hout
  clear hout
  go_wp2_with fail
  go_loopw [26] (fun v wr => ∃ k : Nat, k ≤ m ∧ v = .int .i64 k ∧ Ext u wr ∧ (L.take k).all (goodP D.secs.length f (nk + 1 : Nat)) = true) (fun v _ => m - (intOf v).toNat)
  case atStart => exact ⟨0, by omega, rfl, Ext.refl _, rfl⟩
  case round =>
    obtain ⟨k, hk, rfl, hX', hall⟩ := hrel
    have HX := Lib.hid hX'
    have HALL := Lib.hid hall
    clear hX' hall
    by_cases hlt : k < m
    · have hkL : k < L.length := by rw [HL.out.1]; exact hlt
      obtain ⟨bp, off, rfl, hbp, hc⟩ := HL.out.2.2 (by omega)
      obtain ⟨x, cx, hp⟩ := hc k hkL
      have hp2 := hp.same hbp (Same.ofExt HA.out HX.out)
      have HTK := Lib.hid (show (L.take (k + 1)).all (goodP D.secs.length f (nk + 1 : Nat)) = ((L.take k).all (goodP D.secs.length f (nk + 1 : Nat)) && goodP D.secs.length f (nk + 1 : Nat) L[k]) by rw [List.take_succ_eq_append_getElem hkL, List.all_append]; simp)
      have HBADK := Lib.hid (show goodP D.secs.length f (nk + 1 : Nat) L[k] = false → L.all (goodP D.secs.length f (nk + 1 : Nat)) = false from fun h => by
        cases e : L.all (goodP D.secs.length f (nk + 1 : Nat))
        · rfl
        · have := List.all_eq_true.1 e _ (List.getElem_mem hkL)
          rw [h] at this; cases this)
      generalize L[k] = pt at *
      obtain ⟨ps, pb, ptg⟩ := pt
      have k0 := hp2.c0
      have k1 := hp2.c1
      have k2 := hp2.c2
      dsimp only at k0 k1 k2
      have hkm : (k : Int) < m := by omega
      have hzp := zeroPatch
      clear hc hp hp2 hkL
      go_upto_region 10 with fail
      obtain ⟨wb, hwb⟩ : ∃ z, z = wr.alloc (.cells #[.int .i64 ps, .slice x pb.length cx, .int .u16 ptg] 37) := ⟨_, rfl⟩
      have hrb := Row.new wr 37 [.int .i64 ps, .slice x pb.length cx, .int .u16 ptg]
      have hXb := (Ext.refl wr).alloc (.cells #[.int .i64 ps, .slice x pb.length cx, .int .u16 ptg] 37)
      obtain ⟨gb, hgb⟩ : ∃ z, z = wr.heap.size := ⟨_, rfl⟩
      have hrb : Row wb gb 37 [.int .i64 ps, .slice x pb.length cx, .int .u16 ptg] := by rw [hwb, hgb]; exact hrb
      rw [← hwb] at hXb ⊢
      rw [← hgb]
      have HXB := Lib.hid (HX.out.trans hXb)
      have HRB := Lib.hid hrb
      have hcall := HOUT.out wb HXB.out ps
      obtain ⟨ob, hob⟩ : ∃ z, z = outB D.secs.length f (nk + 1 : Nat) ps := ⟨_, rfl⟩
      rw [← hob] at hcall
      have HOB := Lib.hid hob
      have d0 := (hrb.cell? 0).trans rfl
      clear hrb hXb hwb hgb k0 k1 k2 hkm hob
      go_wp2_with fail
      refine hcall.mono ?_
      rintro e w5 ⟨rfl, h5⟩
      have HX5 := Lib.hid (HXB.out.trans h5)
      have d1 := ((HRB.out.ext h5).cell? 1).trans rfl
      clear hcall h5 d0
      cases ob
      · have HV := Lib.hid (show commitR D f (nk + 1 : Nat) s L = (D, s, 1) by
          unfold commitR
          rw [if_neg HL0.out, if_neg (by rw [← HROOM.out, HL.out.1]; exact Int.not_lt.2 HLONG.out), if_pos (HBADK.out (by unfold goodP; rw [← HOB.out]; rfl))])
        go_wp2
        go_ret
        rw [HV.out]
        exact ⟨rfl, HA.out.ext HX5.out, HJ.out.ext HX5.out, hSS (Same.ofExt HA.out HX5.out)⟩
      · by_cases h64 : pb.length = 64
        · have hne : ((pb.length : Int) != 64) = false := by simp [h64]
          have HG := Lib.hid (show (L.take (k + 1)).all (goodP D.secs.length f (nk + 1 : Nat)) = true by
            rw [HTK.out, HALL.out]
            unfold goodP
            rw [← HOB.out]
            simp [h64])
          clear h64
          go_wp2
          go_roundw
          case rel => exact ⟨k + 1, hlt, by go_num, HX5.out, HG.out⟩
          case measure => simp [intOf]; omega
        · have hne : ((pb.length : Int) != 64) = true := by simp; omega
          have HV := Lib.hid (show commitR D f (nk + 1 : Nat) s L = (D, s, 1) by
            unfold commitR
            rw [if_neg HL0.out, if_neg (by rw [← HROOM.out, HL.out.1]; exact Int.not_lt.2 HLONG.out), if_pos (HBADK.out (by unfold goodP; simp [h64]))])
          clear h64
          go_wp2
          go_ret
          rw [HV.out]
          exact ⟨rfl, HA.out.ext HX5.out, HJ.out.ext HX5.out, hSS (Same.ofExt HA.out HX5.out)⟩
    · obtain rfl : k = m := by omega
      have HGOOD := Lib.hid (show L.all (goodP D.secs.length f (nk + 1 : Nat)) = true by
        have := HALL.out
        rw [List.take_of_length_le (Nat.le_of_eq HL.out.1)] at this
        exact this)
      have c3 := ((HJ.out.ext HX.out).cell? 3).trans rfl
      by_cases hmax : s = 18446744073709551615
      · have HV := Lib.hid (show commitR D f (nk + 1 : Nat) s L = (D, s, 1) by
          unfold commitR
          rw [if_neg HL0.out, if_neg (by rw [← HROOM.out, HL.out.1]; exact Int.not_lt.2 HLONG.out), if_neg (by rw [HGOOD.out]; simp), if_pos hmax])
        subst hmax
        clear hlt hk
        go_wp2
        go_ret
        rw [HV.out]
        exact ⟨rfl, HA.out.ext HX.out, HJ.out.ext HX.out, hSS (Same.ofExt HA.out HX.out)⟩
      have HMAX := Lib.hid hmax
      have hws : IntKind.u64.wrap (s + 1) = s + 1 := IntWalk.u64_in _ (by omega)
      have hs1 : ((s + 1 : Int) == 0) = false := by simp; omega
      have HV := Lib.hid (show commitR D f (nk + 1 : Nat) s L = if (runR D (partsP f s L)).2 = 0 then ((runR D (partsP f s L)).1, s + 1, 0) else ((runR D (partsP f s L)).1, s, (runR D (partsP f s L)).2) by
        unfold commitR
        rw [if_neg HL0.out, if_neg (by rw [← HROOM.out, HL.out.1]; exact Int.not_lt.2 HLONG.out), if_neg (by rw [HGOOD.out]; simp), if_neg HMAX.out])
      have hmr : (k : Int) ≤ room := HLONG.out
      have hk4 : k ≤ 4096 := by have := HROOM.out; unfold roomN at this; omega
      have hsec : ∀ p ∈ L, 0 ≤ p.sec ∧ p.sec ≤ 65535 := fun p hp => by
        have h1 := List.all_eq_true.1 HGOOD.out p hp
        unfold goodP at h1
        rw [Bool.and_eq_true] at h1
        have h2 := outB_iff.1 h1.1
        have := HWF.out.few
        omega
      have HLAY := Lib.hid (lay_ok (HA.out.ext HX.out) (HJ.out.ext HX.out) hf a k cap L (HL.out.same (Same.ofExt HA.out HX.out)) hsec (by omega) HCAP.out.1 HCAP.out.2)
      have hzp := zeroPatch
      clear hmax hsec hlt hk hmr
      go_wp2_with fail
      refine HLAY.out.mono ?_
      rintro e w2 ⟨ao, co, O, rfl, hO, hOm, h2⟩
      have HO := Lib.hid hO
      have HOM := Lib.hid hOm
      have HX2 := Lib.hid (HX.out.trans h2)
      have HX12 := Lib.hid h2
      have HH1 := Lib.hid (head_ok (HJ.out.ext HX2.out) (s + 1) k (by have := HMAX.out; omega) (by omega))
      clear hO hOm h2 HLAY
      go_wp2_with fail
      refine HH1.out.mono ?_
      rintro e w3 ⟨b3, rfl, hb3, hr3, h3⟩
      obtain ⟨t1, ht1⟩ : ∃ t : It, t = ⟨headP f (s + 1) k, some ⟨b3, 0, none⟩, 64⟩ := ⟨_, rfl⟩
      have HT1V := Lib.hid (show Value.agg #[.int .i64 f, .slice (some ⟨b3, 0, none⟩) 64 64, .int .u16 0] = .agg (itC t1).toArray by rw [ht1]; unfold itC; dsimp only; rw [show (headP f (s + 1) k).bs.length = 64 from headB_len _ _]; rfl)
      have hrow4 := Row.new w3 37 (itC t1)
      have hX4 := (Ext.refl w3).alloc (.cells (itC t1).toArray 37)
      obtain ⟨g4, hg4⟩ : ∃ z, z = w3.heap.size := ⟨_, rfl⟩
      obtain ⟨w4, hw4⟩ : ∃ z, z = w3.alloc (.cells (itC t1).toArray 37) := ⟨_, rfl⟩
      have hrow4 : Row w4 g4 37 (itC t1) := by rw [hw4, hg4]; exact hrow4
      rw [← hw4] at hX4
      have HX24 := Lib.hid (h3.trans hX4)
      have HR4 := Lib.hid hrow4
      have HB3 := Lib.hid (hr3.ext hX4)
      have HB3N := Lib.hid (And.intro hb3 (show w2.heap.size ≤ g4 by rw [hg4]; exact h3.size))
      have HW4 := Lib.hid hw4
      have HG4 := Lib.hid hg4
      have HT1 := Lib.hid ht1
      have HH2 := Lib.hid (head_ok (HJ.out.ext (HX2.out.trans HX24.out)) (s + 1) 0 (by have := HMAX.out; omega) (by decide))
      clear hrow4 hX4 hw4 hg4 hr3 h3 hb3 ht1 HH1
      go_wp2_with (refine wpList_onePat rfl _ rfl t1 HT1V.out ?_; rw [← HW4.out, ← HG4.out])
      refine HH2.out.mono ?_
      rintro e w5 ⟨b5, rfl, hb5, hr5, h5⟩
      obtain ⟨t2, ht2⟩ : ∃ t : It, t = ⟨headP f (s + 1) 0, some ⟨b5, 0, none⟩, 64⟩ := ⟨_, rfl⟩
      have HT2V := Lib.hid (show Value.agg #[.int .i64 f, .slice (some ⟨b5, 0, none⟩) 64 64, .int .u16 0] = .agg (itC t2).toArray by rw [ht2]; unfold itC; dsimp only; rw [show (headP f (s + 1) 0).bs.length = 64 from headB_len _ _]; rfl)
      have hrow6 := Row.new w5 37 (itC t2)
      have hX6 := (Ext.refl w5).alloc (.cells (itC t2).toArray 37)
      obtain ⟨g6, hg6⟩ : ∃ z, z = w5.heap.size := ⟨_, rfl⟩
      obtain ⟨w6, hw6⟩ : ∃ z, z = w5.alloc (.cells (itC t2).toArray 37) := ⟨_, rfl⟩
      have hrow6 : Row w6 g6 37 (itC t2) := by rw [hw6, hg6]; exact hrow6
      rw [← hw6] at hX6
      have hrow7 := Row.new w6 39 [.slice ao O.length co, .slice (some ⟨g4, 0, none⟩) 1 1, .slice a k cap, .slice (some ⟨g6, 0, none⟩) 1 1]
      have hX7 := (Ext.refl w6).alloc (.cells #[.slice ao O.length co, .slice (some ⟨g4, 0, none⟩) 1 1, .slice a k cap, .slice (some ⟨g6, 0, none⟩) 1 1] 39)
      obtain ⟨g7, hg7⟩ : ∃ z, z = w6.heap.size := ⟨_, rfl⟩
      obtain ⟨w7, hw7⟩ : ∃ z, z = w6.alloc (.cells #[.slice ao O.length co, .slice (some ⟨g4, 0, none⟩) 1 1, .slice a k cap, .slice (some ⟨g6, 0, none⟩) 1 1] 39) := ⟨_, rfl⟩
      have hrow7 : Row w7 g7 39 [.slice ao O.length co, .slice (some ⟨g4, 0, none⟩) 1 1, .slice a k cap, .slice (some ⟨g6, 0, none⟩) 1 1] := by rw [hw7, hg7]; exact hrow7
      rw [← hw7] at hX7
      have HX47 := Lib.hid (h5.trans (hX6.trans hX7))
      have HX27 := Lib.hid (HX24.out.trans HX47.out)
      have HX17 := Lib.hid (HX12.out.trans HX27.out)
      obtain ⟨Y, hY⟩ : ∃ Y : Nat → Prop, Y = fun q => X q ∨ (wr.heap.size ≤ q ∧ q < w7.heap.size) := ⟨_, rfl⟩
      have HYX := Lib.hid (show ∀ q, X q → Y q from fun q hq => by rw [hY]; exact .inl hq)
      have HYN := Lib.hid (show ∀ q, wr.heap.size ≤ q → q < w7.heap.size → Y q from fun q h1 h2 => by rw [hY]; exact .inr ⟨h1, h2⟩)
      have HAY := Lib.hid (show AtM w0 g gs sc D Y w7 from (HA.out.ext HX.out).add HX17.out (fun q hq => by rw [hY] at hq; exact hq))
      have hlt4 := (HR4.out.ext HX47.out).lt
      have hlt3 := (HB3.out.ext HX47.out).lt
      have hlt6 := (hrow6.ext hX7).lt
      have hlt5 := (hr5.ext (hX6.trans hX7)).lt
      have hsz2 := HX12.out.size
      have hsz4 := HX24.out.size
      have hb5' : w4.heap.size ≤ g6 := by rw [hg6]; exact h5.size
      have HP0 := Lib.hid (show PatsIn Y w7 ao O.length (layP f L) from by
        have h1 := HO.out.pats
        rw [HOM.out] at h1
        have h2 : AtM w0 g gs sc D (fun q => X q ∨ (wr.heap.size ≤ q ∧ q < w2.heap.size)) w2 := (HA.out.ext HX.out).add HX12.out (fun q hq => hq)
        exact (h1.same (Same.ofExt h2 HX27.out)).mono (fun q hq => by
          rcases hq with hq | hq
          · exact HYX.out q hq
          · exact HYN.out q hq.1 (Nat.lt_of_lt_of_le hq.2 HX27.out.size)))
      have HP1 := Lib.hid (show PatsIn Y w7 (some ⟨g4, 0, none⟩) 1 [headP f (s + 1) k] from by
        have h1 := one_pats (Y := Y) (HR4.out.ext HX47.out) (by rw [HT1.out]; exact headP_wf _ _ _) (by rw [HT1.out]; exact (HB3.out.ext HX47.out).sl0) (by rw [HT1.out]; exact ⟨Nat.le_of_eq (headB_len _ _), by show 64 ≤ 9223372036854775807; decide⟩) (HYN.out g4 (by have := HB3N.out; omega) hlt4) (fun ad e => by
          rw [HT1.out] at e; cases e
          exact HYN.out b3 (by have := HB3N.out; omega) hlt3)
        rw [HT1.out] at h1
        exact h1)
      have HP2 := Lib.hid (show PatsIn Y w7 a k L from ((HL.out.same (Same.ofExt HA.out (HX.out.trans HX17.out))).mono HYX.out))
      have HP3 := Lib.hid (show PatsIn Y w7 (some ⟨g6, 0, none⟩) 1 [headP f (s + 1) 0] from by
        have h1 := one_pats (Y := Y) (hrow6.ext hX7) (by rw [ht2]; exact headP_wf _ _ _) (by rw [ht2]; exact (hr5.ext (hX6.trans hX7)).sl0) (by rw [ht2]; exact ⟨Nat.le_of_eq (headB_len _ _), by show 64 ≤ 9223372036854775807; decide⟩) (HYN.out g6 (by omega) hlt6) (fun ad e => by
          rw [ht2] at e; cases e
          exact HYN.out b5 (by omega) hlt5)
        rw [ht2] at h1
        exact h1)
      have HPARTS := Lib.hid (show ∀ i, i < 4 → ∃ ai ni ci P, w7.cell? ⟨g7, i, none⟩ = some (.slice ai ni ci) ∧ PatsIn Y w7 ai ni P ∧ (partsP f s L).drop i = P :: (partsP f s L).drop (i + 1) ∧ P.length ≤ 20000 from fun i hi => by
        have e : [headP f (s + 1) L.length] = [headP f (s + 1) k] := by rw [HL.out.1]
        match i, hi with
        | 0, _ => exact ⟨ao, _, co, _, (hrow7.cell? 0).trans rfl, HP0.out, rfl, by have := layP_len f L; rw [HL.out.1] at this; omega⟩
        | 1, _ => exact ⟨_, 1, 1, [headP f (s + 1) k], (hrow7.cell? 1).trans rfl, HP1.out, by unfold partsP; rw [e]; rfl, by simp⟩
        | 2, _ => exact ⟨a, k, cap, L, (hrow7.cell? 2).trans rfl, HP2.out, rfl, by rw [HL.out.1]; omega⟩
        | 3, _ => exact ⟨_, 1, 1, [headP f (s + 1) 0], (hrow7.cell? 3).trans rfl, HP3.out, rfl, by simp⟩)
      have HG7Y := Lib.hid (HYN.out g7 (by rw [hg7]; exact Nat.le_trans hsz2 (Nat.le_trans hsz4 (h5.trans hX6).size)) hrow7.lt)
      have HW6 := Lib.hid hw6
      have HG6 := Lib.hid hg6
      have HW7 := Lib.hid hw7
      have HG7 := Lib.hid hg7
      have HSX7 := Lib.hid (Same.ofExt HA.out (HX.out.trans HX17.out))
      have HJ7 := Lib.hid (HJ.out.ext (HX.out.trans HX17.out))
      clear hrow6 hX6 hrow7 hX7 hw6 hg6 hw7 hg7 hr5 h5 hb5 ht2 hlt4 hlt3 hlt6 hlt5 hsz2 hsz4 hb5' hY HH2 c3
      go_upto_region 17 with (first
        | (refine wpList_onePat rfl _ rfl t2 HT2V.out ?_; rw [← HW6.out, ← HG6.out])
        | fail)
      rw [← HW7.out, ← HG7.out]
      go_loopw [65] (fun v wl => ∃ (i : Nat) (D' : Dsk), i ≤ 4 ∧ v = .int .i64 i ∧ AtM w0 g gs sc D' Y wl ∧ D'.Wf (b + i * 20001) ∧ Same Y w7 wl ∧ runR D (partsP f s L) = runR D' ((partsP f s L).drop i)) (fun v _ => 4 - (intOf v).toNat)
      case atStart => exact ⟨0, D, by omega, rfl, HAY.out, by simpa using HWF.out, Same.refl _ _, rfl⟩
      case round =>
        obtain ⟨i, D', hi4, rfl, hA', hwf', hS', hR'⟩ := hrel
        have HA' := Lib.hid hA'
        have HWF' := Lib.hid hwf'
        have HS' := Lib.hid hS'
        have HR' := Lib.hid hR'
        have HJ' := Lib.hid (hS'.row HJ7.out (HYX.out gj hX))
        clear hA' hwf' hS' hR'
        by_cases hlt : i < 4
        · obtain ⟨ai, ni, ci, P, hc, hP, hdr, hPl⟩ := HPARTS.out i hlt
          have hcell := HS'.out.cell hc HG7Y.out
          have hni : ni = P.length := hP.1.symm
          have HW := Lib.hid (write_ok HA'.out HWF'.out HJ'.out (HYX.out gj hX) ai ni ci P (hP.same HS'.out) (by omega))
          have HPW := Lib.hid (Wf.mono (writesR_wf P HWF'.out hP.2.1) (show b + i * 20001 + P.length + 1 ≤ b + (i + 1) * 20001 by omega))
          have HSTEP := Lib.hid (show runR D (partsP f s L) = if (writesR D' P).2 = 0 then runR (writesR D' P).1 ((partsP f s L).drop (i + 1)) else writesR D' P by rw [HR'.out, hdr]; rfl)
          have hi5 : (i : Int) < 4 := by omega
          clear hc hP hdr hPl hni
          go_wp2_with fail
          refine HW.out.mono ?_
          rintro e w5 ⟨rfl, hA5, hS5⟩
          have HA5 := Lib.hid hA5
          have HS5 := Lib.hid (HS'.out.trans hS5)
          clear hA5 hS5 HW hcell
          generalize writesR D' P = RR at *
          obtain ⟨D5, code⟩ := RR
          dsimp only at *
          by_cases hc0 : code = 0
          · subst hc0
            go_wp2
            go_roundw
            case rel => exact ⟨i + 1, D5, hlt, by go_num, HA5.out, HPW.out, HS5.out, by rw [HSTEP.out, if_pos rfl]⟩
            case measure => simp [intOf]; omega
          · have hne : (code != 0) = true := by simp [hc0]
            have HE := Lib.hid (show commitR D f (nk + 1 : Nat) s L = (D5, s, code) by
              rw [HV.out, HSTEP.out, if_neg hc0]
              dsimp only
              rw [if_neg hc0])
            clear hc0
            go_wp2
            go_ret
            rw [HE.out]
            exact ⟨rfl, HA5.out.sub HYX.out, HS5.out.row HJ7.out (HYX.out gj hX), hSS (HSX7.out.trans (HS5.out.sub HYX.out))⟩
        · obtain rfl : i = 4 := by omega
          have HE := Lib.hid (show commitR D f (nk + 1 : Nat) s L = (D', s + 1, 0) by
            have h1 : runR D (partsP f s L) = (D', 0) := HR'.out
            rw [HV.out, h1, if_pos rfl])
          have c3 := (HJ'.out.cell? 3).trans rfl
          have f3 := HJ'.out.frozen 3
          have HRF := Lib.hid (show Row (wr.setCell ⟨gj, 3, none⟩ (.int .u64 (s + 1))) gj 67 (jRow g f (nk + 1 : Nat) (s + 1)) from Row.set HJ'.out 3 _)
          have HAF := Lib.hid ((HA'.out.sub HYX.out).guest (Dk.Chg.ofBy (F := X) (By.set wr gj 3 (.int .u64 (s + 1))) hX))
          have HSF := Lib.hid (show Same (fun q => X q ∧ q ≠ gj) u (wr.setCell ⟨gj, 3, none⟩ (.int .u64 (s + 1))) from by
            have h1 := HSX7.out.trans (HS'.out.sub HYX.out)
            refine ⟨Nat.le_trans h1.1 (By.set wr gj 3 (.int .u64 (s + 1))).size, fun q hq => ?_⟩
            have hlt := (HA.out.lt hq.1).1
            exact ((By.set wr gj 3 (.int .u64 (s + 1))).block q (Nat.lt_of_lt_of_le hlt h1.1) (by simpa using hq.2)).trans (h1.2 q hq.1))
          clear hlt hi4
          go_wp2
          go_ret
          rw [HE.out]
          exact ⟨rfl, HAF.out, HRF.out, HSF.out⟩
end Go.Proofs.Ytfodpphbdbeciaa.Jn
