/- Open, where patches are to be written again. -/
import Derived.Test.YtfodpphbdbeciaaJnLw
import Derived.Test.YtfodpphbdbeciaaJnK
import Derived.Test.YtfodpphbdbeciaaJnOL
import Derived.Deep.DeepCutAuto
namespace Go.Proofs.Ytfodpphbdbeciaa.Jn
open Go.RowKit Words Mem Plain Ops Agg OwnS Dk
open Go.Proofs.Ytfodpphbdbeciaa.Field Go.Proofs.Ytfodpphbdbeciaa.Sum
set_option maxRecDepth 100000
set_option linter.ambiguousOpen false
set_option linter.unusedVariables false
set_option linter.unusedSimpArgs false

def redoP (f s : Int) (L : List PT) : List (List PT) := [L, [headP f s 0]]
/-- What Open answers with, where patches are to be written again. -/
def Redone (w0 u : World) (g gs sc : Nat) (X : Nat → Prop) (f n s : Int) (q : Nat) (R : Dsk × Int) (e : Ending) (w' : World) : Prop :=
  ∃ gj, (e = if R.2 = 0 then .returned (.tuple #[.pointer (some ⟨gj, 0, none⟩), .int .i64 q, .int .i64 0]) else .returned (.tuple #[.pointer none, .int .i64 0, .int .i64 R.2])) ∧ u.heap.size ≤ gj ∧
    AtM w0 g gs sc R.1 (fun k => X k ∨ k = gj) w' ∧ Row w' gj 67 (jRow g f n s) ∧ Same X u w'
set_option maxHeartbeats 16000000 in
theorem Open_redo {w0 u : World} {g gs sc : Nat} {X : Nat → Prop} {D : Dsk} {b : Nat} (hA : AtM w0 g gs sc D X u) (hwf : D.Wf b) (hb : b ≤ 1000000) (f nk : Nat) (hn : 2 ≤ nk ∧ nk ≤ 4095) (hfl : f + (nk + 1) ≤ D.secs.length) (hlen : D.secs.length ≤ 4096) (s : Int) (hs : 0 ≤ s ∧ s < 18446744073709551616)
    (L : List PT) (m : Nat) (hm : L.length = m) (hm0 : 0 < m) (hroom : (m : Int) ≤ roomN (nk + 1 : Nat)) (hz : readR D f = (headB s m, 0)) (hL : ∀ p ∈ L, p.wf ∧ 0 ≤ p.sec ∧ p.sec ≤ 65535 ∧ outB D.secs.length f (nk + 1 : Nat) p.sec = true ∧ p.bs.length = 64) (hlies : LiesP D f L) :
    Calls Try.prog 13 #[.pointer (some ⟨g, 0, none⟩), .int .i64 f, .int .i64 (nk + 1 : Nat)] u (Redone w0 u g gs sc X f (nk + 1 : Nat) s m (runR D (redoP f s L))) := by
  have HA := Lib.hid hA
  have HWF := Lib.hid hwf
  have HLIES := Lib.hid hlies
  have HL := Lib.hid hL
  have HM := Lib.hid hm
  have HLEN := Lib.hid (fun (v : World) (e : Ext u v) => Len_atM (hA.ext e))
  have hN : ∃ N : Nat, N = D.secs.length := ⟨_, rfl⟩
  obtain ⟨N, hN⟩ := hN
  rw [← hN] at HLEN hfl hlen
  have HN := Lib.hid hN
  have HRD := Lib.hid (fun (v : World) (e : Ext u v) => (show Calls Try.prog 26 #[.pointer (some ⟨g, 0, none⟩), .int .i64 f] v (Field.Gave .u8 5 v (headB s m, 0)) from by rw [← hz]; exact Read_atM (hA.ext e) f))
  have HROOM := Lib.hid hroom
  obtain ⟨n, hnn⟩ : ∃ n : Nat, n = nk + 1 := ⟨_, rfl⟩
  have HNN := Lib.hid hnn
  rw [← hnn] at hfl ⊢
  have k1 : ¬ ((n : Int) < 3) := by omega
  have k2 : ¬ ((4096 : Int) < n) := by omega
  have k3 : ¬ ((f : Int) < 0) := by omega
  have k4 : ¬ ((N : Int) < f) := by omega
  have k5 : ¬ ((N : Int) - f < n) := by omega
  have hm4 : m ≤ 4096 := by unfold roomN at hroom; omega
  have hf4 : f ≤ 4096 := by omega
  have hn4 : n ≤ 4096 := by omega
  clear hA hz hN hwf hlies hL hm hroom hnn
  have hl1 := HLEN.out u (Ext.refl _)
  go_enter Try.func13, Try.ntmps13
  go_wp2_with (go_at_call 27; refine hl1.mono ?_; rintro e w' ⟨rfl, rfl⟩)
  have hX1 := (Ext.refl u).alloc (.cells #[.pointer (some ⟨g, 0, none⟩), .int .i64 f, .int .i64 n, .int .u64 0] 67)
  have hrow1 := Row.new u 67 [.pointer (some ⟨g, 0, none⟩), .int .i64 f, .int .i64 n, .int .u64 0]
  obtain ⟨gj, hgj⟩ : ∃ z, z = u.heap.size := ⟨_, rfl⟩
  obtain ⟨w1, hw1⟩ : ∃ z, z = u.alloc (.cells #[.pointer (some ⟨g, 0, none⟩), .int .i64 f, .int .i64 n, .int .u64 0] 67) := ⟨_, rfl⟩
  have hrow1 : Row w1 gj 67 (jRow g f n 0) := by rw [hw1, hgj]; exact hrow1
  rw [← hw1] at hX1 ⊢
  rw [← hgj]
  have HR1 := Lib.hid hrow1
  have HX1 := Lib.hid hX1
  have HG := Lib.hid (show u.heap.size ≤ gj by rw [hgj]; exact Nat.le_refl _)
  clear hX1 hrow1 hw1 hgj hl1 k1 k2 k3 k4 k5
  refine (HRD.out w1 HX1.out).mono ?_
  rintro e w2 ⟨a, c, rfl, ho, h2⟩
  dsimp only at ho ⊢
  rw [headB_len] at ho ⊢
  have HX2 := Lib.hid (HX1.out.trans h2)
  have HR2 := Lib.hid (HR1.out.ext h2)
  have hcap := ownS_cap ho
  have hlt := ownS_lt ho
  have hgl := HR1.out.lt
  have hr2' : Row w2 gj 67 (jRow g f (nk + 1 : Nat) 0) := by rw [← HNN.out]; exact HR2.out
  have HBG0 := Lib.hid (begin_head hr2' (by omega) a c s m (ownS_sl ho) hs (by omega) HROOM.out hcap.1 hcap.2 (fun ad e => by have := hlt ad e; omega))
  rw [← HNN.out] at HBG0
  clear ho h2 hcap hlt hgl hr2'
  go_wp2_with fail
  refine HBG0.out.mono ?_
  rintro e w3 ⟨rfl, hr3, h3⟩
  obtain ⟨Z, hZ⟩ : ∃ Z : Nat → Prop, Z = fun k => X k ∨ k = gj := ⟨_, rfl⟩
  have HZX := Lib.hid (show ∀ q, X q → Z q from fun q hq => by rw [hZ]; exact .inl hq)
  have HZG := Lib.hid (show Z gj from by rw [hZ]; exact .inr rfl)
  have HZE := Lib.hid hZ
  have hA2 : AtM w0 g gs sc D Z w2 := HA.out.add HX2.out (fun q hq => by
    rw [hZ] at hq
    rcases hq with hq | hq
    · exact .inl hq
    · subst hq; exact .inr ⟨HG.out, HR2.out.lt⟩)
  have HA3 := Lib.hid (hA2.guest (h3.mono (fun k _ e => by rw [e]; exact HZG.out)))
  have HR3 := Lib.hid hr3
  have HS3 := Lib.hid (show Same X u w3 from by
    have h1 := Same.ofExt HA.out HX2.out
    have h4 := HR2.out.lt
    refine ⟨Nat.le_trans h1.1 h3.size, fun q hq => (h3.block q ?_ (fun e => ?_)).trans (h1.2 q hq)⟩
    · exact Nat.lt_of_lt_of_le (HA.out.lt hq).1 h1.1
    · have h5 := (HA.out.lt hq).1
      have h6 := HG.out
      have h7 : q = gj := e
      omega)
  have hmz : ((m : Int) == 0) = false := by simp; omega
  have HLAID := Lib.hid (laid_ok HA3.out hr3 (by omega) (by omega) L m HM.out hm4 (fun p hp => by
    have := HL.out p hp
    rw [← HNN.out] at this
    exact this) HLIES.out)
  clear hr3 h3 hA2 hZ HBG0
  go_wp2_with fail
  refine HLAID.out.mono ?_
  rintro e w4 ⟨ao, co, O, rfl, hO, hOm, h4⟩
  have HO := Lib.hid hO
  have HOM := Lib.hid hOm
  have HOL := Lib.hid (show O.length = m from by rw [← HM.out, ← hOm, List.length_map])
  have HX34 := Lib.hid h4
  have HR4 := Lib.hid (HR3.out.ext h4)
  have c3 := ((HR3.out.ext h4).cell? 3).trans rfl
  have HH1 := Lib.hid (head_ok HR4.out s 0 hs (by decide))
  have hzp := zeroPatch
  obtain ⟨ol, hol⟩ : ∃ z, z = O.length := ⟨_, rfl⟩
  rw [← hol]
  have HOLE := Lib.hid hol
  clear hO hOm h4 HLAID hol
  go_wp2_with fail
  refine HH1.out.mono ?_
  rintro e w5 ⟨b3, rfl, hb3, hr5, h5⟩
  obtain ⟨t1, ht1⟩ : ∃ t : It, t = ⟨headP f s 0, some ⟨b3, 0, none⟩, 64⟩ := ⟨_, rfl⟩
  have HT1V := Lib.hid (show Value.agg #[.int .i64 f, .slice (some ⟨b3, 0, none⟩) 64 64, .int .u16 0] = .agg (itC t1).toArray by rw [ht1]; unfold itC; dsimp only; rw [show (headP f s 0).bs.length = 64 from headB_len _ _]; rfl)
  have hrow6 := Row.new w5 37 (itC t1)
  have hX6 := (Ext.refl w5).alloc (.cells (itC t1).toArray 37)
  obtain ⟨g6, hg6⟩ : ∃ z, z = w5.heap.size := ⟨_, rfl⟩
  obtain ⟨w6, hw6⟩ : ∃ z, z = w5.alloc (.cells (itC t1).toArray 37) := ⟨_, rfl⟩
  have hrow6 : Row w6 g6 37 (itC t1) := by rw [hw6, hg6]; exact hrow6
  rw [← hw6] at hX6
  have hrow7 := Row.new w6 39 [.slice ao ol co, .slice (some ⟨g6, 0, none⟩) 1 1]
  have hX7 := (Ext.refl w6).alloc (.cells #[.slice ao ol co, .slice (some ⟨g6, 0, none⟩) 1 1] 39)
  obtain ⟨g7, hg7⟩ : ∃ z, z = w6.heap.size := ⟨_, rfl⟩
  obtain ⟨w7, hw7⟩ : ∃ z, z = w6.alloc (.cells #[.slice ao ol co, .slice (some ⟨g6, 0, none⟩) 1 1] 39) := ⟨_, rfl⟩
  have hrow7 : Row w7 g7 39 [.slice ao ol co, .slice (some ⟨g6, 0, none⟩) 1 1] := by rw [hw7, hg7]; exact hrow7
  rw [← hw7] at hX7
  have HX47 := Lib.hid (h5.trans (hX6.trans hX7))
  have HX37 := Lib.hid (HX34.out.trans HX47.out)
  obtain ⟨Y, hY⟩ : ∃ Y : Nat → Prop, Y = fun q => Z q ∨ (w3.heap.size ≤ q ∧ q < w7.heap.size) := ⟨_, rfl⟩
  have HYX := Lib.hid (show ∀ q, Z q → Y q from fun q hq => by rw [hY]; exact .inl hq)
  have HYN := Lib.hid (show ∀ q, w3.heap.size ≤ q → q < w7.heap.size → Y q from fun q h1 h2 => by rw [hY]; exact .inr ⟨h1, h2⟩)
  have HAY := Lib.hid (show AtM w0 g gs sc D Y w7 from HA3.out.add HX37.out (fun q hq => by rw [hY] at hq; exact hq))
  have hlt6 := (hrow6.ext hX7).lt
  have hlt5 := (hr5.ext (hX6.trans hX7)).lt
  have hsz3 := HX34.out.size
  have hsz6 : w3.heap.size ≤ g6 := by rw [hg6]; exact Nat.le_trans hsz3 h5.size
  have HP0 := Lib.hid (show PatsIn Y w7 ao ol L from by
    have h1 := HO.out.pats
    rw [HOM.out, ← HOLE.out] at h1
    have h2 : AtM w0 g gs sc D (fun q => Z q ∨ (w3.heap.size ≤ q ∧ q < w4.heap.size)) w4 := HA3.out.add HX34.out (fun q hq => hq)
    have h3 := h1.mono (Y := fun q => Z q ∨ (w3.heap.size ≤ q ∧ q < w4.heap.size)) (fun q hq => by
      rcases hq with hq | hq
      · exact hq.elim
      · exact .inr hq)
    exact (h3.same (Same.ofExt h2 HX47.out)).mono (fun q hq => by
      rcases hq with hq | hq
      · exact HYX.out q hq
      · exact HYN.out q hq.1 (Nat.lt_of_lt_of_le hq.2 HX47.out.size)))
  have HP1 := Lib.hid (show PatsIn Y w7 (some ⟨g6, 0, none⟩) 1 [headP f s 0] from by
    have h1 := one_pats (Y := Y) (hrow6.ext hX7) (by rw [ht1]; exact headP_wf _ _ _) (by rw [ht1]; exact (hr5.ext (hX6.trans hX7)).sl0) (by rw [ht1]; exact ⟨Nat.le_of_eq (headB_len _ _), by show 64 ≤ 9223372036854775807; decide⟩) (HYN.out g6 hsz6 hlt6) (fun ad e => by
      rw [ht1] at e; cases e
      exact HYN.out b3 (Nat.le_trans hsz3 hb3) hlt5)
    rw [ht1] at h1
    exact h1)
  have HPARTS := Lib.hid (show ∀ i, i < 2 → ∃ ai ni ci P, w7.cell? ⟨g7, i, none⟩ = some (.slice ai ni ci) ∧ PatsIn Y w7 ai ni P ∧ (redoP f s L).drop i = P :: (redoP f s L).drop (i + 1) ∧ P.length ≤ 20000 from fun i hi => by
    match i, hi with
    | 0, _ => exact ⟨ao, _, co, _, (hrow7.cell? 0).trans rfl, HP0.out, rfl, by rw [HM.out]; omega⟩
    | 1, _ => exact ⟨_, 1, 1, [headP f s 0], (hrow7.cell? 1).trans rfl, HP1.out, rfl, by simp⟩)
  have HG7Y := Lib.hid (HYN.out g7 (by rw [hg7]; exact Nat.le_trans hsz3 (h5.trans hX6).size) hrow7.lt)
  have HW6 := Lib.hid hw6
  have HG6 := Lib.hid hg6
  have HW7 := Lib.hid hw7
  have HG7 := Lib.hid hg7
  have HSX7 := Lib.hid (show Same X u w7 from HS3.out.trans ((Same.ofExt HA3.out HX37.out).sub HZX.out))
  have HJ7 := Lib.hid (HR3.out.ext HX37.out)
  clear hrow6 hX6 hrow7 hX7 hw6 hg6 hw7 hg7 hr5 h5 hb3 ht1 hlt6 hlt5 hsz3 hsz6 hY c3 HH1
  go_upto_region 18 with (first
    | (refine wpList_onePat rfl _ rfl t1 HT1V.out ?_; rw [← HW6.out, ← HG6.out])
    | fail)
  rw [← HW7.out, ← HG7.out]
  go_loopw [89] (fun v wl => ∃ (i : Nat) (D' : Dsk), i ≤ 2 ∧ v = .int .i64 i ∧ AtM w0 g gs sc D' Y wl ∧ D'.Wf (b + i * 20001) ∧ Same Y w7 wl ∧ runR D (redoP f s L) = runR D' ((redoP f s L).drop i)) (fun v _ => 2 - (intOf v).toNat)
  case atStart => exact ⟨0, D, by omega, rfl, HAY.out, by simpa using HWF.out, Same.refl _ _, rfl⟩
  case round =>
    obtain ⟨i, D', hi2, rfl, hA', hwf', hS', hR'⟩ := hrel
    have HA' := Lib.hid hA'
    have HWF' := Lib.hid hwf'
    have HS' := Lib.hid hS'
    have HR' := Lib.hid hR'
    have HJ' := Lib.hid (hS'.row HJ7.out (HYX.out gj HZG.out))
    clear hA' hwf' hS' hR'
    by_cases hlt : i < 2
    · obtain ⟨ai, ni, ci, P, hc, hP, hdr, hPl⟩ := HPARTS.out i hlt
      have hcell := HS'.out.cell hc HG7Y.out
      have hni : ni = P.length := hP.1.symm
      have HW := Lib.hid (write_ok HA'.out HWF'.out HJ'.out (HYX.out gj HZG.out) ai ni ci P (hP.same HS'.out) (by omega))
      have HPW := Lib.hid (Wf.mono (writesR_wf P HWF'.out hP.2.1) (show b + i * 20001 + P.length + 1 ≤ b + (i + 1) * 20001 by omega))
      have HSTEP := Lib.hid (show runR D (redoP f s L) = if (writesR D' P).2 = 0 then runR (writesR D' P).1 ((redoP f s L).drop (i + 1)) else writesR D' P by rw [HR'.out, hdr]; rfl)
      have hi5 : (i : Int) < 2 := by omega
      clear hc hP hdr hPl hni
      go_wp2_with fail
      refine HW.out.mono ?_
      rintro e w5 ⟨rfl, hA5, hS5⟩
      have HA5 := Lib.hid hA5
      have HS5 := Lib.hid (HS'.out.trans hS5)
      clear hA5 hS5 HW hcell
      generalize writesR D' P = RR at *
      obtain ⟨D5, code⟩ := RR
      dsimp only at *
      by_cases hc0 : code = 0
      · subst hc0
        go_wp2
        go_roundw
        case rel => exact ⟨i + 1, D5, hlt, by go_num, HA5.out, HPW.out, HS5.out, by rw [HSTEP.out, if_pos rfl]⟩
        case measure => simp [intOf]; omega
      · have hne : (code != 0) = true := by simp [hc0]
        have HE := Lib.hid (show runR D (redoP f s L) = (D5, code) by rw [HSTEP.out, if_neg hc0])
        have HC0 := Lib.hid hc0
        clear hc0
        go_wp2
        go_ret3
        rw [HE.out]
        refine ⟨gj, by rw [if_neg HC0.out]; rfl, HG.out, ?_, HS5.out.row HJ7.out (HYX.out gj HZG.out), HSX7.out.trans (HS5.out.sub (fun q hq => HYX.out q (HZX.out q hq)))⟩
        rw [← HZE.out]
        exact HA5.out.sub HYX.out
    · obtain rfl : i = 2 := by omega
      have HE := Lib.hid (show runR D (redoP f s L) = (D', 0) from HR'.out)
      clear hlt hi2
      go_wp2
      go_ret3
      rw [HE.out]
      refine ⟨gj, by rw [if_pos rfl]; rfl, HG.out, ?_, HJ'.out, HSX7.out.trans (HS'.out.sub (fun q hq => HYX.out q (HZX.out q hq)))⟩
      rw [← HZE.out]
      exact HA'.out.sub HYX.out
end Go.Proofs.Ytfodpphbdbeciaa.Jn
