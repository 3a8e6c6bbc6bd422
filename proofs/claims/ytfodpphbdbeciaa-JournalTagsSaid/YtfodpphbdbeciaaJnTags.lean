/- The law JournalTags. -/
import Derived.Test.YtfodpphbdbeciaaJnSeq
import Derived.Test.YtfodpphbdbeciaaJnTg
import Derived.Test.YtfodpphbdbeciaaJnMp
import Derived.Deep.DeepCutAuto
namespace Go.Proofs.Ytfodpphbdbeciaa.Jn
open Go.RowKit Words Mem Plain Ops Agg OwnS Dk
open Go.Joins Go.ChangeShapes Go.WideShapes Go.Deep
set_option maxRecDepth 100000
set_option linter.ambiguousOpen false
set_option linter.unusedVariables false
set_option linter.unusedSimpArgs false

theorem wpList_mapUpdate_run {P : Program} {w w' : World} {ops : Array Oper} {rest : List Oper} {o : Oper} {a : Act} {Q : Exit → Act → World → Prop}
    (hg : o.guard = none) (m x v : Operand) (t : TypeId) (hop : o.op = Op.mapUpdate t m x v) (mv key val : Value) (hm : a.eval m = mv) (hx : a.eval x = key) (hv : a.eval v = val)
    (hrun : (Instr.mapUpdate t mv key val).run P w = .ok () w') (hK : wpList P ops Q rest (a.put o.dst undef) w') : wpList P ops Q (o :: rest) a w := by
  refine wpList_plain hg fun K' hK' => ?_
  unfold Oper.wp
  simp [execOp, hop, hm, hx, hv, hrun, Result.andThen]
  exact hK' _ _ hK
theorem wpList_insert_run {P : Program} {w w' : World} {ops : Array Oper} {rest : List Oper} {o : Oper} {a : Act} {Q : Exit → Act → World → Prop}
    (hg : o.guard = none) (m x v : Operand) (t : TypeId) (hop : o.op = Op.insert t m x v) (mv key val : Value) (hm : a.eval m = mv) (hx : a.eval x = key) (hv : a.eval v = val)
    (hrun : (Instr.mapUpdate t mv key val).run P w = .ok () w') (hK : wpList P ops Q rest (a.put o.dst undef) w') : wpList P ops Q (o :: rest) a w := by
  refine wpList_plain hg fun K' hK' => ?_
  unfold Oper.wp
  simp [execOp, hop, hm, hx, hv, hrun, Result.andThen]
  exact hK' _ _ hK
set_option maxHeartbeats 16000000 in
theorem tags_walk (a : Option Addr) (n cap : Nat) (L : List ActT) (w : World) (hn : n ≤ cap) (hcm : cap ≤ 9223372036854775807) (hL : ActsIn w a n L) :
    Calls Try.prog 6 #[.slice a n cap] w fun e w' => e = .returned (.bool true) ∧ Ext w w' := by
  have HL := Lib.hid hL
  have HCAP := Lib.hid (And.intro hn hcm)
  have HSH := Lib.hid (shown_ok w)
  clear hL hn hcm
  go_enter Try.func6, Try.ntmps6
  go_wp2_with fail
  refine HSH.out.mono ?_
  rintro e w1 ⟨rfl, h1⟩
  have HX1 := Lib.hid h1
  have HNEW := Lib.hid (New_atM 60 w1 (by decide))
  clear h1 HSH
  go_wp2_with fail
  refine HNEW.out.mono ?_
  rintro e w2 ⟨g, gs, sc, rfl, hA⟩
  have HA2 := Lib.hid hA
  have HOP := Lib.hid (calm_open hA (newD_wf (by decide) 0) calm_new (by decide))
  clear hA HNEW
  go_wp2_with fail
  refine HOP.out.mono ?_
  rintro e w3 ⟨gj, rfl, hgj, hr3, h3⟩
  have HR3 := Lib.hid hr3
  have HX23 := Lib.hid h3
  obtain ⟨w4, hw4⟩ : ∃ z, z = w3.alloc (.map #[] 0) := ⟨_, rfl⟩
  obtain ⟨gm, hgm⟩ : ∃ z, z = w3.heap.size := ⟨_, rfl⟩
  have hm4 := Had.made w3
  have hX34 := (Ext.refl w3).alloc (.map #[] 0)
  rw [← hw4, ← hgm] at hm4
  rw [← hw4] at hX34
  obtain ⟨w5, hrun5, hm5, hg5⟩ := hm4.put (by decide) (c := 0) (by decide)
  have hX35 : Ext w3 w5 := Ext.by hX34 hg5 (by omega)
  obtain ⟨w6, hw6⟩ : ∃ z, z = w5.alloc (.cells (ints .u8 [0, 0, 0, 0, 0, 0, 0, 0, 0, 0, 0, 0]).toArray 51) := ⟨_, rfl⟩
  obtain ⟨gl, hgl⟩ : ∃ z, z = w5.heap.size := ⟨_, rfl⟩
  have hX56 := (Ext.refl w5).alloc (.cells (ints .u8 [0, 0, 0, 0, 0, 0, 0, 0, 0, 0, 0, 0]).toArray 51)
  have hl6 := Row.new w5 51 (ints .u8 [0, 0, 0, 0, 0, 0, 0, 0, 0, 0, 0, 0])
  rw [← hw6] at hX56 hl6
  rw [← hgl] at hl6
  have hlt1 := hr3.lt
  have hlt2 := hm5.lt
  obtain ⟨X3, hX3⟩ : ∃ X3 : Nat → Prop, X3 = fun q => q = gj ∨ q = gm ∨ q = gl := ⟨_, rfl⟩
  have HNE := Lib.hid (show gj ≠ gm ∧ gj ≠ gl ∧ gm ≠ gl ∧ X3 gj ∧ X3 gm ∧ X3 gl ∧ ∀ q, X3 q → q = gj ∨ q = gm ∨ q = gl from by
    have := hX35.size
    rw [hX3]
    exact ⟨by omega, by omega, by omega, .inl rfl, .inr (.inl rfl), .inr (.inr rfl), fun q hq => hq⟩)
  have HM6 := Lib.hid (hm5.ext hX56)
  have HL6 := Lib.hid hl6
  have HR6 := Lib.hid (hr3.ext (hX35.trans hX56))
  have HA6 := Lib.hid (HA2.out.add (Y := X3) (h3.trans (hX35.trans hX56)) (fun q hq => by
    have h6 := hl6.lt
    have h5 := (hX35.trans hX56).size
    rw [hX3] at hq
    rcases hq with rfl | rfl | rfl
    · exact .inr ⟨hgj, Nat.lt_of_lt_of_le hr3.lt h5⟩
    · exact .inr ⟨by have := h3.size; omega, (hm5.ext hX56).lt⟩
    · exact .inr ⟨by have := h3.size; have := hX35.size; omega, h6⟩))
  have HFEW := Lib.hid (few_ok a n cap L w6 HCAP.out.1 HCAP.out.2 (HL.out.ext (HX1.out.trans HA6.out.1)))
  have hza := zeroAct
  have hz12 := zero12
  have hmm := @run_makeMap Try.prog
  have HW4 := Lib.hid hw4
  have HGM := Lib.hid hgm
  have HW6 := Lib.hid hw6
  have HGL := Lib.hid hgl
  clear hr3 h3 hgj HOP hm4 hX34 hm5 hg5 hX35 hX56 hl6 hlt1 hlt2 hX3 hw4 hgm hw6 hgl
  go_upto_region 7 with (first
    | (refine wpList_insert_run rfl _ _ _ _ rfl _ _ _ rfl rfl rfl (by rw [← HW4.out, ← HGM.out]; exact hrun5) ?_))
  go_upto_region 8 with fail
  rw [← HW6.out, ← HGL.out, ← HGM.out]
  go_wp2_with fail
  refine HFEW.out.mono ?_
  rintro e w' ⟨rfl, m, rfl, hmn, hm40, hln⟩
  have HLN := Lib.hid hln
  clear hln HFEW hz12 hmm hrun5
  have hza := zeroAct
  go_wp2_with fail
  go_loopw [42] (fun v wr => ∃ (i nn nk : Nat) (D : Dsk) (Lt K : List Int), i ≤ m ∧ v = .int .i64 i ∧ nn ≤ i ∧ nk ≤ 1 + 60 * i ∧ (∀ c ∈ K, 0 ≤ c ∧ c ≤ 255) ∧ AtM w1 g gs sc D X3 wr ∧ Row wr gj 67 (jRow g 12 48 nn) ∧ Row wr gl 51 (ints .u8 Lt) ∧ Had wr gm nk K ∧ Tags D Lt K ∧ Calm D nn ∧ D.Wf (i * 1000)) (fun v _ => m - (intOf v).toNat)
  case atStart => exact ⟨0, 0, 1, newD 60, [0, 0, 0, 0, 0, 0, 0, 0, 0, 0, 0, 0], [0], by omega, rfl, by omega, by omega, fun c hc => by simp at hc; omega, HA6.out, HR6.out, HL6.out, HM6.out, tags_new, calm_new, newD_wf (by decide) _⟩
  case round =>
    obtain ⟨i, nn, nk, D, Lt, K, hi, rfl, hnn, hnk, hKB, hA, hr, hl, hm, ht, hcalm, hwf⟩ := hrel
    have HA := Lib.hid hA
    have HR := Lib.hid hr
    have HLT := Lib.hid hl
    have HM := Lib.hid hm
    have HT := Lib.hid ht
    have HKB := Lib.hid hKB
    have HCALM := Lib.hid hcalm
    have HWF := Lib.hid hwf
    clear hA hr hl hm ht hKB hcalm hwf HR6 HA6 HL6 HM6
    by_cases hlt : i < m
    · have hiL : i < L.length := by rw [HL.out.1]; omega
      obtain ⟨b, off, rfl, hc⟩ := HL.out.2 (by omega)
      obtain ⟨hok, hcells⟩ := hc i hiL
      have h60 := HLN.out i hiL hlt
      have hXw := HX1.out.trans HA.out.1
      generalize L[i] = x at *
      obtain ⟨kind, la, ln, lc, pos, cc, bp, bl, bc, there, S⟩ := x
      have k0 := hXw.keep (show w.cell? ⟨b, off + i * 6 + 0, none⟩ = some (.int .u8 kind) from hcells 0 (by decide))
      have k1 := hXw.keep (show w.cell? ⟨b, off + i * 6 + 1, none⟩ = some (.slice la ln lc) from hcells 1 (by decide))
      have k2 := hXw.keep (show w.cell? ⟨b, off + i * 6 + 2, none⟩ = some (.int .i64 pos) from hcells 2 (by decide))
      have k3 := hXw.keep (show w.cell? ⟨b, off + i * 6 + 3, none⟩ = some (.int .u8 cc) from hcells 3 (by decide))
      have k4 := hXw.keep (show w.cell? ⟨b, off + i * 6 + 4, none⟩ = some (.slice bp bl bc) from hcells 4 (by decide))
      have k5 := hXw.keep (show w.cell? ⟨b, off + i * 6 + 5, none⟩ = some (.int .u64 there) from hcells 5 (by decide))
      rw [Nat.add_zero] at k0
      dsimp only at h60
      have hkind : kind ≤ 255 := hok.kind
      have HSETSW := Lib.hid ((show SetsIn w la ln S from hok.sets).ext HX1.out)
      have HSETS := Lib.hid (HSETSW.out.ext HA.out.1)
      have him : (i : Int) < m := by omega
      clear hc hcells hok hiL hXw
      go_upto_region 11 with fail
      obtain ⟨wb, hwb⟩ : ∃ z, z = wr.alloc (.cells #[.int .u8 kind, .slice la ln lc, .int .i64 pos, .int .u8 cc, .slice bp bl bc, .int .u64 there] 47) := ⟨_, rfl⟩
      have hrb := Row.new wr 47 [.int .u8 kind, .slice la ln lc, .int .i64 pos, .int .u8 cc, .slice bp bl bc, .int .u64 there]
      have hXb := (Ext.refl wr).alloc (.cells #[.int .u8 kind, .slice la ln lc, .int .i64 pos, .int .u8 cc, .slice bp bl bc, .int .u64 there] 47)
      obtain ⟨gb, hgb⟩ : ∃ z, z = wr.heap.size := ⟨_, rfl⟩
      replace hrb : Row wb gb 47 [.int .u8 kind, .slice la ln lc, .int .i64 pos, .int .u8 cc, .slice bp bl bc, .int .u64 there] := by rw [hwb, hgb]; exact hrb
      rw [← hwb] at hXb ⊢
      rw [← hgb]
      have HXB := Lib.hid hXb
      have HRB := Lib.hid hrb
      have HGB := Lib.hid hgb
      have d1 := (hrb.cell? 1).trans rfl
      have HPS := Lib.hid (patches_ok 0 la ln lc (.int .i64 0) (.int .u8 0) (.slice none 0 0) (.int .u64 0) S wb (by decide) (by decide) (HSETS.out.ext hXb) (by omega))
      clear k0 k1 k2 k3 k4 k5 hrb hXb hwb hgb him
      go_wp2_with fail
      refine HPS.out.mono ?_
      rintro e w5 ⟨ao, co, O, rfl, hO, hOm, h5⟩
      have HX5 := Lib.hid (HXB.out.trans h5)
      obtain ⟨X, hXX⟩ : ∃ X : Nat → Prop, X = fun q => X3 q ∨ (wr.heap.size ≤ q ∧ q < w5.heap.size) := ⟨_, rfl⟩
      have hA5 : AtM w1 g gs sc D X w5 := HA.out.add HX5.out (fun q hq => by rw [hXX] at hq; exact hq)
      have hPats : PatsIn X w5 ao O.length (patchesP S) := by
        have h1 := hO.pats
        rw [hOm] at h1
        exact h1.mono (fun q hq => by
          rw [hXX]
          rcases hq with hq | hq
          · exact hq.elim
          · exact .inr ⟨Nat.le_trans HXB.out.size hq.1, hq.2⟩)
      have hlO : O.length = ln := by
        have h1 := congrArg List.length hOm
        rw [List.length_map] at h1
        rw [h1]
        unfold patchesP
        rw [List.length_map]
        exact HSETS.out.1
      have hcap := ownS_cap hO.own
      have hXG : X gj := by rw [hXX]; exact .inl HNE.out.2.2.2.1
      have hXB : X gb ∧ gb ≠ gj := by
        have h1 := HR.out.lt
        have h2 := (HRB.out.ext h5).lt
        have h3 := HGB.out
        rw [hXX]
        exact ⟨.inr ⟨by omega, h2⟩, by omega⟩
      have HXG := Lib.hid (show ∀ q, X3 q → X q from fun q hq => by rw [hXX]; exact .inl hq)
      have HCM := Lib.hid (commit_tags_ok hA5 HWF.out (HR.out.ext HX5.out) hXG HCALM.out HT.out (by omega) ao O.length co S hPats (by omega) hcap.1 hcap.2 (by omega))
      have HRB5 := Lib.hid (HRB.out.ext h5)
      have HXBB := Lib.hid hXB
      clear hO hOm h5 hXX hA5 hPats hcap hXG hXB d1 HPS hza hlO
      go_wp2_with fail
      refine HCM.out.mono ?_
      rintro e w6 ⟨D6, s6, c6, rfl, hv6, hA6, hr6, hc6, hw6, hs6, hor⟩
      have HA6 := Lib.hid (hA6.sub HXG.out)
      have HR6 := Lib.hid hr6
      have HC6 := Lib.hid hc6
      have HW6 := Lib.hid hw6
      have HL6 := Lib.hid (hs6.row (HLT.out.ext HX5.out) ⟨HXG.out gl HNE.out.2.2.2.2.2.1, Ne.symm HNE.out.2.1⟩)
      have HM6 := Lib.hid ((HM.out.ext HX5.out).heap (hs6.2 gm ⟨HXG.out gm HNE.out.2.2.2.2.1, Ne.symm HNE.out.1⟩))
      have d1 : w6.cell? ⟨gb, 1, none⟩ = some (.slice la ln lc) := ((hs6.row HRB5.out HXBB.out).cell? 1).trans rfl
      have HOR := Lib.hid hor
      have hcod : c6 = 0 ∨ c6 = 1 ∨ c6 = 4 := by
        rcases hor with h | h
        · exact .inr h.2.1
        · exact .inl h.1
      clear hA6 hr6 hc6 hw6 hs6 HCM hor
      rcases hcod with hc | hc | hc
      · subst hc
        have hT6 : (∀ t ∈ S, 0 ≤ t.1 ∧ t.1 ≤ 11) ∧ Tags D6 (S.foldl setL Lt) (S.map (·.2) ++ K) := by
          rcases HOR.out with h | h
          · exact absurd rfl h.1
          · exact h.2
        have HT6 := Lib.hid hT6
        clear hT6 HOR
        go_wp2_with fail
        go_loopw [66] (fun v wl => ∃ q nq : Nat, q ≤ ln ∧ v = .int .i64 q ∧ nq ≤ nk + q ∧ AtM w1 g gs sc D6 X3 wl ∧ Row wl gj 67 (jRow g 12 48 s6) ∧ Row wl gl 51 (ints .u8 ((S.take q).foldl setL Lt)) ∧ Had wl gm nq ((S.take q).map (·.2) ++ K)) (fun v _ => ln - (intOf v).toNat)
        case atStart => exact ⟨0, nk, by omega, rfl, by omega, HA6.out, HR6.out, HL6.out, HM6.out⟩
        case round =>
          obtain ⟨q, nq, hq, rfl, hnq, hAq, hRq, hLq, hMq⟩ := hrel
          have HAq := Lib.hid hAq
          have HRq := Lib.hid hRq
          have HLq := Lib.hid hLq
          have HMq := Lib.hid hMq
          clear hAq hRq hLq hMq
          by_cases hlt2 : q < ln
          · have hqS : q < S.length := by rw [HSETSW.out.1]; exact hlt2
            obtain ⟨b2, off2, rfl, hcS⟩ := HSETSW.out.2.2 (by omega)
            obtain ⟨hc1, hc2⟩ := hcS q hqS
            have k0 := HAq.out.1.keep hc1
            have k1 := HAq.out.1.keep hc2
            have hzs := zeroSet
            have hql : (q : Int) < ln := by omega
            have hsa := HT6.out.1 _ (List.getElem_mem hqS)
            have hsb := HSETSW.out.2.1 _ (List.getElem_mem hqS)
            have HLT1 := Lib.hid (show (S.take (q + 1)).foldl setL Lt = setL ((S.take q).foldl setL Lt) S[q] by rw [List.take_succ_eq_append_getElem hqS, List.foldl_append]; rfl)
            have HKT1 := Lib.hid (show ∀ c ∈ (S.take (q + 1)).map (·.2) ++ K, c ∈ S[q].2 :: ((S.take q).map (·.2) ++ K) by
              intro c hc
              rw [List.take_succ_eq_append_getElem hqS, List.map_append] at hc
              simp at hc ⊢
              rcases hc with hc | hc | hc
              · exact .inr (.inl hc)
              · exact .inl hc
              · exact .inr (.inr hc))
            generalize S[q] = sc2 at *
            obtain ⟨sa, sb⟩ := sc2
            dsimp only at k0 k1 hsa hsb
            obtain ⟨pn, rfl⟩ : ∃ pn : Nat, sa = pn := ⟨sa.toNat, by omega⟩
            have HLl := Lib.hid (show ((S.take q).foldl setL Lt).length = 12 by rw [foldL_len]; exact HT.out.lt)
            generalize (S.take q).foldl setL Lt = Lq at *
            generalize (S.take q).map (·.2) ++ K = Kq at *
            clear hc1 hc2 hcS hqS
            go_upto_region 18 with fail
            obtain ⟨wd, hwd⟩ : ∃ z, z = wr.alloc (.cells #[.int .i64 pn, .int .u8 sb] 53) := ⟨_, rfl⟩
            have hrd := Row.new wr 53 [.int .i64 pn, .int .u8 sb]
            have hXd := (Ext.refl wr).alloc (.cells #[.int .i64 pn, .int .u8 sb] 53)
            obtain ⟨gd, hgd⟩ : ∃ z, z = wr.heap.size := ⟨_, rfl⟩
            have hrd : Row wd gd 53 [.int .i64 pn, .int .u8 sb] := by rw [hwd, hgd]; exact hrd
            rw [← hwd] at hXd ⊢
            rw [← hgd]
            have hm2 := HMq.out.lt
            have hl2 := HLq.out.lt
            obtain ⟨wm, hrun, hhm, hgm⟩ := (HMq.out.ext hXd).put (by omega) (c := sb) (by omega)
            have hrd2 := hrd.by hgm (by omega)
            have e0 : wm.cell? ⟨gd, 0, none⟩ = some (.int .i64 pn) := (hrd2.cell? 0).trans rfl
            have e1 : wm.cell? ⟨gd, 1, none⟩ = some (.int .u8 sb) := (hrd2.cell? 1).trans rfl
            have d0' : wd.cell? ⟨gd, 1, none⟩ = some (.int .u8 sb) := (hrd.cell? 1).trans rfl
            have hLm := (HLq.out.ext hXd).by hgm (Ne.symm HNE.out.2.2.1)
            have cl : wm.cell? ⟨gl, pn, none⟩ = some (.int .u8 (Lq.getD pn 0)) := by
              have hpn : pn < Lq.length := by rw [HLl.out]; omega
              rw [hLm.cell?, ints_getElem?, List.getD_eq_getElem?_getD, List.getElem?_eq_getElem hpn]
              rfl
            have fl := hLm.frozen pn
            have hp12 : (pn : Int) < 12 := by omega
            have hpg : ¬ (11 : Int) < pn := by omega
            have hwu : IntKind.u16.wrap sb = sb := IntWalk.u16_in _ (by omega)
            have HS := Lib.hid (show Row (wm.setCell ⟨gl, pn, none⟩ (.int .u8 sb)) gl 51 (ints .u8 (setL Lq (pn, sb))) from by
              have h := Row.set hLm pn (.int .u8 sb)
              have e : (ints .u8 Lq).set pn (.int .u8 sb) = ints .u8 (setL Lq (pn, sb)) := by
                unfold setL ints
                rw [List.map_set]
                rfl
              rw [e] at h
              exact h)
            have hB := By.set wm gl pn (.int .u8 sb)
            have HMn := Lib.hid (show Had (wm.setCell ⟨gl, pn, none⟩ (.int .u8 sb)) gm (nq + 1) (sb :: Kq) from hhm.heap (hB.block gm hhm.lt (by simpa using HNE.out.2.2.1)))
            have HRn := Lib.hid (((HRq.out.ext hXd).by hgm HNE.out.1).by hB HNE.out.2.1)
            have HAn := Lib.hid (((HAq.out.ext hXd).guest (Dk.Chg.ofGrown (F := X3) hgm (fun k e => by cases e; exact HNE.out.2.2.2.2.1))).guest (Dk.Chg.ofBy (F := X3) hB HNE.out.2.2.2.2.2.1))
            clear k0 k1 hrd hXd hwd hgd hm2 hl2 hhm hgm hrd2 hLm hB
            go_wp2_with (first
              | (at_mapUpdate; refine wpList_mapUpdate_run rfl _ _ _ _ rfl _ _ _ rfl rfl rfl hrun ?_))
            go_roundw
            case rel => exact ⟨q + 1, nq + 1, hlt2, by go_num, by omega, HAn.out, HRn.out, by rw [HLT1.out]; exact HS.out, HMn.out.sub HKT1.out⟩
            case measure => simp [intOf]; omega
          · obtain rfl : q = ln := by omega
            obtain ⟨ws, hws⟩ : ∃ z, z = wr := ⟨_, rfl⟩
            have HAs := Lib.hid HAq.out
            have HRs := Lib.hid HRq.out
            have hSS : S.take q = S := List.take_of_length_le (Nat.le_of_eq HSETSW.out.1)
            have HLs := Lib.hid HLq.out
            have HMs := Lib.hid HMq.out
            have HTs := Lib.hid HT6.out.2
            have HKs := Lib.hid (show ∀ c ∈ S.map (·.2) ++ K, 0 ≤ c ∧ c ≤ 255 from fun c hc => by
              rcases List.mem_append.1 hc with hc | hc
              · obtain ⟨t, ht, rfl⟩ := List.mem_map.1 hc
                exact HSETSW.out.2.1 t ht
              · exact HKB.out c hc)
            rw [hSS] at HLs HMs
            obtain ⟨Lz, hLz⟩ : ∃ z, z = S.foldl setL Lt := ⟨_, rfl⟩
            obtain ⟨Kz, hKz⟩ : ∃ z, z = S.map (·.2) ++ K := ⟨_, rfl⟩
            obtain ⟨nz, hnz⟩ : ∃ z, z = nq := ⟨_, rfl⟩
            rw [← hws] at HAs HRs HLs HMs ⊢
            rw [← hLz] at HLs HTs
            rw [← hKz] at HMs HTs HKs
            rw [← hnz] at HMs hnq
            clear hws hLz hKz hnz HT6 HL6 HM6 HR6 HA6 HAq HRq HLq HMq d1 HSETSW HKB HT hSS
            go_wp2_with fail
            go_loopw [90] (fun v wl => ∃ k : Nat, k ≤ 60 ∧ v = .int .i64 k ∧ Ext ws wl) (fun v _ => 60 - (intOf v).toNat)
            case atStart => exact ⟨0, by omega, rfl, Ext.refl _⟩
            case round =>
              obtain ⟨k, hk60, rfl, hX⟩ := hrel
              have HX := Lib.hid hX
              clear hX
              by_cases hlt3 : k < 60
              · have hcall := Tag_atM (HAs.out.ext HX.out) (k : Int)
                rw [getR_yes (by rw [HTs.out.len]; exact hlt3) HTs.out.live.1] at hcall
                dsimp only at hcall
                have hin := HTs.out.all k
                have hfi := HTs.out.first k
                generalize (sg D6.secs k).tag = tg at *
                have htb := HKs.out tg hin
                have HCALL := Lib.hid hcall
                have hk3 : (k : Int) < 60 := by omega
                clear hcall
                go_wp2_with fail
                refine HCALL.out.mono ?_
                rintro e w9 ⟨rfl, h9⟩
                have HX9 := Lib.hid (HX.out.trans h9)
                have hlook := (HMs.out.ext HX9.out).look (c := tg) (by omega) hin
                clear h9 HCALL
                by_cases h12 : k < 12
                · have hk12 : (k : Int) < 12 := by omega
                  have hkl : k < Lz.length := by rw [HTs.out.lt]; exact h12
                  have hce : w9.cell? ⟨gl, k, none⟩ = some (.int .u8 tg) := by
                    rw [(HLs.out.ext HX9.out).cell?, ints_getElem?, List.getElem?_eq_getElem hkl]
                    have := hfi h12
                    rw [List.getD_eq_getElem?_getD, List.getElem?_eq_getElem hkl] at this
                    simp at this
                    simp [this]
                  have hwt : IntKind.u16.wrap tg = tg := IntWalk.u16_in _ (by omega)
                  have hnn2 : (tg != tg) = false := by simp
                  clear hfi hkl hin
                  go_wp2_with fail
                  go_roundw
                  case rel => exact ⟨k + 1, hlt3, by go_num, HX9.out⟩
                  case measure => simp [intOf]; omega
                · have hk12 : ¬ (k : Int) < 12 := by omega
                  clear hfi hin
                  go_wp2_with fail
                  go_roundw
                  case rel => exact ⟨k + 1, hlt3, by go_num, HX9.out⟩
                  case measure => simp [intOf]; omega
              · obtain rfl : k = 60 := by omega
                go_wp2_with fail
                go_roundw
                case rel => exact ⟨i + 1, s6, nz, D6, Lz, Kz, hlt, by go_num, by omega, by omega, HKs.out, HAs.out.ext HX.out, HRs.out.ext HX.out, HLs.out.ext HX.out, HMs.out.ext HX.out, HTs.out, HC6.out, Wf.mono HW6.out (by omega)⟩
                case measure => simp [intOf]; omega
      · obtain rfl : c6 = 1 := hc
        have hT6 : Tags D6 Lt K := by
          rcases HOR.out with h | h
          · exact h.2.2
          · exact absurd h.1 (by decide)
        have HT6 := Lib.hid hT6
        clear hT6 HOR
        go_wp2_with fail
        go_loopw [66] (fun v wl => ∃ k : Nat, k ≤ ln ∧ v = .int .i64 k ∧ Ext w6 wl) (fun v _ => ln - (intOf v).toNat)
        case atStart => exact ⟨0, by omega, rfl, Ext.refl _⟩
        case round =>
          obtain ⟨q, hq, rfl, hX⟩ := hrel
          have HXW := Lib.hid hX
          clear hX
          by_cases hlt2 : q < ln
          · have hqS : q < S.length := by rw [HSETSW.out.1]; exact hlt2
            obtain ⟨b2, off2, rfl, hcS⟩ := HSETSW.out.2.2 (by omega)
            obtain ⟨hc1, hc2⟩ := hcS q hqS
            have k0 := (HA6.out.ext HXW.out).1.keep hc1
            have k1 := (HA6.out.ext HXW.out).1.keep hc2
            have hzs := zeroSet
            have hql : (q : Int) < ln := by omega
            generalize S[q] = sc2 at *
            obtain ⟨sa, sb⟩ := sc2
            dsimp only at k0 k1
            have HXA := Lib.hid (HXW.out.alloc (.cells #[.int .i64 sa, .int .u8 sb] 53))
            clear hc1 hc2 hcS hqS
            go_wp2_with fail
            go_roundw
            case rel => exact ⟨q + 1, hlt2, by go_num, HXA.out⟩
            case measure => simp [intOf]; omega
          · obtain rfl : q = ln := by omega
            obtain ⟨ws, hws⟩ : ∃ z, z = wr := ⟨_, rfl⟩
            have HAs := Lib.hid (HA6.out.ext HXW.out)
            have HRs := Lib.hid (HR6.out.ext HXW.out)
            have HLs := Lib.hid (HL6.out.ext HXW.out)
            have HMs := Lib.hid (HM6.out.ext HXW.out)
            have HTs := Lib.hid HT6.out
            have HKs := Lib.hid HKB.out
            obtain ⟨Lz, hLz⟩ : ∃ z, z = Lt := ⟨_, rfl⟩
            obtain ⟨Kz, hKz⟩ : ∃ z, z = K := ⟨_, rfl⟩
            obtain ⟨nz, hnz⟩ : ∃ z, z = nk := ⟨_, rfl⟩
            rw [← hws] at HAs HRs HLs HMs ⊢
            rw [← hLz] at HLs HTs
            rw [← hKz] at HMs HTs HKs
            rw [← hnz] at HMs hnk
            clear hws hLz hKz hnz HXW HT6 HL6 HM6 HR6 HA6 d1 HSETSW HKB HT
            go_wp2_with fail
            go_loopw [90] (fun v wl => ∃ k : Nat, k ≤ 60 ∧ v = .int .i64 k ∧ Ext ws wl) (fun v _ => 60 - (intOf v).toNat)
            case atStart => exact ⟨0, by omega, rfl, Ext.refl _⟩
            case round =>
              obtain ⟨k, hk60, rfl, hX⟩ := hrel
              have HX := Lib.hid hX
              clear hX
              by_cases hlt3 : k < 60
              · have hcall := Tag_atM (HAs.out.ext HX.out) (k : Int)
                rw [getR_yes (by rw [HTs.out.len]; exact hlt3) HTs.out.live.1] at hcall
                dsimp only at hcall
                have hin := HTs.out.all k
                have hfi := HTs.out.first k
                generalize (sg D6.secs k).tag = tg at *
                have htb := HKs.out tg hin
                have HCALL := Lib.hid hcall
                have hk3 : (k : Int) < 60 := by omega
                clear hcall
                go_wp2_with fail
                refine HCALL.out.mono ?_
                rintro e w9 ⟨rfl, h9⟩
                have HX9 := Lib.hid (HX.out.trans h9)
                have hlook := (HMs.out.ext HX9.out).look (c := tg) (by omega) hin
                clear h9 HCALL
                by_cases h12 : k < 12
                · have hk12 : (k : Int) < 12 := by omega
                  have hkl : k < Lz.length := by rw [HTs.out.lt]; exact h12
                  have hce : w9.cell? ⟨gl, k, none⟩ = some (.int .u8 tg) := by
                    rw [(HLs.out.ext HX9.out).cell?, ints_getElem?, List.getElem?_eq_getElem hkl]
                    have := hfi h12
                    rw [List.getD_eq_getElem?_getD, List.getElem?_eq_getElem hkl] at this
                    simp at this
                    simp [this]
                  have hwt : IntKind.u16.wrap tg = tg := IntWalk.u16_in _ (by omega)
                  have hnn2 : (tg != tg) = false := by simp
                  clear hfi hkl hin
                  go_wp2_with fail
                  go_roundw
                  case rel => exact ⟨k + 1, hlt3, by go_num, HX9.out⟩
                  case measure => simp [intOf]; omega
                · have hk12 : ¬ (k : Int) < 12 := by omega
                  clear hfi hin
                  go_wp2_with fail
                  go_roundw
                  case rel => exact ⟨k + 1, hlt3, by go_num, HX9.out⟩
                  case measure => simp [intOf]; omega
              · obtain rfl : k = 60 := by omega
                go_wp2_with fail
                go_roundw
                case rel => exact ⟨i + 1, s6, nz, D6, Lz, Kz, hlt, by go_num, by omega, by omega, HKs.out, HAs.out.ext HX.out, HRs.out.ext HX.out, HLs.out.ext HX.out, HMs.out.ext HX.out, HTs.out, HC6.out, Wf.mono HW6.out (by omega)⟩
                case measure => simp [intOf]; omega
      · obtain rfl : c6 = 4 := hc
        have hT6 : Tags D6 Lt K := by
          rcases HOR.out with h | h
          · exact h.2.2
          · exact absurd h.1 (by decide)
        have HT6 := Lib.hid hT6
        clear hT6 HOR
        go_wp2_with fail
        go_loopw [66] (fun v wl => ∃ k : Nat, k ≤ ln ∧ v = .int .i64 k ∧ Ext w6 wl) (fun v _ => ln - (intOf v).toNat)
        case atStart => exact ⟨0, by omega, rfl, Ext.refl _⟩
        case round =>
          obtain ⟨q, hq, rfl, hX⟩ := hrel
          have HXW := Lib.hid hX
          clear hX
          by_cases hlt2 : q < ln
          · have hqS : q < S.length := by rw [HSETSW.out.1]; exact hlt2
            obtain ⟨b2, off2, rfl, hcS⟩ := HSETSW.out.2.2 (by omega)
            obtain ⟨hc1, hc2⟩ := hcS q hqS
            have k0 := (HA6.out.ext HXW.out).1.keep hc1
            have k1 := (HA6.out.ext HXW.out).1.keep hc2
            have hzs := zeroSet
            have hql : (q : Int) < ln := by omega
            generalize S[q] = sc2 at *
            obtain ⟨sa, sb⟩ := sc2
            dsimp only at k0 k1
            have HXA := Lib.hid (HXW.out.alloc (.cells #[.int .i64 sa, .int .u8 sb] 53))
            clear hc1 hc2 hcS hqS
            go_wp2_with fail
            go_roundw
            case rel => exact ⟨q + 1, hlt2, by go_num, HXA.out⟩
            case measure => simp [intOf]; omega
          · obtain rfl : q = ln := by omega
            obtain ⟨ws, hws⟩ : ∃ z, z = wr := ⟨_, rfl⟩
            have HAs := Lib.hid (HA6.out.ext HXW.out)
            have HRs := Lib.hid (HR6.out.ext HXW.out)
            have HLs := Lib.hid (HL6.out.ext HXW.out)
            have HMs := Lib.hid (HM6.out.ext HXW.out)
            have HTs := Lib.hid HT6.out
            have HKs := Lib.hid HKB.out
            obtain ⟨Lz, hLz⟩ : ∃ z, z = Lt := ⟨_, rfl⟩
            obtain ⟨Kz, hKz⟩ : ∃ z, z = K := ⟨_, rfl⟩
            obtain ⟨nz, hnz⟩ : ∃ z, z = nk := ⟨_, rfl⟩
            rw [← hws] at HAs HRs HLs HMs ⊢
            rw [← hLz] at HLs HTs
            rw [← hKz] at HMs HTs HKs
            rw [← hnz] at HMs hnk
            clear hws hLz hKz hnz HXW HT6 HL6 HM6 HR6 HA6 d1 HSETSW HKB HT
            go_wp2_with fail
            go_loopw [90] (fun v wl => ∃ k : Nat, k ≤ 60 ∧ v = .int .i64 k ∧ Ext ws wl) (fun v _ => 60 - (intOf v).toNat)
            case atStart => exact ⟨0, by omega, rfl, Ext.refl _⟩
            case round =>
              obtain ⟨k, hk60, rfl, hX⟩ := hrel
              have HX := Lib.hid hX
              clear hX
              by_cases hlt3 : k < 60
              · have hcall := Tag_atM (HAs.out.ext HX.out) (k : Int)
                rw [getR_yes (by rw [HTs.out.len]; exact hlt3) HTs.out.live.1] at hcall
                dsimp only at hcall
                have hin := HTs.out.all k
                have hfi := HTs.out.first k
                generalize (sg D6.secs k).tag = tg at *
                have htb := HKs.out tg hin
                have HCALL := Lib.hid hcall
                have hk3 : (k : Int) < 60 := by omega
                clear hcall
                go_wp2_with fail
                refine HCALL.out.mono ?_
                rintro e w9 ⟨rfl, h9⟩
                have HX9 := Lib.hid (HX.out.trans h9)
                have hlook := (HMs.out.ext HX9.out).look (c := tg) (by omega) hin
                clear h9 HCALL
                by_cases h12 : k < 12
                · have hk12 : (k : Int) < 12 := by omega
                  have hkl : k < Lz.length := by rw [HTs.out.lt]; exact h12
                  have hce : w9.cell? ⟨gl, k, none⟩ = some (.int .u8 tg) := by
                    rw [(HLs.out.ext HX9.out).cell?, ints_getElem?, List.getElem?_eq_getElem hkl]
                    have := hfi h12
                    rw [List.getD_eq_getElem?_getD, List.getElem?_eq_getElem hkl] at this
                    simp at this
                    simp [this]
                  have hwt : IntKind.u16.wrap tg = tg := IntWalk.u16_in _ (by omega)
                  have hnn2 : (tg != tg) = false := by simp
                  clear hfi hkl hin
                  go_wp2_with fail
                  go_roundw
                  case rel => exact ⟨k + 1, hlt3, by go_num, HX9.out⟩
                  case measure => simp [intOf]; omega
                · have hk12 : ¬ (k : Int) < 12 := by omega
                  clear hfi hin
                  go_wp2_with fail
                  go_roundw
                  case rel => exact ⟨k + 1, hlt3, by go_num, HX9.out⟩
                  case measure => simp [intOf]; omega
              · obtain rfl : k = 60 := by omega
                go_wp2_with fail
                go_roundw
                case rel => exact ⟨i + 1, s6, nz, D6, Lz, Kz, hlt, by go_num, by omega, by omega, HKs.out, HAs.out.ext HX.out, HRs.out.ext HX.out, HLs.out.ext HX.out, HMs.out.ext HX.out, HTs.out, HC6.out, Wf.mono HW6.out (by omega)⟩
                case measure => simp [intOf]; omega
    · obtain rfl : i = m := by omega
      go_wp2
      go_ret
      exact ⟨rfl, HX1.out.trans HA.out.1⟩
theorem law_JournalTags {H : Type} {enc : TypeId × Value → H} {base : Nat} {d0 : DataW H} {p0 : List MemPlace} (v0 : Value) (w : World)
    (ho0 : Value.okWide Try.prog w .any base 43 v0) (h0 : DataW.Trod enc Try.prog w 0 (fun _ => true) true 43 v0 d0 p0) :
    Calls Try.prog 6 #[v0] w fun e w' => e = .returned (.bool true) ∧ Below w.heap.size w w' := by
  obtain ⟨a, n, cap, L, rfl, hn, hcm, hL⟩ := acts_in ho0 h0
  exact tags_walk a n cap L w hn hcm hL
end Go.Proofs.Ytfodpphbdbeciaa.Jn
