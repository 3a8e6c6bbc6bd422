/- The law JournalSeqs. -/
import Derived.Test.YtfodpphbdbeciaaJnTg
import Derived.Test.YtfodpphbdbeciaaJnF
import Derived.Test.YtfodpphbdbeciaaJnOL
import Derived.Deep.DeepCutAuto
namespace Go.Proofs.Ytfodpphbdbeciaa.Jn
open Go.RowKit Words Mem Plain Ops Agg OwnS Dk
open Go.Joins Go.ChangeShapes Go.WideShapes Go.Deep
set_option maxRecDepth 100000
set_option linter.ambiguousOpen false
set_option linter.unusedVariables false
set_option linter.unusedSimpArgs false

theorem zeroAct (w : World) : (zeroValue 47).run Try.prog w = .ok (.agg #[.int .u8 0, .slice none 0 0, .int .i64 0, .int .u8 0, .slice none 0 0, .int .u64 0]) w := by kernel_rfl
theorem calm_open {w0 u : World} {g gs sc : Nat} {X : Nat → Prop} {D : Dsk} {s : Int} {b : Nat} (hA : AtM w0 g gs sc D X u) (hwf : D.Wf b) (h : Calm D s) (hs : 0 ≤ s ∧ s < 18446744073709551616) :
    Calls Try.prog 13 #[.pointer (some ⟨g, 0, none⟩), .int .i64 12, .int .i64 48] u fun e w' => ∃ gj, e = .returned (.tuple #[.pointer (some ⟨gj, 0, none⟩), .int .i64 0, .int .i64 0]) ∧ u.heap.size ≤ gj ∧ Row w' gj 67 (jRow g 12 48 s) ∧ Ext u w' := by
  obtain ⟨B, hB, hr⟩ := h.head
  exact Open_live hA 12 48 (by decide) (by rw [h.len]; decide) (by rw [h.len]; decide) s hs B hB hr
set_option maxHeartbeats 16000000 in
theorem seqs_walk (a : Option Addr) (n cap : Nat) (L : List ActT) (w : World) (hn : n ≤ cap) (hcm : cap ≤ 9223372036854775807) (hL : ActsIn w a n L) :
    Calls Try.prog 5 #[.slice a n cap] w fun e w' => e = .returned (.bool true) ∧ Ext w w' := by
  have HL := Lib.hid hL
  have HCAP := Lib.hid (And.intro hn hcm)
  have HSH := Lib.hid (shown_ok w)
  clear hL hn hcm
  go_enter Try.func5, Try.ntmps5
  go_wp2_with fail
  refine HSH.out.mono ?_
  rintro e w1 ⟨rfl, h1⟩
  have HX1 := Lib.hid h1
  have HNEW := Lib.hid (New_atM 60 w1 (by decide))
  clear h1 HSH
  go_wp2_with fail
  refine HNEW.out.mono ?_
  rintro e w2 ⟨g, gs, sc, rfl, hA⟩
  have HA2 := Lib.hid hA
  have HOP := Lib.hid (calm_open hA (newD_wf (by decide) 0) calm_new (by decide))
  clear hA HNEW
  go_wp2_with fail
  refine HOP.out.mono ?_
  rintro e w3 ⟨gj, rfl, hgj, hr3, h3⟩
  have HR3 := Lib.hid hr3
  have HA3 := Lib.hid (HA2.out.add (Y := fun q => q = gj) h3 (fun q hq => by subst hq; exact .inr ⟨hgj, hr3.lt⟩))
  have HFEW := Lib.hid (few_ok a n cap L w3 HCAP.out.1 HCAP.out.2 (HL.out.ext (HX1.out.trans HA3.out.1)))
  clear hr3 h3 hgj HOP
  go_wp2_with fail
  refine HFEW.out.mono ?_
  rintro e w' ⟨rfl, m, rfl, hmn, hm40, hln⟩
  have HLN := Lib.hid hln
  clear hln HFEW
  have hza := zeroAct
  go_wp2_with fail
  go_loopw [33, 6, 9] (fun v jv nv wr => ∃ (i gj nn : Nat) (D : Dsk), i ≤ m ∧ v = .int .i64 i ∧ jv = .pointer (some ⟨gj, 0, none⟩) ∧ nv = .int .u64 nn ∧ nn ≤ i ∧ AtM w1 g gs sc D (fun q => q = gj) wr ∧ Row wr gj 67 (jRow g 12 48 nn) ∧ Calm D nn ∧ D.Wf (i * 1000)) (fun v _ _ _ => m - (intOf v).toNat)
  case atStart => exact ⟨0, gj, 0, newD 60, by omega, rfl, rfl, rfl, by omega, HA3.out, HR3.out, calm_new, newD_wf (by decide) _⟩
  case round =>
    obtain ⟨i, gj, nn, D, hi, rfl, rfl, rfl, hnn, hA, hr, hcalm, hwf⟩ := hrel
    have HA := Lib.hid hA
    have HR := Lib.hid hr
    have HCALM := Lib.hid hcalm
    have HWF := Lib.hid hwf
    clear hA hr hcalm hwf HR3 HA3
    by_cases hlt : i < m
    · have hiL : i < L.length := by rw [HL.out.1]; omega
      obtain ⟨b, off, rfl, hc⟩ := HL.out.2 (by omega)
      obtain ⟨hok, hcells⟩ := hc i hiL
      have h60 := HLN.out i hiL hlt
      have hXw := HX1.out.trans HA.out.1
      have hok := hok.ext hXw
      generalize L[i] = x at *
      obtain ⟨kind, la, ln, lc, pos, cc, bp, bl, bc, there, S⟩ := x
      have k0 := hXw.keep (show w.cell? ⟨b, off + i * 6 + 0, none⟩ = some (.int .u8 kind) from hcells 0 (by decide))
      have k1 := hXw.keep (show w.cell? ⟨b, off + i * 6 + 1, none⟩ = some (.slice la ln lc) from hcells 1 (by decide))
      have k2 := hXw.keep (show w.cell? ⟨b, off + i * 6 + 2, none⟩ = some (.int .i64 pos) from hcells 2 (by decide))
      have k3 := hXw.keep (show w.cell? ⟨b, off + i * 6 + 3, none⟩ = some (.int .u8 cc) from hcells 3 (by decide))
      have k4 := hXw.keep (show w.cell? ⟨b, off + i * 6 + 4, none⟩ = some (.slice bp bl bc) from hcells 4 (by decide))
      have k5 := hXw.keep (show w.cell? ⟨b, off + i * 6 + 5, none⟩ = some (.int .u64 there) from hcells 5 (by decide))
      rw [Nat.add_zero] at k0
      dsimp only at h60
      have hkind : kind ≤ 255 := hok.kind
      have HSETS := Lib.hid (show SetsIn wr la ln S from hok.sets)
      have him : (i : Int) < m := by omega
      clear hc hcells hok hiL hXw
      go_upto_region 10 with fail
      obtain ⟨wb, hwb⟩ : ∃ z, z = wr.alloc (.cells #[.int .u8 kind, .slice la ln lc, .int .i64 pos, .int .u8 cc, .slice bp bl bc, .int .u64 there] 47) := ⟨_, rfl⟩
      have hrb := Row.new wr 47 [.int .u8 kind, .slice la ln lc, .int .i64 pos, .int .u8 cc, .slice bp bl bc, .int .u64 there]
      have hXb := (Ext.refl wr).alloc (.cells #[.int .u8 kind, .slice la ln lc, .int .i64 pos, .int .u8 cc, .slice bp bl bc, .int .u64 there] 47)
      obtain ⟨gb, hgb⟩ : ∃ z, z = wr.heap.size := ⟨_, rfl⟩
      have hrb : Row wb gb 47 [.int .u8 kind, .slice la ln lc, .int .i64 pos, .int .u8 cc, .slice bp bl bc, .int .u64 there] := by rw [hwb, hgb]; exact hrb
      rw [← hwb] at hXb ⊢
      rw [← hgb]
      have HXB := Lib.hid hXb
      have HRB := Lib.hid hrb
      have HGB := Lib.hid hgb
      have d1 := (hrb.cell? 1).trans rfl
      have HPS := Lib.hid (patches_ok 0 la ln lc (.int .i64 0) (.int .u8 0) (.slice none 0 0) (.int .u64 0) S wb (by decide) (by decide) (HSETS.out.ext hXb) (by omega))
      clear k0 k1 k2 k3 k4 k5 hrb hXb hwb hgb him
      go_wp2_with fail
      refine HPS.out.mono ?_
      rintro e w5 ⟨ao, co, O, rfl, hO, hOm, h5⟩
      have HX5 := Lib.hid (HXB.out.trans h5)
      obtain ⟨X, hXX⟩ : ∃ X : Nat → Prop, X = fun q => q = gj ∨ (wr.heap.size ≤ q ∧ q < w5.heap.size) := ⟨_, rfl⟩
      have hA5 : AtM w1 g gs sc D X w5 := HA.out.add HX5.out (fun q hq => by rw [hXX] at hq; exact hq)
      have hPats : PatsIn X w5 ao O.length (patchesP S) := by
        have h1 := hO.pats
        rw [hOm] at h1
        exact h1.mono (fun q hq => by
          rw [hXX]
          rcases hq with hq | hq
          · exact hq.elim
          · exact .inr ⟨Nat.le_trans HXB.out.size hq.1, hq.2⟩)
      have hlO : O.length = ln := by
        have h1 := congrArg List.length hOm
        rw [List.length_map] at h1
        rw [h1]
        unfold patchesP
        rw [List.length_map]
        exact HSETS.out.1
      have hcap := ownS_cap hO.own
      have hXG : X gj := by rw [hXX]; exact .inl rfl
      have hXB : X gb ∧ gb ≠ gj := by
        have h1 := HR.out.lt
        have h2 := (HRB.out.ext h5).lt
        have h3 := HGB.out
        rw [hXX]
        exact ⟨.inr ⟨by omega, h2⟩, by omega⟩
      have HXG := Lib.hid (show ∀ q, q = gj → X q from fun q hq => by rw [hq]; exact hXG)
      have HCM := Lib.hid (commit_calm_ok hA5 HWF.out (HR.out.ext HX5.out) hXG HCALM.out (by omega) ao O.length co (patchesP S) hPats (by omega) hcap.1 hcap.2 (by omega))
      have HRB5 := Lib.hid (HRB.out.ext h5)
      have HXBB := Lib.hid hXB
      clear hO hOm h5 hXX hA5 hPats hcap hXG hXB d1 HPS hza hlO
      go_wp2_with fail
      refine HCM.out.mono ?_
      rintro e w6 ⟨D6, s6, c6, rfl, hv6, hA6, hr6, hc6, hw6, hs6⟩
      have HSS := Lib.hid hv6
      have HA6 := Lib.hid hA6
      have HRR6 := Lib.hid hr6
      have HCC6 := Lib.hid hc6
      have HW6 := Lib.hid hw6
      have d0 := ((hs6.row HRB5.out HXBB.out).cell? 0).trans rfl
      have hza := zeroAct
      clear hv6 hA6 hr6 hc6 hw6 hs6 HCM
      by_cases hc0 : c6 = 0
      · subst hc0
        by_cases hl0 : 0 < O.length
        · have HS6 := Lib.hid (show s6 = nn + 1 by rw [HSS.out, if_pos ⟨rfl, hl0⟩])
          have hl0' : (0 : Int) < O.length := by omega
          have hwn : IntKind.u64.wrap ((nn : Int) + 1) = (nn : Int) + 1 := IntWalk.u64_in _ (by omega)
          rw [show ((0 : Int)) = 0 from rfl]
          have HR6 := Lib.hid (show Row w6 gj 67 (jRow g 12 48 ((nn + 1 : Nat) : Int)) from by rw [← HS6.out]; exact HRR6.out)
          have HC6 := Lib.hid (show Calm D6 ((nn + 1 : Nat) : Int) from by rw [← HS6.out]; exact HCC6.out)
          have hseq := Seq_ok HR6.out
          have hqn : (((nn + 1 : Nat) : Int) != ((nn + 1 : Nat) : Int)) = false := by simp
          go_wp2_with fail
          refine hseq.mono ?_
          rintro e w' ⟨rfl, rfl⟩
          clear hseq
          by_cases h5 : kind % 6 = 5
          · have h5' : ((kind : Int) % 6 == 5) = true := by simp; omega
            have HOP := Lib.hid (calm_open HA6.out HW6.out HC6.out (by omega))
            clear h5
            go_wp2_with fail
            refine HOP.out.mono ?_
            rintro e w7 ⟨gj2, rfl, hg2, hr7, h7⟩
            have HR7 := Lib.hid hr7
            have HA7 := Lib.hid (HA6.out.add (Y := fun q => q = gj2) h7 (fun q hq => by subst hq; exact .inr ⟨hg2, hr7.lt⟩))
            have hseq2 := Seq_ok hr7
            clear hr7 h7 hg2 HOP d0
            go_wp2_with fail
            refine hseq2.mono ?_
            rintro e w' ⟨rfl, rfl⟩
            clear hseq2
            go_wp2
            go_roundw
            case rel => exact ⟨i + 1, gj2, nn + 1, D6, hlt, by go_num, rfl, by go_num, by omega, HA7.out, HR7.out, HC6.out, Wf.mono HW6.out (by omega)⟩
            case measure => simp [intOf]; omega
          · have h5' : ((kind : Int) % 6 == 5) = false := by simp; omega
            clear h5
            go_wp2
            go_roundw
            case rel => exact ⟨i + 1, gj, nn + 1, D6, hlt, by go_num, rfl, by go_num, by omega, HA6.out.sub (fun q hq => HXG.out q hq), HR6.out, HC6.out, Wf.mono HW6.out (by omega)⟩
            case measure => simp [intOf]; omega
        · have HS6 := Lib.hid (show s6 = nn by rw [HSS.out, if_neg (fun h => hl0 h.2)])
          have hl0' : ¬ ((0 : Int) < O.length) := by omega
          have HR6 := Lib.hid (show Row w6 gj 67 (jRow g 12 48 ((nn : Nat) : Int)) from by rw [← HS6.out]; exact HRR6.out)
          have HC6 := Lib.hid (show Calm D6 ((nn : Nat) : Int) from by rw [← HS6.out]; exact HCC6.out)
          have hseq := Seq_ok HR6.out
          have hqn : (((nn : Nat) : Int) != ((nn : Nat) : Int)) = false := by simp
          go_wp2_with fail
          refine hseq.mono ?_
          rintro e w' ⟨rfl, rfl⟩
          clear hseq
          by_cases h5 : kind % 6 = 5
          · have h5' : ((kind : Int) % 6 == 5) = true := by simp; omega
            have HOP := Lib.hid (calm_open HA6.out HW6.out HC6.out (by omega))
            clear h5
            go_wp2_with fail
            refine HOP.out.mono ?_
            rintro e w7 ⟨gj2, rfl, hg2, hr7, h7⟩
            have HR7 := Lib.hid hr7
            have HA7 := Lib.hid (HA6.out.add (Y := fun q => q = gj2) h7 (fun q hq => by subst hq; exact .inr ⟨hg2, hr7.lt⟩))
            have hseq2 := Seq_ok hr7
            clear hr7 h7 hg2 HOP d0
            go_wp2_with fail
            refine hseq2.mono ?_
            rintro e w' ⟨rfl, rfl⟩
            clear hseq2
            go_wp2
            go_roundw
            case rel => exact ⟨i + 1, gj2, nn, D6, hlt, by go_num, rfl, by go_num, by omega, HA7.out, HR7.out, HC6.out, Wf.mono HW6.out (by omega)⟩
            case measure => simp [intOf]; omega
          · have h5' : ((kind : Int) % 6 == 5) = false := by simp; omega
            clear h5
            go_wp2
            go_roundw
            case rel => exact ⟨i + 1, gj, nn, D6, hlt, by go_num, rfl, by go_num, by omega, HA6.out.sub (fun q hq => HXG.out q hq), HR6.out, HC6.out, Wf.mono HW6.out (by omega)⟩
            case measure => simp [intOf]; omega
      · have HS6 := Lib.hid (show s6 = nn by rw [HSS.out, if_neg (fun h => hc0 h.1)])
        have hne : (c6 == 0) = false := by simp [hc0]
        clear hc0
        have HR6 := Lib.hid (show Row w6 gj 67 (jRow g 12 48 ((nn : Nat) : Int)) from by rw [← HS6.out]; exact HRR6.out)
        have HC6 := Lib.hid (show Calm D6 ((nn : Nat) : Int) from by rw [← HS6.out]; exact HCC6.out)
        have hseq := Seq_ok HR6.out
        have hqn : (((nn : Nat) : Int) != ((nn : Nat) : Int)) = false := by simp
        go_wp2_with fail
        refine hseq.mono ?_
        rintro e w' ⟨rfl, rfl⟩
        clear hseq
        by_cases h5 : kind % 6 = 5
        · have h5' : ((kind : Int) % 6 == 5) = true := by simp; omega
          have HOP := Lib.hid (calm_open HA6.out HW6.out HC6.out (by omega))
          clear h5
          go_wp2_with fail
          refine HOP.out.mono ?_
          rintro e w7 ⟨gj2, rfl, hg2, hr7, h7⟩
          have HR7 := Lib.hid hr7
          have HA7 := Lib.hid (HA6.out.add (Y := fun q => q = gj2) h7 (fun q hq => by subst hq; exact .inr ⟨hg2, hr7.lt⟩))
          have hseq2 := Seq_ok hr7
          clear hr7 h7 hg2 HOP d0
          go_wp2_with fail
          refine hseq2.mono ?_
          rintro e w' ⟨rfl, rfl⟩
          clear hseq2
          go_wp2
          go_roundw
          case rel => exact ⟨i + 1, gj2, nn, D6, hlt, by go_num, rfl, by go_num, by omega, HA7.out, HR7.out, HC6.out, Wf.mono HW6.out (by omega)⟩
          case measure => simp [intOf]; omega
        · have h5' : ((kind : Int) % 6 == 5) = false := by simp; omega
          clear h5
          go_wp2
          go_roundw
          case rel => exact ⟨i + 1, gj, nn, D6, hlt, by go_num, rfl, by go_num, by omega, HA6.out.sub (fun q hq => HXG.out q hq), HR6.out, HC6.out, Wf.mono HW6.out (by omega)⟩
          case measure => simp [intOf]; omega
    · obtain rfl : i = m := by omega
      go_wp2
      go_ret
      exact ⟨rfl, HX1.out.trans HA.out.1⟩
theorem law_JournalSeqs {H : Type} {enc : TypeId × Value → H} {base : Nat} {d0 : DataW H} {p0 : List MemPlace} (v0 : Value) (w : World)
    (ho0 : Value.okWide Try.prog w .any base 43 v0) (h0 : DataW.Trod enc Try.prog w 0 (fun _ => true) true 43 v0 d0 p0) :
    Calls Try.prog 5 #[v0] w fun e w' => e = .returned (.bool true) ∧ Below w.heap.size w w' := by
  obtain ⟨a, n, cap, L, rfl, hn, hcm, hL⟩ := acts_in ho0 h0
  exact seqs_walk a n cap L w hn hcm hL
end Go.Proofs.Ytfodpphbdbeciaa.Jn
