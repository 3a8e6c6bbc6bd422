/- The law JournalAgain. -/
import Derived.Test.YtfodpphbdbeciaaJnE
import Derived.Test.YtfodpphbdbeciaaJnSeq
import Derived.Deep.DeepCutAuto
namespace Go.Proofs.Ytfodpphbdbeciaa.Jn
open Go.RowKit Words Mem Plain Ops Agg OwnS Dk
open Go.Joins Go.ChangeShapes Go.WideShapes Go.Deep
set_option maxRecDepth 100000
set_option linter.ambiguousOpen false
set_option linter.unusedVariables false
set_option linter.unusedSimpArgs false

/-- The law's disk between acts. -/
def Inv (D : Dsk) (s m : Nat) : Prop := s ≤ m ∧ ((D.dead = false ∧ D.waits = [] ∧ D.secs.length = 60 ∧ Rest D.secs s) ∨ (D.dead = true ∧ CrashE D m (fun _ => True)))
theorem inv_new : Inv (newD 60) 0 0 := by
  refine ⟨Nat.le_refl _, .inl ⟨rfl, rfl, by simp [newD], .inl ⟨?_, rfl⟩⟩⟩
  decide +kernel
theorem Inv.more {D : Dsk} {s m n : Nat} (h : Inv D s m) (hn : m ≤ n) : Inv D s n :=
  ⟨Nat.le_trans h.1 hn, h.2.imp id (fun h => ⟨h.1, h.2.mono (by omega) (fun _ h => h)⟩)⟩
theorem inv_commit {D : Dsk} {s m : Nat} (h : Inv D s m) (hm : m ≤ 100000) {L : List PT} (hL : ∀ p ∈ L, p.wf) : ∃ s' : Nat, (commitR D 12 (47 + 1 : Nat) s L).2.1 = s' ∧ Inv (commitR D 12 (47 + 1 : Nat) s L).1 s' (m + 1) := by
  obtain ⟨hs, ⟨h1, h2, h3, h4⟩ | ⟨h1, h2⟩⟩ := h
  · rcases commit_ends h1 h2 h3 (s := (s : Int)) (by omega) h4 hL with ⟨c, _, e, _⟩ | ⟨_, e, k1, k2, k3, k4, _⟩ | ⟨_, e, k1, k2⟩
    · rw [e]
      exact ⟨s, rfl, by omega, .inl ⟨h1, h2, h3, h4⟩⟩
    · rw [e]
      exact ⟨s + 1, rfl, by omega, .inl ⟨k1, k2, k3, k4⟩⟩
    · rw [e]
      exact ⟨s, rfl, by omega, .inr ⟨k1, k2.mono (by omega) (fun _ _ => trivial)⟩⟩
  · obtain ⟨e1, e2⟩ := commitR_dead h1 12 (47 + 1 : Nat) s L
    rw [e1, e2]
    exact ⟨s, rfl, by omega, .inr ⟨h1, h2.mono (by omega) (fun _ h => h)⟩⟩
theorem cut_dead (D : Dsk) (n : Int) : (cutR D n).secs = D.secs ∧ (cutR D n).waits = D.waits ∧ (cutR D n).dead = D.dead ∧ (D.dead = true → cutR D n = D) := by
  unfold cutR
  split
  · exact ⟨rfl, rfl, rfl, fun _ => rfl⟩
  · rename_i h
    exact ⟨rfl, rfl, rfl, fun h2 => absurd h2 h⟩
theorem inv_cut {D : Dsk} {s m : Nat} (h : Inv D s m) (n : Int) : Inv (cutR D n) s m := by
  obtain ⟨c1, c2, c3, c4⟩ := cut_dead D n
  obtain ⟨hs, ⟨h1, h2, h3, h4⟩ | ⟨h1, h2⟩⟩ := h
  · exact ⟨hs, .inl ⟨by rw [c3]; exact h1, by rw [c2]; exact h2, by rw [c1]; exact h3, by rw [c1]; exact h4⟩⟩
  · rw [c4 h1]
    exact ⟨hs, .inr ⟨h1, h2⟩⟩
theorem crash_none {D : Dsk} (h : D.waits = []) (there : Int) : (crashR D there).secs = D.secs := by
  show redoN there (undoS D.secs D.waits) D.waits D.waits.length = D.secs
  rw [h]
  rfl
theorem inv_crash {D : Dsk} {s m : Nat} (h : Inv D s m) (there : Int) : ∃ (s' : Nat) (V : List Int), s' ≤ m ∧ Ends (crashR D there).secs s' V := by
  obtain ⟨hs, ⟨h1, h2, h3, h4⟩ | ⟨h1, h2⟩⟩ := h
  · exact ⟨s, _, hs, by rw [crash_none h2]; exact h3, .inl ⟨by rw [crash_none h2]; exact h4, rfl⟩⟩
  · obtain ⟨s', V, k1, k2, k3, _⟩ := h2 there
    refine ⟨s'.toNat, V, by omega, ?_⟩
    rw [show ((s'.toNat : Nat) : Int) = s' by omega]
    exact k3
/-- Open on a disk that is on, and stays on, and on which nothing waits. -/
theorem open_on {w0 u : World} {g gs sc : Nat} {X : Nat → Prop} {D : Dsk} {b : Nat} {s : Nat} {V : List Int} (hA : AtM w0 g gs sc D X u) (hwf : D.Wf b) (hb : b ≤ 1000000) (hlive : Live D) (hw : D.waits = []) (he : Ends D.secs s V) (hs : s ≤ 1000000) :
    Calls Try.prog 13 #[.pointer (some ⟨g, 0, none⟩), .int .i64 12, .int .i64 48] u fun e w' => ∃ (gj : Nat) (D' : Dsk) (k : Nat), e = .returned (.tuple #[.pointer (some ⟨gj, 0, none⟩), .int .i64 k, .int .i64 0]) ∧ u.heap.size ≤ gj ∧ AtM w0 g gs sc D' (fun q => X q ∨ q = gj) w' ∧ Row w' gj 67 (jRow g 12 48 s) ∧ Same X u w' ∧ D'.Wf (b + 500) ∧
      (Live D' ∧ D'.waits = [] ∧ D'.secs.length = 60 ∧ Rest D'.secs s ∧ nowB D'.secs = V) ∧ (Rest D.secs s → k = 0 ∧ D' = D) := by
  refine (open_ends_ok hA hwf hb hlive.1 hw he (by omega)).mono ?_
  rintro e w' ⟨gj, D', k, c, he', ho⟩
  obtain ⟨hc, hl'⟩ := ho.live hlive
  rw [if_pos hc] at he'
  have hy := ho.yes hc
  exact ⟨gj, D', k, he', ho.le, ho.at', ho.row, ho.same, ho.wf, ⟨hl', hy.2⟩, fun h => ⟨(ho.rest h).1, (ho.rest h).2.1⟩⟩
set_option maxHeartbeats 16000000 in
theorem again_walk (a : Option Addr) (n cap : Nat) (L : List ActT) (w : World) (hn : n ≤ cap) (hcm : cap ≤ 9223372036854775807) (hL : ActsIn w a n L) :
    Calls Try.prog 7 #[.slice a n cap] w fun e w' => e = .returned (.bool true) ∧ Ext w w' := by
  have HL := Lib.hid hL
  have HCAP := Lib.hid (And.intro hn hcm)
  have HSH := Lib.hid (shown_ok w)
  clear hL hn hcm
  go_enter Try.func7, Try.ntmps7
  go_wp2_with fail
  refine HSH.out.mono ?_
  rintro e w1 ⟨rfl, h1⟩
  have HX1 := Lib.hid h1
  have HNEW := Lib.hid (New_atM 60 w1 (by decide))
  clear h1 HSH
  go_wp2_with fail
  refine HNEW.out.mono ?_
  rintro e w2 ⟨g, gs, sc, rfl, hA⟩
  have HA2 := Lib.hid hA
  have HOP := Lib.hid (calm_open hA (newD_wf (by decide) 0) calm_new (by decide))
  clear hA HNEW
  go_wp2_with fail
  refine HOP.out.mono ?_
  rintro e w3 ⟨gj, rfl, hgj, hr3, h3⟩
  have HR3 := Lib.hid hr3
  have HA3 := Lib.hid (HA2.out.add (Y := fun q => q = gj) h3 (fun q hq => by subst hq; exact .inr ⟨hgj, hr3.lt⟩))
  have HFEW := Lib.hid (few_ok a n cap L w3 HCAP.out.1 HCAP.out.2 (HL.out.ext (HX1.out.trans HA3.out.1)))
  clear hr3 h3 hgj HOP
  go_wp2_with fail
  refine HFEW.out.mono ?_
  rintro e w' ⟨rfl, m, rfl, hmn, hm40, hln⟩
  have HLN := Lib.hid hln
  clear hln HFEW
  have hza := zeroAct
  go_wp2_with fail
  go_loopw [37, 6] (fun v jv wr => ∃ (i gj nn : Nat) (D : Dsk), i ≤ m ∧ v = .int .i64 i ∧ jv = .pointer (some ⟨gj, 0, none⟩) ∧ AtM w1 g gs sc D (fun q => q = gj) wr ∧ Row wr gj 67 (jRow g 12 48 nn) ∧ Inv D nn i ∧ D.Wf (i * 2000)) (fun v _ _ => m - (intOf v).toNat)
  case atStart => exact ⟨0, gj, 0, newD 60, by omega, rfl, rfl, HA3.out, HR3.out, inv_new, newD_wf (by decide) _⟩
  case round =>
    obtain ⟨i, gj, nn, D, hi, rfl, rfl, hA, hr, hinv, hwf⟩ := hrel
    have HA := Lib.hid hA
    have HR := Lib.hid hr
    have HINV := Lib.hid hinv
    have HWF := Lib.hid hwf
    clear hA hr hinv hwf HR3 HA3
    by_cases hlt : i < m
    · have hiL : i < L.length := by rw [HL.out.1]; omega
      obtain ⟨b, off, rfl, hc⟩ := HL.out.2 (by omega)
      obtain ⟨hok, hcells⟩ := hc i hiL
      have h60 := HLN.out i hiL hlt
      have hXw := HX1.out.trans HA.out.1
      generalize L[i] = x at *
      obtain ⟨kind, la, ln, lc, pos, cc, bp, bl, bc, there, S⟩ := x
      have k0 := hXw.keep (show w.cell? ⟨b, off + i * 6 + 0, none⟩ = some (.int .u8 kind) from hcells 0 (by decide))
      have k1 := hXw.keep (show w.cell? ⟨b, off + i * 6 + 1, none⟩ = some (.slice la ln lc) from hcells 1 (by decide))
      have k2 := hXw.keep (show w.cell? ⟨b, off + i * 6 + 2, none⟩ = some (.int .i64 pos) from hcells 2 (by decide))
      have k3 := hXw.keep (show w.cell? ⟨b, off + i * 6 + 3, none⟩ = some (.int .u8 cc) from hcells 3 (by decide))
      have k4 := hXw.keep (show w.cell? ⟨b, off + i * 6 + 4, none⟩ = some (.slice bp bl bc) from hcells 4 (by decide))
      have k5 := hXw.keep (show w.cell? ⟨b, off + i * 6 + 5, none⟩ = some (.int .u64 there) from hcells 5 (by decide))
      rw [Nat.add_zero] at k0
      dsimp only at h60
      have hkind : kind ≤ 255 := hok.kind
      have HPOS := Lib.hid (show pos ≤ 9223372036854775807 from hok.pos.2)
      have HSETS := Lib.hid ((show SetsIn w la ln S from hok.sets).ext hXw)
      have him : (i : Int) < m := by omega
      clear hc hcells hok hiL hXw
      go_upto_region 9 with fail
      obtain ⟨wb, hwb⟩ : ∃ z, z = wr.alloc (.cells #[.int .u8 kind, .slice la ln lc, .int .i64 pos, .int .u8 cc, .slice bp bl bc, .int .u64 there] 47) := ⟨_, rfl⟩
      have hrb := Row.new wr 47 [.int .u8 kind, .slice la ln lc, .int .i64 pos, .int .u8 cc, .slice bp bl bc, .int .u64 there]
      have hXb := (Ext.refl wr).alloc (.cells #[.int .u8 kind, .slice la ln lc, .int .i64 pos, .int .u8 cc, .slice bp bl bc, .int .u64 there] 47)
      obtain ⟨gb, hgb⟩ : ∃ z, z = wr.heap.size := ⟨_, rfl⟩
      replace hrb : Row wb gb 47 [.int .u8 kind, .slice la ln lc, .int .i64 pos, .int .u8 cc, .slice bp bl bc, .int .u64 there] := by rw [hwb, hgb]; exact hrb
      rw [← hwb] at hXb ⊢
      rw [← hgb]
      have HXB := Lib.hid hXb
      have HRB := Lib.hid hrb
      have HGB := Lib.hid hgb
      have d0 : wb.cell? ⟨gb, 0, none⟩ = some (.int .u8 kind) := (hrb.cell? 0).trans rfl
      have d1 : wb.cell? ⟨gb, 1, none⟩ = some (.slice la ln lc) := (hrb.cell? 1).trans rfl
      have d2 : wb.cell? ⟨gb, 2, none⟩ = some (.int .i64 pos) := (hrb.cell? 2).trans rfl
      have d3 : wb.cell? ⟨gb, 3, none⟩ = some (.int .u8 cc) := (hrb.cell? 3).trans rfl
      have d4 : wb.cell? ⟨gb, 4, none⟩ = some (.slice bp bl bc) := (hrb.cell? 4).trans rfl
      have d5 : wb.cell? ⟨gb, 5, none⟩ = some (.int .u64 there) := (hrb.cell? 5).trans rfl
      clear k0 k1 k2 k3 k4 k5 hrb hXb hwb hgb him
      by_cases hk0 : kind % 6 = 0
      · have e0 : ((kind : Int) % 6 == 0) = true := by simp; omega
        have e1 : ((kind : Int) % 6 == 1) = false := by simp; omega
        have e2 : ((kind : Int) % 6 == 2) = false := by simp; omega
        have HPS := Lib.hid (patches_ok kind la ln lc (.int .i64 pos) (.int .u8 cc) (.slice bp bl bc) (.int .u64 there) S wb hkind (by omega) (HSETS.out.ext HXB.out) (by omega))
        clear hk0
        go_wp2_with fail
        refine HPS.out.mono ?_
        rintro e w5 ⟨ao, co, O, rfl, hO, hOm, h5⟩
        have HX5 := Lib.hid (HXB.out.trans h5)
        obtain ⟨X, hXX⟩ : ∃ X : Nat → Prop, X = fun q => q = gj ∨ (wr.heap.size ≤ q ∧ q < w5.heap.size) := ⟨_, rfl⟩
        have hA5 : AtM w1 g gs sc D X w5 := HA.out.add HX5.out (fun q hq => by rw [hXX] at hq; exact hq)
        have hPats : PatsIn X w5 ao O.length (patchesP S) := by
          have h1 := hO.pats
          rw [hOm] at h1
          exact h1.mono (fun q hq => by
            rw [hXX]
            rcases hq with hq | hq
            · exact hq.elim
            · exact .inr ⟨Nat.le_trans HXB.out.size hq.1, hq.2⟩)
        have hlO : O.length = ln := by
          have h1 := congrArg List.length hOm
          rw [List.length_map] at h1
          rw [h1]
          unfold patchesP
          rw [List.length_map]
          exact HSETS.out.1
        have hcap := ownS_cap hO.own
        have hXG : X gj := by rw [hXX]; exact .inl rfl
        have HXG := Lib.hid (show ∀ q, q = gj → X q from fun q hq => by rw [hq]; exact hXG)
        obtain ⟨s6, hs6, hinv6⟩ := inv_commit HINV.out (by omega) hPats.2.1
        have hwf6 := commit_wf (s := (nn : Int)) HWF.out hPats.2.1 (by rw [hPats.1]; omega)
        have hnn := HINV.out.1
        have HCM := Lib.hid (Commit_ok (nk := 47) hA5 HWF.out (HR.out.ext HX5.out) hXG (by decide) (by decide) (by omega) ao O.length co (patchesP S) hPats (by omega) hcap.1 hcap.2 (by omega))
        rw [show ((12 : Int)) = 12 from rfl] at HCM
        clear hO hOm h5 hXX hA5 hPats hcap hXG HPS hza hlO d0 d1 d2 d3 d4 d5
        have HV := Lib.hid hs6
        have HI6 := Lib.hid hinv6
        have HW6 := Lib.hid hwf6
        clear hs6 hinv6 hwf6
        generalize commitR D 12 (47 + 1 : Nat) nn (patchesP S) = CR at *
        obtain ⟨D6, v6, c6⟩ := CR
        go_wp2_with fail
        refine HCM.out.mono ?_
        rintro e w6 ⟨rfl, hA6, hr6, hs6⟩
        have HA6 := Lib.hid (hA6.sub HXG.out)
        have HR6 := Lib.hid (show Row w6 gj 67 (jRow g 12 48 s6) from by
          have h := HV.out
          rw [h] at hr6
          exact hr6)
        clear hA6 hr6 hs6 HCM
        go_wp2
        go_roundw
        case rel => exact ⟨i + 1, gj, s6, D6, hlt, by go_num, rfl, HA6.out, HR6.out, HI6.out, Wf.mono HW6.out (by omega)⟩
        case measure => simp [intOf]; omega
      by_cases hk1 : kind % 6 = 1
      · have e0 : ((kind : Int) % 6 == 0) = false := by simp; omega
        have e1 : ((kind : Int) % 6 == 1) = true := by simp; omega
        have e2 : ((kind : Int) % 6 == 2) = false := by simp; omega
        have HCU := Lib.hid (Cut_atM (HA.out.ext HXB.out) pos)
        have HI6 := Lib.hid (inv_cut HINV.out pos)
        have HW6 := Lib.hid (cutR_wf HWF.out HPOS.out)
        clear hk0 hk1 hza
        generalize cutR D pos = D6 at *
        go_wp2_with fail
        refine HCU.out.mono ?_
        rintro e w6 ⟨rfl, hA6, hs6⟩
        have HA6 := Lib.hid hA6
        have HR6 := Lib.hid (hs6.row (HR.out.ext HXB.out) rfl)
        clear hA6 hs6 HCU d0 d1 d2 d3 d4 d5
        go_wp2
        go_roundw
        case rel => exact ⟨i + 1, gj, nn, D6, hlt, by go_num, rfl, HA6.out, HR6.out, HI6.out.more (by omega), Wf.mono HW6.out (by omega)⟩
        case measure => simp [intOf]; omega
      by_cases hk2 : kind % 6 = 2
      · have e0 : ((kind : Int) % 6 == 0) = false := by simp; omega
        have e1 : ((kind : Int) % 6 == 1) = false := by simp; omega
        have e2 : ((kind : Int) % 6 == 2) = true := by simp; omega
        have HCR := Lib.hid (Crash_atM (HA.out.ext HXB.out) HWF.out (by omega) there)
        obtain ⟨s5, V5, hs5, hends5⟩ := inv_crash HINV.out there
        have HE5 := Lib.hid hends5
        have HW5 := Lib.hid (secs_crash_wf HWF.out there)
        have HD5 := Lib.hid (show Live (crashR D there) ∧ (crashR D there).waits = [] from ⟨⟨rfl, rfl⟩, rfl⟩)
        clear hk0 hk1 hk2 hza hends5
        generalize crashR D there = D5 at *
        go_wp2_with fail
        refine HCR.out.mono ?_
        rintro e w5 ⟨rfl, hA5, hs5'⟩
        have HOP := Lib.hid (open_on hA5 HW5.out (by omega) HD5.out.1 HD5.out.2 HE5.out (by omega))
        clear hA5 hs5' HCR d0 d1 d2 d3 d4 d5
        go_wp2_with fail
        refine HOP.out.mono ?_
        rintro e w6 ⟨gj6, D6, k6, rfl, hg6, hA6, hr6, hs6, hw6, hd6, _⟩
        have HA6 := Lib.hid (hA6.sub (Y := fun q => q = gj6) (fun q hq => .inr hq))
        have HR6 := Lib.hid hr6
        have HI6 := Lib.hid (show Inv D6 s5 i from ⟨hs5, .inl ⟨hd6.1.1, hd6.2.1, hd6.2.2.1, hd6.2.2.2.1⟩⟩)
        have HW6 := Lib.hid hw6
        clear hg6 hA6 hr6 hs6 hw6 hd6 HOP
        go_wp2
        go_roundw
        case rel => exact ⟨i + 1, gj6, s5, D6, hlt, by go_num, rfl, HA6.out, HR6.out, HI6.out.more (by omega), Wf.mono HW6.out (by omega)⟩
        case measure => simp [intOf]; omega
      · have e0 : ((kind : Int) % 6 == 0) = false := by simp; omega
        have e1 : ((kind : Int) % 6 == 1) = false := by simp; omega
        have e2 : ((kind : Int) % 6 == 2) = false := by simp; omega
        have HA6 := Lib.hid (HA.out.ext HXB.out)
        have HR6 := Lib.hid (HR.out.ext HXB.out)
        clear hk0 hk1 hk2 hza
        go_wp2
        go_roundw
        case rel => exact ⟨i + 1, gj, nn, D, hlt, by go_num, rfl, HA6.out, HR6.out, HINV.out.more (by omega), Wf.mono HWF.out (by omega)⟩
        case measure => simp [intOf]; omega
    · obtain rfl : i = m := by omega
      have HCR := Lib.hid (Crash_atM HA.out HWF.out (by omega) 7)
      obtain ⟨s5, V5, hs5, hends5⟩ := inv_crash HINV.out 7
      have HE5 := Lib.hid hends5
      have HW5 := Lib.hid (secs_crash_wf HWF.out 7)
      have HD5 := Lib.hid (show Live (crashR D 7) ∧ (crashR D 7).waits = [] from ⟨⟨rfl, rfl⟩, rfl⟩)
      clear hza hends5
      generalize crashR D 7 = D5 at *
      go_wp2_with fail
      refine HCR.out.mono ?_
      rintro e w5 ⟨rfl, hA5, hs5'⟩
      have HOP := Lib.hid (open_on hA5 HW5.out (by omega) HD5.out.1 HD5.out.2 HE5.out (by omega))
      clear hA5 hs5' HCR
      go_wp2_with fail
      refine HOP.out.mono ?_
      rintro e w6 ⟨gj6, D6, k6, rfl, hg6, hA6, hr6, hs6, hw6, hd6, _⟩
      have HA6 := Lib.hid hA6
      have HR6 := Lib.hid hr6
      have HD6 := Lib.hid hd6
      have HW6 := Lib.hid hw6
      have HDN := Lib.hid (Done_atM hA6)
      obtain ⟨dn, hdn⟩ : ∃ z, z = D6.done := ⟨_, rfl⟩
      have HDNE := Lib.hid hdn
      rw [← hdn] at HDN
      clear hg6 hA6 hr6 hs6 hw6 hd6 hdn HOP
      go_wp2_with fail
      refine HDN.out.mono ?_
      rintro e w' ⟨rfl, rfl⟩
      have HSQ := Lib.hid (Seq_ok HR6.out)
      go_wp2_with fail
      refine HSQ.out.mono ?_
      rintro e w' ⟨rfl, rfl⟩
      have HNO := Lib.hid (now_ok HA6.out HD6.out.1.1 HD6.out.2.2.1)
      obtain ⟨SN, hSN⟩ : ∃ z, z = strOf (nowB D6.secs) := ⟨_, rfl⟩
      have HSN := Lib.hid hSN
      rw [← hSN] at HNO
      clear hSN
      go_wp2_with fail
      refine HNO.out.mono ?_
      rintro e w7 ⟨rfl, h7⟩
      have HA7 := Lib.hid (HA6.out.ext h7)
      have HOP2 := Lib.hid (open_on HA7.out HW6.out (by omega) HD6.out.1 HD6.out.2.1 (show Ends D6.secs s5 (nowB D6.secs) from ⟨HD6.out.2.2.1, .inl ⟨HD6.out.2.2.2.1, rfl⟩⟩) (by omega))
      clear h7
      go_wp2_with fail
      refine HOP2.out.mono ?_
      rintro e w8 ⟨gj8, D8, k8, rfl, hg8, hA8, hr8, hs8, hw8, hd8, hrest⟩
      obtain ⟨hk8, hD8⟩ := hrest HD6.out.2.2.2.1
      subst hD8
      obtain rfl : k8 = 0 := hk8
      have HA8 := Lib.hid hA8
      have HR8 := Lib.hid hr8
      have HDN2 := Lib.hid (Done_atM hA8)
      rw [← HDNE.out] at HDN2
      have HSQ2 := Lib.hid (Seq_ok hr8)
      have HNO2 := Lib.hid (now_ok hA8 HD6.out.1.1 HD6.out.2.2.1)
      rw [← HSN.out] at HNO2
      have hq1 : (SN.toList == SN.toList) = true := by simp
      have hq2 : ((dn : Int) == dn) = true := by simp
      have hq3 : (((s5 : Nat) : Int) == ((s5 : Nat) : Int)) = true := by simp
      clear hg8 hA8 hr8 hs8 hw8 hd8 hrest HOP2
      go_wp2_with fail
      refine HDN2.out.mono ?_
      rintro e w' ⟨rfl, rfl⟩
      go_wp2_with fail
      refine HSQ2.out.mono ?_
      rintro e w' ⟨rfl, rfl⟩
      go_wp2_with fail
      refine HNO2.out.mono ?_
      rintro e w9 ⟨rfl, h9⟩
      have HX9 := Lib.hid (HA8.out.1.trans h9)
      clear h9
      go_wp2
      go_ret
      exact ⟨rfl, HX1.out.trans HX9.out⟩
theorem law_JournalAgain {H : Type} {enc : TypeId × Value → H} {base : Nat} {d0 : DataW H} {p0 : List MemPlace} (v0 : Value) (w : World)
    (ho0 : Value.okWide Try.prog w .any base 43 v0) (h0 : DataW.Trod enc Try.prog w 0 (fun _ => true) true 43 v0 d0 p0) :
    Calls Try.prog 7 #[v0] w fun e w' => e = .returned (.bool true) ∧ Below w.heap.size w w' := by
  obtain ⟨a, n, cap, L, rfl, hn, hcm, hL⟩ := acts_in ho0 h0
  exact again_walk a n cap L w hn hcm hL
end Go.Proofs.Ytfodpphbdbeciaa.Jn
