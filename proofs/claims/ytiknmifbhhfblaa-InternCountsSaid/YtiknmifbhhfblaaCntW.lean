/- The walk of the law InternCounts (written by gen_counts.py). -/
import Derived.Test.YtiknmifbhhfblaaCntS
import Derived.Maps.OwnOps
namespace Go.Proofs.Ytiknmifbhhfblaa.Intern
open Go.RowKit Go.Maps Words Mem Plain Ops
open Go.ChangeShapes Go.WideShapes Go.Deep
set_option linter.ambiguousOpen false
set_option linter.unusedVariables false
set_option linter.unusedSimpArgs false

theorem zeroI (w : World) : (zeroValue 3).run Try.prog w = .ok (.int .i64 0) w := by kernel_rfl
theorem lookI {w : World} {b n : Nat} {D : DataW U} (h : w.ownsMap Try.prog 24 (plainElem Try.prog 3) b n D) {x : Int} (hw : (Lit.int .u16 x).wf = true) {v : Int} (hv : D.atKey (.int .u16 x) (.lit (.int .i64 0)) = .lit (.int .i64 v)) :
    (Instr.lookup 41 (.map (some b)) (.int .u16 x) false).run Try.prog w = .ok (.int .i64 v) w := by
  obtain ⟨r, h1, h2, _⟩ := h.lookup_int lawL Try.underlying41 Try.underlying3 (zeroI w) (keyOf_int_mk Try.underlying24 hw)
  rw [hv] at h2
  injection h2 with h3
  injection h3 with _ h4
  rw [h1, h4]
theorem ownExtI {w w' : World} {b n : Nat} {D : DataW U} (h : w.ownsMap Try.prog 24 (plainElem Try.prog 3) b n D) (e : Ext w w') : w'.ownsMap Try.prog 24 (plainElem Try.prog 3) b n D :=
  h.kept (row := none) ⟨e.os, e.tape, e.output, e.size, fun k hk _ => e.block k hk⟩ (by simp)

set_option maxRecDepth 100000 in
set_option maxHeartbeats 20000000 in
theorem counts_pos (b off n cap : Nat) (w : World) (hm : n ≤ 9223372036854775807)
    (hacts : ∀ k, k < n → ∃ (g : Bool) (x : Int), w.cell? ⟨b, off + k * 2, none⟩ = some (.bool g) ∧ w.cell? ⟨b, off + k * 2 + 1, none⟩ = some (.int .u16 x) ∧ 0 ≤ x ∧ x ≤ 65535) :
    Calls Try.prog 4 #[.slice (some ⟨b, off, none⟩) n cap] w fun e w' => e = .returned (.bool true) ∧ Ext w w' := by
  have HACTS := Lib.hid hacts
  have hmk := @run_makeMap Try.prog
  clear hacts
  go_enter Try.func4, Try.ntmps4
  go_wp2_with fail
  refine (shown_ok w).mono ?_
  rintro e w1 ⟨rfl, h1⟩
  have H1 := Lib.hid h1
  clear h1
  go_wp2_with fail
  refine (free_ok w1).mono ?_
  rintro e w2 ⟨v, rfl, af, cf, rfl, hof, h2⟩
  have H2 := Lib.hid (H1.out.trans h2)
  have hsf := own2_sl hof
  have hsl := hsf.lt (by rw [rowsC_length]; decide)
  have HSF := Lib.hid (hsf.ext ((Ext.refl w2).alloc (.map #[] 0)))
  have hown0 : (w2.alloc (.map #[] 0)).ownsMap Try.prog 24 (plainElem Try.prog 3) w2.heap.size 0 (.map [] : DataW U) := World.ownsMap_made _ _ _ _
  have HX0 := Lib.hid (H2.out.alloc (.map #[] 0))
  have HGW := Lib.hid (show w.heap.size ≤ w2.heap.size from H2.out.size)
  obtain ⟨gm, hgm⟩ : ∃ g, g = w2.heap.size := ⟨_, rfl⟩
  rw [← hgm] at hown0 HGW
  have HBF := Lib.hid (show ∀ ad, af = some ad → ad.block ≠ gm from fun ad e => by have := hsl ad e; omega)
  have HO := Lib.hid hown0
  rw [show freeL.length = 16 from rfl]
  clear h2 hof hsf hsl hown0 H1 H2
  go_wp2_with fail
  rw [← hgm]
  generalize w2.alloc (.map #[] 0) = w3 at *
  clear hgm hmk
  go_loopw [23, 4] (fun v u wr => ∃ (k c : Nat) (ao : Option Addr) (R : List RowT) (D : DataW U), k ≤ n ∧ k ≤ 300 ∧ v = .int .i64 k ∧ u = .slice ao 16 c ∧ Play R D k ∧ Sl wr ao (rowsC R) ∧ (∀ ad, ao = some ad → ad.block ≠ gm) ∧ wr.ownsMap Try.prog 24 (plainElem Try.prog 3) gm k D ∧ Ext w wr) (fun v _ _ => n - (intOf v).toNat)
  case atStart => exact ⟨0, cf, af, freeL, .map [], by omega, by omega, rfl, rfl, play_free, HSF.out, HBF.out, HO.out, HX0.out⟩
  case round =>
    obtain ⟨k, c, ao, R, D, hk, hk3, rfl, rfl, hplay, hsl, hbl, hown, hX⟩ := hrel
    by_cases hlt : k < n
    · obtain ⟨g, x, a0, a1, hx0, hx1⟩ := HACTS.out k hlt
      have c0 := hX.keep a0
      have c1 := hX.keep a1
      have hwx := wf_u16 (And.intro hx0 hx1)
      have HPL := Lib.hid hplay
      have HX := Lib.hid hX
      clear a0 a1 hX
      by_cases h300 : k = 300
      · subst h300
        clear hplay hsl hbl hown
        go_wp2
        go_ret
        exact ⟨rfl, HX.out.alloc _⟩
      · have hk4 : (k : Int) < 300 := by omega
        have hXU := (Ext.refl wr).alloc (.cells #[.bool g, .int .u16 x] 43)
        have hrow := Row.new wr 43 [.bool g, .int .u16 x]
        have hfind := Find_ok R ao c x _ (by have := hplay.ok.1; omega) (hsl.ext hXU) hplay.wf
        have hgw := hown.lt
        have HXU := Lib.hid (HX.out.trans hXU)
        have HSU := Lib.hid (hsl.ext hXU)
        have HMU := Lib.hid (ownExtI hown hXU)
        have HBL := Lib.hid hbl
        have h16 := hplay.ok.1
        rw [h16] at hfind
        obtain ⟨gr, hgr⟩ : ∃ q, q = wr.heap.size := ⟨_, rfl⟩
        have HKEEP := Lib.hid (show ∀ v, By gm (wr.alloc (.cells #[.bool g, .int .u16 x] 43)) v → v.cell? ⟨gr, 0, none⟩ = some (.bool g) ∧ v.cell? ⟨gr, 1, none⟩ = some (.int .u16 x) from fun v hv => by
          rw [hgr]
          exact ⟨byCell hv ((hrow.cell? 0).trans rfl) (by simp; omega), byCell hv ((hrow.cell? 1).trans rfl) (by simp; omega)⟩)
        have HGR := Lib.hid (show gm < gr by omega)
        clear hplay hsl hbl hown hXU hrow hgw h16
        go_wp2_with fail
        rw [← hgr] at *
        generalize wr.alloc (.cells #[.bool g, .int .u16 x] 43) = u0 at *
        clear hgr c0 c1
        refine hfind.mono ?_
        rintro e u1 ⟨rfl, h1⟩
        have H1 := Lib.hid (HXU.out.trans h1)
        have HB1 := Lib.hid (By.ofExt gm h1)
        have HS1 := Lib.hid (HSU.out.ext h1)
        have hm1 := ownExtI HMU.out h1
        have HM1 := Lib.hid hm1
        have hlook1 := lookI hm1 hwx (HPL.out.tells.at_ x)
        obtain ⟨d0, d1⟩ := HKEEP.out u1 HB1.out
        have hR16 := HPL.out.ok.1
        have HR16 := Lib.hid hR16
        clear h1 hfind HXU HSU HMU hm1
        rcases cnt_cases HPL.out.ok x with ⟨hcz, hf, hnone⟩ | ⟨i, hi, hi0, hix, hc, hf⟩
        · rw [hcz] at hlook1
          rw [hf]
          cases g
          · -- one more of a label that is not there
            have hret := Retain_ok R ao c x u1 (by omega) HS1.out HPL.out.wf
            rw [hR16] at hret
            rcases ret_step HPL.out (by omega) (And.intro hx0 hx1) with ⟨hr, _, hmany, _⟩ | ⟨j, hj, hr, hcb, hplay', _⟩
            · rw [hr] at hret
              have HSZ := Lib.hid (HPL.out.tells.size_.trans hmany)
              clear hr hmany hnone hcz hf hR16
              go_wp2_with fail
              refine hret.mono ?_
              rintro e u2 ⟨v, rfl, a2, c2, rfl, _, h2⟩
              have H2 := Lib.hid (H1.out.trans h2)
              have HS2 := Lib.hid (HS1.out.ext h2)
              have hm2 := ownExtI HM1.out h2
              have hlen := hm2.len Try.underlying41 3
              rw [HSZ.out] at hlen
              have HM2 := Lib.hid (hm2.mono (Nat.le_succ k))
              clear h2 hret hm2
              dsimp only
              go_wp2
              go_roundw
              case rel => exact ⟨k + 1, c, ao, R, D, hlt, by omega, by go_num, rfl, HPL.out.more, HS2.out, HBL.out, HM2.out, H2.out⟩
              case measure => simp [intOf]; omega
            · rw [hr] at hret
              rw [hcz, Int.zero_add] at hplay' hret
              obtain ⟨R', hR'⟩ : ∃ q, q = R.set j (x, 1) := ⟨_, rfl⟩
              obtain ⟨D', hD'⟩ : ∃ q : DataW U, q = D.put (.int .u16 x) (.lit (.int .i64 (1))) := ⟨_, rfl⟩
              have hl' : R'.length = 16 := by rw [hR', List.length_set, hR16]
              rw [← hR'] at hret hplay'
              rw [← hD'] at hplay'
              dsimp only at hret
              have HP' := Lib.hid hplay'
              have HD' := Lib.hid hD'
              have hself : D'.atKey (.int .u16 x) (.lit (.int .i64 0)) = .lit (.int .i64 (1)) := by rw [hD', atKey_put_same HPL.out.tells.tidy.isMap (key_int _)]
              have HSELF := Lib.hid hself
              have HAT := Lib.hid (show D.atKey (.int .u16 x) (.lit (.int .i64 0)) = .lit (.int .i64 0) from (HPL.out.tells.at_ x).trans (by rw [hcz]))
              have HSZ1 := Lib.hid (show gm < u1.heap.size from HM1.out.lt)
              have HLR := Lib.hid hl'
              have hwf1 : (Lit.int .i64 (1)).wf = true := WalkArith.wf_i64 (by omega)
              have hjj : (j : Int) < 16 := by omega
              have hadd : IntKind.i64.wrap (0 + 1) = 1 := IntWalk.i64_in _ (by omega)
              have hcne : ¬ (1 = 0) := by omega
              clear hr hplay' hR' hD' hself hl' hnone hf hR16 hcb
              go_wp2_with fail
              refine hret.mono ?_
              rintro e u2 ⟨v, rfl, a', c', rfl, ho2, h2⟩
              rw [HLR.out] at ho2 ⊢
              have H2 := Lib.hid (H1.out.trans h2)
              have HB2 := Lib.hid (HB1.out.trans (By.ofExt gm h2))
              have HSL2 := Lib.hid (own2_sl ho2)
              have HB' := Lib.hid (show ∀ ad, a' = some ad → ad.block ≠ gm from fun ad e => by have := own2_lt ho2 ad e; have := HSZ1.out; omega)
              have hm2 := ownExtI HM1.out h2
              have hlook2 := lookI hm2 hwx HAT.out
              obtain ⟨d0, d1⟩ := HKEEP.out u2 HB2.out
              have HWC := Lib.hid (show ∀ v, By gm u2 v → v.cell? ⟨gr, 0, none⟩ = some (.bool false) ∧ v.cell? ⟨gr, 1, none⟩ = some (.int .u16 x) from fun v hv => HKEEP.out v (HB2.out.trans hv))
              clear h2 ho2 hret hlook1
              have hmu := hm2.update lawL Try.underlying41 (show k < maxLen by unfold maxLen; omega) (keyOf_int_mk Try.underlying24 hwx) (plainElem_int (H := Unit) Try.underlying3 hwf1)
              obtain ⟨u3, hrun3, hm3, hg3⟩ := hmu
              rw [← HD'.out] at hm3
              have HB3 : By gm u2 u3 := hg3
              obtain ⟨f0, f1⟩ := HWC.out u3 HB3
              have hlook3 := lookI hm3 hwx HSELF.out
              have HS' := Lib.hid (HSL2.out.by HB3 (fun ad e _ => HB'.out ad e))
              have HM' := Lib.hid hm3
              have HX' := Lib.hid (H2.out.by HB3 HGW.out)
              clear hm2 hm3 hg3 HB3

              have hl16 := HP'.out.ok.1
              have hright := Right_ok R' a' c' _ HS'.out HP'.out.wf (by omega)
              rw [(right_iff R').2 HP'.out.ok] at hright
              rw [hl16] at hright
              have HL16 := Lib.hid hl16
              clear hl16
              go_wp2_with fail
              refine hright.mono ?_
              rintro e u5 ⟨rfl, h5⟩
              have H5 := Lib.hid (HX'.out.trans h5)
              have HM5 := Lib.hid (ownExtI HM'.out h5)
              obtain ⟨b', off', rfl, hrows⟩ := rows_at (HS'.out.ext h5) (by rw [HL16.out]; decide)
              have hrows : RowsAt b' off' R' u5 := hrows
              have HR5 := Lib.hid hrows
              have HS5 := Lib.hid (HS'.out.ext h5)
              clear hright h5 hrows HM' HX' HS'
              go_wp2_with fail
              go_loopw [110, 15] (fun v u wi => ∃ j : Nat, j ≤ 16 ∧ v = .int .i64 j ∧ u = .int .i64 (manyR (R'.take j) : Nat) ∧ Ext u5 wi) (fun v _ _ => 16 - (intOf v).toNat)
              case atStart => exact ⟨0, by omega, rfl, rfl, Ext.refl _⟩
              case round =>
                obtain ⟨j, hj, rfl, rfl, hXi⟩ := hrel
                by_cases hjlt : j < 16
                · have hjL : j < R'.length := by rw [HL16.out]; exact hjlt
                  obtain ⟨e0, e1⟩ := HR5.out.ext hXi j hjL
                  have hmt := many_take hjL
                  have hml : manyR (R'.take j) ≤ 16 := by
                    have : manyR (R'.take j) ≤ (R'.take j).length := List.countP_le_length
                    rw [List.length_take] at this
                    omega
                  obtain ⟨rx, hrx⟩ : ∃ q, q = (rg R' j).1 := ⟨_, rfl⟩
                  obtain ⟨ry, hry⟩ : ∃ q, q = (rg R' j).2 := ⟨_, rfl⟩
                  have hwx2 : 0 ≤ rx ∧ rx ≤ 65535 := by rw [hrx]; exact (HP'.out.wf.at hjL).1
                  have hyb : -9223372036854775808 ≤ ry ∧ ry ≤ 9223372036854775807 := by rw [hry]; exact (HP'.out.wf.at hjL).2
                  have hcnt : 0 < ry → cntR R' rx = ry := fun h => by
                    rw [hry] at h ⊢
                    exact cnt_at HP'.out.ok hjL h hrx.symm
                  rw [← hrx] at e0
                  rw [← hry] at e1 hmt
                  generalize manyR (R'.take j) = mj at *
                  have HMT := Lib.hid hmt
                  have HXI := Lib.hid hXi
                  have hadd : IntKind.i64.wrap ((mj : Int) + 1) = (mj : Int) + 1 := IntWalk.i64_in _ (by omega)
                  have hmap := (ownExtI HM5.out hXi).alloc (.cells #[.int .u16 rx, .int .i64 ry] 37)
                  clear hmt hXi hrx hry
                  by_cases hpos : 0 < ry
                  · have hlook := lookI hmap (wf_u16 hwx2) (HP'.out.tells.at_ rx)
                    rw [hcnt hpos] at hlook
                    rw [if_pos hpos] at HMT
                    have HAL := Lib.hid (HXI.out.alloc (.cells #[.int .u16 rx, .int .i64 ry] 37))
                    clear hcnt hmap
                    go_wp2
                    go_roundw
                    case rel => exact ⟨j + 1, hjlt, by go_num, by rw [HMT.out]; simp, HAL.out⟩
                    case measure => simp [intOf]; omega
                  · rw [if_neg hpos] at HMT
                    have HAL := Lib.hid (HXI.out.alloc (.cells #[.int .u16 rx, .int .i64 ry] 37))
                    clear hcnt hmap
                    go_wp2
                    go_roundw
                    case rel => exact ⟨j + 1, hjlt, by go_num, by rw [HMT.out]; simp, HAL.out⟩
                    case measure => simp [intOf]; omega
                · have : j = 16 := by omega
                  subst this
                  have htk : manyR (R'.take 16) = manyR R' := by rw [List.take_of_length_le (by rw [HL16.out]; exact Nat.le_refl _)]
                  rw [htk]
                  have hmw := ownExtI HM5.out hXi
                  have hlen := hmw.len Try.underlying41 3
                  rw [HP'.out.tells.size_] at hlen
                  have HMW := Lib.hid hmw
                  have HEND := Lib.hid (H5.out.trans hXi)
                  have HSW := Lib.hid (HS5.out.ext hXi)
                  clear htk hmw hXi
                  generalize manyR R' = mm at *
                  go_wp2
                  go_roundw
                  case rel => exact ⟨k + 1, c', _, R', D', hlt, by omega, by go_num, rfl, HP'.out, HSW.out, HB'.out, HMW.out, HEND.out⟩
                  case measure => simp [intOf]; omega
          · clear hnone hcz hf hR16
            have HM2 := Lib.hid (HM1.out.mono (Nat.le_succ k))
            go_wp2
            go_roundw
            case rel => exact ⟨k + 1, c, ao, R, D, hlt, by omega, by go_num, rfl, HPL.out.more, HS1.out, HBL.out, HM2.out, H1.out⟩
            case measure => simp [intOf]; omega
        · rw [hc] at hlook1
          rw [hf]
          have hb0 := HPL.out.few i hi
          obtain ⟨cc, hcc⟩ : ∃ q, q = (rg R i).2 := ⟨_, rfl⟩
          rw [← hcc] at hlook1 hi0 hb0
          cases g
          · have hret := Retain_ok R ao c x u1 (by omega) HS1.out HPL.out.wf
            rw [hR16] at hret
            rcases ret_step HPL.out (by omega) (And.intro hx0 hx1) with ⟨hr, hff, _, _⟩ | ⟨j, hj, hr, hcb, hplay', hff⟩
            · rw [hf] at hff; cases hff
            · obtain rfl : j = i := by
                rcases hff with ⟨hff, _⟩ | ⟨hff, _⟩
                · rw [hf] at hff; injection hff with e1 _; omega
                · rw [hf] at hff; cases hff
              rw [hr] at hret
              rw [hc, ← hcc] at hplay' hret
              obtain ⟨R', hR'⟩ : ∃ q, q = R.set j (x, cc + 1) := ⟨_, rfl⟩
              obtain ⟨D', hD'⟩ : ∃ q : DataW U, q = D.put (.int .u16 x) (.lit (.int .i64 (cc + 1))) := ⟨_, rfl⟩
              have hl' : R'.length = 16 := by rw [hR', List.length_set, hR16]
              rw [← hR'] at hret hplay'
              rw [← hD'] at hplay'
              dsimp only at hret
              have HP' := Lib.hid hplay'
              have HD' := Lib.hid hD'
              have hself : D'.atKey (.int .u16 x) (.lit (.int .i64 0)) = .lit (.int .i64 (cc + 1)) := by rw [hD', atKey_put_same HPL.out.tells.tidy.isMap (key_int _)]
              have HSELF := Lib.hid hself
              have HAT := Lib.hid (show D.atKey (.int .u16 x) (.lit (.int .i64 0)) = .lit (.int .i64 cc) from (HPL.out.tells.at_ x).trans (by rw [hc, hcc]))
              have HSZ1 := Lib.hid (show gm < u1.heap.size from HM1.out.lt)
              have HLR := Lib.hid hl'
              have hwf1 : (Lit.int .i64 (cc + 1)).wf = true := WalkArith.wf_i64 (by omega)
              have hjj : (j : Int) < 16 := by omega
              have hadd : IntKind.i64.wrap (cc + 1) = cc + 1 := IntWalk.i64_in _ (by omega)
              have hcne : ¬ (cc + 1 = 0) := by omega
              clear hr hplay' hR' hD' hself hl' hf hR16 hcb hff hcc hix hc
              go_wp2_with fail
              refine hret.mono ?_
              rintro e u2 ⟨v, rfl, a', c', rfl, ho2, h2⟩
              rw [HLR.out] at ho2 ⊢
              have H2 := Lib.hid (H1.out.trans h2)
              have HB2 := Lib.hid (HB1.out.trans (By.ofExt gm h2))
              have HSL2 := Lib.hid (own2_sl ho2)
              have HB' := Lib.hid (show ∀ ad, a' = some ad → ad.block ≠ gm from fun ad e => by have := own2_lt ho2 ad e; have := HSZ1.out; omega)
              have hm2 := ownExtI HM1.out h2
              have hlook2 := lookI hm2 hwx HAT.out
              obtain ⟨d0, d1⟩ := HKEEP.out u2 HB2.out
              have HWC := Lib.hid (show ∀ v, By gm u2 v → v.cell? ⟨gr, 0, none⟩ = some (.bool false) ∧ v.cell? ⟨gr, 1, none⟩ = some (.int .u16 x) from fun v hv => HKEEP.out v (HB2.out.trans hv))
              clear h2 ho2 hret hlook1
              have hmu := hm2.update lawL Try.underlying41 (show k < maxLen by unfold maxLen; omega) (keyOf_int_mk Try.underlying24 hwx) (plainElem_int (H := Unit) Try.underlying3 hwf1)
              obtain ⟨u3, hrun3, hm3, hg3⟩ := hmu
              rw [← HD'.out] at hm3
              have HB3 : By gm u2 u3 := hg3
              obtain ⟨f0, f1⟩ := HWC.out u3 HB3
              have hlook3 := lookI hm3 hwx HSELF.out
              have HS' := Lib.hid (HSL2.out.by HB3 (fun ad e _ => HB'.out ad e))
              have HM' := Lib.hid hm3
              have HX' := Lib.hid (H2.out.by HB3 HGW.out)
              clear hm2 hm3 hg3 HB3

              have hl16 := HP'.out.ok.1
              have hright := Right_ok R' a' c' _ HS'.out HP'.out.wf (by omega)
              rw [(right_iff R').2 HP'.out.ok] at hright
              rw [hl16] at hright
              have HL16 := Lib.hid hl16
              clear hl16
              go_wp2_with fail
              refine hright.mono ?_
              rintro e u5 ⟨rfl, h5⟩
              have H5 := Lib.hid (HX'.out.trans h5)
              have HM5 := Lib.hid (ownExtI HM'.out h5)
              obtain ⟨b', off', rfl, hrows⟩ := rows_at (HS'.out.ext h5) (by rw [HL16.out]; decide)
              have hrows : RowsAt b' off' R' u5 := hrows
              have HR5 := Lib.hid hrows
              have HS5 := Lib.hid (HS'.out.ext h5)
              clear hright h5 hrows HM' HX' HS'
              go_wp2_with fail
              go_loopw [110, 15] (fun v u wi => ∃ j : Nat, j ≤ 16 ∧ v = .int .i64 j ∧ u = .int .i64 (manyR (R'.take j) : Nat) ∧ Ext u5 wi) (fun v _ _ => 16 - (intOf v).toNat)
              case atStart => exact ⟨0, by omega, rfl, rfl, Ext.refl _⟩
              case round =>
                obtain ⟨j, hj, rfl, rfl, hXi⟩ := hrel
                by_cases hjlt : j < 16
                · have hjL : j < R'.length := by rw [HL16.out]; exact hjlt
                  obtain ⟨e0, e1⟩ := HR5.out.ext hXi j hjL
                  have hmt := many_take hjL
                  have hml : manyR (R'.take j) ≤ 16 := by
                    have : manyR (R'.take j) ≤ (R'.take j).length := List.countP_le_length
                    rw [List.length_take] at this
                    omega
                  obtain ⟨rx, hrx⟩ : ∃ q, q = (rg R' j).1 := ⟨_, rfl⟩
                  obtain ⟨ry, hry⟩ : ∃ q, q = (rg R' j).2 := ⟨_, rfl⟩
                  have hwx2 : 0 ≤ rx ∧ rx ≤ 65535 := by rw [hrx]; exact (HP'.out.wf.at hjL).1
                  have hyb : -9223372036854775808 ≤ ry ∧ ry ≤ 9223372036854775807 := by rw [hry]; exact (HP'.out.wf.at hjL).2
                  have hcnt : 0 < ry → cntR R' rx = ry := fun h => by
                    rw [hry] at h ⊢
                    exact cnt_at HP'.out.ok hjL h hrx.symm
                  rw [← hrx] at e0
                  rw [← hry] at e1 hmt
                  generalize manyR (R'.take j) = mj at *
                  have HMT := Lib.hid hmt
                  have HXI := Lib.hid hXi
                  have hadd : IntKind.i64.wrap ((mj : Int) + 1) = (mj : Int) + 1 := IntWalk.i64_in _ (by omega)
                  have hmap := (ownExtI HM5.out hXi).alloc (.cells #[.int .u16 rx, .int .i64 ry] 37)
                  clear hmt hXi hrx hry
                  by_cases hpos : 0 < ry
                  · have hlook := lookI hmap (wf_u16 hwx2) (HP'.out.tells.at_ rx)
                    rw [hcnt hpos] at hlook
                    rw [if_pos hpos] at HMT
                    have HAL := Lib.hid (HXI.out.alloc (.cells #[.int .u16 rx, .int .i64 ry] 37))
                    clear hcnt hmap
                    go_wp2
                    go_roundw
                    case rel => exact ⟨j + 1, hjlt, by go_num, by rw [HMT.out]; simp, HAL.out⟩
                    case measure => simp [intOf]; omega
                  · rw [if_neg hpos] at HMT
                    have HAL := Lib.hid (HXI.out.alloc (.cells #[.int .u16 rx, .int .i64 ry] 37))
                    clear hcnt hmap
                    go_wp2
                    go_roundw
                    case rel => exact ⟨j + 1, hjlt, by go_num, by rw [HMT.out]; simp, HAL.out⟩
                    case measure => simp [intOf]; omega
                · have : j = 16 := by omega
                  subst this
                  have htk : manyR (R'.take 16) = manyR R' := by rw [List.take_of_length_le (by rw [HL16.out]; exact Nat.le_refl _)]
                  rw [htk]
                  have hmw := ownExtI HM5.out hXi
                  have hlen := hmw.len Try.underlying41 3
                  rw [HP'.out.tells.size_] at hlen
                  have HMW := Lib.hid hmw
                  have HEND := Lib.hid (H5.out.trans hXi)
                  have HSW := Lib.hid (HS5.out.ext hXi)
                  clear htk hmw hXi
                  generalize manyR R' = mm at *
                  go_wp2
                  go_roundw
                  case rel => exact ⟨k + 1, c', _, R', D', hlt, by omega, by go_num, rfl, HP'.out, HSW.out, HB'.out, HMW.out, HEND.out⟩
                  case measure => simp [intOf]; omega
          · obtain ⟨R', hr, hl', _, hcs⟩ := rel_step HPL.out (by omega) (And.intro hx0 hx1) hi (by rw [← hcc]; exact hi0) hix
            have hrel := Release_ok R ao c i u1 (by omega) HS1.out HPL.out.wf
            rw [hr, hR16] at hrel
            rw [← hcc] at hcs
            dsimp only at hrel
            have HLR := Lib.hid hl'
            have hcc2 : cntR R x = cc := by rw [hc, hcc]
            have HAT := Lib.hid (show D.atKey (.int .u16 x) (.lit (.int .i64 0)) = .lit (.int .i64 cc) from (HPL.out.tells.at_ x).trans (by rw [hcc2]))
            have hlt1 : (i : Int) < 16 := by omega
            have HSZ1 := Lib.hid (show gm < u1.heap.size from HM1.out.lt)
            have hccb : 0 < cc ∧ cc ≤ 65535 := ⟨hi0, by omega⟩
            have hwf1 : (Lit.int .i64 (cc - 1)).wf = true := WalkArith.wf_i64 (by omega)
            have hsub : IntKind.i64.wrap (cc - 1) = cc - 1 := IntWalk.i64_in _ (by omega)
            have HCS := Lib.hid hcs
            clear hr hf hc hcc hR16 hcs hix hl' hcc2
            go_wp2_with fail
            refine hrel.mono ?_
            rintro e u2 ⟨v, rfl, a', c', rfl, ho2, h2⟩
            rw [HLR.out] at ho2 ⊢
            have H2 := Lib.hid (H1.out.trans h2)
            have HB2 := Lib.hid (HB1.out.trans (By.ofExt gm h2))
            have HSL2 := Lib.hid (own2_sl ho2)
            have HB' := Lib.hid (show ∀ ad, a' = some ad → ad.block ≠ gm from fun ad e => by have := own2_lt ho2 ad e; have := HSZ1.out; omega)
            have hm2 := ownExtI HM1.out h2
            have hlook2 := lookI hm2 hwx HAT.out
            obtain ⟨d0, d1⟩ := HKEEP.out u2 HB2.out
            have HWC := Lib.hid (show ∀ v, By gm u2 v → v.cell? ⟨gr, 0, none⟩ = some (.bool true) ∧ v.cell? ⟨gr, 1, none⟩ = some (.int .u16 x) from fun v hv => HKEEP.out v (HB2.out.trans hv))
            clear h2 ho2 hrel hlook1
            have hmu := hm2.update lawL Try.underlying41 (show k < maxLen by unfold maxLen; omega) (keyOf_int_mk Try.underlying24 hwx) (plainElem_int (H := Unit) Try.underlying3 hwf1)
            obtain ⟨u3, hrun3, hm3, hg3⟩ := hmu
            have HB3 : By gm u2 u3 := hg3
            obtain ⟨f0, f1⟩ := HWC.out u3 HB3
            have hself : (D.put (.int .u16 x) (.lit (.int .i64 (cc - 1)))).atKey (.int .u16 x) (.lit (.int .i64 0)) = .lit (.int .i64 (cc - 1)) := atKey_put_same HPL.out.tells.tidy.isMap (key_int _) _ _
            have hlook3 := lookI hm3 hwx hself
            have HSL3 := Lib.hid (HSL2.out.by HB3 (fun ad e _ => HB'.out ad e))
            have HX3 := Lib.hid (H2.out.by HB3 HGW.out)
            have HB23 := Lib.hid HB3
            clear hg3 hself hm2 HB3
            rcases HCS.out with ⟨hone, hplay'⟩ | ⟨hmore, _, hplay'⟩
            · subst hone
              obtain ⟨u4, hrun4, hm4, hturn⟩ := hm3.drop lawL Try.underlying41 (keyOf_int_mk Try.underlying24 hwx) 0
              have hg4 : By gm u3 u4 := hturn.grown
              obtain ⟨D', hD'⟩ : ∃ q : DataW U, q = (D.put (.int .u16 x) (.lit (.int .i64 (1 - 1)))).del (.int .u16 x) := ⟨_, rfl⟩
              have hp0 : Play R' D' (k + 1) := by rw [hD']; exact hplay'
              rw [← hD'] at hm4
              have HP' := Lib.hid hp0
              have HM' := Lib.hid hm4
              have HS' := Lib.hid (HSL3.out.by hg4 (fun ad e _ => HB'.out ad e))
              have HX' := Lib.hid (HX3.out.by hg4 HGW.out)
              have hz : (1 : Int) - 1 = 0 := rfl
              rw [hz] at hrun3 hlook3
              clear hplay' hp0 hm4 hg4 hturn hD' hm3 HCS hccb
              have hl16 := HP'.out.ok.1
              have hright := Right_ok R' a' c' _ HS'.out HP'.out.wf (by omega)
              rw [(right_iff R').2 HP'.out.ok] at hright
              rw [hl16] at hright
              have HL16 := Lib.hid hl16
              clear hl16
              go_wp2_with fail
              refine hright.mono ?_
              rintro e u5 ⟨rfl, h5⟩
              have H5 := Lib.hid (HX'.out.trans h5)
              have HM5 := Lib.hid (ownExtI HM'.out h5)
              obtain ⟨b', off', rfl, hrows⟩ := rows_at (HS'.out.ext h5) (by rw [HL16.out]; decide)
              have hrows : RowsAt b' off' R' u5 := hrows
              have HR5 := Lib.hid hrows
              have HS5 := Lib.hid (HS'.out.ext h5)
              clear hright h5 hrows HM' HX' HS'
              go_wp2_with fail
              go_loopw [110, 15] (fun v u wi => ∃ j : Nat, j ≤ 16 ∧ v = .int .i64 j ∧ u = .int .i64 (manyR (R'.take j) : Nat) ∧ Ext u5 wi) (fun v _ _ => 16 - (intOf v).toNat)
              case atStart => exact ⟨0, by omega, rfl, rfl, Ext.refl _⟩
              case round =>
                obtain ⟨j, hj, rfl, rfl, hXi⟩ := hrel
                by_cases hjlt : j < 16
                · have hjL : j < R'.length := by rw [HL16.out]; exact hjlt
                  obtain ⟨e0, e1⟩ := HR5.out.ext hXi j hjL
                  have hmt := many_take hjL
                  have hml : manyR (R'.take j) ≤ 16 := by
                    have : manyR (R'.take j) ≤ (R'.take j).length := List.countP_le_length
                    rw [List.length_take] at this
                    omega
                  obtain ⟨rx, hrx⟩ : ∃ q, q = (rg R' j).1 := ⟨_, rfl⟩
                  obtain ⟨ry, hry⟩ : ∃ q, q = (rg R' j).2 := ⟨_, rfl⟩
                  have hwx2 : 0 ≤ rx ∧ rx ≤ 65535 := by rw [hrx]; exact (HP'.out.wf.at hjL).1
                  have hyb : -9223372036854775808 ≤ ry ∧ ry ≤ 9223372036854775807 := by rw [hry]; exact (HP'.out.wf.at hjL).2
                  have hcnt : 0 < ry → cntR R' rx = ry := fun h => by
                    rw [hry] at h ⊢
                    exact cnt_at HP'.out.ok hjL h hrx.symm
                  rw [← hrx] at e0
                  rw [← hry] at e1 hmt
                  generalize manyR (R'.take j) = mj at *
                  have HMT := Lib.hid hmt
                  have HXI := Lib.hid hXi
                  have hadd : IntKind.i64.wrap ((mj : Int) + 1) = (mj : Int) + 1 := IntWalk.i64_in _ (by omega)
                  have hmap := (ownExtI HM5.out hXi).alloc (.cells #[.int .u16 rx, .int .i64 ry] 37)
                  clear hmt hXi hrx hry
                  by_cases hpos : 0 < ry
                  · have hlook := lookI hmap (wf_u16 hwx2) (HP'.out.tells.at_ rx)
                    rw [hcnt hpos] at hlook
                    rw [if_pos hpos] at HMT
                    have HAL := Lib.hid (HXI.out.alloc (.cells #[.int .u16 rx, .int .i64 ry] 37))
                    clear hcnt hmap
                    go_wp2
                    go_roundw
                    case rel => exact ⟨j + 1, hjlt, by go_num, by rw [HMT.out]; simp, HAL.out⟩
                    case measure => simp [intOf]; omega
                  · rw [if_neg hpos] at HMT
                    have HAL := Lib.hid (HXI.out.alloc (.cells #[.int .u16 rx, .int .i64 ry] 37))
                    clear hcnt hmap
                    go_wp2
                    go_roundw
                    case rel => exact ⟨j + 1, hjlt, by go_num, by rw [HMT.out]; simp, HAL.out⟩
                    case measure => simp [intOf]; omega
                · have : j = 16 := by omega
                  subst this
                  have htk : manyR (R'.take 16) = manyR R' := by rw [List.take_of_length_le (by rw [HL16.out]; exact Nat.le_refl _)]
                  rw [htk]
                  have hmw := ownExtI HM5.out hXi
                  have hlen := hmw.len Try.underlying41 3
                  rw [HP'.out.tells.size_] at hlen
                  have HMW := Lib.hid hmw
                  have HEND := Lib.hid (H5.out.trans hXi)
                  have HSW := Lib.hid (HS5.out.ext hXi)
                  clear htk hmw hXi
                  generalize manyR R' = mm at *
                  go_wp2
                  go_roundw
                  case rel => exact ⟨k + 1, c', _, R', D', hlt, by omega, by go_num, rfl, HP'.out, HSW.out, HB'.out, HMW.out, HEND.out⟩
                  case measure => simp [intOf]; omega
            · obtain ⟨D', hD'⟩ : ∃ q : DataW U, q = D.put (.int .u16 x) (.lit (.int .i64 (cc - 1))) := ⟨_, rfl⟩
              rw [← hD'] at hplay' hm3
              have HP' := Lib.hid hplay'
              have HM' := Lib.hid hm3
              have HS' := HSL3
              have HX' := HX3
              have hcne : ¬ cc - 1 = 0 := by omega
              clear hplay' hm3 hD' HCS
              have hl16 := HP'.out.ok.1
              have hright := Right_ok R' a' c' _ HS'.out HP'.out.wf (by omega)
              rw [(right_iff R').2 HP'.out.ok] at hright
              rw [hl16] at hright
              have HL16 := Lib.hid hl16
              clear hl16
              go_wp2_with fail
              refine hright.mono ?_
              rintro e u5 ⟨rfl, h5⟩
              have H5 := Lib.hid (HX'.out.trans h5)
              have HM5 := Lib.hid (ownExtI HM'.out h5)
              obtain ⟨b', off', rfl, hrows⟩ := rows_at (HS'.out.ext h5) (by rw [HL16.out]; decide)
              have hrows : RowsAt b' off' R' u5 := hrows
              have HR5 := Lib.hid hrows
              have HS5 := Lib.hid (HS'.out.ext h5)
              clear hright h5 hrows HM' HX' HS'
              go_wp2_with fail
              go_loopw [110, 15] (fun v u wi => ∃ j : Nat, j ≤ 16 ∧ v = .int .i64 j ∧ u = .int .i64 (manyR (R'.take j) : Nat) ∧ Ext u5 wi) (fun v _ _ => 16 - (intOf v).toNat)
              case atStart => exact ⟨0, by omega, rfl, rfl, Ext.refl _⟩
              case round =>
                obtain ⟨j, hj, rfl, rfl, hXi⟩ := hrel
                by_cases hjlt : j < 16
                · have hjL : j < R'.length := by rw [HL16.out]; exact hjlt
                  obtain ⟨e0, e1⟩ := HR5.out.ext hXi j hjL
                  have hmt := many_take hjL
                  have hml : manyR (R'.take j) ≤ 16 := by
                    have : manyR (R'.take j) ≤ (R'.take j).length := List.countP_le_length
                    rw [List.length_take] at this
                    omega
                  obtain ⟨rx, hrx⟩ : ∃ q, q = (rg R' j).1 := ⟨_, rfl⟩
                  obtain ⟨ry, hry⟩ : ∃ q, q = (rg R' j).2 := ⟨_, rfl⟩
                  have hwx2 : 0 ≤ rx ∧ rx ≤ 65535 := by rw [hrx]; exact (HP'.out.wf.at hjL).1
                  have hyb : -9223372036854775808 ≤ ry ∧ ry ≤ 9223372036854775807 := by rw [hry]; exact (HP'.out.wf.at hjL).2
                  have hcnt : 0 < ry → cntR R' rx = ry := fun h => by
                    rw [hry] at h ⊢
                    exact cnt_at HP'.out.ok hjL h hrx.symm
                  rw [← hrx] at e0
                  rw [← hry] at e1 hmt
                  generalize manyR (R'.take j) = mj at *
                  have HMT := Lib.hid hmt
                  have HXI := Lib.hid hXi
                  have hadd : IntKind.i64.wrap ((mj : Int) + 1) = (mj : Int) + 1 := IntWalk.i64_in _ (by omega)
                  have hmap := (ownExtI HM5.out hXi).alloc (.cells #[.int .u16 rx, .int .i64 ry] 37)
                  clear hmt hXi hrx hry
                  by_cases hpos : 0 < ry
                  · have hlook := lookI hmap (wf_u16 hwx2) (HP'.out.tells.at_ rx)
                    rw [hcnt hpos] at hlook
                    rw [if_pos hpos] at HMT
                    have HAL := Lib.hid (HXI.out.alloc (.cells #[.int .u16 rx, .int .i64 ry] 37))
                    clear hcnt hmap
                    go_wp2
                    go_roundw
                    case rel => exact ⟨j + 1, hjlt, by go_num, by rw [HMT.out]; simp, HAL.out⟩
                    case measure => simp [intOf]; omega
                  · rw [if_neg hpos] at HMT
                    have HAL := Lib.hid (HXI.out.alloc (.cells #[.int .u16 rx, .int .i64 ry] 37))
                    clear hcnt hmap
                    go_wp2
                    go_roundw
                    case rel => exact ⟨j + 1, hjlt, by go_num, by rw [HMT.out]; simp, HAL.out⟩
                    case measure => simp [intOf]; omega
                · have : j = 16 := by omega
                  subst this
                  have htk : manyR (R'.take 16) = manyR R' := by rw [List.take_of_length_le (by rw [HL16.out]; exact Nat.le_refl _)]
                  rw [htk]
                  have hmw := ownExtI HM5.out hXi
                  have hlen := hmw.len Try.underlying41 3
                  rw [HP'.out.tells.size_] at hlen
                  have HMW := Lib.hid hmw
                  have HEND := Lib.hid (H5.out.trans hXi)
                  have HSW := Lib.hid (HS5.out.ext hXi)
                  clear htk hmw hXi
                  generalize manyR R' = mm at *
                  go_wp2
                  go_roundw
                  case rel => exact ⟨k + 1, c', _, R', D', hlt, by omega, by go_num, rfl, HP'.out, HSW.out, HB'.out, HMW.out, HEND.out⟩
                  case measure => simp [intOf]; omega
    · have : k = n := by omega
      subst this
      have HX := Lib.hid hX
      clear hplay hsl hbl hown hX
      go_wp2
      go_ret
      exact ⟨rfl, HX.out⟩
end Go.Proofs.Ytiknmifbhhfblaa.Intern
