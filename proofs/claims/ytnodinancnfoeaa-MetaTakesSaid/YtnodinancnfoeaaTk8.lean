/- RrR; MtRR; RwRef; MtRL; ITakeR; RwRefT -/
import Derived.Test.YtnodinancnfoeaaRows
import Derived.Test.YtnodinancnfoeaaTk1
import Derived.OwnWalk
import Derived.BigQuiet
import Derived.Deep.QuietTactic
import Derived.Deep.RegionHeld3
import Derived.WalkSpells
import Derived.IntWalk
import Derived.Lib.Hide
import Derived.Test.YtnodinancnfoeaaTk5
import Derived.Test.YtnodinancnfoeaaTk6
import Derived.LoopTactic
import Derived.Test.YtnodinancnfoeaaTk0
import Derived.Deep.DeepCutAuto
/- The reference's Right. -/
namespace Go.Proofs.Ytnodinancnfoeaa.Intern
open Go.RowKit Words Mem Plain Ops
set_option linter.ambiguousOpen false
set_option linter.unusedVariables false
set_option linter.unusedSimpArgs false

set_option maxRecDepth 100000 in
set_option maxHeartbeats 500000 in
theorem rRight_pos (L : List RowT) (b off cap : Nat) (w : World) (h16 : L.length = 16)
    (hc : ∀ k, k < L.length → w.cell? ⟨b, off + k * 2, none⟩ = some (.int .u16 (rg L k).1) ∧ w.cell? ⟨b, off + k * 2 + 1, none⟩ = some (.int .i64 (rg L k).2)) (hwf : wfR L) :
    Calls Try.prog 35 #[.slice (some ⟨b, off, none⟩) L.length cap] w fun e w' => e = .returned (.bool (rightB L)) ∧ Ext w w' := by
  have HC := Lib.hid hc
  have HWF := Lib.hid hwf
  have HL := Lib.hid h16
  rw [h16]
  clear hc hwf h16
  go_enter Try.func35, Try.ntmps35
  go_wp2
  go_loopw [3] (fun v wr => ∃ k : Nat, k ≤ 16 ∧ v = .int .i64 k ∧ (∀ j, j < k → goodAt L j) ∧ Ext w wr) (fun v _ => 16 - (intOf v).toNat)
  case atStart => exact ⟨0, by omega, rfl, fun j hj => absurd hj (by omega), Ext.refl _⟩
  case round =>
    obtain ⟨k, hk, rfl, hgood, hX⟩ := hrel
    by_cases hlt : k < 16
    · have hkL : k < L.length := by rw [HL.out]; exact hlt
      obtain ⟨a0, a1⟩ := HC.out k hkL
      have c0 := hX.keep a0
      have c1 := hX.keep a1
      obtain ⟨⟨p0, p1⟩, q0, q1⟩ := HWF.out.at hkL
      obtain ⟨x, hx⟩ : ∃ x, x = (rg L k).1 := ⟨_, rfl⟩
      obtain ⟨y, hy⟩ : ∃ y, y = (rg L k).2 := ⟨_, rfl⟩
      have HG := Lib.hid hgood
      have HX := Lib.hid hX
      have HXY := Lib.hid (And.intro hx hy)
      rw [← hx] at c0 p0 p1
      rw [← hy] at c1 q0 q1
      clear hgood hX a0 a1 hx hy
      by_cases hbad : y < 0 ∨ y > 65535 ∨ (y = 0 ∧ ¬ x = 0)
      · have hv : rightB L = false := right_no hkL (fun hg => by
          obtain ⟨g0, g1, g2, _⟩ := hg
          rw [← HXY.out.2] at g0 g1 g2
          rw [← HXY.out.1] at g2
          omega)
        have HV := Lib.hid hv; clear hv
        by_cases h1 : y < 0
        · go_wp2
          go_ret
          exact ⟨by rw [HV.out]; rfl, HX.out⟩
        · by_cases h2 : y > 65535
          · go_wp2
            go_ret
            exact ⟨by rw [HV.out]; rfl, HX.out⟩
          · obtain ⟨rfl, hx0⟩ : y = 0 ∧ ¬ x = 0 := by omega
            clear h1 h2 hbad
            go_wp2
            go_ret
            exact ⟨by rw [HV.out]; rfl, HX.out⟩
      · have h1 : ¬ y < 0 := by omega
        have h2 : ¬ y > 65535 := by omega
        have h3 : ¬ y = 0 ∨ x = 0 := by omega
        have HB := Lib.hid hbad
        clear hbad
        have key : ∀ (G : Prop) , (¬ y = 0 → G) → (y = 0 ∧ x = 0 → G) → G := fun G h h' => by
          by_cases e : y = 0
          · exact h' ⟨e, by omega⟩
          · exact h e
        have hk16 : (k : Int) < 16 := by omega
        have hk0 : (0 : Int) ≤ k := by omega
        refine key _ ?_ ?_
        · intro h4
          clear h3 key
          go_wp2
          go_loopw [4] (fun v wi => ∃ j : Nat, j ≤ k ∧ v = .int .i64 j ∧ (∀ i, i < j → 0 < y → 0 < (rg L i).2 → (rg L i).1 ≠ x) ∧ Ext w wi) (fun v _ => k - (intOf v).toNat)
          case atStart => exact ⟨0, by omega, rfl, fun i hi => absurd hi (by omega), HX.out⟩
          case round =>
            obtain ⟨j, hj, rfl, hne, hXi⟩ := hrel
            by_cases hjlt : j < k
            · have hjL : j < L.length := by omega
              obtain ⟨a0, a1⟩ := HC.out j hjL
              have d0 := hXi.keep a0
              have d1 := hXi.keep a1
              obtain ⟨b0, b1⟩ := HC.out k hkL
              rw [← HXY.out.1] at b0
              rw [← HXY.out.2] at b1
              have e0 := hXi.keep b0
              have e1 := hXi.keep b1
              obtain ⟨⟨r0, r1⟩, s0, s1⟩ := HWF.out.at hjL
              obtain ⟨u, hu⟩ : ∃ u, u = (rg L j).1 := ⟨_, rfl⟩
              obtain ⟨v, hv⟩ : ∃ v, v = (rg L j).2 := ⟨_, rfl⟩
              have HUV := Lib.hid (And.intro hu hv)
              rw [← hu] at d0 r0 r1
              rw [← hv] at d1 s0 s1
              have HNE := Lib.hid hne
              have HXI := Lib.hid hXi
              have hj16 : (j : Int) < 16 := by omega
              have hj0 : (0 : Int) ≤ j := by omega
              clear hne hXi a0 a1 b0 b1 hu hv c0 c1
              have hjk : (j : Int) < k := by omega
              have next : ¬ (0 < y ∧ 0 < v ∧ x = u) → (∀ i, i < j + 1 → 0 < y → 0 < (rg L i).2 → (rg L i).1 ≠ x) := fun hn i hi hy0 hi0 => by
                by_cases e : i = j
                · subst e
                  rw [← HUV.out.1]
                  rw [← HUV.out.2] at hi0
                  intro e2
                  exact hn ⟨hy0, hi0, e2.symm⟩
                · exact HNE.out i (by omega) hy0 hi0
              have HNX := Lib.hid next
              clear next
              by_cases hy0 : 0 < y
              · by_cases hv0 : 0 < v
                · by_cases hxu : x = u
                  · subst hxu
                    have hv : rightB L = false := right_no hkL (fun hg => by
                      have := hg.2.2.2 (by rw [← HXY.out.2]; exact hy0) j hjlt (by rw [← HUV.out.2]; exact hv0)
                      rw [← HXY.out.1, ← HUV.out.1] at this
                      exact this rfl)
                    have HV := Lib.hid hv; clear hv
                    go_wp2
                    go_quiet (fail)
                    go_wp2
                    go_ret
                    exact ⟨by rw [HV.out]; rfl, by repeat (first | exact HXI.out | apply Ext.drewN)⟩
                  · have hb : (x == u) = false := by simpa using hxu
                    have HNY := Lib.hid (HNX.out (by omega))
                    clear hxu HNX hjk
                    go_wp2
                    go_quiet (fail)
                    go_wp2
                    go_roundw
                    case rel => exact ⟨j + 1, hjlt, by go_num, HNY.out, by repeat (first | exact HXI.out | apply Ext.drewN)⟩
                    case measure => simp [intOf]; omega
                · have hb : decide (0 < v) = false := by simpa using hv0
                  have HNY := Lib.hid (HNX.out (by omega))
                  clear hv0 HNX hjk
                  go_wp2
                  go_quiet (fail)
                  go_wp2
                  go_roundw
                  case rel => exact ⟨j + 1, hjlt, by go_num, HNY.out, by repeat (first | exact HXI.out | apply Ext.drewN)⟩
                  case measure => simp [intOf]; omega
              · have hb : decide (0 < y) = false := by simpa using hy0
                have HNY := Lib.hid (HNX.out (by omega))
                clear hy0 HNX hjk
                go_wp2
                go_quiet (fail)
                go_wp2
                go_roundw
                case rel => exact ⟨j + 1, hjlt, by go_num, HNY.out, by repeat (first | exact HXI.out | apply Ext.drewN)⟩
                case measure => simp [intOf]; omega
            · have : j = k := by omega
              subst this
              have HNE := Lib.hid hne
              have HXI := Lib.hid hXi
              clear hne hXi
              go_wp2
              go_roundw
              case rel => 
                refine ⟨j + 1, hlt, by go_num, fun i hi => ?_, HXI.out⟩
                by_cases e : i = j
                · subst e
                  refine ⟨?_, ?_, ?_, ?_⟩
                  · rw [← HXY.out.2]; omega
                  · rw [← HXY.out.2]; omega
                  · rw [← HXY.out.2]; exact fun e => absurd e h4
                  · rw [← HXY.out.2, ← HXY.out.1]
                    exact fun y0 i hi hi0 => HNE.out i hi y0 hi0
                · exact HG.out i (by omega)
              case measure => simp [intOf]; omega
        · rintro ⟨rfl, rfl⟩
          clear h3 key
          go_wp2
          go_loopw [4] (fun v wi => ∃ j : Nat, j ≤ k ∧ v = .int .i64 j ∧ Ext w wi) (fun v _ => k - (intOf v).toNat)
          case atStart => exact ⟨0, by omega, rfl, HX.out⟩
          case round =>
            obtain ⟨j, hj, rfl, hXi⟩ := hrel
            by_cases hjlt : j < k
            · obtain ⟨b0, b1⟩ := HC.out k hkL
              rw [← HXY.out.1] at b0
              rw [← HXY.out.2] at b1
              have e0 := hXi.keep b0
              have e1 := hXi.keep b1
              have HXI := Lib.hid hXi
              have hj16 : (j : Int) < 16 := by omega
              have hj0 : (0 : Int) ≤ j := by omega
              have hjk : (j : Int) < k := by omega
              clear hXi b0 b1 c0 c1
              go_wp2
              go_quiet (fail)
              go_wp2
              go_roundw
              case rel => exact ⟨j + 1, hjlt, by go_num, by repeat (first | exact HXI.out | apply Ext.drewN)⟩
              case measure => simp [intOf]; omega
            · have : j = k := by omega
              subst this
              have HXI := Lib.hid hXi
              clear hXi
              go_wp2
              go_roundw
              case rel => 
                refine ⟨j + 1, hlt, by go_num, fun i hi => ?_, HXI.out⟩
                by_cases e : i = j
                · subst e
                  refine ⟨?_, ?_, ?_, ?_⟩
                  · rw [← HXY.out.2]; exact Int.le_refl _
                  · rw [← HXY.out.2]; decide
                  · rw [← HXY.out.1]; exact fun _ => rfl
                  · rw [← HXY.out.2]; exact fun h => absurd h (by decide)
                · exact HG.out i (by omega)
              case measure => simp [intOf]; omega
    · have : k = 16 := by omega
      subst this
      have hv : rightB L = true := right_yes HL.out (by rw [HL.out]; exact hgood)
      have HV := Lib.hid hv
      have HX := Lib.hid hX
      clear hv hX hgood
      go_wp2
      go_ret
      exact ⟨by rw [HV.out]; rfl, HX.out⟩

theorem rRight_ok (L : List RowT) (a : Option Addr) (cap : Nat) (w : World) (hs : Sl w a (rowsC L)) (hwf : wfR L) (hm : L.length ≤ 9223372036854775807) :
    Calls Try.prog 35 #[.slice a L.length cap] w fun e w' => e = .returned (.bool (rightB L)) ∧ Ext w w' := by
  by_cases h : L.length = 16
  · obtain ⟨b, off, rfl, hc⟩ := rows_at hs (by omega)
    exact rRight_pos L b off cap w h hc hwf
  · have hv := right_len h
    have h' : ¬ (L.length : Int) = 16 := by omega
    have HV := Lib.hid hv
    generalize L.length = n at *
    clear hv
    go_enter Try.func35, Try.ntmps35
    go_wp2
    go_ret
    exact ⟨by rw [HV.out]; rfl, Ext.refl _⟩
end Go.Proofs.Ytnodinancnfoeaa.Intern
/- moatref14.Right. -/
namespace Go.Proofs.Ytnodinancnfoeaa.Mt
open Go.RowKit Words Mem Plain Ops Agg OwnS Intern Ino
set_option linter.ambiguousOpen false
set_option linter.unusedVariables false
set_option linter.unusedSimpArgs false

theorem count_zero {xs : List Int} {gp : Nat} {x : Int} (hx : x = gp) (h : ∀ q, gp ≤ q → q < 512 → Bit.bitN xs q = false) : Bit.countN xs x 512 = 0 := by
  unfold Bit.countN Bit.countTo
  rw [List.length_eq_zero_iff, List.filter_eq_nil_iff]
  intro q _
  unfold Bit.inR
  by_cases h1 : gp ≤ q
  · by_cases h2 : q < 512
    · rw [h q h1 h2]; simp
    · have : decide ((q : Int) < 512) = false := decide_eq_false (by omega)
      rw [this]; simp
  · have : decide (x ≤ (q : Int)) = false := decide_eq_false (by omega)
    rw [this]; simp
theorem count_pos {xs : List Int} {gp q : Nat} {x : Int} (hx : x = gp) (hl : xs.length = 64) (h1 : gp ≤ q) (h2 : q < 512) (h : Bit.bitN xs q = true) : Bit.countN xs x 512 ≠ 0 := by
  unfold Bit.countN Bit.countTo
  rw [ne_eq, List.length_eq_zero_iff, List.filter_eq_nil_iff]
  intro hn
  refine hn q (by simp; omega) ?_
  unfold Bit.inR
  have e1 : decide (x ≤ (q : Int)) = true := decide_eq_true (by omega)
  have e2 : decide ((q : Int) < 512) = true := decide_eq_true (by omega)
  rw [e1, e2, h]; rfl
set_option maxHeartbeats 4000000 in
set_option maxRecDepth 100000 in
theorem rRight_ok (J I G P : Int) (p : Pl) (M : MetaT) (w : World) (h : MetaIn w p M) :
    Calls Try.prog 17 #[Super.geoV J I G P, metaV p M] w fun e w' => e = .returned (.bool (rightM J I G P M)) ∧ Ext w w' := by
  obtain ⟨hbox, hbx⟩ := BoxAt.new w J I G P p M
  have hgr := Super.rRight_ok J I G P (boxW w J I G P p M)
  have HBX := Lib.hid hbx
  have HBOX := Lib.hid hbox
  have HIN := Lib.hid h
  clear hbox hbx h
  cases h1 : Super.rightB J I G P
  · have HV := Lib.hid (show rightM J I G P M = false by unfold rightM; rw [h1]; rfl)
    rw [h1] at hgr
    go_enter Try.func17, Try.ntmps17
    go_wp2_with fail
    refine hgr.mono ?_
    rintro e w2 ⟨rfl, h2⟩
    have H2 := Lib.hid (HBX.out.trans h2)
    clear h2 hgr
    go_wp2
    go_ret
    exact ⟨by rw [HV.out]; rfl, H2.out⟩
  rw [h1] at hgr
  have HBD := Lib.hid (Super.right_bd h1)
  have hrows := fun (v : World) (hv : Ext w v) => Intern.rRight_ok M.rows p.ra p.rc v (HIN.out.rows.ext hv) HIN.out.wfr (by have := HIN.out.few; omega)
  have HROWS := Lib.hid hrows
  clear hrows
  go_enter Try.func17, Try.ntmps17
  go_wp2_with fail
  refine hgr.mono ?_
  rintro e w2 ⟨rfl, h2⟩
  have hr2 := HROWS.out w2 (HBX.out.trans h2)
  have H2 := Lib.hid (HBX.out.trans h2)
  have HBOX2 := Lib.hid (HBOX.out.ext h2)
  clear h2 hgr HROWS HBOX
  obtain ⟨⟨g0, g1, g2, g3⟩, m0, m1, m2, m3⟩ := HBOX2.out
  cases h3 : Intern.rightB M.rows
  · have HV := Lib.hid (show rightM J I G P M = false by unfold rightM; rw [h1, h3]; rfl)
    rw [h3] at hr2
    go_wp2_with fail
    refine hr2.mono ?_
    rintro e w3 ⟨rfl, h4⟩
    have H4 := Lib.hid (H2.out.trans h4)
    clear h4 hr2
    go_wp2
    go_ret
    exact ⟨by rw [HV.out]; rfl, H4.out⟩
  rw [h3] at hr2
  clear m0 m1 m2 m3 g0 g1 g2 g3
  have e0 : ∀ v : World, Ext w2 v → True := fun _ _ => trivial
  obtain ⟨⟨g0, g1, g2, g3⟩, m0, m1, m2, m3⟩ := HBOX2.out
  go_wp2_with fail
  refine hr2.mono ?_
  rintro e w3 ⟨rfl, h4⟩
  have H4 := Lib.hid (H2.out.trans h4)
  have HBOX3 := Lib.hid (HBOX2.out.ext h4)
  clear h4 hr2 g0 g1 g2 g3 m0 m1 m2 m3 e0 HBOX2 H2
  obtain ⟨⟨g0, g1, g2, g3⟩, m0, m1, m2, m3⟩ := HBOX3.out
  by_cases h5 : (M.owners.length : Int) = G
  case neg =>
    have HV := Lib.hid (show rightM J I G P M = false by unfold rightM; rw [h1, h3, decide_eq_false h5]; rfl)
    have hq : ((M.owners.length : Int) != G) = true := by simpa using h5
    go_wp2
    go_ret
    exact ⟨by rw [HV.out]; rfl, H4.out⟩
  by_cases h6 : (M.used.length : Int) = 64
  case neg =>
    have HV := Lib.hid (show rightM J I G P M = false by unfold rightM; rw [h1, h3, decide_eq_true h5, decide_eq_false h6]; rfl)
    have hq : ((M.used.length : Int) != 64) = true := by simpa using h6
    go_wp2
    go_ret
    exact ⟨by rw [HV.out]; rfl, H4.out⟩
  by_cases h7 : (M.inodes.length : Int) = I
  case neg =>
    have HV := Lib.hid (show rightM J I G P M = false by unfold rightM; rw [h1, h3, decide_eq_true h5, decide_eq_true h6, decide_eq_false h7]; rfl)
    have hq : ((M.inodes.length : Int) != I) = true := by simpa using h7
    go_wp2
    go_ret
    exact ⟨by rw [HV.out]; rfl, H4.out⟩
  have HV := Lib.hid (rightM_of h1 h3 h5 h6 h7)
  obtain ⟨no, hno⟩ : ∃ q, q = M.owners.length := ⟨_, rfl⟩
  obtain ⟨ni, hni⟩ : ∃ q, q = M.inodes.length := ⟨_, rfl⟩
  have HNO := Lib.hid hno
  have HNI := Lib.hid hni
  rw [← hno] at h5 m1
  rw [← hni] at h7 m3
  have h6' : M.used.length = 64 := by omega
  rw [h6'] at m2
  have H6 := Lib.hid h6'
  clear h6 h6' h1 h3 hno hni
  subst h5
  subst h7
  have hno64 : no ≤ 64 := by have := HBD.out; omega
  have hni64 : ni ≤ 64 := by have := HBD.out; omega
  obtain ⟨gp, hgp⟩ : ∃ q : Nat, (no : Int) * P = q := ⟨((no : Int) * P).toNat, by have := HBD.out; omega⟩
  have HGP := Lib.hid hgp
  have hgp512 : 1 ≤ gp ∧ gp ≤ 512 := by have := HBD.out; omega
  clear hgp
  go_wp2
  go_loopw [5] (fun v wr => ∃ k : Nat, k ≤ no ∧ v = .int .i64 k ∧ Ext w3 wr ∧ M.owners.all ownB = (M.owners.drop k).all ownB) (fun v _ => no - (intOf v).toNat)
  case atStart => exact ⟨0, by omega, rfl, Ext.refl _, rfl⟩
  case round =>
    obtain ⟨k, hk, rfl, hX, hall⟩ := hrel
    have HX := Lib.hid hX
    have HALL := Lib.hid hall
    clear hX hall g0 g1 g2 g3 m0 m1 m2 m3
    obtain ⟨⟨g0, g1, g2, g3⟩, m0, m1, m2, m3⟩ := HBOX3.out.ext HX.out
    rw [← HNO.out] at m1
    rw [H6.out] at m2
    by_cases hlt : k < no
    · have hkL : k < M.owners.length := by rw [← HNO.out]; exact hlt
      obtain ⟨bo, oo, hoa, hoc⟩ := (HIN.out.owners.ext (H4.out.trans HX.out)).ints (by omega)
      have hcell := hoc k hkL
      have HST := Lib.hid (all_drop (p := ownB) hkL)
      generalize M.owners[k] = o at *
      rw [hoa] at m1
      have hkn : (k : Int) < no := by omega
      have hk0 : (0 : Int) ≤ k := by omega
      clear hoc hkL hoa g0 g1 g2 g3 m0 m2 m3
      by_cases ho0 : o < 0
      · have HF := Lib.hid (show ownB o = false by simp [ownB]; omega)
        go_wp2
        go_ret
        exact ⟨by rw [HV.out, HALL.out, HST.out, HF.out]; rfl, H4.out.trans HX.out⟩
      · by_cases ho1 : 16 < o
        · have HF := Lib.hid (show ownB o = false by simp [ownB]; omega)
          go_wp2
          go_ret
          exact ⟨by rw [HV.out, HALL.out, HST.out, HF.out]; rfl, H4.out.trans HX.out⟩
        · have HF := Lib.hid (show ownB o = true by simp [ownB]; omega)
          go_wp2
          go_roundw
          case rel => exact ⟨k + 1, hlt, by go_num, HX.out, by rw [HALL.out, HST.out, HF.out]; rfl⟩
          case measure => simp [intOf]; omega
    · obtain rfl : k = no := by omega
      have HOWN := Lib.hid (show M.owners.all ownB = true by rw [HALL.out, List.drop_eq_nil_of_le (by rw [← HNO.out]; exact Nat.le_refl _)]; rfl)
      have hmul : IntKind.i64.wrap ((k : Int) * P) = (gp : Int) := by rw [HGP.out]; exact IntWalk.i64_in _ (by omega)
      clear hk hlt HALL
      go_wp2
      go_loopw [6] (fun v w5 => ∃ i : Nat, gp ≤ i ∧ i ≤ 512 ∧ v = .int .i64 i ∧ Ext wr w5 ∧ ∀ q, gp ≤ q → q < i → Bit.bitN M.used q = false) (fun v _ => 512 - (intOf v).toNat)
      case atStart => exact ⟨gp, by omega, by omega, rfl, Ext.refl _, fun q h1 h2 => absurd h1 (by omega)⟩
      case round =>
        obtain ⟨i, hi0, hi1, rfl, hX5, hno⟩ := hrel
        have HX5 := Lib.hid hX5
        have HNB := Lib.hid hno
        clear hX5 hno g0 g1 g2 g3 m0 m1 m2 m3
        obtain ⟨⟨g0, g1, g2, g3⟩, m0, m1, m2, m3⟩ := HBOX3.out.ext (HX.out.trans HX5.out)
        rw [H6.out] at m2
        rw [← HNI.out] at m3
        clear g0 g1 g2 g3 m0 m1
        by_cases hlt : i < 512
        · have hhas := Bit.rHas_ok p.ua 64 p.uc M.used (i : Int) wr H6.out (by decide) HIN.out.bu (HIN.out.used.ext (H4.out.trans (HX.out.trans HX5.out)))
          have HBN := Lib.hid (Bit.bitB_nat M.used i (by rw [H6.out]; omega))
          cases hb : Bit.bitB M.used (i : Int)
          · rw [hb] at hhas
            go_wp2_with fail
            refine hhas.mono ?_
            rintro e w6 ⟨rfl, hw6⟩
            subst hw6
            clear hhas m2 m3
            have HB2 := Lib.hid (show Bit.bitN M.used i = false by rw [← HBN.out]; exact hb)
            go_wp2
            go_roundw
            case rel => exact ⟨i + 1, by omega, hlt, by go_num, HX5.out, fun q h1 h2 => by
              by_cases e : q = i
              · subst e; exact HB2.out
              · exact HNB.out q h1 (by omega)⟩
            case measure => simp [intOf]; omega
          · rw [hb] at hhas
            have HCP := Lib.hid (count_pos (x := (k : Int) * P) HGP.out H6.out hi0 hlt (by rw [← HBN.out]; exact hb))
            go_wp2_with fail
            refine hhas.mono ?_
            rintro e w6 ⟨rfl, hw6⟩
            subst hw6
            clear hhas m2 m3
            go_wp2
            go_ret
            exact ⟨by rw [HV.out, decide_eq_false HCP.out, Bool.and_false, Bool.and_false]; rfl, H4.out.trans (HX.out.trans HX5.out)⟩
        · have HI := Lib.hid (show i = 512 by omega)
          have HCZ := Lib.hid (count_zero (x := (k : Int) * P) HGP.out (fun q h1 h2 => HNB.out q h1 (by have := HI.out; omega)))
          have hge : ¬ ((i : Int) < 512) := by omega
          clear hlt hi0 hi1
          go_wp2
          go_loopw [7] (fun v w7 => ∃ j : Nat, j ≤ ni ∧ v = .int .i64 j ∧ Ext w3 w7 ∧ M.inodes.all Ino.rightB = (M.inodes.drop j).all Ino.rightB) (fun v _ => ni - (intOf v).toNat)
          case atStart => exact ⟨0, by omega, rfl, HX.out.trans HX5.out, rfl⟩
          case round =>
            obtain ⟨j, hj, rfl, hX7, hall⟩ := hrel
            have HX7 := Lib.hid hX7
            have HALL := Lib.hid hall
            clear hX7 hall m2 m3
            obtain ⟨⟨g0, g1, g2, g3⟩, m0, m1, m2, m3⟩ := HBOX3.out.ext HX7.out
            rw [← HNI.out] at m3
            clear g0 g1 g2 g3 m0 m1 m2
            by_cases hlt : j < ni
            · have hjL : j < M.inodes.length := by rw [← HNI.out]; exact hlt
              obtain ⟨bi, oi, hia, hrg⟩ := ino_range (HIN.out.inodes.ext (H4.out.trans HX7.out)) hjL
              have HST := Lib.hid (all_drop (p := Ino.rightB) hjL)
              rw [hia] at m3
              generalize M.inodes[j] = n at *
              have HRG := Lib.hid (show wr.rangeAt bi (oi + j * 14) [.int .u8 n.k, .int .u8 n.r, .int .i64 n.l, .int .i64 n.s, .int .i64 n.d0, .int .i64 n.d1, .int .i64 n.d2, .int .i64 n.d3, .int .i64 n.d4, .int .i64 n.d5, .int .i64 n.d6, .int .i64 n.d7, .int .i64 n.i, .int .i64 n.j] from hrg)
              have hn := Ino.rRight_ok n wr
              have hjn : (j : Int) < ni := by omega
              have hj0 : (0 : Int) ≤ j := by omega
              clear hrg hjL hia
              cases hnr : n.rightB
              · rw [hnr] at hn
                go_wp2_with (first
                  | (refine wpList_load_mid rfl 48 _ rfl bi (oi + j * 14) rfl [.int .u8 n.k, .int .u8 n.r, .int .i64 n.l, .int .i64 n.s, .int .i64 n.d0, .int .i64 n.d1, .int .i64 n.d2, .int .i64 n.d3, .int .i64 n.d4, .int .i64 n.d5, .int .i64 n.d6, .int .i64 n.d7, .int .i64 n.i, .int .i64 n.j] _ HRG.out Try.underlying48 rfl infoIno ?_)
                  | (go_at_call 37; refine hn.mono ?_; rintro e w6 ⟨rfl, h6⟩))
                go_ret
                exact ⟨by rw [HV.out, HOWN.out, HALL.out, HST.out, hnr]; rfl, H4.out.trans (HX7.out.trans h6)⟩
              · rw [hnr] at hn
                go_wp2_with (first
                  | (refine wpList_load_mid rfl 48 _ rfl bi (oi + j * 14) rfl [.int .u8 n.k, .int .u8 n.r, .int .i64 n.l, .int .i64 n.s, .int .i64 n.d0, .int .i64 n.d1, .int .i64 n.d2, .int .i64 n.d3, .int .i64 n.d4, .int .i64 n.d5, .int .i64 n.d6, .int .i64 n.d7, .int .i64 n.i, .int .i64 n.j] _ HRG.out Try.underlying48 rfl infoIno ?_)
                  | (go_at_call 37; refine hn.mono ?_; rintro e w6 ⟨rfl, h6⟩))
                go_roundw
                case rel => exact ⟨j + 1, hlt, by go_num, HX7.out.trans h6, by rw [HALL.out, HST.out, hnr]; rfl⟩
                case measure => simp [intOf]; omega
            · obtain rfl : j = ni := by omega
              have HINO := Lib.hid (show M.inodes.all Ino.rightB = true by rw [HALL.out, List.drop_eq_nil_of_le (by rw [← HNI.out]; exact Nat.le_refl _)]; rfl)
              go_wp2
              go_ret
              exact ⟨by rw [HV.out, HOWN.out, HINO.out, decide_eq_true HCZ.out]; rfl, H4.out.trans HX7.out⟩
end Go.Proofs.Ytnodinancnfoeaa.Mt
/- The reference's Lay and Take. -/
namespace Go.Proofs.Ytnodinancnfoeaa.Intern
open Go.RowKit Words Mem Plain Ops Agg
open Go.Proofs.Ytnodinancnfoeaa.Field
set_option linter.ambiguousOpen false
set_option linter.unusedVariables false
set_option linter.unusedSimpArgs false

theorem layed_two (L : List Int) (x y : Int) : layed 2 (L ++ [x, y]) = layed 2 L ++ bytesOf 2 x ++ bytesOf 2 y := by simp [layed]

set_option maxHeartbeats 2000000 in
theorem rRLay_ok (L : List RowT) (s : Option Addr) (cap : Nat) (w : World) (hm : L.length ≤ 9223372036854775807) (hc : Sl w s (rowsC L)) (hwf : wfR L) :
    Calls Try.prog 28 #[.slice s L.length cap] w (Gave .u8 5 w (rowsLay L)) := by
  have hright := rRight_ok L s cap w hc hwf hm
  cases hr : rightB L
  · rw [hr] at hright
    rw [rowsLay_no hr]
    clear hm hc hwf hr
    generalize L.length = n at *
    go_enter Try.func28, Try.ntmps28
    go_wp2_with fail
    refine hright.mono ?_
    rintro e w2 ⟨rfl, h2⟩
    have H2 := Lib.hid h2
    clear h2 hright
    go_wp2
    go_ret2
    exact Gave.nil rfl H2.out
  · have hok := (right_iff L).1 hr
    have h16 := hok.1
    obtain ⟨b, off, rfl, hrows⟩ := rows_at hc (by omega)
    have hrows : RowsAt b off L w := hrows
    have HROWS := Lib.hid hrows
    rw [hr] at hright
    rw [rowsLay_yes hr]
    have HOK := Lib.hid (And.intro hok hwf)
    have H16 := Lib.hid h16
    rw [h16] at hright ⊢
    clear hm hc hwf hr hok hrows h16
    go_enter Try.func28, Try.ntmps28
    go_wp2_with fail
    refine hright.mono ?_
    rintro e w2 ⟨rfl, h2⟩
    have H2 := Lib.hid h2
    clear h2 hright
    go_wp2
    go_loopw [5, 4] (fun v u wr => ∃ (k m c : Nat) (ao : Option Addr), k ≤ 16 ∧ m = 4 * k ∧ v = .int .i64 k ∧ u = .slice ao m c ∧ wr.ownsRow w.heap.size 5 1 (.slice ao m c) m (ints .u8 (layed 2 (numsR (L.take k)))) ∧ Ext w wr) (fun v _ _ => 16 - (intOf v).toNat)
    case atStart => exact ⟨0, 0, 0, none, by omega, rfl, rfl, rfl, ownsRow_nil _ _ _, H2.out⟩
    case round =>
      obtain ⟨k, m, c, ao, hk, hm, rfl, rfl, hown, hX⟩ := hrel
      have HM := Lib.hid hm
      have hm2 : m ≤ 64 := by omega
      clear hm
      by_cases hlt : k < 16
      · have hkL : k < L.length := by rw [H16.out]; exact hlt
        obtain ⟨c0, c1⟩ := HROWS.out.ext hX k hkL
        obtain ⟨x, hx⟩ : ∃ x, x = (rg L k).1 := ⟨_, rfl⟩
        obtain ⟨y, hy⟩ : ∃ y, y = (rg L k).2 := ⟨_, rfl⟩
        have HEQ := Lib.hid (show rg L k = (x, y) by rw [hx, hy])
        have HTS := Lib.hid (show layed 2 (numsR (L.take (k + 1))) = layed 2 (numsR (L.take k)) ++ bytesOf 2 x ++ bytesOf 2 y by rw [numsR_take L hkL, hx, hy, layed_two])
        have hx1 : 0 ≤ x ∧ x ≤ 65535 := by rw [hx]; exact (HOK.out.2.at hkL).1
        have hy1 : 0 ≤ y ∧ y ≤ 65535 := by rw [hy]; exact ⟨(HOK.out.1.2 k hkL).1, (HOK.out.1.2 k hkL).2.1⟩
        rw [← hx] at c0
        rw [← hy] at c1
        clear hx hy
        obtain ⟨x0, x1⟩ := hx1
        obtain ⟨y0, y1⟩ := hy1
        have hk0 : (0 : Int) ≤ k := by omega
        have hk1 : (k : Int) < 16 := by omega
        have hwx : IntKind.u64.wrap x = x := IntWalk.u64_in _ (by omega)
        have hwy : IntKind.u64.wrap y = y := IntWalk.u64_in _ (by omega)
        have k1 : Calls Try.prog 51 #[.int .u64 x, .int .i64 2] wr _ := rNum_ok x 2 wr x0 (by omega) (by decide)
        have HX := Lib.hid hX
        have HOWN := Lib.hid hown
        clear hX hown
        go_wp2_with fail
        refine k1.mono ?_
        rintro e w3 ⟨a3, c3, rfl, hown3, hX3⟩
        rw [length_bytesOf] at hown3
        rw [length_bytesOf]
        have hown2' := ownsRow_ext HOWN.out hX3
        have X3 := HX.out.trans hX3
        obtain ⟨a4, c4, w4, hrun4, hown4, hext4⟩ := run_append_sl (P := Try.prog) w3 w.heap.size 26 26 5 (.int .u8 0) 1 Try.underlying26 info8 rfl hown2' (m := 2) c3 (by rw [ints_length, length_bytesOf]) (ownsRow_sl hown3) (own_nil hown3) (ints_oneCell' _ _) (by omega) (by omega) X3.size
        have X4 := hext4 w X3 (Nat.le_refl _)
        rw [← ints_append] at hown4
        obtain ⟨d0, d1⟩ := HROWS.out.ext X4 k hkL
        rw [HEQ.out] at d0 d1
        dsimp only at d0 d1
        have HX4 := Lib.hid X4
        have HO4 := Lib.hid hown4
        have k2 : Calls Try.prog 51 #[.int .u64 y, .int .i64 2] w4 _ := rNum_ok y 2 w4 y0 (by omega) (by decide)
        clear hext4 hown3 hown2' hX3 X3 X4 hown4 k1 HX HOWN c0 c1
        go_wp2_with (at_builtin; refine Guard.wpList_append_want _ rfl _ _ _ _ rfl _ _ rfl rfl _ _ hrun4 ?_)
        refine k2.mono ?_
        rintro e w5 ⟨a5, c5, rfl, hown5, hX5⟩
        rw [length_bytesOf] at hown5
        rw [length_bytesOf]
        have hown2' := ownsRow_ext HO4.out hX5
        have X5 := HX4.out.trans hX5
        obtain ⟨a6, c6, w6, hrun6, hown6, hext6⟩ := run_append_sl (P := Try.prog) w5 w.heap.size 26 26 5 (.int .u8 0) 1 Try.underlying26 info8 rfl hown2' (m := 2) c5 (by rw [ints_length, length_bytesOf]) (ownsRow_sl hown5) (own_nil hown5) (ints_oneCell' _ _) (by omega) (by omega) X5.size
        have X6 := hext6 w X5 (Nat.le_refl _)
        rw [← ints_append, ← HTS.out] at hown6
        have HX6 := Lib.hid X6
        have HO6 := Lib.hid hown6
        clear hext6 hown5 hown2' hX5 X5 X6 hown6 k2 HX4 HO4 hrun4 d0 d1
        go_wp2_with (at_builtin; refine Guard.wpList_append_want _ rfl _ _ _ _ rfl _ _ rfl rfl _ _ hrun6 ?_)
        go_roundw
        case rel => exact ⟨k + 1, m + 2 + 2, c6, a6, hlt, by have := HM.out; omega, by go_num, rfl, HO6.out, HX6.out⟩
        case measure => simp [intOf]; omega
      · have : k = 16 := by omega
        subst this
        obtain rfl : m = 64 := HM.out
        have HX := Lib.hid hX
        rw [List.take_of_length_le (by rw [H16.out]; exact Nat.le_refl _)] at hown
        have hlen : (layed 2 (numsR L)).length = 64 := by rw [length_layed, numsR_length, H16.out]
        have HO := Lib.hid hown
        have HLN := Lib.hid hlen
        clear hown hX hlen
        go_wp2
        go_ret2
        refine ⟨ao, c, by rw [HLN.out]; rfl, ?_, HX.out⟩
        dsimp only
        rw [HLN.out]
        exact HO.out
end Go.Proofs.Ytnodinancnfoeaa.Intern
/- moatref14.Lay. -/
namespace Go.Proofs.Ytnodinancnfoeaa.Mt
open Go.RowKit Words Mem Plain Ops Agg OwnS Intern Ino
open Go.Proofs.Ytnodinancnfoeaa.Field
set_option linter.ambiguousOpen false
set_option linter.unusedVariables false
set_option linter.unusedSimpArgs false

set_option maxHeartbeats 8000000 in
set_option maxRecDepth 100000 in
theorem rLay_ok (J I G P : Int) (p : Pl) (M : MetaT) (w : World) (h : MetaIn w p M) :
    Calls Try.prog 14 #[Super.geoV J I G P, metaV p M] w fun e w' => ∃ a cap, e = .returned (.tuple #[.slice a (layM J I G P M).1.length cap, .int .i64 (layM J I G P M).2]) ∧ SecsAt w' w.heap.size a (layM J I G P M).1.length cap (layM J I G P M).1 ∧ Ext w w' := by
  obtain ⟨hbox, hbx⟩ := BoxAt.new w J I G P p M
  have hright := rRight_ok J I G P p M (boxW w J I G P p M) (h.ext hbx)
  have HBX := Lib.hid hbx
  have HBOX := Lib.hid hbox
  have HIN := Lib.hid h
  clear hbox hbx h
  cases hr : rightM J I G P M
  · have HV := Lib.hid (show layM J I G P M = ([], 1) by unfold layM; rw [hr]; rfl)
    rw [hr] at hright
    go_enter Try.func14, Try.ntmps14
    go_wp2_with fail
    refine hright.mono ?_
    rintro e w2 ⟨rfl, h2⟩
    have H2 := Lib.hid (HBX.out.trans h2)
    clear h2 hright
    go_wp2
    go_ret2
    rw [HV.out]
    exact ⟨none, 0, rfl, ⟨rfl, [], rfl, ownS_nil _ _ _ _, fun i hi => absurd hi (by simp)⟩, H2.out⟩
  have HV := Lib.hid (show layM J I G P M = (sectM M, 0) by unfold layM; rw [if_pos hr])
  obtain ⟨r1, r2, r3, r4, r5, r6, r7, r8⟩ := rightM_out hr
  have HBD := Lib.hid (Super.right_bd r1)
  have HR := Lib.hid r2
  have HRO := Lib.hid r6
  have HRI := Lib.hid r7
  have H64 := Lib.hid r4
  rw [hr] at hright
  obtain ⟨no, hno⟩ : ∃ q, q = M.owners.length := ⟨_, rfl⟩
  obtain ⟨ni, hni⟩ : ∃ q, q = M.inodes.length := ⟨_, rfl⟩
  have HNO := Lib.hid hno
  have HNI := Lib.hid hni
  have hrl := Intern.rowsLay_yes r2
  have h32 : (layed 2 (numsR M.rows)).length = 64 := by rw [length_layed, numsR_length, ((right_iff _).1 r2).1]
  have HROWL := Lib.hid (fun (v : World) (hv : Ext w v) => (show Calls Try.prog 28 #[.slice p.ra M.rows.length p.rc] v (Gave .u8 5 v (layed 2 (numsR M.rows), 0)) from hrl ▸ rRLay_ok M.rows p.ra p.rc v (by have := HIN.out.few; omega) (HIN.out.rows.ext hv) HIN.out.wfr))
  have H32 := Lib.hid h32
  clear hr r1 r2 r4 r6 r7 r8 hrl h32
  rw [← hno] at r3
  rw [← hni] at r5
  clear hno hni
  subst r3
  subst r5
  have hno64 : no ≤ 64 := by have := HBD.out; omega
  have hni64 : ni ≤ 64 := by have := HBD.out; omega
  obtain ⟨nq, hnq⟩ : ∃ q, ni = 2 * q := ⟨ni / 2, by have := HBD.out; omega⟩
  have HNQ := Lib.hid hnq
  clear hnq
  go_enter Try.func14, Try.ntmps14
  go_wp2_with fail
  refine hright.mono ?_
  rintro e w2 ⟨rfl, h2⟩
  have H2 := Lib.hid (HBX.out.trans h2)
  have HBOX2 := Lib.hid (HBOX.out.ext h2)
  obtain ⟨⟨g0, g1, g2, g3⟩, m0, m1, m2, m3⟩ := HBOX2.out
  rw [← HNO.out] at m1
  clear h2 hright HBOX
  go_wp2
  go_loopw [7, 6] (fun v u wr => ∃ (k c : Nat) (ao : Option Addr), k ≤ no ∧ v = .int .i64 k ∧ u = .slice ao k c ∧ wr.ownsRow w2.heap.size 5 1 (.slice ao k c) k (ints .u8 (M.owners.take k)) ∧ Ext w2 wr) (fun v _ _ => no - (intOf v).toNat)
  case atStart => exact ⟨0, 0, none, by omega, rfl, rfl, ownsRow_nil _ _ _, Ext.refl _⟩
  case round =>
    obtain ⟨k, c0, ao, hk, rfl, rfl, hown, hX⟩ := hrel
    have HX := Lib.hid hX
    have HOWN := Lib.hid hown
    clear hX hown g0 g1 g2 g3 m0 m1 m2 m3
    obtain ⟨⟨g0, g1, g2, g3⟩, m0, m1, m2, m3⟩ := HBOX2.out.ext HX.out
    rw [← HNO.out] at m1
    rw [H64.out] at m2
    by_cases hlt : k < no
    · have hkL : k < M.owners.length := by rw [← HNO.out]; exact hlt
      obtain ⟨bo, oo, hoa, hoc⟩ := (HIN.out.owners.ext (H2.out.trans HX.out)).ints (by omega)
      have hcell := hoc k hkL
      have hob := HRO.out _ (List.getElem_mem hkL)
      have HT := Lib.hid (List.take_succ_eq_append_getElem hkL)
      generalize M.owners[k] = o at *
      have hw8 : IntKind.u8.wrap o = o := IntWalk.u8_in _ (by omega)
      have hkn : (k : Int) < no := by omega
      have hk0 : (0 : Int) ≤ k := by omega
      rw [hoa] at m1
      obtain ⟨a', c', w4, hrun, hown', hext⟩ := run_append_one (P := Try.prog) wr w2.heap.size 26 26 5 .u8 1 Try.underlying26 infoBC HOWN.out o (by omega) (by omega) HX.out.size
      have HX4 := Lib.hid (hext w2 HX.out (Nat.le_refl _))
      rw [← HT.out] at hown'
      have HO4 := Lib.hid hown'
      clear hoc hkL hoa hown' hext g0 g1 g2 g3 m0 m2 m3
      go_wp2_with (at_builtin; refine Guard.wpList_append_want _ rfl _ _ _ _ rfl _ _ rfl rfl _ _ hrun ?_)
      go_roundw
      case rel => exact ⟨k + 1, c', a', hlt, by go_num, rfl, HO4.out, HX4.out⟩
      case measure => simp [intOf]; omega
    · obtain rfl : k = no := by omega
      rw [List.take_of_length_le (by rw [← HNO.out]; exact Nat.le_refl _)] at HOWN
      have hrl := HROWL.out wr (H2.out.trans HX.out)
      clear hk hlt HROWL
      go_wp2_with fail
      refine hrl.mono ?_
      rintro e w5 ⟨ar, cr, rfl, ho5, h5⟩
      dsimp only at ho5 ⊢
      rw [H32.out] at ho5 ⊢
      have HO5 := Lib.hid ho5
      have HX5 := Lib.hid (HX.out.trans h5)
      have hfill := rFill_ok ao k c0 64 M.owners w5 HNO.out.symm ((ownsRow_sl HOWN.out).ext h5) (fun e => by
        rcases ownS_cases HOWN.out with ⟨_, z1, z2, _⟩ | ⟨_, _, z, _⟩
        · exact ⟨z1, z2⟩
        · rw [e] at z; cases z) hno64 (by decide)
      have hfill : Calls Try.prog 29 #[.slice ao k c0, .int .i64 64] w5 (Gave .u8 5 w5 (filled M.owners 64, 0)) := hfill
      have HFL := Lib.hid (show (filled M.owners 64).length = 64 from length_filled _ _ (by rw [← HNO.out]; exact hno64))
      clear hrl ho5 h5 g0 g1 g2 g3 m0 m1 m2 m3
      go_wp2_with fail
      refine hfill.mono ?_
      rintro e w6 ⟨ag, cg, rfl, ho6, h6⟩
      dsimp only at ho6 ⊢
      rw [HFL.out] at ho6 ⊢
      have HO6 := Lib.hid ho6
      have HX6 := Lib.hid (HX5.out.trans h6)
      have HO56 := Lib.hid (ownS_ext HO5.out h6)
      clear hfill ho6 h6
      obtain ⟨⟨g0, g1, g2, g3⟩, m0, m1, m2, m3⟩ := HBOX2.out.ext HX6.out
      rw [H64.out] at m2
      obtain ⟨ac, cc, w7, hap, ho7, h7⟩ := run_clone_s (P := Try.prog) w6 1 (by decide) 26 26 5 _ 1 Try.underlying26 infoBC rfl p.uc (m := 64) (news := ints .u8 M.used) (by rw [ints_length, H64.out]) (HIN.out.used.ext (H2.out.trans HX6.out)) (by rw [← H64.out]; exact HIN.out.nil.2.2.1) (ints_oneCell' _ _) (by decide) (by decide)
      have HO7 := Lib.hid ho7
      have HX7 := Lib.hid (HX6.out.trans h7)
      have HO57 := Lib.hid (ownS_ext HO56.out h7)
      have HO67 := Lib.hid (ownS_ext HO6.out h7)
      have m2' := ((Ext.refl w6).alloc (.cells #[] 5)).keep m2
      clear ho7 h7 g0 g1 g2 g3 m0 m1 m3
      obtain ⟨br, hbr⟩ : ∃ q, ar = some ⟨q, 0, none⟩ := by
        rcases ownS_cases HO5.out with ⟨_, e, _⟩ | ⟨q, _, e, _⟩
        · cases e
        · exact ⟨q, e⟩
      obtain ⟨bg, hbg⟩ : ∃ q, ag = some ⟨q, 0, none⟩ := by
        rcases ownS_cases HO6.out with ⟨_, e, _⟩ | ⟨q, _, e, _⟩
        · cases e
        · exact ⟨q, e⟩
      obtain ⟨bc, hbc⟩ : ∃ q, ac = some ⟨q, 0, none⟩ := by
        rcases ownS_cases HO7.out with ⟨_, e, _⟩ | ⟨q, _, e, _⟩
        · cases e
        · exact ⟨q, e⟩
      subst hbr hbg hbc
      have hX7 := (Ext.refl w7).alloc (.cells #[.slice (some ⟨br, 0, none⟩) 64 cr, .slice (some ⟨bg, 0, none⟩) 64 cg, .slice (some ⟨bc, 0, none⟩) 64 cc] 26)
      have hrow7 := Row.new w7 26 (slVs [(br, cr), (bg, cg), (bc, cc)])
      have HS7 := Lib.hid (show SecsAt (w7.alloc (.cells #[.slice (some ⟨br, 0, none⟩) 64 cr, .slice (some ⟨bg, 0, none⟩) 64 cg, .slice (some ⟨bc, 0, none⟩) 64 cc] 26)) w2.heap.size (some ⟨w7.heap.size, 0, none⟩) 3 3 [layed 2 (numsR M.rows), ownersB M, M.used] from by
        refine ⟨rfl, [(br, cr), (bg, cg), (bc, cc)], rfl, ownS_of hrow7 HX7.out.size rfl (by decide), fun i hi hi' => ?_⟩
        have z1 := (ownS_lt HO57.out _ rfl)
        have z2 := (ownS_lt HO67.out _ rfl)
        have z3 := (ownS_lt HO7.out _ rfl)
        dsimp only at z1 z2 z3
        have s1 := HX.out.size
        have s2 := HX5.out.size
        have s3 := HX6.out.size
        match i, hi, hi' with
        | 0, _, _ => exact ⟨ownS_base (ownS_ext HO57.out hX7) s1, H32.out, fun ad e => by cases e; show br ≠ w7.heap.size; omega⟩
        | 1, _, _ => exact ⟨ownS_base (ownS_ext HO67.out hX7) s2, HFL.out, fun ad e => by cases e; show bg ≠ w7.heap.size; omega⟩
        | 2, _, _ => exact ⟨ownS_base (ownS_ext HO7.out hX7) s3, H64.out, fun ad e => by cases e; show bc ≠ w7.heap.size; omega⟩)
      have HX8 := Lib.hid (HX7.out.trans hX7)
      clear hX7 hrow7 HO57 HO67 HO56
      go_wp2_with (at_builtin; refine Guard.wpList_append_want _ rfl _ _ _ _ rfl _ _ rfl rfl _ _ hap ?_)
      generalize hw8 : w7.alloc (.cells #[.slice (some ⟨br, 0, none⟩) 64 cr, .slice (some ⟨bg, 0, none⟩) 64 cg, .slice (some ⟨bc, 0, none⟩) 64 cc] 26) = w8 at *
      clear hw8 hap m2 m2'
      have HS0 := Lib.hid (show sectM M = [layed 2 (numsR M.rows), ownersB M, M.used] ++ pairsI M.inodes from rfl)
      have HPL := Lib.hid (pairsI_len nq M.inodes (by rw [← HNI.out]; exact HNQ.out))
      have HNQ2 := Lib.hid (show nq ≤ 32 by have := HNQ.out; omega)
      go_loopw [13, 12] (fun v u w8 => ∃ (q i0 n3 : Nat) (a : Option Addr) (cap : Nat), q ≤ nq ∧ i0 = 2 * q ∧ n3 = 3 + q ∧ v = .int .i64 i0 ∧ u = .slice a n3 cap ∧ SecsAt w8 w2.heap.size a n3 cap ([layed 2 (numsR M.rows), ownersB M, M.used] ++ (pairsI M.inodes).take q) ∧ Ext w2 w8) (fun v _ _ => ni - (intOf v).toNat)
      case atStart => exact ⟨0, 0, 3, _, _, by omega, by omega, by omega, rfl, rfl, by simpa using HS7.out, HX8.out⟩
      case round =>
        obtain ⟨q, i0, n3, a, cap, hq, hi0, hn3, rfl, rfl, hS, hX8⟩ := hrel
        have HS := Lib.hid hS
        have HX8 := Lib.hid hX8
        have HI0 := Lib.hid hi0
        have HN3 := Lib.hid hn3
        have HQ := Lib.hid hq
        clear hS hX8 hi0 hn3 hq
        have HBOX8 := Lib.hid (HBOX2.out.ext HX8.out)
        obtain ⟨⟨g0, g1, g2, g3⟩, m0, m1, m2, m3⟩ := HBOX8.out
        rw [← HNI.out] at m3
        have hEx := H2.out.trans HX8.out
        have HEX := Lib.hid hEx
        clear g0 g1 g2 g3 m0 m1 m2
        by_cases hlt : i0 < ni
        · have hqn : q < nq := by have := HI0.out; have := HNQ.out; omega
          have hi1 : i0 + 1 < ni := by have := HI0.out; have := HNQ.out; omega
          have hjL : i0 + 1 < M.inodes.length := by rw [← HNI.out]; exact hi1
          have hfl : (flat inoC M.inodes).length = M.inodes.length * 14 := flat_length inoC_len _
          obtain ⟨bi, oi, hia, hic⟩ := (HIN.out.inodes.ext hEx).at (by omega)
          have hrg : ∀ (x : Nat) (hx : x < M.inodes.length), wr.rangeAt bi (oi + x * 14) (inoC M.inodes[x]) := fun x hx q v hv => by
            have hq : q < 14 := by have := (List.getElem?_eq_some_iff.1 hv).1; rw [inoC_len] at this; exact this
            have := hic (x * 14 + q) (by rw [hfl]; have : (x + 1) * 14 ≤ M.inodes.length * 14 := Nat.mul_le_mul_right 14 hx; omega)
            rw [Nat.add_assoc, this, ← hv, ← flat_at inoC_len M.inodes x hx q hq, List.getElem?_eq_getElem]
          have hr1 := hrg i0 (by omega)
          have hr2 := hrg (i0 + 1) hjL
          have hwn1 := HIN.out.wfi _ (List.getElem_mem (show i0 < M.inodes.length by omega))
          have hwn2 := HIN.out.wfi _ (List.getElem_mem hjL)
          have hrn1 := HRI.out _ (List.getElem_mem (show i0 < M.inodes.length by omega))
          have hrn2 := HRI.out _ (List.getElem_mem hjL)
          have HPQ := Lib.hid (show (pairsI M.inodes).take (q + 1) = (pairsI M.inodes).take q ++ [M.inodes[i0].bytes ++ M.inodes[i0 + 1].bytes] from by
            rw [List.take_succ_eq_append_getElem (by rw [HPL.out]; exact hqn), pairsI_at q _ (by have := HI0.out; omega)]
            simp only [HI0.out])
          have HIA := Lib.hid hia
          rw [hia] at m3 ⊢
          generalize M.inodes[i0 + 1] = n2 at *
          generalize M.inodes[i0]'(by omega) = n1 at *
          clear hrg hic hfl hjL hia hEx
          have HN1 := Lib.hid (show ∀ v : World, Calls Try.prog 30 #[n1.v] v (Gave .u8 5 v (n1.bytes, 0)) from fun v => Ino.layR_yes hrn1 ▸ rLay_ino n1 v hwn1)
          have HN2 := Lib.hid (show ∀ v : World, Calls Try.prog 30 #[n2.v] v (Gave .u8 5 v (n2.bytes, 0)) from fun v => Ino.layR_yes hrn2 ▸ rLay_ino n2 v hwn2)
          have HRG1 := Lib.hid (show wr.rangeAt bi (oi + i0 * 14) [.int .u8 n1.k, .int .u8 n1.r, .int .i64 n1.l, .int .i64 n1.s, .int .i64 n1.d0, .int .i64 n1.d1, .int .i64 n1.d2, .int .i64 n1.d3, .int .i64 n1.d4, .int .i64 n1.d5, .int .i64 n1.d6, .int .i64 n1.d7, .int .i64 n1.i, .int .i64 n1.j] from hr1)
          have HRG2 := Lib.hid (show wr.rangeAt bi (oi + (i0 + 1) * 14) [.int .u8 n2.k, .int .u8 n2.r, .int .i64 n2.l, .int .i64 n2.s, .int .i64 n2.d0, .int .i64 n2.d1, .int .i64 n2.d2, .int .i64 n2.d3, .int .i64 n2.d4, .int .i64 n2.d5, .int .i64 n2.d6, .int .i64 n2.d7, .int .i64 n2.i, .int .i64 n2.j] from hr2)
          clear hr1 hr2 hwn1 hwn2 hrn1 hrn2
          have hcall := HN1.out wr
          go_wp2_with (first
            | (refine wpList_load_mid rfl 48 _ rfl bi (oi + i0 * 14) rfl [.int .u8 n1.k, .int .u8 n1.r, .int .i64 n1.l, .int .i64 n1.s, .int .i64 n1.d0, .int .i64 n1.d1, .int .i64 n1.d2, .int .i64 n1.d3, .int .i64 n1.d4, .int .i64 n1.d5, .int .i64 n1.d6, .int .i64 n1.d7, .int .i64 n1.i, .int .i64 n1.j] _ HRG1.out Try.underlying48 rfl infoIno ?_)
            | fail)
          refine hcall.mono ?_
          rintro e w9 ⟨b1, c1, rfl, ho9, h9⟩
          dsimp only at ho9 ⊢
          rw [Ino.bytes_len] at ho9 ⊢
          have HO9 := Lib.hid ho9
          have HX9 := Lib.hid h9
          have HBOX9 := Lib.hid (HBOX8.out.ext h9)
          have HRG3 := Lib.hid (show w9.rangeAt bi (oi + (i0 + 1) * 14) [.int .u8 n2.k, .int .u8 n2.r, .int .i64 n2.l, .int .i64 n2.s, .int .i64 n2.d0, .int .i64 n2.d1, .int .i64 n2.d2, .int .i64 n2.d3, .int .i64 n2.d4, .int .i64 n2.d5, .int .i64 n2.d6, .int .i64 n2.d7, .int .i64 n2.i, .int .i64 n2.j] from fun q v hv => h9.keep (HRG2.out q v hv))
          clear hcall ho9 h9 m3
          obtain ⟨⟨g0, g1, g2, g3⟩, m0, m1, m2, m3⟩ := HBOX9.out
          rw [← HNI.out] at m3
          have hpia : p.ia = some ⟨bi, oi, none⟩ := HIA.out
          rw [hpia] at m3
          clear g0 g1 g2 g3 m0 m1 m2 hpia
          have hcall := HN2.out w9
          have hwi : IntKind.i64.wrap ((i0 : Int) + 1) = (i0 : Int) + 1 := IntWalk.i64_in _ (by omega)
          have hi1' : (i0 : Int) + 1 < ni := by omega
          have hi0' : (0 : Int) ≤ (i0 : Int) + 1 := by omega
          go_wp2_with (first
            | (refine wpList_load_mid rfl 48 _ rfl bi (oi + (i0 + 1) * 14) rfl [.int .u8 n2.k, .int .u8 n2.r, .int .i64 n2.l, .int .i64 n2.s, .int .i64 n2.d0, .int .i64 n2.d1, .int .i64 n2.d2, .int .i64 n2.d3, .int .i64 n2.d4, .int .i64 n2.d5, .int .i64 n2.d6, .int .i64 n2.d7, .int .i64 n2.i, .int .i64 n2.j] _ HRG3.out Try.underlying48 rfl infoIno ?_)
            | fail)
          refine hcall.mono ?_
          rintro e w10 ⟨b2, c2, rfl, ho10, h10⟩
          dsimp only at ho10 ⊢
          rw [Ino.bytes_len] at ho10 ⊢
          have HO9' := ownS_ext HO9.out h10
          have hb2 : b2 = none → 32 = 0 ∧ c2 = 0 := fun e => by
            subst e
            rcases ownS_cases ho10 with ⟨_, e, _⟩ | ⟨q, _, e, _⟩ <;> cases e
          obtain ⟨b3, c3, w11, hap1, ho11, hg11, _⟩ := run_append_s (P := Try.prog) w10 wr.heap.size 1 (by decide) 26 26 5 _ 1 Try.underlying26 infoBC rfl HO9' (m := 32) c2 (news := ints .u8 n2.bytes) (by rw [ints_length, Ino.bytes_len]) (ownsRow_sl ho10) hb2 (ints_oneCell' _ _) (by omega) (by omega) (HX9.out.trans h10).size
          have h11 : Ext wr w11 := Ext_grown (HX9.out.trans h10) (Nat.le_refl _) (HX9.out.trans h10).size hg11 (fun z hz => by
            cases b1 with
            | none => simp [Value.ownBlock] at hz
            | some a0 =>
              simp [Value.ownBlock] at hz
              subst hz
              exact (ownS_lt HO9' a0 rfl).1)
          rw [show (32 + 32 : Nat) = 64 from rfl] at hap1 ho11
          rw [← ints_append] at ho11
          obtain ⟨bb, hbb⟩ : ∃ z, b3 = some ⟨z, 0, none⟩ := by
            rcases ownS_cases ho11 with ⟨_, e, _⟩ | ⟨z, _, e, _⟩
            · cases e
            · exact ⟨z, e⟩
          subst hbb
          have hIn : InAt w11 w2.heap.size a (bb, c3) (n1.bytes ++ n2.bytes) := ⟨ownS_base ho11 HX8.out.size, by rw [List.length_append, Ino.bytes_len, Ino.bytes_len], fun ad e => by
            have z1 := (ownS_lt ho11 _ rfl).1
            obtain ⟨_, H, _, hoH, _⟩ := HS.out
            have z2 := (ownS_lt hoH ad e).2
            dsimp only at z1 ⊢
            omega⟩
          obtain ⟨a', cap', w12, hap2, hS12, hE12⟩ := (HS.out.ext h11).more (by have := HN3.out; have := HNQ2.out; omega) hIn (HX8.out.trans h11).size rfl
          have HX12 := Lib.hid (hE12 w2 (HX8.out.trans h11) (Nat.le_refl _))
          rw [List.append_assoc, ← HPQ.out] at hS12
          have HS12 := Lib.hid hS12
          clear hIn ho11 h11 HO9' ho10 h10 hcall hS12 hE12 hg11 hb2
          go_wp2_with (first
            | (at_builtin; refine Guard.wpList_append_want _ rfl _ _ _ _ rfl _ _ rfl rfl _ _ hap1 ?_)
            | (at_builtin; refine Guard.wpList_append_want _ rfl _ _ _ _ rfl _ _ rfl rfl _ _ hap2 ?_))
          go_roundw
          case rel => exact ⟨q + 1, i0 + 2, n3 + 1, a', cap', hqn, by have := HI0.out; omega, by have := HN3.out; omega, by go_num, rfl, HS12.out, HX12.out⟩
          case measure => simp [intOf]; omega
        · have hqn : q = nq := by have := HI0.out; have := HNQ.out; have := HQ.out; omega
          have HFIN := Lib.hid (show SecsAt wr w2.heap.size a n3 cap (sectM M) from by
            have := HS.out
            rw [hqn, List.take_of_length_le (by rw [HPL.out]; exact Nat.le_refl _), ← HS0.out] at this
            exact this)
          have HLN := Lib.hid HFIN.out.len
          clear hqn
          go_wp2
          go_ret2
          rw [HV.out]
          dsimp only
          rw [HLN.out]
          exact ⟨a, cap, rfl, HFIN.out.low H2.out.size, HEX.out⟩
end Go.Proofs.Ytnodinancnfoeaa.Mt
/- The contract of moatref11.Take. -/
namespace Go.Proofs.Ytnodinancnfoeaa.Ino
open Go.RowKit Words Mem Plain Ops
open Go.Proofs.Ytnodinancnfoeaa.Field Agg
set_option linter.ambiguousOpen false
set_option linter.unusedVariables false
set_option linter.unusedSimpArgs false

theorem rTake_len (a : Option Addr) (n cap : Nat) (xs : List Int) (w : World) (hl : xs.length = n) (h : n ≠ 32) :
    Calls Try.prog 47 #[.slice a n cap] w (GaveI w (Ino.takeR xs)) := by
  rw [takeR_no (fun e => h (by rw [← hl]; exact e.1))]
  have hd : ((n : Int) == 32) = false := by simp; omega
  have hd' : ((n : Int) != 32) = true := by simp; omega
  go_enter Try.func47, Try.ntmps47
  have HR := Lib.hid (Row.new w 48 (#[.int .u8 0, .int .u8 0, .int .i64 0, .int .i64 0, .int .i64 0, .int .i64 0, .int .i64 0, .int .i64 0, .int .i64 0, .int .i64 0, .int .i64 0, .int .i64 0, .int .i64 0, .int .i64 0] : Array Value).toList)
  go_wp2_with (refine wpList_store_row rfl _ _ _ rfl w.heap.size #[.int .u8 0, .int .u8 0, .int .i64 0, .int .i64 0, .int .i64 0, .int .i64 0, .int .i64 0, .int .i64 0, .int .i64 0, .int .i64 0, .int .i64 0, .int .i64 0, .int .i64 0, .int .i64 0] rfl rfl 48 #[.int .u8 0, .int .u8 0, .int .i64 0, .int .i64 0, .int .i64 0, .int .i64 0, .int .i64 0, .int .i64 0, .int .i64 0, .int .i64 0, .int .i64 0, .int .i64 0, .int .i64 0, .int .i64 0] HR.out infoIno rfl oneZZ ?_)
  have X := (Ext.refl w).alloc (.cells #[.int .u8 0, .int .u8 0, .int .i64 0, .int .i64 0, .int .i64 0, .int .i64 0, .int .i64 0, .int .i64 0, .int .i64 0, .int .i64 0, .int .i64 0, .int .i64 0, .int .i64 0, .int .i64 0] 48)
  exact post_cell Try.results47 rfl rfl (HR.out.setRow #[.int .u8 0, .int .u8 0, .int .i64 0, .int .i64 0, .int .i64 0, .int .i64 0, .int .i64 0, .int .i64 0, .int .i64 0, .int .i64 0, .int .i64 0, .int .i64 0, .int .i64 0, .int .i64 0]) Try.underlying48 rfl infoIno rfl ⟨rfl, X.setRow (Nat.le_refl _) #[.int .u8 0, .int .u8 0, .int .i64 0, .int .i64 0, .int .i64 0, .int .i64 0, .int .i64 0, .int .i64 0, .int .i64 0, .int .i64 0, .int .i64 0, .int .i64 0, .int .i64 0, .int .i64 0]⟩

theorem pair_num {x y : Int} (hx : 0 ≤ x ∧ x < 256) (hy : 0 ≤ y ∧ y < 256) : numOf [x, y] % 256 = x ∧ numOf [x, y] / 256 = y := by
  simp only [numOf]; omega

set_option maxHeartbeats 4000000 in
theorem rTake_32 (a : Option Addr) (cap : Nat) (xs : List Int) (w : World) (hl : xs.length = 32) (hb : isBytes xs) (hs : Sl w a (ints .u8 xs)) :
    Calls Try.prog 47 #[.slice a 32 cap] w (GaveI w (Ino.takeR xs)) := by
  have hlN := length_takenL 2 xs 16
  have hbd := takenL_bd 2 xs 16 hb (by decide)
  rw [p2] at hbd
  obtain ⟨val, hval, hat⟩ : ∃ val : Int → Int, (∀ (k : Nat) (q : Int), k < 16 → q = 2 * (k : Int) → (takenL 2 xs 16)[k]? = some (val q)) ∧ ∀ v : World, Ext w v → ∀ q : Int, 0 ≤ q → q ≤ 30 → Calls Try.prog 59 #[.slice a 32 cap, .int .i64 q, .int .i64 2] v fun e w' => e = .returned (.int .u64 (val q)) ∧ v = w' :=
    ⟨fun q => numOf ((xs.drop q.toNat).take 2), fun k q hk hq => by rw [getElem_takenL 2 xs 16 k hk, hq]; congr 3, fun v hv q h0 h30 => by
      obtain ⟨k, rfl⟩ : ∃ k : Nat, q = k := ⟨q.toNat, by omega⟩
      exact At_ok a 32 cap xs k 2 v hl (by decide) hb (hs.ext hv) (standsB_of (by decide) (by decide) (by omega) (by omega) (by omega))⟩
  have hn := fun (h : ¬ Ino.takeP xs) => takeR_no h
  have hyes := fun (h : Ino.takeP xs) => takeR_yes h
  have hiff : (Ino.ofNums (takenL 2 xs 16)).RightP → ((Ino.ofNums (takenL 2 xs 16)).bytes = xs ↔ Ino.takeP xs) := fun h => Ino.take_iff hb hl h
  have hwf := Ino.ofNums_wf hb hl
  have htp : Ino.takeP xs → (Ino.ofNums (takenL 2 xs 16)).RightP := fun h => h.2.1
  obtain ⟨b, off, rfl, hc⟩ := hs.ints (by omega)
  obtain ⟨b0, b1, e01⟩ : ∃ x y, xs.take 2 = [x, y] := by
    rcases xs with _ | ⟨x, _ | ⟨y, xs⟩⟩
    · cases hl
    · cases hl
    · exact ⟨x, y, rfl⟩
  have g0 : xs[0]? = some b0 := by have : (xs.take 2)[0]? = some b0 := by rw [e01]; rfl
                                   simpa using this
  have g1 : xs[1]? = some b1 := by have : (xs.take 2)[1]? = some b1 := by rw [e01]; rfl
                                   simpa using this
  have k0 := hb b0 (List.mem_of_getElem? g0)
  have k1 := hb b1 (List.mem_of_getElem? g1)
  have hN0 : (takenL 2 xs 16)[0]? = some (numOf [b0, b1]) := by rw [getElem_takenL _ _ _ _ (by decide), Nat.mul_zero, List.drop_zero, e01]
  have c0 : w.cell? ⟨b, off, none⟩ = some (.int .u8 b0) := by have h3 := hc 0 (by omega); rw [List.getElem?_eq_getElem (by omega)] at g0; injection g0 with h4; rw [h4] at h3; exact h3
  have c1 : w.cell? ⟨b, off + 1, none⟩ = some (.int .u8 b1) := by have h3 := hc 1 (by omega); rw [List.getElem?_eq_getElem (by omega)] at g1; injection g1 with h4; rw [h4] at h3; exact h3
  have hpn := pair_num k0 k1
  generalize numOf [b0, b1] = N0 at *
  generalize takenL 2 xs 16 = N at *
  generalize Ino.takeR xs = R at *
  have HNO := Lib.hid hn; have HYES := Lib.hid hyes; have HLN := Lib.hid hlN; have HBD := Lib.hid hbd; have HAT := Lib.hid hat; have HIFF := Lib.hid hiff; have HWF := Lib.hid hwf; have HTP := Lib.hid htp; have HB := Lib.hid hb; have HL := Lib.hid hl; have HSX := Lib.hid hs; have HN0 := Lib.hid hN0; have HPN := Lib.hid hpn
  have hvb : ∀ (k : Nat) (q : Int), k < 16 → q = 2 * (k : Int) → 0 ≤ val q ∧ val q < 65536 := fun k q hk hq => hbd _ (List.mem_of_getElem? (hval k q hk hq))
  obtain ⟨n10, n11⟩ := hvb 1 2 (by decide) (by decide)
  obtain ⟨n20, n21⟩ := hvb 2 4 (by decide) (by decide)
  obtain ⟨n110, n111⟩ := hvb 11 22 (by decide) (by decide)
  obtain ⟨n120, n121⟩ := hvb 12 24 (by decide) (by decide)
  have nw1 : IntKind.i64.wrap (val 2) = val 2 := IntWalk.i64_in _ (by omega)
  have nw2 : IntKind.i64.wrap (val 4) = val 4 := IntWalk.i64_in _ (by omega)
  have nw11 : IntKind.i64.wrap (val 22) = val 22 := IntWalk.i64_in _ (by omega)
  have nw12 : IntKind.i64.wrap (val 24) = val 24 := IntWalk.i64_in _ (by omega)
  have HVAL := Lib.hid hval; have HVB := Lib.hid hvb
  have hbw : b < w.heap.size := World.block_lt_of_cell? w _ c0
  have C0 := Lib.hid c0; have C1 := Lib.hid c1
  clear hc hb hl hs hlN hbd hat hn hyes hiff hwf htp e01 g0 g1 hN0 c0 c1 hpn hval hvb
  have HR0 := Lib.hid (Row.new w 48 (#[.int .u8 0, .int .u8 0, .int .i64 0, .int .i64 0, .int .i64 0, .int .i64 0, .int .i64 0, .int .i64 0, .int .i64 0, .int .i64 0, .int .i64 0, .int .i64 0, .int .i64 0, .int .i64 0] : Array Value).toList)
  have XA := (Ext.refl w).alloc (.cells #[.int .u8 0, .int .u8 0, .int .i64 0, .int .i64 0, .int .i64 0, .int .i64 0, .int .i64 0, .int .i64 0, .int .i64 0, .int .i64 0, .int .i64 0, .int .i64 0, .int .i64 0, .int .i64 0] 48)
  go_enter Try.func47, Try.ntmps47
  go_upto_region 3 with fail
  generalize w.alloc (.cells #[.int .u8 0, .int .u8 0, .int .i64 0, .int .i64 0, .int .i64 0, .int .i64 0, .int .i64 0, .int .i64 0, .int .i64 0, .int .i64 0, .int .i64 0, .int .i64 0, .int .i64 0, .int .i64 0] 48) = w1 at *
  have hall : ∀ v, Ext w1 v → (Ext w1 v ∧ v.cell? ⟨b, off, none⟩ = some (.int .u8 b0) ∧ v.cell? ⟨b, off + 1, none⟩ = some (.int .u8 b1)) := fun v hv => ⟨hv, (XA.trans hv).keep C0.out, (XA.trans hv).keep C1.out⟩
  have hK : ∀ v u : World, (Ext w1 v ∧ v.cell? ⟨b, off, none⟩ = some (.int .u8 b0) ∧ v.cell? ⟨b, off + 1, none⟩ = some (.int .u8 b1)) → Ext v u → (Ext w1 u ∧ u.cell? ⟨b, off, none⟩ = some (.int .u8 b0) ∧ u.cell? ⟨b, off + 1, none⟩ = some (.int .u8 b1)) := fun v u h hu => hall u (h.1.trans hu)
  have HS0 := Lib.hid (hall w1 (Ext.refl w1)); have HK := Lib.hid hK; have HXA := Lib.hid XA
  clear hall hK XA
  have HV := Lib.hid (show ∀ v : World, (Ext w1 v ∧ v.cell? ⟨b, off, none⟩ = some (.int .u8 b0) ∧ v.cell? ⟨b, off + 1, none⟩ = some (.int .u8 b1)) → ∀ q : Int, 0 ≤ q → q ≤ 30 → Calls Try.prog 59 #[.slice (some ⟨b, off, none⟩) 32 cap, .int .i64 q, .int .i64 2] v fun e w' => e = .returned (.int .u64 (val q)) ∧ v = w' from fun v hv => HAT.out v (HXA.out.trans hv.1))
  go_cut [4] (fun s4 wx => ∃ g : Nat, s4 = .pointer (some ⟨g, 0, none⟩) ∧ w1.heap.size ≤ g ∧ Ext w1 wx ∧ Row wx g 48 (inoL b0 b1 (val 2) (val 4) ([] ++ List.replicate 8 0) (val 22) (val 24)))
  case first =>
    go_region_held3 (fun v => Ext w1 v ∧ v.cell? ⟨b, off, none⟩ = some (.int .u8 b0) ∧ v.cell? ⟨b, off + 1, none⟩ = some (.int .u8 b1)) (first | assumption | exact HS0.out | exact HK.out _ _ HS0.out ((Ext.refl _).drew) | exact HK.out _ _ (by assumption) (by assumption) | exact HK.out _ _ (by assumption) ((Ext.refl _).alloc _) | exact HK.out _ _ HS0.out (((Ext.refl _).alloc _).drew)) (
      (go_at_call 59; refine (HV.out _ (by assumption) _ (by decide) (by decide)).mono ?_; rintro e w' ⟨rfl, rfl⟩))
    all_goals
      go_wp2_with fail
      go_meet
      exact ⟨w1.heap.size, rfl, Nat.le_refl _, ((Ext.refl w1).alloc _).drew, (Row.new w1 48 [.int .u8 b0, .int .u8 b1, .int .i64 (val 2), .int .i64 (val 4), .int .i64 0, .int .i64 0, .int .i64 0, .int .i64 0, .int .i64 0, .int .i64 0, .int .i64 0, .int .i64 0, .int .i64 (val 22), .int .i64 (val 24)]).drew⟩
  case rest =>
  obtain ⟨g, rfl, hg, X0, r0⟩ := hcut
  obtain ⟨M, hM⟩ : ∃ M, M = (N.drop 3).take 8 := ⟨_, rfl⟩
  have hM8 : M.length = 8 := by rw [hM, List.length_take, List.length_drop, HLN.out]; decide
  have hMget : ∀ k, k < 8 → M[k]? = N[3 + k]? := fun k hk => by rw [hM, List.getElem?_take, if_pos hk, List.getElem?_drop]
  have HM := Lib.hid hM; have HM8 := Lib.hid hM8; have HMG := Lib.hid hMget
  clear hM hM8 hMget nw1 nw2 nw11 nw12
  have V2 := Lib.hid (HVAL.out 1 2 (by decide) (by decide)); have V4 := Lib.hid (HVAL.out 2 4 (by decide) (by decide)); have V22 := Lib.hid (HVAL.out 11 22 (by decide) (by decide)); have V24 := Lib.hid (HVAL.out 12 24 (by decide) (by decide))
  generalize val 2 = N1 at *
  generalize val 4 = N2 at *
  generalize val 22 = N11 at *
  generalize val 24 = N12 at *
  go_wp2_with fail
  go_loopw [5] (fun v wr => ∃ k : Nat, k ≤ 8 ∧ v = .int .i64 k ∧ Row wr g 48 (inoL b0 b1 N1 N2 (M.take k ++ List.replicate (8 - k) 0) N11 N12) ∧ Ext w1 wr) (fun v _ => 8 - (intOf v).toNat)
  case atStart => exact ⟨0, by omega, rfl, r0, X0⟩
  case round =>
    obtain ⟨k, hk, rfl, hr, hX⟩ := hrel
    by_cases hlt : k < 8
    · have hx2 := HVAL.out (3 + k) (6 + 2 * (k : Int)) (by omega) (by omega)
      have hx := HMG.out k hlt
      rw [hx2] at hx
      obtain ⟨x0, x1⟩ := HVB.out (3 + k) (6 + 2 * (k : Int)) (by omega) (by omega)
      have hcall := HAT.out wr (HXA.out.trans hX) (6 + 2 * (k : Int)) (by omega) (by omega)
      generalize val (6 + 2 * (k : Int)) = x at *
      have hcg := hr.cell? (4 + k)
      have hfg := hr.frozen (4 + k)
      have hst := hr.set (4 + k) (.int .i64 x)
      have hmid := inoL_step b0 b1 N1 N2 M x N11 N12 k hlt HM8.out hx
      rw [hmid] at hst
      obtain ⟨old, hold⟩ : ∃ old, wr.cell? ⟨g, 4 + k, none⟩ = some old := by
        rw [hcg]
        exact ⟨_, List.getElem?_eq_getElem (by rw [inoL_len _ _ _ _ _ _ _ (by rw [List.length_append, List.length_take, List.length_replicate, HM8.out]; omega)]; omega)⟩
      have hXn := hX.setCell (p := ⟨g, 4 + k, none⟩) hg (.int .i64 x)
      have HST := Lib.hid hst; have HXN := Lib.hid hXn; have HC := Lib.hid hcall
      clear hmid hcg hst hXn hr hX hx hx2 hcall
      go_wp2_with fail
      refine HC.out.mono ?_
      rintro e w' ⟨rfl, rfl⟩
      go_wp2_with fail
      go_roundw
      case rel => exact ⟨k + 1, hlt, by go_num, HST.out, HXN.out⟩
      case measure => simp [intOf]; omega
    · have : k = 8 := by omega
      subst this
      rw [Nat.sub_self, List.take_of_length_le (by rw [HM8.out]; exact Nat.le_refl _), List.replicate_zero, List.append_nil] at hr
      have hI : inoL b0 b1 N1 N2 M N11 N12 = (Ino.ofNums N).cs.toList := by
        rw [← inoL_ofNums N HLN.out, HM.out, getD_of V2.out, getD_of V4.out, getD_of V22.out, getD_of V24.out, ← getD_of HN0.out, HPN.out.1, HPN.out.2]
      rw [hI] at hr
      obtain ⟨nI, hnI⟩ : ∃ n, n = Ino.ofNums N := ⟨_, rfl⟩
      have hyes := HYES.out
      have hiff := HIFF.out
      have hwf := HWF.out
      have htp := HTP.out
      rw [← hnI] at hr hyes hiff hwf htp
      obtain ⟨p0, p1, p2, p3, p4, p5, p6, p7, p8, p9, p10, p11, p12, p13⟩ := Ino.rowCells hr
      have hrow : Row wr w.heap.size 48 (#[.int .u8 0, .int .u8 0, .int .i64 0, .int .i64 0, .int .i64 0, .int .i64 0, .int .i64 0, .int .i64 0, .int .i64 0, .int .i64 0, .int .i64 0, .int .i64 0, .int .i64 0, .int .i64 0] : Array Value).toList := (HR0.out.ext hX)
      have XX5 := HXA.out.trans hX
      have hLay := rLay_ino nI wr hwf
      have hyes' := hyes
      have hbb := nI.bytes_isBytes
      have HROW := Lib.hid hrow; have HXX5 := Lib.hid XX5; have HIFF2 := Lib.hid hiff; have HY2 := Lib.hid hyes; have HBB := Lib.hid hbb
      have HRO := Lib.hid hr
      clear hrow hyes hyes' hI hnI HYES HIFF HM HMG HM8 V2 V4 V22 V24 HVAL HVB HV HS0 HK hr hX r0 X0 hiff hwf HWF hbb
      have HTP2 := Lib.hid htp
      clear htp HTP HAT k0 k1 HBD HN0 HPN
      cases hrb : nI.rightB
      · have hno : R = (Ino.zero, 110) := HNO.out (fun e => Ino.right_not hrb (HTP2.out e))
        rw [Ino.layR_no hrb] at hLay
        have HRQ := Lib.hid hno; have HLAY := Lib.hid hLay
        obtain ⟨k, r, l, s, d0, d1, d2, d3, d4, d5, d6, d7, i, j⟩ := nI
        dsimp only [Ino.v, Ino.cs] at *
        clear hno hLay hrb
        go_wp2_with fail
        refine HLAY.out.mono ?_
        rintro e w6 ⟨a6, c6, rfl, ho6, hX6⟩
        dsimp only
        have HR6 := Lib.hid (HROW.out.ext hX6)
        clear ho6
        clear p0 p1 p2 p3 p4 p5 p6 p7 p8 p9 p10 p11 p12 p13
        go_wp2_with (refine wpList_store_row rfl _ _ _ rfl w.heap.size #[.int .u8 0, .int .u8 0, .int .i64 0, .int .i64 0, .int .i64 0, .int .i64 0, .int .i64 0, .int .i64 0, .int .i64 0, .int .i64 0, .int .i64 0, .int .i64 0, .int .i64 0, .int .i64 0] rfl rfl 48 #[.int .u8 0, .int .u8 0, .int .i64 0, .int .i64 0, .int .i64 0, .int .i64 0, .int .i64 0, .int .i64 0, .int .i64 0, .int .i64 0, .int .i64 0, .int .i64 0, .int .i64 0, .int .i64 0] HR6.out infoIno rfl oneZZ ?_)
        rw [HRQ.out]
        exact post_cell Try.results47 rfl rfl (HR6.out.setRow #[.int .u8 0, .int .u8 0, .int .i64 0, .int .i64 0, .int .i64 0, .int .i64 0, .int .i64 0, .int .i64 0, .int .i64 0, .int .i64 0, .int .i64 0, .int .i64 0, .int .i64 0, .int .i64 0]) Try.underlying48 rfl infoIno rfl ⟨rfl, (HXX5.out.trans hX6).setRow (Nat.le_refl _) #[.int .u8 0, .int .u8 0, .int .i64 0, .int .i64 0, .int .i64 0, .int .i64 0, .int .i64 0, .int .i64 0, .int .i64 0, .int .i64 0, .int .i64 0, .int .i64 0, .int .i64 0, .int .i64 0]⟩
      · rw [Ino.layR_yes hrb] at hLay
        have hiff2 := HIFF2.out (Ino.right_of hrb)
        have hl32 := nI.bytes_len
        generalize nI.bytes = BB at *
        have HLAY := Lib.hid hLay; have HI3 := Lib.hid hiff2; have HL32 := Lib.hid hl32
        clear hLay hrb hiff2 hl32
        by_cases heq : BB = xs
        · have hR : R = (nI, 0) := HY2.out (HI3.out.1 heq)
          have HRQ := Lib.hid hR
          obtain ⟨k, r, l, s, d0, d1, d2, d3, d4, d5, d6, d7, i, j⟩ := nI
          dsimp only [Ino.v, Ino.cs] at *
          clear hR
          go_wp2_with fail
          refine HLAY.out.mono ?_
          rintro e w6 ⟨a6, c6, rfl, ho6, hX6⟩
          dsimp only at ho6 ⊢
          rw [HL32.out] at ho6 ⊢
          have HR6 := Lib.hid (HROW.out.ext hX6)
          have XX6 := HXX5.out.trans hX6
          have e1 := run_conv_str (P := Try.prog) w6 26 9 5 Try.underlying26 Try.underlying5 Try.underlying9  c6 (ownsRow_sl ho6) HL32.out
          have e2 := run_conv_str (P := Try.prog) w6 26 9 5 Try.underlying26 Try.underlying5 Try.underlying9  cap (HSX.out.ext XX6) HL.out
          rw [heq] at e1
          have HRO6 := Lib.hid (HRO.out.ext hX6)
          obtain ⟨p0, p1, p2, p3, p4, p5, p6, p7, p8, p9, p10, p11, p12, p13⟩ := Ino.rowCells (n := ⟨k, r, l, s, d0, d1, d2, d3, d4, d5, d6, d7, i, j⟩) HRO6.out
          dsimp only at p0 p1 p2 p3 p4 p5 p6 p7 p8 p9 p10 p11 p12 p13
          clear ho6 heq
          go_wp2_with (refine wpList_store_row rfl _ _ _ rfl w.heap.size #[.int .u8 k, .int .u8 r, .int .i64 l, .int .i64 s, .int .i64 d0, .int .i64 d1, .int .i64 d2, .int .i64 d3, .int .i64 d4, .int .i64 d5, .int .i64 d6, .int .i64 d7, .int .i64 i, .int .i64 j] rfl rfl 48 #[.int .u8 0, .int .u8 0, .int .i64 0, .int .i64 0, .int .i64 0, .int .i64 0, .int .i64 0, .int .i64 0, .int .i64 0, .int .i64 0, .int .i64 0, .int .i64 0, .int .i64 0, .int .i64 0] HR6.out infoIno rfl (oneIno _ _ _ _ _ _ _ _ _ _ _ _ _ _) ?_)
          rw [HRQ.out]
          exact post_cell Try.results47 rfl rfl (HR6.out.setRow #[.int .u8 k, .int .u8 r, .int .i64 l, .int .i64 s, .int .i64 d0, .int .i64 d1, .int .i64 d2, .int .i64 d3, .int .i64 d4, .int .i64 d5, .int .i64 d6, .int .i64 d7, .int .i64 i, .int .i64 j]) Try.underlying48 rfl infoIno rfl ⟨rfl, XX6.setRow (Nat.le_refl _) #[.int .u8 k, .int .u8 r, .int .i64 l, .int .i64 s, .int .i64 d0, .int .i64 d1, .int .i64 d2, .int .i64 d3, .int .i64 d4, .int .i64 d5, .int .i64 d6, .int .i64 d7, .int .i64 i, .int .i64 j]⟩
        · have hR : R = (Ino.zero, 110) := HNO.out (fun e => heq (HI3.out.2 e))
          have hse : ((strOf BB).toList == (strOf xs).toList) = false := by rw [strOf_eq HBB.out HB.out]; simp [heq]
          have HRQ := Lib.hid hR
          obtain ⟨k, r, l, s, d0, d1, d2, d3, d4, d5, d6, d7, i, j⟩ := nI
          dsimp only [Ino.v, Ino.cs] at *
          clear hR
          go_wp2_with fail
          refine HLAY.out.mono ?_
          rintro e w6 ⟨a6, c6, rfl, ho6, hX6⟩
          dsimp only at ho6 ⊢
          rw [HL32.out] at ho6 ⊢
          have HR6 := Lib.hid (HROW.out.ext hX6)
          have XX6 := HXX5.out.trans hX6
          have e1 := run_conv_str (P := Try.prog) w6 26 9 5 Try.underlying26 Try.underlying5 Try.underlying9  c6 (ownsRow_sl ho6) HL32.out
          have e2 := run_conv_str (P := Try.prog) w6 26 9 5 Try.underlying26 Try.underlying5 Try.underlying9  cap (HSX.out.ext XX6) HL.out
          clear ho6 heq
          clear p0 p1 p2 p3 p4 p5 p6 p7 p8 p9 p10 p11 p12 p13
          go_wp2_with (refine wpList_store_row rfl _ _ _ rfl w.heap.size #[.int .u8 0, .int .u8 0, .int .i64 0, .int .i64 0, .int .i64 0, .int .i64 0, .int .i64 0, .int .i64 0, .int .i64 0, .int .i64 0, .int .i64 0, .int .i64 0, .int .i64 0, .int .i64 0] rfl rfl 48 #[.int .u8 0, .int .u8 0, .int .i64 0, .int .i64 0, .int .i64 0, .int .i64 0, .int .i64 0, .int .i64 0, .int .i64 0, .int .i64 0, .int .i64 0, .int .i64 0, .int .i64 0, .int .i64 0] HR6.out infoIno rfl oneZZ ?_)
          rw [HRQ.out]
          exact post_cell Try.results47 rfl rfl (HR6.out.setRow #[.int .u8 0, .int .u8 0, .int .i64 0, .int .i64 0, .int .i64 0, .int .i64 0, .int .i64 0, .int .i64 0, .int .i64 0, .int .i64 0, .int .i64 0, .int .i64 0, .int .i64 0, .int .i64 0]) Try.underlying48 rfl infoIno rfl ⟨rfl, XX6.setRow (Nat.le_refl _) #[.int .u8 0, .int .u8 0, .int .i64 0, .int .i64 0, .int .i64 0, .int .i64 0, .int .i64 0, .int .i64 0, .int .i64 0, .int .i64 0, .int .i64 0, .int .i64 0, .int .i64 0, .int .i64 0]⟩

theorem rTake_ino (a : Option Addr) (n cap : Nat) (xs : List Int) (w : World) (hl : xs.length = n) (hb : isBytes xs) (hs : Sl w a (ints .u8 xs)) :
    Calls Try.prog 47 #[.slice a n cap] w (GaveI w (Ino.takeR xs)) := by
  by_cases h : n = 32
  · subst h
    exact rTake_32 a cap xs w hl hb hs
  · exact rTake_len a n cap xs w hl h
end Go.Proofs.Ytnodinancnfoeaa.Ino
/- The reference's Take; the laws InternLays, InternTakes. -/
namespace Go.Proofs.Ytnodinancnfoeaa.Intern
open Go.RowKit Words Mem Plain Ops Agg
open Go.Proofs.Ytnodinancnfoeaa.Field
open Go.ChangeShapes Go.WideShapes
set_option linter.ambiguousOpen false
set_option linter.unusedVariables false
set_option linter.unusedSimpArgs false

set_option maxRecDepth 100000 in
set_option maxHeartbeats 4000000 in
theorem rRTake_64 (xs : List Int) (a : Option Addr) (cap : Nat) (w : World) (h64 : xs.length = 64) (hb : isBytes xs) (hs : Sl w a (ints .u8 xs)) :
    Calls Try.prog 46 #[.slice a 64 cap] w fun e w' => ∃ v, e = .returned (.tuple #[v, .int .i64 (rowsTake xs).2]) ∧ OwnR 45 w (rowsTake xs).1 v w' := by
  have HATC := Lib.hid (fun (w1 : World) (h : Ext w w1) (j : Nat) (hj : j < 32) => At_ok a 64 cap xs (2 * j) 2 w1 h64 (by decide) hb (hs.ext h) (standsB_of (by decide) (by decide) (by omega) (by omega) (by omega)))
  have HB := Lib.hid hb
  have H64 := Lib.hid h64
  clear hb hs h64
  go_enter Try.func46, Try.ntmps46
  go_wp2
  go_loopw [5, 4] (fun v u wr => ∃ (k c : Nat) (ao : Option Addr), k ≤ 16 ∧ v = .int .i64 (4 * k : Nat) ∧ u = .slice ao k c ∧ wr.ownsRow w.heap.size 45 2 (.slice ao k c) k (rowsC (rowsQ xs k)) ∧ Ext w wr) (fun v _ _ => 64 - (intOf v).toNat)
  case atStart => exact ⟨0, 0, none, by omega, rfl, rfl, own2_nil _ _ _, Ext.refl _⟩
  case round =>
    obtain ⟨k, c, ao, hk, rfl, rfl, hown, hX⟩ := hrel
    have HX := Lib.hid hX
    have HOWN := Lib.hid hown
    by_cases hlt : k < 16
    · obtain ⟨x0, x1⟩ := numAt_bd HB.out (2 * k)
      obtain ⟨y0, y1⟩ := numAt_bd HB.out (2 * k + 1)
      have k1 := HATC.out wr hX (2 * k) (by omega)
      have k2 := HATC.out wr hX (2 * k + 1) (by omega)
      have hsucc := rowsQ_succ xs k
      have e1 : numOf ((xs.drop (2 * (2 * k))).take 2) = numAt xs (2 * k) := rfl
      have e2 : numOf ((xs.drop (2 * (2 * k + 1))).take 2) = numAt xs (2 * k + 1) := rfl
      rw [e1] at k1
      rw [e2] at k2
      generalize numAt xs (2 * k) = x at *
      generalize numAt xs (2 * k + 1) = y at *
      have HS := Lib.hid hsucc
      obtain ⟨q, hq⟩ : ∃ q, q = 4 * k := ⟨_, rfl⟩
      have HQ := Lib.hid hq
      have z1 : ((2 * (2 * k) : Nat) : Int) = (q : Int) := by omega
      have z2 : ((2 * (2 * k + 1) : Nat) : Int) = (q : Int) + 2 := by omega
      rw [z1] at k1
      rw [z2] at k2
      rw [← hq]
      have hqj : (q : Int) < 64 := by omega
      have hq0 : (0 : Int) ≤ q := by omega
      have hadd : IntKind.i64.wrap ((q : Int) + 2) = (q : Int) + 2 := IntWalk.i64_in _ (by omega)
      have hadd2 : IntKind.i64.wrap ((q : Int) + 4) = (q : Int) + 4 := IntWalk.i64_in _ (by omega)
      have hwx : IntKind.u16.wrap x = x := IntWalk.u16_in _ (by omega)
      have hwy : IntKind.i64.wrap y = y := IntWalk.i64_in _ (by omega)
      have hown2 := own2_ext hown ((Ext.refl wr).alloc (.cells #[.int .u16 x, .int .i64 y] 45))
      have X2 := hX.alloc (.cells #[.int .u16 x, .int .i64 y] 45)
      have hrow := Row.new wr 45 [.int .u16 x, .int .i64 y]
      obtain ⟨a4, c4, w4, hrun4, hown4, hext4⟩ := run_append_rows (P := Try.prog) _ w.heap.size 24 24 45 _ 16 Try.underlying24 infoRowZ rfl hown2 (m := 1) 1 (by rfl) hrow.sl0 (by simp) (by simp [Value.oneCell']) (by omega) (by omega) X2.size
      have X4 := hext4 w X2 (Nat.le_refl _)
      have ea : rowsC (rowsQ xs k) ++ [.int .u16 x, .int .i64 y] = rowsC (rowsQ xs (k + 1)) := by rw [HS.out, rowsC_append]; rfl
      rw [ea] at hown4
      have HO4 := Lib.hid hown4
      have HX4 := Lib.hid X4
      clear hext4 hown4 hown hown2 X4 X2 hrow hX hq hsucc z1 z2 e1 e2 ea
      go_wp2_with fail
      refine k1.mono ?_
      rintro e w2 ⟨rfl, rfl⟩
      go_wp2_with fail
      refine k2.mono ?_
      rintro e w2 ⟨rfl, rfl⟩
      clear k1 k2
      go_wp2_with (at_builtin; refine Guard.wpList_append_want _ rfl _ _ _ _ rfl _ _ rfl rfl _ _ hrun4 ?_)
      go_roundw
      case rel => exact ⟨k + 1, c4, a4, hlt, congrArg (Value.int .i64) (by have := HQ.out; omega), rfl, HO4.out, HX4.out⟩
      case measure => simp [intOf]; have := HQ.out; omega
    · have : k = 16 := by omega
      subst this
      have hright := rRight_ok (rowsQ xs 16) ao c wr (own2_sl hown) (rowsQ_wf HB.out 16) (by rw [rowsQ_length]; decide)
      rw [rowsQ_length] at hright
      cases hr : rightB (rowsQ xs 16)
      · rw [hr] at hright
        have HV := Lib.hid (rowsTake_no hr)
        clear hr hown hX HOWN
        go_wp2_with fail
        refine hright.mono ?_
        rintro e w3 ⟨rfl, h3⟩
        have H3 := Lib.hid (HX.out.trans h3)
        clear h3 hright
        go_wp2
        go_ret2
        rw [HV.out]
        exact ⟨_, rfl, OwnR.nil H3.out⟩
      · rw [hr] at hright
        have HV := Lib.hid (rowsTake_yes H64.out hr)
        clear hr hown hX
        go_wp2_with fail
        refine hright.mono ?_
        rintro e w3 ⟨rfl, h3⟩
        have H3 := Lib.hid (HX.out.trans h3)
        have HO3 := Lib.hid (own2_ext HOWN.out h3)
        clear h3 hright HOWN
        go_wp2
        go_ret2
        rw [HV.out]
        refine ⟨_, rfl, ao, c, by rw [rowsQ_length]; rfl, ?_, H3.out⟩
        rw [rowsQ_length]
        exact HO3.out

theorem rRTake_ok (xs : List Int) (a : Option Addr) (n cap : Nat) (w : World) (hl : xs.length = n) (hn : n ≤ 9223372036854775807) (hb : isBytes xs) (hs : Sl w a (ints .u8 xs)) :
    Calls Try.prog 46 #[.slice a n cap] w fun e w' => ∃ v, e = .returned (.tuple #[v, .int .i64 (rowsTake xs).2]) ∧ OwnR 45 w (rowsTake xs).1 v w' := by
  by_cases h : xs.length = 64
  · obtain rfl : n = 64 := by omega
    exact rRTake_64 xs a cap w h hb hs
  · rw [rowsTake_len h]
    have h' : ¬ ((n : Int) = 64) := by omega
    clear hb hs hl h
    go_enter Try.func46, Try.ntmps46
    go_wp2
    go_ret2
    exact ⟨_, rfl, OwnR.nil (Ext.refl _)⟩
end Go.Proofs.Ytnodinancnfoeaa.Intern
