/- moatref14.Right. -/
import Derived.Test.YtnodinancnfoeaaMtOwn
import Derived.Test.YtnodinancnfoeaaRGeo
import Derived.Test.YtnodinancnfoeaaRrR
import Derived.LoopTactic
namespace Go.Proofs.Ytnodinancnfoeaa.Mt
open Go.RowKit Words Mem Plain Ops Agg OwnS Intern Ino
set_option linter.ambiguousOpen false
set_option linter.unusedVariables false
set_option linter.unusedSimpArgs false

theorem count_zero {xs : List Int} {gp : Nat} {x : Int} (hx : x = gp) (h : ∀ q, gp ≤ q → q < 512 → Bit.bitN xs q = false) : Bit.countN xs x 512 = 0 := by
  unfold Bit.countN Bit.countTo
  rw [List.length_eq_zero_iff, List.filter_eq_nil_iff]
  intro q _
  unfold Bit.inR
  by_cases h1 : gp ≤ q
  · by_cases h2 : q < 512
    · rw [h q h1 h2]; simp
    · have : decide ((q : Int) < 512) = false := decide_eq_false (by omega)
      rw [this]; simp
  · have : decide (x ≤ (q : Int)) = false := decide_eq_false (by omega)
    rw [this]; simp
theorem count_pos {xs : List Int} {gp q : Nat} {x : Int} (hx : x = gp) (hl : xs.length = 64) (h1 : gp ≤ q) (h2 : q < 512) (h : Bit.bitN xs q = true) : Bit.countN xs x 512 ≠ 0 := by
  unfold Bit.countN Bit.countTo
  rw [ne_eq, List.length_eq_zero_iff, List.filter_eq_nil_iff]
  intro hn
  refine hn q (by simp; omega) ?_
  unfold Bit.inR
  have e1 : decide (x ≤ (q : Int)) = true := decide_eq_true (by omega)
  have e2 : decide ((q : Int) < 512) = true := decide_eq_true (by omega)
  rw [e1, e2, h]; rfl
set_option maxHeartbeats 4000000 in
set_option maxRecDepth 100000 in
theorem rRight_ok (J I G P : Int) (p : Pl) (M : MetaT) (w : World) (h : MetaIn w p M) :
    Calls Try.prog 17 #[Super.geoV J I G P, metaV p M] w fun e w' => e = .returned (.bool (rightM J I G P M)) ∧ Ext w w' := by
  obtain ⟨hbox, hbx⟩ := BoxAt.new w J I G P p M
  have hgr := Super.rRight_ok J I G P (boxW w J I G P p M)
  have HBX := Lib.hid hbx
  have HBOX := Lib.hid hbox
  have HIN := Lib.hid h
  clear hbox hbx h
  cases h1 : Super.rightB J I G P
  · have HV := Lib.hid (show rightM J I G P M = false by unfold rightM; rw [h1]; rfl)
    rw [h1] at hgr
    go_enter Try.func17, Try.ntmps17
    go_wp2_with fail
    refine hgr.mono ?_
    rintro e w2 ⟨rfl, h2⟩
    have H2 := Lib.hid (HBX.out.trans h2)
    clear h2 hgr
    go_wp2
    go_ret
    exact ⟨by rw [HV.out]; rfl, H2.out⟩
  rw [h1] at hgr
  have HBD := Lib.hid (Super.right_bd h1)
  have hrows := fun (v : World) (hv : Ext w v) => Intern.rRight_ok M.rows p.ra p.rc v (HIN.out.rows.ext hv) HIN.out.wfr (by have := HIN.out.few; omega)
  have HROWS := Lib.hid hrows
  clear hrows
  go_enter Try.func17, Try.ntmps17
  go_wp2_with fail
  refine hgr.mono ?_
  rintro e w2 ⟨rfl, h2⟩
  have hr2 := HROWS.out w2 (HBX.out.trans h2)
  have H2 := Lib.hid (HBX.out.trans h2)
  have HBOX2 := Lib.hid (HBOX.out.ext h2)
  clear h2 hgr HROWS HBOX
  obtain ⟨⟨g0, g1, g2, g3⟩, m0, m1, m2, m3⟩ := HBOX2.out
  cases h3 : Intern.rightB M.rows
  · have HV := Lib.hid (show rightM J I G P M = false by unfold rightM; rw [h1, h3]; rfl)
    rw [h3] at hr2
    go_wp2_with fail
    refine hr2.mono ?_
    rintro e w3 ⟨rfl, h4⟩
    have H4 := Lib.hid (H2.out.trans h4)
    clear h4 hr2
    go_wp2
    go_ret
    exact ⟨by rw [HV.out]; rfl, H4.out⟩
  rw [h3] at hr2
  clear m0 m1 m2 m3 g0 g1 g2 g3
  have e0 : ∀ v : World, Ext w2 v → True := fun _ _ => trivial
  obtain ⟨⟨g0, g1, g2, g3⟩, m0, m1, m2, m3⟩ := HBOX2.out
  go_wp2_with fail
  refine hr2.mono ?_
  rintro e w3 ⟨rfl, h4⟩
  have H4 := Lib.hid (H2.out.trans h4)
  have HBOX3 := Lib.hid (HBOX2.out.ext h4)
  clear h4 hr2 g0 g1 g2 g3 m0 m1 m2 m3 e0 HBOX2 H2
  obtain ⟨⟨g0, g1, g2, g3⟩, m0, m1, m2, m3⟩ := HBOX3.out
  by_cases h5 : (M.owners.length : Int) = G
  case neg =>
    have HV := Lib.hid (show rightM J I G P M = false by unfold rightM; rw [h1, h3, decide_eq_false h5]; rfl)
    have hq : ((M.owners.length : Int) != G) = true := by simpa using h5
    go_wp2
    go_ret
    exact ⟨by rw [HV.out]; rfl, H4.out⟩
  by_cases h6 : (M.used.length : Int) = 64
  case neg =>
    have HV := Lib.hid (show rightM J I G P M = false by unfold rightM; rw [h1, h3, decide_eq_true h5, decide_eq_false h6]; rfl)
    have hq : ((M.used.length : Int) != 64) = true := by simpa using h6
    go_wp2
    go_ret
    exact ⟨by rw [HV.out]; rfl, H4.out⟩
  by_cases h7 : (M.inodes.length : Int) = I
  case neg =>
    have HV := Lib.hid (show rightM J I G P M = false by unfold rightM; rw [h1, h3, decide_eq_true h5, decide_eq_true h6, decide_eq_false h7]; rfl)
    have hq : ((M.inodes.length : Int) != I) = true := by simpa using h7
    go_wp2
    go_ret
    exact ⟨by rw [HV.out]; rfl, H4.out⟩
  have HV := Lib.hid (rightM_of h1 h3 h5 h6 h7)
  obtain ⟨no, hno⟩ : ∃ q, q = M.owners.length := ⟨_, rfl⟩
  obtain ⟨ni, hni⟩ : ∃ q, q = M.inodes.length := ⟨_, rfl⟩
  have HNO := Lib.hid hno
  have HNI := Lib.hid hni
  rw [← hno] at h5 m1
  rw [← hni] at h7 m3
  have h6' : M.used.length = 64 := by omega
  rw [h6'] at m2
  have H6 := Lib.hid h6'
  clear h6 h6' h1 h3 hno hni
  subst h5
  subst h7
  have hno64 : no ≤ 64 := by have := HBD.out; omega
  have hni64 : ni ≤ 64 := by have := HBD.out; omega
  obtain ⟨gp, hgp⟩ : ∃ q : Nat, (no : Int) * P = q := ⟨((no : Int) * P).toNat, by have := HBD.out; omega⟩
  have HGP := Lib.hid hgp
  have hgp512 : 1 ≤ gp ∧ gp ≤ 512 := by have := HBD.out; omega
  clear hgp
  go_wp2
  go_loopw [5] (fun v wr => ∃ k : Nat, k ≤ no ∧ v = .int .i64 k ∧ Ext w3 wr ∧ M.owners.all ownB = (M.owners.drop k).all ownB) (fun v _ => no - (intOf v).toNat)
  case atStart => exact ⟨0, by omega, rfl, Ext.refl _, rfl⟩
  case round =>
    obtain ⟨k, hk, rfl, hX, hall⟩ := hrel
    have HX := Lib.hid hX
    have HALL := Lib.hid hall
    clear hX hall g0 g1 g2 g3 m0 m1 m2 m3
    obtain ⟨⟨g0, g1, g2, g3⟩, m0, m1, m2, m3⟩ := HBOX3.out.ext HX.out
    rw [← HNO.out] at m1
    rw [H6.out] at m2
    by_cases hlt : k < no
    · have hkL : k < M.owners.length := by rw [← HNO.out]; exact hlt
      obtain ⟨bo, oo, hoa, hoc⟩ := (HIN.out.owners.ext (H4.out.trans HX.out)).ints (by omega)
      have hcell := hoc k hkL
      have HST := Lib.hid (all_drop (p := ownB) hkL)
      generalize M.owners[k] = o at *
      rw [hoa] at m1
      have hkn : (k : Int) < no := by omega
      have hk0 : (0 : Int) ≤ k := by omega
      clear hoc hkL hoa g0 g1 g2 g3 m0 m2 m3
      by_cases ho0 : o < 0
      · have HF := Lib.hid (show ownB o = false by simp [ownB]; omega)
        go_wp2
        go_ret
        exact ⟨by rw [HV.out, HALL.out, HST.out, HF.out]; rfl, H4.out.trans HX.out⟩
      · by_cases ho1 : 16 < o
        · have HF := Lib.hid (show ownB o = false by simp [ownB]; omega)
          go_wp2
          go_ret
          exact ⟨by rw [HV.out, HALL.out, HST.out, HF.out]; rfl, H4.out.trans HX.out⟩
        · have HF := Lib.hid (show ownB o = true by simp [ownB]; omega)
          go_wp2
          go_roundw
          case rel => exact ⟨k + 1, hlt, by go_num, HX.out, by rw [HALL.out, HST.out, HF.out]; rfl⟩
          case measure => simp [intOf]; omega
    · obtain rfl : k = no := by omega
      have HOWN := Lib.hid (show M.owners.all ownB = true by rw [HALL.out, List.drop_eq_nil_of_le (by rw [← HNO.out]; exact Nat.le_refl _)]; rfl)
      have hmul : IntKind.i64.wrap ((k : Int) * P) = (gp : Int) := by rw [HGP.out]; exact IntWalk.i64_in _ (by omega)
      clear hk hlt HALL
      go_wp2
      go_loopw [6] (fun v w5 => ∃ i : Nat, gp ≤ i ∧ i ≤ 512 ∧ v = .int .i64 i ∧ Ext wr w5 ∧ ∀ q, gp ≤ q → q < i → Bit.bitN M.used q = false) (fun v _ => 512 - (intOf v).toNat)
      case atStart => exact ⟨gp, by omega, by omega, rfl, Ext.refl _, fun q h1 h2 => absurd h1 (by omega)⟩
      case round =>
        obtain ⟨i, hi0, hi1, rfl, hX5, hno⟩ := hrel
        have HX5 := Lib.hid hX5
        have HNB := Lib.hid hno
        clear hX5 hno g0 g1 g2 g3 m0 m1 m2 m3
        obtain ⟨⟨g0, g1, g2, g3⟩, m0, m1, m2, m3⟩ := HBOX3.out.ext (HX.out.trans HX5.out)
        rw [H6.out] at m2
        rw [← HNI.out] at m3
        clear g0 g1 g2 g3 m0 m1
        by_cases hlt : i < 512
        · have hhas := Bit.rHas_ok p.ua 64 p.uc M.used (i : Int) wr H6.out (by decide) HIN.out.bu (HIN.out.used.ext (H4.out.trans (HX.out.trans HX5.out)))
          have HBN := Lib.hid (Bit.bitB_nat M.used i (by rw [H6.out]; omega))
          cases hb : Bit.bitB M.used (i : Int)
          · rw [hb] at hhas
            go_wp2_with fail
            refine hhas.mono ?_
            rintro e w6 ⟨rfl, hw6⟩
            subst hw6
            clear hhas m2 m3
            have HB2 := Lib.hid (show Bit.bitN M.used i = false by rw [← HBN.out]; exact hb)
            go_wp2
            go_roundw
            case rel => exact ⟨i + 1, by omega, hlt, by go_num, HX5.out, fun q h1 h2 => by
              by_cases e : q = i
              · subst e; exact HB2.out
              · exact HNB.out q h1 (by omega)⟩
            case measure => simp [intOf]; omega
          · rw [hb] at hhas
            have HCP := Lib.hid (count_pos (x := (k : Int) * P) HGP.out H6.out hi0 hlt (by rw [← HBN.out]; exact hb))
            go_wp2_with fail
            refine hhas.mono ?_
            rintro e w6 ⟨rfl, hw6⟩
            subst hw6
            clear hhas m2 m3
            go_wp2
            go_ret
            exact ⟨by rw [HV.out, decide_eq_false HCP.out, Bool.and_false, Bool.and_false]; rfl, H4.out.trans (HX.out.trans HX5.out)⟩
        · have HI := Lib.hid (show i = 512 by omega)
          have HCZ := Lib.hid (count_zero (x := (k : Int) * P) HGP.out (fun q h1 h2 => HNB.out q h1 (by have := HI.out; omega)))
          have hge : ¬ ((i : Int) < 512) := by omega
          clear hlt hi0 hi1
          go_wp2
          go_loopw [7] (fun v w7 => ∃ j : Nat, j ≤ ni ∧ v = .int .i64 j ∧ Ext w3 w7 ∧ M.inodes.all Ino.rightB = (M.inodes.drop j).all Ino.rightB) (fun v _ => ni - (intOf v).toNat)
          case atStart => exact ⟨0, by omega, rfl, HX.out.trans HX5.out, rfl⟩
          case round =>
            obtain ⟨j, hj, rfl, hX7, hall⟩ := hrel
            have HX7 := Lib.hid hX7
            have HALL := Lib.hid hall
            clear hX7 hall m2 m3
            obtain ⟨⟨g0, g1, g2, g3⟩, m0, m1, m2, m3⟩ := HBOX3.out.ext HX7.out
            rw [← HNI.out] at m3
            clear g0 g1 g2 g3 m0 m1 m2
            by_cases hlt : j < ni
            · have hjL : j < M.inodes.length := by rw [← HNI.out]; exact hlt
              obtain ⟨bi, oi, hia, hrg⟩ := ino_range (HIN.out.inodes.ext (H4.out.trans HX7.out)) hjL
              have HST := Lib.hid (all_drop (p := Ino.rightB) hjL)
              rw [hia] at m3
              generalize M.inodes[j] = n at *
              have HRG := Lib.hid (show wr.rangeAt bi (oi + j * 14) [.int .u8 n.k, .int .u8 n.r, .int .i64 n.l, .int .i64 n.s, .int .i64 n.d0, .int .i64 n.d1, .int .i64 n.d2, .int .i64 n.d3, .int .i64 n.d4, .int .i64 n.d5, .int .i64 n.d6, .int .i64 n.d7, .int .i64 n.i, .int .i64 n.j] from hrg)
              have hn := Ino.rRight_ok n wr
              have hjn : (j : Int) < ni := by omega
              have hj0 : (0 : Int) ≤ j := by omega
              clear hrg hjL hia
              cases hnr : n.rightB
              · rw [hnr] at hn
                go_wp2_with (first
                  | (refine wpList_load_mid rfl 48 _ rfl bi (oi + j * 14) rfl [.int .u8 n.k, .int .u8 n.r, .int .i64 n.l, .int .i64 n.s, .int .i64 n.d0, .int .i64 n.d1, .int .i64 n.d2, .int .i64 n.d3, .int .i64 n.d4, .int .i64 n.d5, .int .i64 n.d6, .int .i64 n.d7, .int .i64 n.i, .int .i64 n.j] _ HRG.out Try.underlying48 rfl infoIno ?_)
                  | (go_at_call 37; refine hn.mono ?_; rintro e w6 ⟨rfl, h6⟩))
                go_ret
                exact ⟨by rw [HV.out, HOWN.out, HALL.out, HST.out, hnr]; rfl, H4.out.trans (HX7.out.trans h6)⟩
              · rw [hnr] at hn
                go_wp2_with (first
                  | (refine wpList_load_mid rfl 48 _ rfl bi (oi + j * 14) rfl [.int .u8 n.k, .int .u8 n.r, .int .i64 n.l, .int .i64 n.s, .int .i64 n.d0, .int .i64 n.d1, .int .i64 n.d2, .int .i64 n.d3, .int .i64 n.d4, .int .i64 n.d5, .int .i64 n.d6, .int .i64 n.d7, .int .i64 n.i, .int .i64 n.j] _ HRG.out Try.underlying48 rfl infoIno ?_)
                  | (go_at_call 37; refine hn.mono ?_; rintro e w6 ⟨rfl, h6⟩))
                go_roundw
                case rel => exact ⟨j + 1, hlt, by go_num, HX7.out.trans h6, by rw [HALL.out, HST.out, hnr]; rfl⟩
                case measure => simp [intOf]; omega
            · obtain rfl : j = ni := by omega
              have HINO := Lib.hid (show M.inodes.all Ino.rightB = true by rw [HALL.out, List.drop_eq_nil_of_le (by rw [← HNI.out]; exact Nat.le_refl _)]; rfl)
              go_wp2
              go_ret
              exact ⟨by rw [HV.out, HOWN.out, HINO.out, decide_eq_true HCZ.out]; rfl, H4.out.trans HX7.out⟩
end Go.Proofs.Ytnodinancnfoeaa.Mt
