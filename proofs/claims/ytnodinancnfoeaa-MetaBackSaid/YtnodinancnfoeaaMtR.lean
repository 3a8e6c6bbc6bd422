/- meta.Right. -/
import Derived.Test.YtnodinancnfoeaaMtP
import Derived.LoopTactic
namespace Go.Proofs.Ytnodinancnfoeaa.Mt
open Go.RowKit Words Mem Plain Ops Agg OwnS Intern Ino
set_option linter.ambiguousOpen false
set_option linter.unusedVariables false
set_option linter.unusedSimpArgs false

theorem infoIno : (Try.prog.info? 48).map (·.size) = some 14 := by kernel_rfl
theorem zeroIno (w : World) : (zeroValue 48).run Try.prog w = .ok (.agg Ino.zero.cs) w := by kernel_rfl
theorem rightM_of {J I G P : Int} {M : MetaT} (h1 : Super.rightB J I G P = true) (h2 : Intern.rightB M.rows = true) (h3 : (M.owners.length : Int) = G) (h4 : (M.used.length : Int) = 64) (h5 : (M.inodes.length : Int) = I) :
    rightM J I G P M = (M.owners.all ownB && (M.inodes.all Ino.rightB && decide (Bit.countN M.used (G * P) 512 = 0))) := by
  unfold rightM
  rw [h1, h2, decide_eq_true h3, decide_eq_true h4, decide_eq_true h5]; rfl
theorem all_drop {α : Type} {L : List α} {p : α → Bool} {k : Nat} (hk : k < L.length) : (L.drop k).all p = (p L[k] && (L.drop (k + 1)).all p) := by
  rw [List.drop_eq_getElem_cons hk]; rfl

set_option maxHeartbeats 4000000 in
set_option maxRecDepth 100000 in
theorem Right_ok (J I G P : Int) (p : Pl) (M : MetaT) (w : World) (h : MetaIn w p M) :
    Calls Try.prog 16 #[Super.geoV J I G P, metaV p M] w fun e w' => e = .returned (.bool (rightM J I G P M)) ∧ Ext w w' := by
  obtain ⟨hbox, hbx⟩ := BoxAt.new w J I G P p M
  have hgr := Super.Right_ok J I G P (boxW w J I G P p M)
  have HBX := Lib.hid hbx
  have HBOX := Lib.hid hbox
  have HIN := Lib.hid h
  clear hbox hbx h
  cases h1 : Super.rightB J I G P
  · have HV := Lib.hid (show rightM J I G P M = false by unfold rightM; rw [h1]; rfl)
    rw [h1] at hgr
    go_enter Try.func16, Try.ntmps16
    go_wp2_with fail
    refine hgr.mono ?_
    rintro e w2 ⟨rfl, h2⟩
    have H2 := Lib.hid (HBX.out.trans h2)
    clear h2 hgr
    go_wp2
    go_ret
    exact ⟨by rw [HV.out]; rfl, H2.out⟩
  rw [h1] at hgr
  have HBD := Lib.hid (Super.right_bd h1)
  have hrows := fun (v : World) (hv : Ext w v) => Intern.Right_ok M.rows p.ra p.rc v (HIN.out.rows.ext hv) HIN.out.wfr (by have := HIN.out.few; omega)
  have HROWS := Lib.hid hrows
  clear hrows
  go_enter Try.func16, Try.ntmps16
  go_wp2_with fail
  refine hgr.mono ?_
  rintro e w2 ⟨rfl, h2⟩
  have hr2 := HROWS.out w2 (HBX.out.trans h2)
  have H2 := Lib.hid (HBX.out.trans h2)
  have HBOX2 := Lib.hid (HBOX.out.ext h2)
  clear h2 hgr HROWS HBOX
  obtain ⟨⟨g0, g1, g2, g3⟩, m0, m1, m2, m3⟩ := HBOX2.out
  cases h3 : Intern.rightB M.rows
  · have HV := Lib.hid (show rightM J I G P M = false by unfold rightM; rw [h1, h3]; rfl)
    rw [h3] at hr2
    go_wp2_with fail
    refine hr2.mono ?_
    rintro e w3 ⟨rfl, h4⟩
    have H4 := Lib.hid (H2.out.trans h4)
    clear h4 hr2
    go_wp2
    go_ret
    exact ⟨by rw [HV.out]; rfl, H4.out⟩
  rw [h3] at hr2
  clear m0 m1 m2 m3 g0 g1 g2 g3
  have e0 : ∀ v : World, Ext w2 v → True := fun _ _ => trivial
  obtain ⟨⟨g0, g1, g2, g3⟩, m0, m1, m2, m3⟩ := HBOX2.out
  go_wp2_with fail
  refine hr2.mono ?_
  rintro e w3 ⟨rfl, h4⟩
  have H4 := Lib.hid (H2.out.trans h4)
  have HBOX3 := Lib.hid (HBOX2.out.ext h4)
  clear h4 hr2 g0 g1 g2 g3 m0 m1 m2 m3 e0 HBOX2 H2
  obtain ⟨⟨g0, g1, g2, g3⟩, m0, m1, m2, m3⟩ := HBOX3.out
  by_cases h5 : (M.owners.length : Int) = G
  case neg =>
    have HV := Lib.hid (show rightM J I G P M = false by unfold rightM; rw [h1, h3, decide_eq_false h5]; rfl)
    have hq : ((M.owners.length : Int) != G) = true := by simpa using h5
    go_wp2
    go_ret
    exact ⟨by rw [HV.out]; rfl, H4.out⟩
  by_cases h6 : (M.used.length : Int) = 64
  case neg =>
    have HV := Lib.hid (show rightM J I G P M = false by unfold rightM; rw [h1, h3, decide_eq_true h5, decide_eq_false h6]; rfl)
    have hq : ((M.used.length : Int) != 64) = true := by simpa using h6
    go_wp2
    go_ret
    exact ⟨by rw [HV.out]; rfl, H4.out⟩
  by_cases h7 : (M.inodes.length : Int) = I
  case neg =>
    have HV := Lib.hid (show rightM J I G P M = false by unfold rightM; rw [h1, h3, decide_eq_true h5, decide_eq_true h6, decide_eq_false h7]; rfl)
    have hq : ((M.inodes.length : Int) != I) = true := by simpa using h7
    go_wp2
    go_ret
    exact ⟨by rw [HV.out]; rfl, H4.out⟩
  have HV := Lib.hid (rightM_of h1 h3 h5 h6 h7)
  obtain ⟨no, hno⟩ : ∃ q, q = M.owners.length := ⟨_, rfl⟩
  obtain ⟨ni, hni⟩ : ∃ q, q = M.inodes.length := ⟨_, rfl⟩
  have HNO := Lib.hid hno
  have HNI := Lib.hid hni
  rw [← hno] at h5 m1
  rw [← hni] at h7 m3
  have h6' : M.used.length = 64 := by omega
  rw [h6'] at m2
  have H6 := Lib.hid h6'
  clear h6 h6' h1 h3 hno hni
  subst h5
  subst h7
  have hno64 : no ≤ 64 := by have := HBD.out; omega
  have hni64 : ni ≤ 64 := by have := HBD.out; omega
  go_wp2
  go_loopw [43] (fun v wr => ∃ k : Nat, k ≤ no ∧ v = .int .i64 k ∧ Ext w3 wr ∧ M.owners.all ownB = (M.owners.drop k).all ownB) (fun v _ => no - (intOf v).toNat)
  case atStart => exact ⟨0, by omega, rfl, Ext.refl _, rfl⟩
  case round =>
    obtain ⟨k, hk, rfl, hX, hall⟩ := hrel
    have HX := Lib.hid hX
    have HALL := Lib.hid hall
    clear hX hall g0 g1 g2 g3 m0 m1 m2 m3
    by_cases hlt : k < no
    · have hkL : k < M.owners.length := by rw [← HNO.out]; exact hlt
      obtain ⟨bo, oo, hoa, hoc⟩ := (HIN.out.owners.ext (H4.out.trans HX.out)).ints (by omega)
      have hcell := hoc k hkL
      have HST := Lib.hid (all_drop (p := ownB) hkL)
      generalize M.owners[k] = o at *
      rw [hoa]
      clear hoc hkL hoa
      by_cases ho0 : o < 0
      · have HF := Lib.hid (show ownB o = false by simp [ownB]; omega)
        go_wp2
        go_ret
        exact ⟨by rw [HV.out, HALL.out, HST.out, HF.out]; rfl, H4.out.trans HX.out⟩
      · by_cases ho1 : 16 < o
        · have HF := Lib.hid (show ownB o = false by simp [ownB]; omega)
          go_wp2
          go_ret
          exact ⟨by rw [HV.out, HALL.out, HST.out, HF.out]; rfl, H4.out.trans HX.out⟩
        · have HF := Lib.hid (show ownB o = true by simp [ownB]; omega)
          go_wp2
          go_roundw
          case rel => exact ⟨k + 1, hlt, by go_num, HX.out, by rw [HALL.out, HST.out, HF.out]; rfl⟩
          case measure => simp [intOf]; omega
    · obtain rfl : k = no := by omega
      have HOWN := Lib.hid (show M.owners.all ownB = true by rw [HALL.out, List.drop_eq_nil_of_le (by rw [← HNO.out]; exact Nat.le_refl _)]; rfl)
      clear hk hlt HALL
      have HBOX4 := Lib.hid (HBOX3.out.ext HX.out)
      obtain ⟨⟨g0, g1, g2, g3⟩, m0, m1, m2, m3⟩ := HBOX4.out
      rw [← HNI.out] at m3
      go_wp2
      go_loopw [57] (fun v w5 => ∃ j : Nat, j ≤ ni ∧ v = .int .i64 j ∧ Ext wr w5 ∧ M.inodes.all Ino.rightB = (M.inodes.drop j).all Ino.rightB) (fun v _ => ni - (intOf v).toNat)
      case atStart => exact ⟨0, by omega, rfl, Ext.refl _, rfl⟩
      case round =>
        obtain ⟨j, hj, rfl, hX5, hall⟩ := hrel
        have HX5 := Lib.hid hX5
        have HALL := Lib.hid hall
        clear hX5 hall g0 g1 g2 g3 m0 m1 m2 m3
        by_cases hlt : j < ni
        · have hjL : j < M.inodes.length := by rw [← HNI.out]; exact hlt
          have hsl := HIN.out.inodes.ext (H4.out.trans (HX.out.trans HX5.out))
          have hfl : (flat inoC M.inodes).length = M.inodes.length * 14 := flat_length inoC_len _
          obtain ⟨bi, oi, hia, hic⟩ := hsl.at (by omega)
          have HST := Lib.hid (all_drop (p := Ino.rightB) hjL)
          have HRG := Lib.hid (show wr.rangeAt bi (oi + j * 14) (inoC M.inodes[j]) from fun q v hv => by
            have hq : q < 14 := by have := (List.getElem?_eq_some_iff.1 hv).1; rw [inoC_len] at this; exact this
            have := hic (j * 14 + q) (by rw [hfl]; have : (j + 1) * 14 ≤ M.inodes.length * 14 := Nat.mul_le_mul_right 14 hjL; omega)
            rw [Nat.add_assoc, this, ← hv, ← flat_at inoC_len M.inodes j hjL q hq, List.getElem?_eq_getElem])
          rw [hia]
          generalize M.inodes[j] = n at *
          clear hic hsl hfl hjL hia
          have hn := Ino.Right_ok n (wr.alloc (.cells n.cs 48))
          have HX6 := Lib.hid (HX5.out.alloc (.cells n.cs 48))
          have HRG2 := Lib.hid (show wr.rangeAt bi (oi + j * 14) [.int .u8 n.k, .int .u8 n.r, .int .i64 n.l, .int .i64 n.s, .int .i64 n.d0, .int .i64 n.d1, .int .i64 n.d2, .int .i64 n.d3, .int .i64 n.d4, .int .i64 n.d5, .int .i64 n.d6, .int .i64 n.d7, .int .i64 n.i, .int .i64 n.j] from HRG.out)
          have hz := zeroIno
          cases hnr : n.rightB
          · rw [hnr] at hn
            go_wp2_with (first
              | (refine wpList_load_mid rfl 48 _ rfl bi (oi + j * 14) rfl [.int .u8 n.k, .int .u8 n.r, .int .i64 n.l, .int .i64 n.s, .int .i64 n.d0, .int .i64 n.d1, .int .i64 n.d2, .int .i64 n.d3, .int .i64 n.d4, .int .i64 n.d5, .int .i64 n.d6, .int .i64 n.d7, .int .i64 n.i, .int .i64 n.j] _ HRG2.out Try.underlying48 rfl infoIno ?_)
              | (go_at_call 33; refine hn.mono ?_; rintro e w6 ⟨rfl, h6⟩))
            go_ret
            exact ⟨by rw [HV.out, HOWN.out, HALL.out, HST.out, hnr]; rfl, H4.out.trans (HX.out.trans (HX6.out.trans h6))⟩
          · rw [hnr] at hn
            go_wp2_with (first
              | (refine wpList_load_mid rfl 48 _ rfl bi (oi + j * 14) rfl [.int .u8 n.k, .int .u8 n.r, .int .i64 n.l, .int .i64 n.s, .int .i64 n.d0, .int .i64 n.d1, .int .i64 n.d2, .int .i64 n.d3, .int .i64 n.d4, .int .i64 n.d5, .int .i64 n.d6, .int .i64 n.d7, .int .i64 n.i, .int .i64 n.j] _ HRG2.out Try.underlying48 rfl infoIno ?_)
              | (go_at_call 33; refine hn.mono ?_; rintro e w6 ⟨rfl, h6⟩))
            go_roundw
            case rel => exact ⟨j + 1, hlt, by go_num, HX6.out.trans h6, by rw [HALL.out, HST.out, hnr]; rfl⟩
            case measure => simp [intOf]; omega
        · obtain rfl : j = ni := by omega
          have HINO := Lib.hid (show M.inodes.all Ino.rightB = true by rw [HALL.out, List.drop_eq_nil_of_le (by rw [← HNI.out]; exact Nat.le_refl _)]; rfl)
          clear hj hlt HALL
          have HBOX5 := Lib.hid (HBOX4.out.ext HX5.out)
          obtain ⟨⟨g0, g1, g2, g3⟩, m0, m1, m2, m3⟩ := HBOX5.out
          rw [H6.out] at m2
          have hmul : IntKind.i64.wrap ((k : Int) * P) = (k : Int) * P := IntWalk.i64_in _ (by have := HBD.out; omega)
          have hcnt := Bit.Count_ok p.ua 64 p.uc M.used ((k : Int) * P) 512 wr H6.out (by decide) HIN.out.bu (HIN.out.used.ext (H4.out.trans (HX.out.trans HX5.out)))
          have HV2 := Lib.hid (show rightM J j k P M = decide (Bit.countN M.used ((k : Int) * P) 512 = 0) by rw [HV.out, HOWN.out, HINO.out]; rfl)
          generalize Bit.countN M.used ((k : Int) * P) 512 = cn at *
          clear HV HOWN HINO
          go_wp2_with fail
          refine hcnt.mono ?_
          rintro e w8 ⟨rfl, h8⟩
          have H8 := Lib.hid (show Ext w w8 by first | exact H4.out.trans (HX.out.trans (HX5.out.trans h8)) | (subst h8; exact H4.out.trans (HX.out.trans HX5.out)))
          clear h8 hcnt
          by_cases hcn : cn = 0
          · subst hcn
            go_wp2
            go_ret
            exact ⟨by rw [HV2.out]; rfl, H8.out⟩
          · have hcn2 : ((cn : Int) == 0) = false := by simp; omega
            go_wp2
            go_ret
            exact ⟨by rw [HV2.out, decide_eq_false hcn]; rfl, H8.out⟩
end Go.Proofs.Ytnodinancnfoeaa.Mt
