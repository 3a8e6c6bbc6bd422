/- The contract of moatref11.Take. -/
import Derived.Test.YtdimnnnklhjnfaaITake
import Derived.Deep.DeepCutAuto
namespace Go.Proofs.Ytdimnnnklhjnfaa.Ino
open Go.RowKit Words Mem Plain Ops Base
open Go.Proofs.Ytdimnnnklhjnfaa.Field Agg
set_option linter.ambiguousOpen false
set_option linter.unusedVariables false
set_option linter.unusedSimpArgs false

theorem rTake_len (a : Option Addr) (n cap : Nat) (xs : List Int) (w : World) (hl : xs.length = n) (h : n ≠ 32) :
    Calls Try.prog 25 #[.slice a n cap] w (GaveI w (Ino.takeR xs)) := by
  rw [takeR_no (fun e => h (by rw [← hl]; exact e.1))]
  have hd : ((n : Int) == 32) = false := by simp; omega
  have hd' : ((n : Int) != 32) = true := by simp; omega
  go_enter Try.func25, Try.ntmps25
  have HR := Lib.hid (Row.new w 39 (#[.int .u8 0, .int .u8 0, .int .i64 0, .int .i64 0, .int .i64 0, .int .i64 0, .int .i64 0, .int .i64 0, .int .i64 0, .int .i64 0, .int .i64 0, .int .i64 0, .int .i64 0, .int .i64 0] : Array Value).toList)
  go_wp2_with (refine wpList_store_row rfl _ _ _ rfl w.heap.size #[.int .u8 0, .int .u8 0, .int .i64 0, .int .i64 0, .int .i64 0, .int .i64 0, .int .i64 0, .int .i64 0, .int .i64 0, .int .i64 0, .int .i64 0, .int .i64 0, .int .i64 0, .int .i64 0] rfl rfl 39 #[.int .u8 0, .int .u8 0, .int .i64 0, .int .i64 0, .int .i64 0, .int .i64 0, .int .i64 0, .int .i64 0, .int .i64 0, .int .i64 0, .int .i64 0, .int .i64 0, .int .i64 0, .int .i64 0] HR.out infoIno rfl oneZZ ?_)
  have X := (Ext.refl w).alloc (.cells #[.int .u8 0, .int .u8 0, .int .i64 0, .int .i64 0, .int .i64 0, .int .i64 0, .int .i64 0, .int .i64 0, .int .i64 0, .int .i64 0, .int .i64 0, .int .i64 0, .int .i64 0, .int .i64 0] 39)
  exact post_cell Try.results25 rfl rfl (HR.out.setRow #[.int .u8 0, .int .u8 0, .int .i64 0, .int .i64 0, .int .i64 0, .int .i64 0, .int .i64 0, .int .i64 0, .int .i64 0, .int .i64 0, .int .i64 0, .int .i64 0, .int .i64 0, .int .i64 0]) Try.underlying39 rfl infoIno rfl ⟨rfl, X.setRow (Nat.le_refl _) #[.int .u8 0, .int .u8 0, .int .i64 0, .int .i64 0, .int .i64 0, .int .i64 0, .int .i64 0, .int .i64 0, .int .i64 0, .int .i64 0, .int .i64 0, .int .i64 0, .int .i64 0, .int .i64 0]⟩

theorem pair_num {x y : Int} (hx : 0 ≤ x ∧ x < 256) (hy : 0 ≤ y ∧ y < 256) : numOf [x, y] % 256 = x ∧ numOf [x, y] / 256 = y := by
  simp only [numOf]; omega

set_option maxHeartbeats 4000000 in
theorem rTake_32 (a : Option Addr) (cap : Nat) (xs : List Int) (w : World) (hl : xs.length = 32) (hb : isBytes xs) (hs : Sl w a (ints .u8 xs)) :
    Calls Try.prog 25 #[.slice a 32 cap] w (GaveI w (Ino.takeR xs)) := by
  have hlN := length_takenL 2 xs 16
  have hbd := takenL_bd 2 xs 16 hb (by decide)
  rw [p2] at hbd
  obtain ⟨val, hval, hat⟩ : ∃ val : Int → Int, (∀ (k : Nat) (q : Int), k < 16 → q = 2 * (k : Int) → (takenL 2 xs 16)[k]? = some (val q)) ∧ ∀ v : World, Ext w v → ∀ q : Int, 0 ≤ q → q ≤ 30 → Calls Try.prog 36 #[.slice a 32 cap, .int .i64 q, .int .i64 2] v fun e w' => e = .returned (.int .u64 (val q)) ∧ v = w' :=
    ⟨fun q => numOf ((xs.drop q.toNat).take 2), fun k q hk hq => by rw [getElem_takenL 2 xs 16 k hk, hq]; congr 3, fun v hv q h0 h30 => by
      obtain ⟨k, rfl⟩ : ∃ k : Nat, q = k := ⟨q.toNat, by omega⟩
      exact At_ok a 32 cap xs k 2 v hl (by decide) hb (hs.ext hv) (standsB_of (by decide) (by decide) (by omega) (by omega) (by omega))⟩
  have hn := fun (h : ¬ Ino.takeP xs) => takeR_no h
  have hyes := fun (h : Ino.takeP xs) => takeR_yes h
  have hiff : (Ino.ofNums (takenL 2 xs 16)).RightP → ((Ino.ofNums (takenL 2 xs 16)).bytes = xs ↔ Ino.takeP xs) := fun h => Ino.take_iff hb hl h
  have hwf := Ino.ofNums_wf hb hl
  have htp : Ino.takeP xs → (Ino.ofNums (takenL 2 xs 16)).RightP := fun h => h.2.1
  obtain ⟨b, off, rfl, hc⟩ := hs.ints (by omega)
  obtain ⟨b0, b1, e01⟩ : ∃ x y, xs.take 2 = [x, y] := by
    rcases xs with _ | ⟨x, _ | ⟨y, xs⟩⟩
    · cases hl
    · cases hl
    · exact ⟨x, y, rfl⟩
  have g0 : xs[0]? = some b0 := by have : (xs.take 2)[0]? = some b0 := by rw [e01]; rfl
                                   simpa using this
  have g1 : xs[1]? = some b1 := by have : (xs.take 2)[1]? = some b1 := by rw [e01]; rfl
                                   simpa using this
  have k0 := hb b0 (List.mem_of_getElem? g0)
  have k1 := hb b1 (List.mem_of_getElem? g1)
  have hN0 : (takenL 2 xs 16)[0]? = some (numOf [b0, b1]) := by rw [getElem_takenL _ _ _ _ (by decide), Nat.mul_zero, List.drop_zero, e01]
  have c0 : w.cell? ⟨b, off, none⟩ = some (.int .u8 b0) := by have h3 := hc 0 (by omega); rw [List.getElem?_eq_getElem (by omega)] at g0; injection g0 with h4; rw [h4] at h3; exact h3
  have c1 : w.cell? ⟨b, off + 1, none⟩ = some (.int .u8 b1) := by have h3 := hc 1 (by omega); rw [List.getElem?_eq_getElem (by omega)] at g1; injection g1 with h4; rw [h4] at h3; exact h3
  have hpn := pair_num k0 k1
  generalize numOf [b0, b1] = N0 at *
  generalize takenL 2 xs 16 = N at *
  generalize Ino.takeR xs = R at *
  have HNO := Lib.hid hn; have HYES := Lib.hid hyes; have HLN := Lib.hid hlN; have HBD := Lib.hid hbd; have HAT := Lib.hid hat; have HIFF := Lib.hid hiff; have HWF := Lib.hid hwf; have HTP := Lib.hid htp; have HB := Lib.hid hb; have HL := Lib.hid hl; have HSX := Lib.hid hs; have HN0 := Lib.hid hN0; have HPN := Lib.hid hpn
  have hvb : ∀ (k : Nat) (q : Int), k < 16 → q = 2 * (k : Int) → 0 ≤ val q ∧ val q < 65536 := fun k q hk hq => hbd _ (List.mem_of_getElem? (hval k q hk hq))
  obtain ⟨n10, n11⟩ := hvb 1 2 (by decide) (by decide)
  obtain ⟨n20, n21⟩ := hvb 2 4 (by decide) (by decide)
  obtain ⟨n110, n111⟩ := hvb 11 22 (by decide) (by decide)
  obtain ⟨n120, n121⟩ := hvb 12 24 (by decide) (by decide)
  have nw1 : IntKind.i64.wrap (val 2) = val 2 := IntWalk.i64_in _ (by omega)
  have nw2 : IntKind.i64.wrap (val 4) = val 4 := IntWalk.i64_in _ (by omega)
  have nw11 : IntKind.i64.wrap (val 22) = val 22 := IntWalk.i64_in _ (by omega)
  have nw12 : IntKind.i64.wrap (val 24) = val 24 := IntWalk.i64_in _ (by omega)
  have HVAL := Lib.hid hval; have HVB := Lib.hid hvb
  have hbw : b < w.heap.size := World.block_lt_of_cell? w _ c0
  have C0 := Lib.hid c0; have C1 := Lib.hid c1
  clear hc hb hl hs hlN hbd hat hn hyes hiff hwf htp e01 g0 g1 hN0 c0 c1 hpn hval hvb
  have HR0 := Lib.hid (Row.new w 39 (#[.int .u8 0, .int .u8 0, .int .i64 0, .int .i64 0, .int .i64 0, .int .i64 0, .int .i64 0, .int .i64 0, .int .i64 0, .int .i64 0, .int .i64 0, .int .i64 0, .int .i64 0, .int .i64 0] : Array Value).toList)
  have XA := (Ext.refl w).alloc (.cells #[.int .u8 0, .int .u8 0, .int .i64 0, .int .i64 0, .int .i64 0, .int .i64 0, .int .i64 0, .int .i64 0, .int .i64 0, .int .i64 0, .int .i64 0, .int .i64 0, .int .i64 0, .int .i64 0] 39)
  go_enter Try.func25, Try.ntmps25
  go_upto_region 3 with fail
  generalize w.alloc (.cells #[.int .u8 0, .int .u8 0, .int .i64 0, .int .i64 0, .int .i64 0, .int .i64 0, .int .i64 0, .int .i64 0, .int .i64 0, .int .i64 0, .int .i64 0, .int .i64 0, .int .i64 0, .int .i64 0] 39) = w1 at *
  have hall : ∀ v, Ext w1 v → (Ext w1 v ∧ v.cell? ⟨b, off, none⟩ = some (.int .u8 b0) ∧ v.cell? ⟨b, off + 1, none⟩ = some (.int .u8 b1)) := fun v hv => ⟨hv, (XA.trans hv).keep C0.out, (XA.trans hv).keep C1.out⟩
  have hK : ∀ v u : World, (Ext w1 v ∧ v.cell? ⟨b, off, none⟩ = some (.int .u8 b0) ∧ v.cell? ⟨b, off + 1, none⟩ = some (.int .u8 b1)) → Ext v u → (Ext w1 u ∧ u.cell? ⟨b, off, none⟩ = some (.int .u8 b0) ∧ u.cell? ⟨b, off + 1, none⟩ = some (.int .u8 b1)) := fun v u h hu => hall u (h.1.trans hu)
  have HS0 := Lib.hid (hall w1 (Ext.refl w1)); have HK := Lib.hid hK; have HXA := Lib.hid XA
  clear hall hK XA
  have HV := Lib.hid (show ∀ v : World, (Ext w1 v ∧ v.cell? ⟨b, off, none⟩ = some (.int .u8 b0) ∧ v.cell? ⟨b, off + 1, none⟩ = some (.int .u8 b1)) → ∀ q : Int, 0 ≤ q → q ≤ 30 → Calls Try.prog 36 #[.slice (some ⟨b, off, none⟩) 32 cap, .int .i64 q, .int .i64 2] v fun e w' => e = .returned (.int .u64 (val q)) ∧ v = w' from fun v hv => HAT.out v (HXA.out.trans hv.1))
  go_cut [4] (fun s4 wx => ∃ g : Nat, s4 = .pointer (some ⟨g, 0, none⟩) ∧ w1.heap.size ≤ g ∧ Ext w1 wx ∧ Row wx g 39 (inoL b0 b1 (val 2) (val 4) ([] ++ List.replicate 8 0) (val 22) (val 24)))
  case first =>
    go_region_held3 (fun v => Ext w1 v ∧ v.cell? ⟨b, off, none⟩ = some (.int .u8 b0) ∧ v.cell? ⟨b, off + 1, none⟩ = some (.int .u8 b1)) (first | assumption | exact HS0.out | exact HK.out _ _ HS0.out ((Ext.refl _).drew) | exact HK.out _ _ (by assumption) (by assumption) | exact HK.out _ _ (by assumption) ((Ext.refl _).alloc _) | exact HK.out _ _ HS0.out (((Ext.refl _).alloc _).drew)) (
      (go_at_call 36; refine (HV.out _ (by assumption) _ (by decide) (by decide)).mono ?_; rintro e w' ⟨rfl, rfl⟩))
    all_goals
      go_wp2_with fail
      go_meet
      exact ⟨w1.heap.size, rfl, Nat.le_refl _, ((Ext.refl w1).alloc _).drew, (Row.new w1 39 [.int .u8 b0, .int .u8 b1, .int .i64 (val 2), .int .i64 (val 4), .int .i64 0, .int .i64 0, .int .i64 0, .int .i64 0, .int .i64 0, .int .i64 0, .int .i64 0, .int .i64 0, .int .i64 (val 22), .int .i64 (val 24)]).drew⟩
  case rest =>
  obtain ⟨g, rfl, hg, X0, r0⟩ := hcut
  obtain ⟨M, hM⟩ : ∃ M, M = (N.drop 3).take 8 := ⟨_, rfl⟩
  have hM8 : M.length = 8 := by rw [hM, List.length_take, List.length_drop, HLN.out]; decide
  have hMget : ∀ k, k < 8 → M[k]? = N[3 + k]? := fun k hk => by rw [hM, List.getElem?_take, if_pos hk, List.getElem?_drop]
  have HM := Lib.hid hM; have HM8 := Lib.hid hM8; have HMG := Lib.hid hMget
  clear hM hM8 hMget nw1 nw2 nw11 nw12
  have V2 := Lib.hid (HVAL.out 1 2 (by decide) (by decide)); have V4 := Lib.hid (HVAL.out 2 4 (by decide) (by decide)); have V22 := Lib.hid (HVAL.out 11 22 (by decide) (by decide)); have V24 := Lib.hid (HVAL.out 12 24 (by decide) (by decide))
  generalize val 2 = N1 at *
  generalize val 4 = N2 at *
  generalize val 22 = N11 at *
  generalize val 24 = N12 at *
  go_wp2_with fail
  go_loopw [5] (fun v wr => ∃ k : Nat, k ≤ 8 ∧ v = .int .i64 k ∧ Row wr g 39 (inoL b0 b1 N1 N2 (M.take k ++ List.replicate (8 - k) 0) N11 N12) ∧ Ext w1 wr) (fun v _ => 8 - (intOf v).toNat)
  case atStart => exact ⟨0, by omega, rfl, r0, X0⟩
  case round =>
    obtain ⟨k, hk, rfl, hr, hX⟩ := hrel
    by_cases hlt : k < 8
    · have hx2 := HVAL.out (3 + k) (6 + 2 * (k : Int)) (by omega) (by omega)
      have hx := HMG.out k hlt
      rw [hx2] at hx
      obtain ⟨x0, x1⟩ := HVB.out (3 + k) (6 + 2 * (k : Int)) (by omega) (by omega)
      have hcall := HAT.out wr (HXA.out.trans hX) (6 + 2 * (k : Int)) (by omega) (by omega)
      generalize val (6 + 2 * (k : Int)) = x at *
      have hcg := hr.cell? (4 + k)
      have hfg := hr.frozen (4 + k)
      have hst := hr.set (4 + k) (.int .i64 x)
      have hmid := inoL_step b0 b1 N1 N2 M x N11 N12 k hlt HM8.out hx
      rw [hmid] at hst
      obtain ⟨old, hold⟩ : ∃ old, wr.cell? ⟨g, 4 + k, none⟩ = some old := by
        rw [hcg]
        exact ⟨_, List.getElem?_eq_getElem (by rw [inoL_len _ _ _ _ _ _ _ (by rw [List.length_append, List.length_take, List.length_replicate, HM8.out]; omega)]; omega)⟩
      have hXn := hX.setCell (p := ⟨g, 4 + k, none⟩) hg (.int .i64 x)
      have HST := Lib.hid hst; have HXN := Lib.hid hXn; have HC := Lib.hid hcall
      clear hmid hcg hst hXn hr hX hx hx2 hcall
      go_wp2_with fail
      refine HC.out.mono ?_
      rintro e w' ⟨rfl, rfl⟩
      go_wp2_with fail
      go_roundw
      case rel => exact ⟨k + 1, hlt, by go_num, HST.out, HXN.out⟩
      case measure => simp [intOf]; omega
    · have : k = 8 := by omega
      subst this
      rw [Nat.sub_self, List.take_of_length_le (by rw [HM8.out]; exact Nat.le_refl _), List.replicate_zero, List.append_nil] at hr
      have hI : inoL b0 b1 N1 N2 M N11 N12 = (Ino.ofNums N).cs.toList := by
        rw [← inoL_ofNums N HLN.out, HM.out, getD_of V2.out, getD_of V4.out, getD_of V22.out, getD_of V24.out, ← getD_of HN0.out, HPN.out.1, HPN.out.2]
      rw [hI] at hr
      obtain ⟨nI, hnI⟩ : ∃ n, n = Ino.ofNums N := ⟨_, rfl⟩
      have hyes := HYES.out
      have hiff := HIFF.out
      have hwf := HWF.out
      have htp := HTP.out
      rw [← hnI] at hr hyes hiff hwf htp
      obtain ⟨p0, p1, p2, p3, p4, p5, p6, p7, p8, p9, p10, p11, p12, p13⟩ := Ino.rowCells hr
      have hrow : Row wr w.heap.size 39 (#[.int .u8 0, .int .u8 0, .int .i64 0, .int .i64 0, .int .i64 0, .int .i64 0, .int .i64 0, .int .i64 0, .int .i64 0, .int .i64 0, .int .i64 0, .int .i64 0, .int .i64 0, .int .i64 0] : Array Value).toList := (HR0.out.ext hX)
      have XX5 := HXA.out.trans hX
      have hLay := rLay_ino nI wr hwf
      have hyes' := hyes
      have hbb := nI.bytes_isBytes
      have HROW := Lib.hid hrow; have HXX5 := Lib.hid XX5; have HIFF2 := Lib.hid hiff; have HY2 := Lib.hid hyes; have HBB := Lib.hid hbb
      have HRO := Lib.hid hr
      clear hrow hyes hyes' hI hnI HYES HIFF HM HMG HM8 V2 V4 V22 V24 HVAL HVB HV HS0 HK hr hX r0 X0 hiff hwf HWF hbb
      have HTP2 := Lib.hid htp
      clear htp HTP HAT k0 k1 HBD HN0 HPN
      cases hrb : nI.rightB
      · have hno : R = (Ino.zero, 110) := HNO.out (fun e => Ino.right_not hrb (HTP2.out e))
        rw [Ino.layR_no hrb] at hLay
        have HRQ := Lib.hid hno; have HLAY := Lib.hid hLay
        obtain ⟨k, r, l, s, d0, d1, d2, d3, d4, d5, d6, d7, i, j⟩ := nI
        dsimp only [Ino.v, Ino.cs] at *
        clear hno hLay hrb
        go_wp2_with fail
        refine HLAY.out.mono ?_
        rintro e w6 ⟨a6, c6, rfl, ho6, hX6⟩
        dsimp only
        have HR6 := Lib.hid (HROW.out.ext hX6)
        clear ho6
        clear p0 p1 p2 p3 p4 p5 p6 p7 p8 p9 p10 p11 p12 p13
        go_wp2_with (refine wpList_store_row rfl _ _ _ rfl w.heap.size #[.int .u8 0, .int .u8 0, .int .i64 0, .int .i64 0, .int .i64 0, .int .i64 0, .int .i64 0, .int .i64 0, .int .i64 0, .int .i64 0, .int .i64 0, .int .i64 0, .int .i64 0, .int .i64 0] rfl rfl 39 #[.int .u8 0, .int .u8 0, .int .i64 0, .int .i64 0, .int .i64 0, .int .i64 0, .int .i64 0, .int .i64 0, .int .i64 0, .int .i64 0, .int .i64 0, .int .i64 0, .int .i64 0, .int .i64 0] HR6.out infoIno rfl oneZZ ?_)
        rw [HRQ.out]
        exact post_cell Try.results25 rfl rfl (HR6.out.setRow #[.int .u8 0, .int .u8 0, .int .i64 0, .int .i64 0, .int .i64 0, .int .i64 0, .int .i64 0, .int .i64 0, .int .i64 0, .int .i64 0, .int .i64 0, .int .i64 0, .int .i64 0, .int .i64 0]) Try.underlying39 rfl infoIno rfl ⟨rfl, (HXX5.out.trans hX6).setRow (Nat.le_refl _) #[.int .u8 0, .int .u8 0, .int .i64 0, .int .i64 0, .int .i64 0, .int .i64 0, .int .i64 0, .int .i64 0, .int .i64 0, .int .i64 0, .int .i64 0, .int .i64 0, .int .i64 0, .int .i64 0]⟩
      · rw [Ino.layR_yes hrb] at hLay
        have hiff2 := HIFF2.out (Ino.right_of hrb)
        have hl32 := nI.bytes_len
        generalize nI.bytes = BB at *
        have HLAY := Lib.hid hLay; have HI3 := Lib.hid hiff2; have HL32 := Lib.hid hl32
        clear hLay hrb hiff2 hl32
        by_cases heq : BB = xs
        · have hR : R = (nI, 0) := HY2.out (HI3.out.1 heq)
          have HRQ := Lib.hid hR
          obtain ⟨k, r, l, s, d0, d1, d2, d3, d4, d5, d6, d7, i, j⟩ := nI
          dsimp only [Ino.v, Ino.cs] at *
          clear hR
          go_wp2_with fail
          refine HLAY.out.mono ?_
          rintro e w6 ⟨a6, c6, rfl, ho6, hX6⟩
          dsimp only at ho6 ⊢
          rw [HL32.out] at ho6 ⊢
          have HR6 := Lib.hid (HROW.out.ext hX6)
          have XX6 := HXX5.out.trans hX6
          have e1 := run_conv_str (P := Try.prog) w6 33 9 5 Try.underlying33 Try.underlying5 Try.underlying9  c6 (ownsRow_sl ho6) HL32.out
          have e2 := run_conv_str (P := Try.prog) w6 33 9 5 Try.underlying33 Try.underlying5 Try.underlying9  cap (HSX.out.ext XX6) HL.out
          rw [heq] at e1
          have HRO6 := Lib.hid (HRO.out.ext hX6)
          obtain ⟨p0, p1, p2, p3, p4, p5, p6, p7, p8, p9, p10, p11, p12, p13⟩ := Ino.rowCells (n := ⟨k, r, l, s, d0, d1, d2, d3, d4, d5, d6, d7, i, j⟩) HRO6.out
          dsimp only at p0 p1 p2 p3 p4 p5 p6 p7 p8 p9 p10 p11 p12 p13
          clear ho6 heq
          go_wp2_with (refine wpList_store_row rfl _ _ _ rfl w.heap.size #[.int .u8 k, .int .u8 r, .int .i64 l, .int .i64 s, .int .i64 d0, .int .i64 d1, .int .i64 d2, .int .i64 d3, .int .i64 d4, .int .i64 d5, .int .i64 d6, .int .i64 d7, .int .i64 i, .int .i64 j] rfl rfl 39 #[.int .u8 0, .int .u8 0, .int .i64 0, .int .i64 0, .int .i64 0, .int .i64 0, .int .i64 0, .int .i64 0, .int .i64 0, .int .i64 0, .int .i64 0, .int .i64 0, .int .i64 0, .int .i64 0] HR6.out infoIno rfl (oneIno _ _ _ _ _ _ _ _ _ _ _ _ _ _) ?_)
          rw [HRQ.out]
          exact post_cell Try.results25 rfl rfl (HR6.out.setRow #[.int .u8 k, .int .u8 r, .int .i64 l, .int .i64 s, .int .i64 d0, .int .i64 d1, .int .i64 d2, .int .i64 d3, .int .i64 d4, .int .i64 d5, .int .i64 d6, .int .i64 d7, .int .i64 i, .int .i64 j]) Try.underlying39 rfl infoIno rfl ⟨rfl, XX6.setRow (Nat.le_refl _) #[.int .u8 k, .int .u8 r, .int .i64 l, .int .i64 s, .int .i64 d0, .int .i64 d1, .int .i64 d2, .int .i64 d3, .int .i64 d4, .int .i64 d5, .int .i64 d6, .int .i64 d7, .int .i64 i, .int .i64 j]⟩
        · have hR : R = (Ino.zero, 110) := HNO.out (fun e => heq (HI3.out.2 e))
          have hse : ((strOf BB).toList == (strOf xs).toList) = false := by rw [strOf_eq HBB.out HB.out]; simp [heq]
          have HRQ := Lib.hid hR
          obtain ⟨k, r, l, s, d0, d1, d2, d3, d4, d5, d6, d7, i, j⟩ := nI
          dsimp only [Ino.v, Ino.cs] at *
          clear hR
          go_wp2_with fail
          refine HLAY.out.mono ?_
          rintro e w6 ⟨a6, c6, rfl, ho6, hX6⟩
          dsimp only at ho6 ⊢
          rw [HL32.out] at ho6 ⊢
          have HR6 := Lib.hid (HROW.out.ext hX6)
          have XX6 := HXX5.out.trans hX6
          have e1 := run_conv_str (P := Try.prog) w6 33 9 5 Try.underlying33 Try.underlying5 Try.underlying9  c6 (ownsRow_sl ho6) HL32.out
          have e2 := run_conv_str (P := Try.prog) w6 33 9 5 Try.underlying33 Try.underlying5 Try.underlying9  cap (HSX.out.ext XX6) HL.out
          clear ho6 heq
          clear p0 p1 p2 p3 p4 p5 p6 p7 p8 p9 p10 p11 p12 p13
          go_wp2_with (refine wpList_store_row rfl _ _ _ rfl w.heap.size #[.int .u8 0, .int .u8 0, .int .i64 0, .int .i64 0, .int .i64 0, .int .i64 0, .int .i64 0, .int .i64 0, .int .i64 0, .int .i64 0, .int .i64 0, .int .i64 0, .int .i64 0, .int .i64 0] rfl rfl 39 #[.int .u8 0, .int .u8 0, .int .i64 0, .int .i64 0, .int .i64 0, .int .i64 0, .int .i64 0, .int .i64 0, .int .i64 0, .int .i64 0, .int .i64 0, .int .i64 0, .int .i64 0, .int .i64 0] HR6.out infoIno rfl oneZZ ?_)
          rw [HRQ.out]
          exact post_cell Try.results25 rfl rfl (HR6.out.setRow #[.int .u8 0, .int .u8 0, .int .i64 0, .int .i64 0, .int .i64 0, .int .i64 0, .int .i64 0, .int .i64 0, .int .i64 0, .int .i64 0, .int .i64 0, .int .i64 0, .int .i64 0, .int .i64 0]) Try.underlying39 rfl infoIno rfl ⟨rfl, XX6.setRow (Nat.le_refl _) #[.int .u8 0, .int .u8 0, .int .i64 0, .int .i64 0, .int .i64 0, .int .i64 0, .int .i64 0, .int .i64 0, .int .i64 0, .int .i64 0, .int .i64 0, .int .i64 0, .int .i64 0, .int .i64 0]⟩

theorem rTake_ino (a : Option Addr) (n cap : Nat) (xs : List Int) (w : World) (hl : xs.length = n) (hb : isBytes xs) (hs : Sl w a (ints .u8 xs)) :
    Calls Try.prog 25 #[.slice a n cap] w (GaveI w (Ino.takeR xs)) := by
  by_cases h : n = 32
  · subst h
    exact rTake_32 a cap xs w hl hb hs
  · exact rTake_len a n cap xs w hl h
end Go.Proofs.Ytdimnnnklhjnfaa.Ino
