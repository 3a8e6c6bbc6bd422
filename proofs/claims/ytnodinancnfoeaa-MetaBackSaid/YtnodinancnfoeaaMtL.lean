/- meta.Lay. -/
import Derived.Test.YtnodinancnfoeaaMtC
namespace Go.Proofs.Ytnodinancnfoeaa.Mt
open Go.RowKit Words Mem Plain Ops Agg OwnS Intern Ino
open Go.Proofs.Ytnodinancnfoeaa.Field
set_option linter.ambiguousOpen false
set_option linter.unusedVariables false
set_option linter.unusedSimpArgs false

def pairsI : List Ino → List (List Int)
  | a :: b :: L => (a.bytes ++ b.bytes) :: pairsI L
  | _ => []
theorem pairsI_len : ∀ (q : Nat) (L : List Ino), L.length = 2 * q → (pairsI L).length = q
  | 0, L, h => by
    obtain rfl : L = [] := List.eq_nil_of_length_eq_zero (by omega)
    rfl
  | q + 1, a :: b :: L, h => by
    show (pairsI L).length + 1 = q + 1
    rw [pairsI_len q L (by simp at h; omega)]
theorem pairsI_at : ∀ (q : Nat) (L : List Ino) (h : 2 * q + 1 < L.length) (h' : q < (pairsI L).length), (pairsI L)[q] = L[2 * q].bytes ++ L[2 * q + 1].bytes
  | 0, a :: b :: L, h, h' => rfl
  | q + 1, a :: b :: L, h, h' => by
    show (pairsI L)[q]'(by simpa [pairsI] using h') = _
    rw [pairsI_at q L (by simp at h; omega)]
    rfl
  | q, [], h, h' => by simp at h
  | q, [a], h, h' => by simp at h
def ownersB (M : MetaT) : List Int := M.owners ++ List.replicate (64 - M.owners.length) 0
def sectM (M : MetaT) : List (List Int) := layed 2 (numsR M.rows) :: ownersB M :: M.used :: pairsI M.inodes
def layM (J I G P : Int) (M : MetaT) : List (List Int) × Int := if rightM J I G P M = true then (sectM M, 0) else ([], 1)
theorem rightM_out {J I G P : Int} {M : MetaT} (h : rightM J I G P M = true) : Super.rightB J I G P = true ∧ Intern.rightB M.rows = true ∧ (M.owners.length : Int) = G ∧ M.used.length = 64 ∧ (M.inodes.length : Int) = I ∧ (∀ o ∈ M.owners, 0 ≤ o ∧ o ≤ 16) ∧ (∀ n ∈ M.inodes, n.rightB = true) ∧ Bit.countN M.used (G * P) 512 = 0 := by
  unfold rightM at h
  simp only [Bool.and_eq_true, decide_eq_true_eq, List.all_eq_true] at h
  obtain ⟨h1, h2, h3, h4, h5, h6, h7, h8⟩ := h
  exact ⟨h1, h2, h3, by omega, h5, fun o ho => by have := h6 o ho; simpa [ownB] using this, h7, h8⟩
theorem ownersB_step (L : List Int) (k : Nat) (hk : k < L.length) (h64 : L.length ≤ 64) : (ints .u8 (L.take k ++ List.replicate (64 - k) 0)).set k (.int .u8 L[k]) = ints .u8 (L.take (k + 1) ++ List.replicate (64 - (k + 1)) 0) := by
  have hl : (ints .u8 (L.take k ++ List.replicate (64 - k) 0)).length = 64 := by simp [ints_length]; omega
  apply List.ext_getElem?
  intro i
  rw [List.getElem?_set, ints_getElem?, ints_getElem?]
  by_cases h : k = i
  · subst h
    rw [if_pos rfl, if_pos (by rw [hl]; omega), List.getElem?_append_left (by simp; omega), List.getElem?_take, if_pos (by omega), List.getElem?_eq_getElem hk]
    rfl
  · rw [if_neg h]
    congr 1
    simp only [List.getElem?_append, List.length_take, List.getElem?_replicate, List.getElem?_take]
    repeat' split
    all_goals first | rfl | omega

set_option maxHeartbeats 8000000 in
set_option maxRecDepth 100000 in
theorem Lay_ok (J I G P : Int) (p : Pl) (M : MetaT) (w : World) (h : MetaIn w p M) :
    Calls Try.prog 13 #[Super.geoV J I G P, metaV p M] w fun e w' => ∃ a cap, e = .returned (.tuple #[.slice a (layM J I G P M).1.length cap, .int .i64 (layM J I G P M).2]) ∧ SecsAt w' w.heap.size a (layM J I G P M).1.length cap (layM J I G P M).1 ∧ Ext w w' := by
  obtain ⟨hbox, hbx⟩ := BoxAt.new w J I G P p M
  have hright := Right_ok J I G P p M (boxW w J I G P p M) (h.ext hbx)
  have HBX := Lib.hid hbx
  have HBOX := Lib.hid hbox
  have HIN := Lib.hid h
  clear hbox hbx h
  cases hr : rightM J I G P M
  · have HV := Lib.hid (show layM J I G P M = ([], 1) by unfold layM; rw [hr]; rfl)
    rw [hr] at hright
    go_enter Try.func13, Try.ntmps13
    go_wp2_with fail
    refine hright.mono ?_
    rintro e w2 ⟨rfl, h2⟩
    have H2 := Lib.hid (HBX.out.trans h2)
    clear h2 hright
    go_wp2
    go_ret2
    rw [HV.out]
    exact ⟨none, 0, rfl, ⟨rfl, [], rfl, ownS_nil _ _ _ _, fun i hi => absurd hi (by simp)⟩, H2.out⟩
  have HV := Lib.hid (show layM J I G P M = (sectM M, 0) by unfold layM; rw [if_pos hr])
  obtain ⟨r1, r2, r3, r4, r5, r6, r7, r8⟩ := rightM_out hr
  have HBD := Lib.hid (Super.right_bd r1)
  have HR := Lib.hid r2
  have HRO := Lib.hid r6
  have HRI := Lib.hid r7
  have H64 := Lib.hid r4
  rw [hr] at hright
  obtain ⟨no, hno⟩ : ∃ q, q = M.owners.length := ⟨_, rfl⟩
  obtain ⟨ni, hni⟩ : ∃ q, q = M.inodes.length := ⟨_, rfl⟩
  have HNO := Lib.hid hno
  have HNI := Lib.hid hni
  have hrl := Intern.rowsLay_yes r2
  have h32 : (layed 2 (numsR M.rows)).length = 64 := by rw [length_layed, numsR_length, ((right_iff _).1 r2).1]
  have HROWL := Lib.hid (fun (v : World) (hv : Ext w v) => (show Calls Try.prog 25 #[.slice p.ra M.rows.length p.rc] v (Gave .u8 5 v (layed 2 (numsR M.rows), 0)) from hrl ▸ RLay_ok M.rows p.ra p.rc v (by have := HIN.out.few; omega) (HIN.out.rows.ext hv) HIN.out.wfr))
  have H32 := Lib.hid h32
  clear hr r1 r2 r4 r6 r7 r8 hrl h32
  rw [← hno] at r3
  rw [← hni] at r5
  clear hno hni
  subst r3
  subst r5
  have hno64 : no ≤ 64 := by have := HBD.out; omega
  have hni64 : ni ≤ 64 := by have := HBD.out; omega
  obtain ⟨nq, hnq⟩ : ∃ q, ni = 2 * q := ⟨ni / 2, by have := HBD.out; omega⟩
  have HNQ := Lib.hid hnq
  clear hnq
  go_enter Try.func13, Try.ntmps13
  go_wp2_with fail
  refine hright.mono ?_
  rintro e w2 ⟨rfl, h2⟩
  have H2 := Lib.hid (HBX.out.trans h2)
  have HBOX2 := Lib.hid (HBOX.out.ext h2)
  have hrl := HROWL.out w2 (HBX.out.trans h2)
  obtain ⟨⟨g0, g1, g2, g3⟩, m0, m1, m2, m3⟩ := HBOX2.out
  clear h2 hright HBOX HROWL
  go_wp2_with fail
  refine hrl.mono ?_
  rintro e w3 ⟨ar, cr, rfl, ho3, h3⟩
  dsimp only at ho3 ⊢
  rw [H32.out] at ho3 ⊢
  have HO3 := Lib.hid ho3
  have H3 := Lib.hid (H2.out.trans h3)
  have HBOX3 := Lib.hid (HBOX2.out.ext h3)
  have HX23 := Lib.hid h3
  clear g0 g1 g2 g3 m0 m1 m2 m3 ho3 h3 hrl
  obtain ⟨⟨g0, g1, g2, g3⟩, m0, m1, m2, m3⟩ := HBOX3.out
  rw [← HNO.out] at m1
  have hmk := run_make_ints (P := Try.prog) w3 26 5 .u8 1 Try.underlying26 infoBC .i64 .i64 64 64 rfl (by decide) (by decide)
  have hrow4 := Row.new w3 5 (ints .u8 (List.replicate 64 0))
  have hX4 := (Ext.refl w3).alloc (.cells (ints .u8 (List.replicate 64 0)).toArray 5)
  have HBOX4 := Lib.hid (HBOX3.out.ext hX4)
  have HRW4 := Lib.hid hrow4
  have HX4 := Lib.hid hX4
  clear hrow4 hX4 g0 g1 g2 g3 m0 m1 m2 m3
  generalize hw4 : w3.alloc (.cells (ints .u8 (List.replicate 64 0)).toArray 5) = w4 at *
  clear hw4
  obtain ⟨go, hgo⟩ : ∃ q, q = w3.heap.size := ⟨_, rfl⟩
  have HGO := Lib.hid hgo
  rw [← hgo] at hmk HRW4
  obtain ⟨⟨g0, g1, g2, g3⟩, m0, m1, m2, m3⟩ := HBOX4.out
  rw [← HNO.out] at m1
  clear hgo
  go_wp2_with fail
  go_loopw [31] (fun v wr => ∃ k : Nat, k ≤ no ∧ v = .int .i64 k ∧ Row wr go 5 (ints .u8 (M.owners.take k ++ List.replicate (64 - k) 0)) ∧ Ext w3 wr) (fun v _ => no - (intOf v).toNat)
  case atStart => exact ⟨0, by omega, rfl, by simpa using HRW4.out, HX4.out⟩
  case round =>
    obtain ⟨k, hk, rfl, hrow, hX⟩ := hrel
    have HX := Lib.hid hX
    clear hX g0 g1 g2 g3 m0 m1 m2 m3
    by_cases hlt : k < no
    · have hkL : k < M.owners.length := by rw [← HNO.out]; exact hlt
      obtain ⟨bo, oo, hoa, hoc⟩ := (HIN.out.owners.ext (H3.out.trans HX.out)).ints (by omega)
      have hcell := hoc k hkL
      have hob := HRO.out _ (List.getElem_mem hkL)
      have hst := ownersB_step M.owners k hkL (by rw [← HNO.out]; exact hno64)
      generalize M.owners[k] = o at *
      have hlen : (ints .u8 (M.owners.take k ++ List.replicate (64 - k) 0)).length = 64 := by simp [ints_length]; omega
      obtain ⟨cc, hcc⟩ : ∃ v, wr.cell? ⟨go, k, none⟩ = some v := ⟨_, hrow.cell (by rw [hlen]; omega)⟩
      have hfz := hrow.frozen k
      have hr2 := Row.set hrow k (.int .u8 o)
      rw [hst] at hr2
      have HR2 := Lib.hid hr2
      have HX2 := Lib.hid (Ext.setCell HX.out (p := ⟨go, k, none⟩) (by rw [HGO.out]; exact Nat.le_refl _) (.int .u8 o))
      have hw8 : IntKind.u8.wrap o = o := IntWalk.u8_in _ (by omega)
      have hk64 : (k : Int) < 64 := by omega
      rw [hoa]
      clear hrow hst hr2 hoc hkL hoa hlen
      go_wp2
      go_roundw
      case rel => exact ⟨k + 1, hlt, by go_num, HR2.out, HX2.out⟩
      case measure => simp [intOf]; omega
    · obtain rfl : k = no := by omega
      have HOB := Lib.hid (show Row wr go 5 (ints .u8 (ownersB M)) from by
        have := hrow
        rw [List.take_of_length_le (by rw [← HNO.out]; exact Nat.le_refl _)] at this
        unfold ownersB
        rw [← HNO.out]
        exact this)
      clear hrow hk hlt
      have HBOX5 := Lib.hid (HBOX3.out.ext HX.out)
      obtain ⟨⟨g0, g1, g2, g3⟩, m0, m1, m2, m3⟩ := HBOX5.out
      rw [H64.out] at m2
      have hcl := CloneB_ok p.ua 64 p.uc (ints .u8 M.used) wr (by rw [ints_length, H64.out]) (HIN.out.used.ext (H3.out.trans HX.out)) (ints_oneCell' _ _) (by rw [← H64.out]; exact HIN.out.nil.2.2.1) (by decide)
      go_wp2_with fail
      refine hcl.mono ?_
      rintro e w6 ⟨ac, cc, rfl, ho6, h6⟩
      have HX6 := Lib.hid (HX.out.trans h6)
      have HO6 := Lib.hid ho6
      have HO3' := Lib.hid (ownS_ext HO3.out (HX.out.trans h6))
      have HOB6 := Lib.hid (HOB.out.ext h6)
      clear hcl ho6 h6 g0 g1 g2 g3 m0 m1 m2 m3
      obtain ⟨br, hbr⟩ : ∃ q, ar = some ⟨q, 0, none⟩ := by
        rcases ownS_cases HO3.out with ⟨_, e, _⟩ | ⟨q, _, e, _⟩
        · cases e
        · exact ⟨q, e⟩
      obtain ⟨bc, hbc⟩ : ∃ q, ac = some ⟨q, 0, none⟩ := by
        rcases ownS_cases HO6.out with ⟨_, e, _⟩ | ⟨q, _, e, _⟩
        · cases e
        · exact ⟨q, e⟩
      subst hbr hbc
      have hX7 := (Ext.refl w6).alloc (.cells #[.slice (some ⟨br, 0, none⟩) 64 cr, .slice (some ⟨go, 0, none⟩) 64 64, .slice (some ⟨bc, 0, none⟩) 64 cc] 26)
      have hrow7 := Row.new w6 26 (slVs [(br, cr), (go, 64), (bc, cc)])
      have HS7 := Lib.hid (show SecsAt (w6.alloc (.cells #[.slice (some ⟨br, 0, none⟩) 64 cr, .slice (some ⟨go, 0, none⟩) 64 64, .slice (some ⟨bc, 0, none⟩) 64 cc] 26)) w2.heap.size (some ⟨w6.heap.size, 0, none⟩) 3 3 [layed 2 (numsR M.rows), ownersB M, M.used] from by
        refine ⟨rfl, [(br, cr), (go, 64), (bc, cc)], rfl, ownS_of hrow7 (HX23.out.trans HX6.out).size rfl (by decide), fun i hi hi' => ?_⟩
        have z1 := (ownS_lt HO3'.out _ rfl)
        have z2 := (ownS_lt HO6.out _ rfl)
        have z3 := HOB6.out.lt
        dsimp only at z1 z2
        have s2 := H2.out.size
        have s3 := HX23.out.size
        have sX := (HX23.out.trans HX.out).size
        have hOBL : (ownersB M).length = 64 := by unfold ownersB; rw [List.length_append, List.length_replicate, ← HNO.out]; omega
        match i, hi, hi' with
        | 0, _, _ => exact ⟨ownS_ext HO3'.out hX7, H32.out, fun ad e => by cases e; show br ≠ w6.heap.size; omega⟩
        | 1, _, _ => exact ⟨ownS_of (HOB6.out.ext hX7) (by rw [HGO.out]; exact s3) (by rw [ints_length]; exact hOBL) (by decide), hOBL, fun ad e => by cases e; show go ≠ w6.heap.size; omega⟩
        | 2, _, _ => exact ⟨ownS_base (ownS_ext HO6.out hX7) sX, H64.out, fun ad e => by cases e; show bc ≠ w6.heap.size; omega⟩)
      have HX7 := Lib.hid (HX6.out.trans hX7)
      clear hX7 hrow7 HO3' HO6 HOB6
      go_wp2_with fail
      generalize hw7 : w6.alloc (.cells #[.slice (some ⟨br, 0, none⟩) 64 cr, .slice (some ⟨go, 0, none⟩) 64 64, .slice (some ⟨bc, 0, none⟩) 64 cc] 26) = w7 at *
      clear hw7
      have HS0 := Lib.hid (show sectM M = [layed 2 (numsR M.rows), ownersB M, M.used] ++ pairsI M.inodes from rfl)
      have HPL := Lib.hid (pairsI_len nq M.inodes (by rw [← HNI.out]; exact HNQ.out))
      have HNQ2 := Lib.hid (show nq ≤ 32 by have := HNQ.out; omega)
      go_loopw [12, 11] (fun v u w8 => ∃ (q i0 n3 : Nat) (a : Option Addr) (cap : Nat), q ≤ nq ∧ i0 = 2 * q ∧ n3 = 3 + q ∧ v = .int .i64 i0 ∧ u = .slice a n3 cap ∧ SecsAt w8 w2.heap.size a n3 cap ([layed 2 (numsR M.rows), ownersB M, M.used] ++ (pairsI M.inodes).take q) ∧ Ext w2 w8) (fun v _ _ => ni - (intOf v).toNat)
      case atStart => exact ⟨0, 0, 3, _, _, by omega, by omega, by omega, rfl, rfl, by simpa using HS7.out, HX23.out.trans HX7.out⟩
      case round =>
        obtain ⟨q, i0, n3, a, cap, hq, hi0, hn3, rfl, rfl, hS, hX8⟩ := hrel
        have HS := Lib.hid hS
        have HX8 := Lib.hid hX8
        have HI0 := Lib.hid hi0
        have HN3 := Lib.hid hn3
        have HQ := Lib.hid hq
        clear hS hX8 hi0 hn3 hq
        have HBOX8 := Lib.hid (HBOX2.out.ext HX8.out)
        obtain ⟨⟨g0, g1, g2, g3⟩, m0, m1, m2, m3⟩ := HBOX8.out
        rw [← HNI.out] at m3
        have hEx := H2.out.trans HX8.out
        have HEX := Lib.hid hEx
        clear g0 g1 g2 g3 m0 m1 m2
        by_cases hlt : i0 < ni
        · have hqn : q < nq := by have := HI0.out; have := HNQ.out; omega
          have hi1 : i0 + 1 < ni := by have := HI0.out; have := HNQ.out; omega
          have hjL : i0 + 1 < M.inodes.length := by rw [← HNI.out]; exact hi1
          have hfl : (flat inoC M.inodes).length = M.inodes.length * 14 := flat_length inoC_len _
          obtain ⟨bi, oi, hia, hic⟩ := (HIN.out.inodes.ext hEx).at (by omega)
          have hrg : ∀ (x : Nat) (hx : x < M.inodes.length), wr.rangeAt bi (oi + x * 14) (inoC M.inodes[x]) := fun x hx q v hv => by
            have hq : q < 14 := by have := (List.getElem?_eq_some_iff.1 hv).1; rw [inoC_len] at this; exact this
            have := hic (x * 14 + q) (by rw [hfl]; have : (x + 1) * 14 ≤ M.inodes.length * 14 := Nat.mul_le_mul_right 14 hx; omega)
            rw [Nat.add_assoc, this, ← hv, ← flat_at inoC_len M.inodes x hx q hq, List.getElem?_eq_getElem]
          have hr1 := hrg i0 (by omega)
          have hr2 := hrg (i0 + 1) hjL
          have hwn1 := HIN.out.wfi _ (List.getElem_mem (show i0 < M.inodes.length by omega))
          have hwn2 := HIN.out.wfi _ (List.getElem_mem hjL)
          have hrn1 := HRI.out _ (List.getElem_mem (show i0 < M.inodes.length by omega))
          have hrn2 := HRI.out _ (List.getElem_mem hjL)
          have HPQ := Lib.hid (show (pairsI M.inodes).take (q + 1) = (pairsI M.inodes).take q ++ [M.inodes[i0].bytes ++ M.inodes[i0 + 1].bytes] from by
            rw [List.take_succ_eq_append_getElem (by rw [HPL.out]; exact hqn), pairsI_at q _ (by have := HI0.out; omega)]
            simp only [HI0.out])
          have HIA := Lib.hid hia
          rw [hia] at m3 ⊢
          generalize M.inodes[i0 + 1] = n2 at *
          generalize M.inodes[i0]'(by omega) = n1 at *
          clear hrg hic hfl hjL hia hEx
          have HN1 := Lib.hid (show ∀ v : World, Calls Try.prog 27 #[n1.v] v (Gave .u8 5 v (n1.bytes, 0)) from fun v => Ino.layR_yes hrn1 ▸ Lay_ino n1 v hwn1)
          have HN2 := Lib.hid (show ∀ v : World, Calls Try.prog 27 #[n2.v] v (Gave .u8 5 v (n2.bytes, 0)) from fun v => Ino.layR_yes hrn2 ▸ Lay_ino n2 v hwn2)
          have HRG1 := Lib.hid (show wr.rangeAt bi (oi + i0 * 14) [.int .u8 n1.k, .int .u8 n1.r, .int .i64 n1.l, .int .i64 n1.s, .int .i64 n1.d0, .int .i64 n1.d1, .int .i64 n1.d2, .int .i64 n1.d3, .int .i64 n1.d4, .int .i64 n1.d5, .int .i64 n1.d6, .int .i64 n1.d7, .int .i64 n1.i, .int .i64 n1.j] from hr1)
          have HRG2 := Lib.hid (show wr.rangeAt bi (oi + (i0 + 1) * 14) [.int .u8 n2.k, .int .u8 n2.r, .int .i64 n2.l, .int .i64 n2.s, .int .i64 n2.d0, .int .i64 n2.d1, .int .i64 n2.d2, .int .i64 n2.d3, .int .i64 n2.d4, .int .i64 n2.d5, .int .i64 n2.d6, .int .i64 n2.d7, .int .i64 n2.i, .int .i64 n2.j] from hr2)
          clear hr1 hr2 hwn1 hwn2 hrn1 hrn2
          have hcall := HN1.out wr
          go_wp2_with (first
            | (refine wpList_load_mid rfl 48 _ rfl bi (oi + i0 * 14) rfl [.int .u8 n1.k, .int .u8 n1.r, .int .i64 n1.l, .int .i64 n1.s, .int .i64 n1.d0, .int .i64 n1.d1, .int .i64 n1.d2, .int .i64 n1.d3, .int .i64 n1.d4, .int .i64 n1.d5, .int .i64 n1.d6, .int .i64 n1.d7, .int .i64 n1.i, .int .i64 n1.j] _ HRG1.out Try.underlying48 rfl infoIno ?_)
            | fail)
          refine hcall.mono ?_
          rintro e w9 ⟨b1, c1, rfl, ho9, h9⟩
          dsimp only at ho9 ⊢
          rw [Ino.bytes_len] at ho9 ⊢
          have HO9 := Lib.hid ho9
          have HX9 := Lib.hid h9
          have HBOX9 := Lib.hid (HBOX8.out.ext h9)
          have HRG3 := Lib.hid (show w9.rangeAt bi (oi + (i0 + 1) * 14) [.int .u8 n2.k, .int .u8 n2.r, .int .i64 n2.l, .int .i64 n2.s, .int .i64 n2.d0, .int .i64 n2.d1, .int .i64 n2.d2, .int .i64 n2.d3, .int .i64 n2.d4, .int .i64 n2.d5, .int .i64 n2.d6, .int .i64 n2.d7, .int .i64 n2.i, .int .i64 n2.j] from fun q v hv => h9.keep (HRG2.out q v hv))
          clear hcall ho9 h9 m3
          obtain ⟨⟨g0, g1, g2, g3⟩, m0, m1, m2, m3⟩ := HBOX9.out
          rw [← HNI.out] at m3
          have hpia : p.ia = some ⟨bi, oi, none⟩ := HIA.out
          rw [hpia] at m3
          clear g0 g1 g2 g3 m0 m1 m2 hpia
          have hcall := HN2.out w9
          have hwi : IntKind.i64.wrap ((i0 : Int) + 1) = (i0 : Int) + 1 := IntWalk.i64_in _ (by omega)
          have hi1' : (i0 : Int) + 1 < ni := by omega
          have hi0' : (0 : Int) ≤ (i0 : Int) + 1 := by omega
          go_wp2_with (first
            | (refine wpList_load_mid rfl 48 _ rfl bi (oi + (i0 + 1) * 14) rfl [.int .u8 n2.k, .int .u8 n2.r, .int .i64 n2.l, .int .i64 n2.s, .int .i64 n2.d0, .int .i64 n2.d1, .int .i64 n2.d2, .int .i64 n2.d3, .int .i64 n2.d4, .int .i64 n2.d5, .int .i64 n2.d6, .int .i64 n2.d7, .int .i64 n2.i, .int .i64 n2.j] _ HRG3.out Try.underlying48 rfl infoIno ?_)
            | fail)
          refine hcall.mono ?_
          rintro e w10 ⟨b2, c2, rfl, ho10, h10⟩
          dsimp only at ho10 ⊢
          rw [Ino.bytes_len] at ho10 ⊢
          have HO9' := ownS_ext HO9.out h10
          have hb2 : b2 = none → 32 = 0 ∧ c2 = 0 := fun e => by
            subst e
            rcases ownS_cases ho10 with ⟨_, e, _⟩ | ⟨q, _, e, _⟩ <;> cases e
          obtain ⟨b3, c3, w11, hap1, ho11, hg11, _⟩ := run_append_s (P := Try.prog) w10 wr.heap.size 1 (by decide) 26 26 5 _ 1 Try.underlying26 infoBC rfl HO9' (m := 32) c2 (news := ints .u8 n2.bytes) (by rw [ints_length, Ino.bytes_len]) (ownsRow_sl ho10) hb2 (ints_oneCell' _ _) (by omega) (by omega) (HX9.out.trans h10).size
          have h11 : Ext wr w11 := Ext_grown (HX9.out.trans h10) (Nat.le_refl _) (HX9.out.trans h10).size hg11 (fun z hz => by
            cases b1 with
            | none => simp [Value.ownBlock] at hz
            | some a0 =>
              simp [Value.ownBlock] at hz
              subst hz
              exact (ownS_lt HO9' a0 rfl).1)
          rw [show (32 + 32 : Nat) = 64 from rfl] at hap1 ho11
          rw [← ints_append] at ho11
          obtain ⟨bb, hbb⟩ : ∃ z, b3 = some ⟨z, 0, none⟩ := by
            rcases ownS_cases ho11 with ⟨_, e, _⟩ | ⟨z, _, e, _⟩
            · cases e
            · exact ⟨z, e⟩
          subst hbb
          have hIn : InAt w11 w2.heap.size a (bb, c3) (n1.bytes ++ n2.bytes) := ⟨ownS_base ho11 HX8.out.size, by rw [List.length_append, Ino.bytes_len, Ino.bytes_len], fun ad e => by
            have z1 := (ownS_lt ho11 _ rfl).1
            obtain ⟨_, H, _, hoH, _⟩ := HS.out
            have z2 := (ownS_lt hoH ad e).2
            dsimp only at z1 ⊢
            omega⟩
          obtain ⟨a', cap', w12, hap2, hS12, hE12⟩ := (HS.out.ext h11).more (by have := HN3.out; have := HNQ2.out; omega) hIn (HX8.out.trans h11).size rfl
          have HX12 := Lib.hid (hE12 w2 (HX8.out.trans h11) (Nat.le_refl _))
          rw [List.append_assoc, ← HPQ.out] at hS12
          have HS12 := Lib.hid hS12
          clear hIn ho11 h11 HO9' ho10 h10 hcall hS12 hE12 hg11 hb2
          go_wp2_with (first
            | (at_builtin; refine Guard.wpList_append_want _ rfl _ _ _ _ rfl _ _ rfl rfl _ _ hap1 ?_)
            | (at_builtin; refine Guard.wpList_append_want _ rfl _ _ _ _ rfl _ _ rfl rfl _ _ hap2 ?_))
          go_roundw
          case rel => exact ⟨q + 1, i0 + 2, n3 + 1, a', cap', hqn, by have := HI0.out; omega, by have := HN3.out; omega, by go_num, rfl, HS12.out, HX12.out⟩
          case measure => simp [intOf]; omega
        · have hqn : q = nq := by have := HI0.out; have := HNQ.out; have := HQ.out; omega
          have HFIN := Lib.hid (show SecsAt wr w2.heap.size a n3 cap (sectM M) from by
            have := HS.out
            rw [hqn, List.take_of_length_le (by rw [HPL.out]; exact Nat.le_refl _), ← HS0.out] at this
            exact this)
          have HLN := Lib.hid HFIN.out.len
          clear hqn
          go_wp2
          go_ret2
          rw [HV.out]
          dsimp only
          rw [HLN.out]
          exact ⟨a, cap, rfl, HFIN.out.low H2.out.size, HEX.out⟩
end Go.Proofs.Ytnodinancnfoeaa.Mt
