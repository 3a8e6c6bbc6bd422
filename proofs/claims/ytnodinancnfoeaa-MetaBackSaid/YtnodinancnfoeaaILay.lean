/- Contracts: inode.Lay, moatref11.Lay. -/
import Derived.Test.YtnodinancnfoeaaRight
import Derived.Test.YtnodinancnfoeaaFillR
import Derived.Laws.BitsAllLaws
namespace Go.Proofs.Ytnodinancnfoeaa.Ino
open Go.RowKit Words Mem Plain Ops
open Go.Proofs.Ytnodinancnfoeaa.Field
set_option linter.ambiguousOpen false
set_option linter.unusedVariables false
set_option linter.unusedSimpArgs false

theorem Ino.layR_no {n : Ino} (h : n.rightB = false) : n.layR = ([], 1) := by unfold Ino.layR; rw [if_neg (by rw [h]; simp)]
theorem Ino.layR_yes {n : Ino} (h : n.rightB = true) : n.layR = (n.bytes, 0) := by unfold Ino.layR; rw [if_pos h]
theorem Lay_bad (n : Ino) (w : World) (h : n.rightB = false) : Calls Try.prog 27 #[n.v] w (Gave .u8 5 w n.layR) := by
  rw [Ino.layR_no h]
  have hR := Right_ok n
  rw [h] at hR
  obtain ⟨k, r, l, s, d0, d1, d2, d3, d4, d5, d6, d7, i, j⟩ := n
  dsimp only [Ino.v, Ino.cs] at *
  go_enter Try.func27, Try.ntmps27
  go_wp2_with fail
  refine (hR _).mono ?_
  rintro e w2 ⟨rfl, hX2⟩
  have X2 := ((Ext.refl w).alloc _).trans hX2
  go_wp2_with fail
  go_ret2
  exact Gave.nil rfl X2
theorem rLay_bad (n : Ino) (w : World) (h : n.rightB = false) : Calls Try.prog 30 #[n.v] w (Gave .u8 5 w n.layR) := by
  rw [Ino.layR_no h]
  have hR := rRight_ok n
  rw [h] at hR
  obtain ⟨k, r, l, s, d0, d1, d2, d3, d4, d5, d6, d7, i, j⟩ := n
  dsimp only [Ino.v, Ino.cs] at *
  go_enter Try.func30, Try.ntmps30
  go_wp2_with fail
  refine (hR _).mono ?_
  rintro e w2 ⟨rfl, hX2⟩
  have X2 := ((Ext.refl w).alloc _).trans hX2
  go_wp2_with fail
  go_ret2
  exact Gave.nil rfl X2

/-- The cells of a block that holds an inode, in a later world. -/
theorem inoKept {w w2 : World} {k r l s d0 d1 d2 d3 d4 d5 d6 d7 i j : Int} (h : Ext (w.alloc (.cells #[.int .u8 k, .int .u8 r, .int .i64 l, .int .i64 s, .int .i64 d0, .int .i64 d1, .int .i64 d2, .int .i64 d3, .int .i64 d4, .int .i64 d5, .int .i64 d6, .int .i64 d7, .int .i64 i, .int .i64 j] 48)) w2) :
    w.heap.size < w2.heap.size ∧ w2.cell? ⟨w.heap.size, 0, none⟩ = some (.int .u8 k) ∧ w2.cell? ⟨w.heap.size, 1, none⟩ = some (.int .u8 r) ∧ w2.cell? ⟨w.heap.size, 2, none⟩ = some (.int .i64 l) ∧ w2.cell? ⟨w.heap.size, 3, none⟩ = some (.int .i64 s) ∧ w2.cell? ⟨w.heap.size, 4, none⟩ = some (.int .i64 d0) ∧ w2.cell? ⟨w.heap.size, 5, none⟩ = some (.int .i64 d1) ∧ w2.cell? ⟨w.heap.size, 6, none⟩ = some (.int .i64 d2) ∧ w2.cell? ⟨w.heap.size, 7, none⟩ = some (.int .i64 d3) ∧ w2.cell? ⟨w.heap.size, 8, none⟩ = some (.int .i64 d4) ∧ w2.cell? ⟨w.heap.size, 9, none⟩ = some (.int .i64 d5) ∧ w2.cell? ⟨w.heap.size, 10, none⟩ = some (.int .i64 d6) ∧ w2.cell? ⟨w.heap.size, 11, none⟩ = some (.int .i64 d7) ∧ w2.cell? ⟨w.heap.size, 12, none⟩ = some (.int .i64 i) ∧ w2.cell? ⟨w.heap.size, 13, none⟩ = some (.int .i64 j) := by
  have hlt : w.heap.size < (w.alloc (.cells #[.int .u8 k, .int .u8 r, .int .i64 l, .int .i64 s, .int .i64 d0, .int .i64 d1, .int .i64 d2, .int .i64 d3, .int .i64 d4, .int .i64 d5, .int .i64 d6, .int .i64 d7, .int .i64 i, .int .i64 j] 48)).heap.size := by simp
  refine ⟨Nat.lt_of_lt_of_le hlt h.size, ?_, ?_, ?_, ?_, ?_, ?_, ?_, ?_, ?_, ?_, ?_, ?_, ?_, ?_⟩
  all_goals (rw [h.cell (p := ⟨w.heap.size, _, none⟩) hlt]; go_simp)

theorem or_kr (k r : Int) (k0 : 0 ≤ k) (k1 : k < 256) (r0 : 0 ≤ r) (r1 : r < 256) : bits .or .u64 k (r * 256) = k + 256 * r := by
  have h := or_join k r 1 (by decide) k0 (by rw [p1]; exact k1) r0 r1
  rw [p1] at h
  rw [← h, show (2 : Int) ^ (8 * 1) = 256 from rfl, IntKind.wrap_u64, Int.emod_eq_of_lt (by omega) (by omega)]

set_option maxHeartbeats 2000000 in
theorem Lay_good (n : Ino) (w : World) (hw : n.wf) (h : n.rightB = true) : Calls Try.prog 27 #[n.v] w (Gave .u8 5 w n.layR) := by
  rw [Ino.layR_yes h]
  have hP := Ino.right_of h
  have hbd := Ino.nums_bd hw hP
  have hR := Right_ok n
  rw [h] at hR
  have hix := idx8 n.d0 n.d1 n.d2 n.d3 n.d4 n.d5 n.d6 n.d7
  have hD : n.D = [n.d0, n.d1, n.d2, n.d3, n.d4, n.d5, n.d6, n.d7] := rfl
  have hnum : n.nums = [n.k + 256 * n.r, n.l, n.s] ++ n.D ++ [n.i, n.j] := rfl
  rw [← hD] at hix
  have hl8 : n.D.length = 8 := rfl
  have hby : n.bytes = filled (layed 2 n.nums) 32 := rfl
  obtain ⟨h1, h2, h3, h4, h5, h6, h7, h8, h9, h10⟩ := hP
  have qi := ptrB_true h9
  have qj := ptrB_true h10
  have hor := or_kr n.k n.r hw.1.1 hw.1.2 hw.2.1 hw.2.2
  obtain ⟨⟨k0, k1⟩, r0, r1⟩ := hw
  generalize n.nums = NN at *
  generalize n.bytes = BB at *
  generalize n.D = D at *
  obtain ⟨k, r, l, s, d0, d1, d2, d3, d4, d5, d6, d7, i, j⟩ := n
  dsimp only [Ino.v, Ino.cs] at *
  have H8 := Lib.hid h8; have HIX := Lib.hid hix; have HNUM := Lib.hid hnum; have HL8 := Lib.hid hl8; have HBY := Lib.hid hby; have HBD := Lib.hid hbd
  clear h h2 h8 h9 h10 hD hix hnum hl8 hby hbd
  go_enter Try.func27, Try.ntmps27
  go_wp2_with fail
  refine (hR _).mono ?_
  rintro e w2 ⟨rfl, hX2⟩
  clear hR
  have X2 := ((Ext.refl w).alloc _).trans hX2
  obtain ⟨hlt, c0, c1, c2, c3, c4, c5, c6, c7, c8, c9, c10, c11, c12, c13⟩ := inoKept hX2
  clear hX2
  go_wp2_with fail
  have r1 : Row (w2.alloc (.cells #[.int .u64 (k + 256 * r), .int .u64 l, .int .u64 s] 76)) w2.heap.size 76 (ints .u64 [k + 256 * r, l, s]) := Row.new w2 76 (ints .u64 [k + 256 * r, l, s])
  have o1 := ownsRow_of (n := 3) (base := w2.heap.size) r1 (Nat.le_refl _) rfl (by decide)
  have X3 := (Ext.refl w2).alloc (.cells #[.int .u64 (k + 256 * r), .int .u64 l, .int .u64 s] 76)
  generalize w2.alloc (.cells #[.int .u64 (k + 256 * r), .int .u64 l, .int .u64 s] 76) = w3 at *
  clear c0 c1 c2 c3 c4 c5 c6 c7 c8 c9 c10 c11 hor r1
  have C12 := Lib.hid c12; have C13 := Lib.hid c13
  clear c12 c13
  go_loopw [4, 29] (fun u v wr => ∃ (m c q : Nat) (ao : Option Addr), m ≤ 8 ∧ q = 3 + m ∧ v = .int .i64 m ∧ u = .slice ao q c ∧ wr.ownsRow w2.heap.size 76 1 (.slice ao q c) q (ints .u64 ([k + 256 * r, l, s] ++ D.take m)) ∧ Ext w2 wr) (fun _ v _ => 8 - (intOf v).toNat)
  case atStart => exact ⟨0, 3, 3, _, by omega, rfl, rfl, rfl, by simpa using o1, X3⟩
  case round =>
    obtain ⟨m, c, q, ao, hm, hq, rfl, rfl, hown, hX⟩ := hrel
    by_cases hlt8 : m < 8
    · obtain ⟨x, hx, hi⟩ := HIX.out m hlt8
      have hpx := ptrB_true (H8.out x (List.mem_of_getElem? hx))
      have hts : Hid (D.take (m + 1) = D.take m ++ [x]) := by
        obtain ⟨h1, h2⟩ := List.getElem?_eq_some_iff.1 hx
        show D.take (m + 1) = _
        rw [List.take_succ_eq_append_getElem h1, h2]
      obtain ⟨wo, rfl⟩ : ∃ wo : World, wo = wr := ⟨_, rfl⟩
      obtain ⟨a', c', w4, hrun, hown', hext⟩ := run_append_one (P := Try.prog) wo w2.heap.size 73 73 76 .u64 8 Try.underlying73 info64 hown x (by omega) (by omega) hX.size
      have hX' := hext w2 hX (Nat.le_refl _)
      rw [List.append_assoc, ← hts.out] at hown'
      obtain ⟨x0, x1⟩ := hpx
      have HQ := Lib.hid hq
      have hq2 : q ≤ 11 := by omega
      clear hext hown hx hq
      go_wp2_with (at_builtin; refine Lib.wpList_append_run _ rfl _ _ _ _ rfl _ _ rfl rfl _ _ hrun ?_)
      go_roundw
      case rel => exact ⟨m + 1, c', q + 1, a', hlt8, by have := HQ.out; omega, by go_num, rfl, hown', hX'⟩
      case measure => simp [intOf]; omega
    · have hm8 : m = 8 := by omega
      subst hm8
      subst hq
      have htk : Hid (D.take 8 = D) := List.take_of_length_le (by rw [HL8.out]; exact Nat.le_refl _)
      rw [htk.out] at hown
      have d12 := hX.keep C12.out
      have d13 := hX.keep C13.out
      have r2 : Row (wr.alloc (.cells #[.int .u64 i, .int .u64 j] 76)) wr.heap.size 76 (ints .u64 [i, j]) := Row.new wr 76 (ints .u64 [i, j])
      obtain ⟨a', c', w4, hrun, hown', hext⟩ := run_append_sl (P := Try.prog) (wr.alloc (.cells #[.int .u64 i, .int .u64 j] 76)) w2.heap.size 73 73 76 (.int .u64 0) 8 Try.underlying73 info64 rfl (hown.alloc _) (m := 2) 2 (news := ints .u64 [i, j]) rfl r2.sl0 (by simp) (ints_oneCell' _ _) (by decide) (by decide) (by simp; have := hX.size; omega)
      have hX' := hext w2 (hX.alloc _) (Nat.le_refl _)
      rw [← ints_append, ← HNUM.out] at hown'
      obtain ⟨qi0, qi1⟩ := qi
      obtain ⟨qj0, qj1⟩ := qj
      clear hext hown r2 o1 X3
      go_wp2_with (at_builtin; refine Lib.wpList_append_run _ rfl _ _ _ _ rfl _ _ rfl rfl _ _ hrun ?_)
      have hl13 : NN.length = 13 := by rw [HNUM.out]; simp [HL8.out]
      have k0 : Calls Try.prog 49 #[.int .i64 2, .slice a' 13 c'] w4 _ := Lay_gave a' 13 c' NN w4 2 hl13 (by decide) (ownsRow_sl hown') (fun x hx => by have := HBD.out x hx; omega)
      refine k0.mono ?_
      clear k0
      rintro e w5 ⟨a5, c5, rfl, ho5, hX5⟩
      have hok : okLay 2 NN = true := okLay_of hl13 (by decide) (fun x hx => by have := HBD.out x hx; exact fits2 (by omega) (by omega))
      have hlr : Field.layR 2 NN = (layed 2 NN, 0) := by unfold Field.layR; rw [if_neg (by decide)]; show (if okLay 2 NN = true then _ else _) = _; rw [if_pos hok]; rfl
      rw [hlr] at ho5 ⊢
      dsimp only at ho5 ⊢
      have hl26 : (layed 2 NN).length = 26 := by rw [length_layed, hl13]
      have s5 := ownsRow_sl ho5
      have X5 := (X2.trans hX').trans hX5
      rw [hl26] at ho5 ⊢
      have HL26 := Lib.hid hl26
      clear hrun hown' ho5 hX5 hX' hlr hok d12 d13 hl26 hl13
      go_wp2_with fail
      have k0 : Calls Try.prog 50 #[.slice a5 26 c5, .int .i64 32] w5 _ := Fill_ok a5 26 c5 32 (layed 2 NN) w5 HL26.out s5 (by decide) (by decide)
      refine k0.mono ?_
      clear k0
      rintro e w6 ⟨rfl, rfl⟩
      go_wp2_with fail
      go_ret2
      rw [HBY.out]
      have hl32 : (filled (layed 2 NN) 32).length = 32 := length_filled _ _ (by rw [HL26.out]; decide)
      exact Gave.own (n := 32) rfl hl32 (ownsRow_base (ownsRow_of (Row.new w5 5 (ints .u8 (filled (layed 2 NN) 32))) (Nat.le_refl _) (by rw [ints_length]; exact hl32) (by decide)) X5.size) (X5.alloc _)

theorem Lay_ino (n : Ino) (w : World) (hw : n.wf) : Calls Try.prog 27 #[n.v] w (Gave .u8 5 w n.layR) := by
  cases h : n.rightB
  · exact Lay_bad n w h
  · exact Lay_good n w hw h

/-- The head of the reference's bytes. -/
theorem Ino.bytes_ref {n : Ino} (hw : n.wf) : n.bytes = filled (([n.k, n.r] ++ layed 2 [n.l, n.s]) ++ layed 2 n.D ++ layed 2 [n.i, n.j]) 32 := by
  unfold Ino.bytes
  congr 1
  have e : n.nums = [n.k + 256 * n.r] ++ [n.l, n.s] ++ n.D ++ [n.i, n.j] := rfl
  rw [e, layed_append, layed_append, layed_append]
  congr 3
  obtain ⟨⟨k0, k1⟩, r0, r1⟩ := hw
  have : layed 2 [n.k + 256 * n.r] = bytesOf 2 (n.k + 256 * n.r) := by simp [layed]
  rw [this, bytesOf_cons, bytesOf_cons, bytesOf_zero]
  congr 1
  · omega
  · congr 1; omega

set_option maxHeartbeats 2000000 in
theorem rLay_good (n : Ino) (w : World) (hw : n.wf) (h : n.rightB = true) : Calls Try.prog 30 #[n.v] w (Gave .u8 5 w n.layR) := by
  rw [Ino.layR_yes h]
  have hP := Ino.right_of h
  have hR := rRight_ok n
  rw [h] at hR
  have hD : n.D = [n.d0, n.d1, n.d2, n.d3, n.d4, n.d5, n.d6, n.d7] := rfl
  have hl8 : n.D.length = 8 := rfl
  have hby := Ino.bytes_ref hw
  obtain ⟨h1, h2, h3, h4, h5, h6, h7, h8, h9, h10⟩ := hP
  have qi := ptrB_true h9
  have qj := ptrB_true h10
  have hcd : ∀ v : World, Ext (w.alloc (.cells n.cs 48)) v → Sl v (some ⟨w.heap.size, 4, none⟩) (ints .i64 n.D) := fun v hv => Sl.mk fun q hq => by
    rw [ints_length] at hq
    rw [ints_getElem]
    exact hv.keep (Ino.cellD n w q hq)
  generalize n.bytes = BB at *
  generalize n.D = D at *
  obtain ⟨k, r, l, s, d0, d1, d2, d3, d4, d5, d6, d7, i, j⟩ := n
  dsimp only [Ino.v, Ino.cs] at *
  have H8 := Lib.hid h8; have HL8 := Lib.hid hl8; have HBY := Lib.hid hby; have HCD := Lib.hid hcd
  clear h h2 h8 h9 h10 hD hl8 hby hcd
  go_enter Try.func30, Try.ntmps30
  go_wp2_with fail
  refine (hR _).mono ?_
  rintro e w2 ⟨rfl, hX2⟩
  clear hR
  have X2 := ((Ext.refl w).alloc _).trans hX2
  obtain ⟨hlt, c0, c1, c2, c3, c4, c5, c6, c7, c8, c9, c10, c11, c12, c13⟩ := inoKept hX2
  have HX2 := Lib.hid hX2
  clear hX2 c4 c5 c6 c7 c8 c9 c10 c11
  have C2 := Lib.hid c2; have C3 := Lib.hid c3; have C12 := Lib.hid c12; have C13 := Lib.hid c13
  have r1 : Row (w2.alloc (.cells #[.int .u8 k, .int .u8 r] 5)) w2.heap.size 5 (ints .u8 [k, r]) := Row.new w2 5 (ints .u8 [k, r])
  have o1 := ownsRow_of (n := 2) (base := w2.heap.size) r1 (Nat.le_refl _) rfl (by decide)
  have X3 := (Ext.refl w2).alloc (.cells #[.int .u8 k, .int .u8 r] 5)
  have X4 := X3.alloc (.cells #[.int .i64 l, .int .i64 s] 3)
  have o2 := o1.alloc (.cells #[.int .i64 l, .int .i64 s] 3)
  have r2 : Row ((w2.alloc (.cells #[.int .u8 k, .int .u8 r] 5)).alloc (.cells #[.int .i64 l, .int .i64 s] 3)) (w2.alloc (.cells #[.int .u8 k, .int .u8 r] 5)).heap.size 3 (ints .i64 [l, s]) := Row.new _ 3 (ints .i64 [l, s])
  rw [show (w2.alloc (.cells #[.int .u8 k, .int .u8 r] 5)).heap.size = w2.heap.size + 1 by simp] at r2
  clear o1 r1 X3
  go_wp2_with fail
  generalize (w2.alloc (.cells #[.int .u8 k, .int .u8 r] 5)).alloc (.cells #[.int .i64 l, .int .i64 s] 3) = v1 at *
  have k0 : Calls Try.prog 52 #[.slice (some ⟨w2.heap.size + 1, 0, none⟩) 2 2] v1 _ := two_ok _ 2 2 [l, s] v1 rfl (by decide) r2.sl0 (by simp; omega)
  refine k0.mono ?_
  clear k0
  rintro e v2 ⟨ax, cx, rfl, ox, hXx⟩
  rw [length_layed] at ox ⊢
  have X5 := X4.trans hXx
  obtain ⟨a3, q3, v3, run3, o3, ext3⟩ := run_append_sl (P := Try.prog) v2 w2.heap.size 26 26 5 (.int .u8 0) 1 Try.underlying26 info8 rfl (ownsRow_ext o2 hXx) (m := 4) cx (by rw [ints_length, length_layed]; rfl) (ownsRow_sl ox) (own_nil ox) (ints_oneCell' _ _) (by decide) (by decide) X5.size
  have X6 := ext3 w2 X5 (Nat.le_refl _)
  rw [← ints_append] at o3
  have hsD := HCD.out v3 (HX2.out.trans X6)
  have lcl : (k == k) = true := by simp
  clear X4 o2 r2 hXx X5 ox ext3 c0 c1 c2 c3 c12 c13
  have tok : True := trivial
  go_wp2_with (have _t := tok; at_builtin; refine Lib.wpList_append_run _ rfl _ _ _ _ rfl _ _ rfl rfl _ _ run3 ?_; clear tok _t)
  clear run3
  refine (two_ok _ 8 8 D v3 HL8.out (by decide) hsD (fun x hx => by have := ptrB_true (H8.out x hx); omega)).mono ?_
  rintro e v4 ⟨ax, cx, rfl, ox, hXx⟩
  have hl16 : (layed 2 D).length = 16 := by rw [length_layed, HL8.out]
  rw [hl16] at ox ⊢
  have X7 := X6.trans hXx
  obtain ⟨a5, q5, v5, run5, o5, ext5⟩ := run_append_sl (P := Try.prog) v4 w2.heap.size 26 26 5 (.int .u8 0) 1 Try.underlying26 info8 rfl (ownsRow_ext o3 hXx) (m := 16) cx (by rw [ints_length]; exact hl16) (ownsRow_sl ox) (own_nil ox) (ints_oneCell' _ _) (by decide) (by decide) X7.size
  have X8 := ext5 w2 X7 (Nat.le_refl _)
  rw [← ints_append] at o5
  have c12 := X8.keep C12.out
  have c13 := X8.keep C13.out
  have hlt5 := World.block_lt_of_cell? v5 _ c12
  have o6 := o5.alloc (.cells #[.int .i64 i, .int .i64 j] 3)
  have r6 : Row (v5.alloc (.cells #[.int .i64 i, .int .i64 j] 3)) v5.heap.size 3 (ints .i64 [i, j]) := Row.new _ 3 (ints .i64 [i, j])
  have X9 := X8.alloc (.cells #[.int .i64 i, .int .i64 j] 3)
  have HL16 := Lib.hid hl16
  clear X6 o3 hXx X7 ox ext5 hsD hl16 o5
  have tok : True := trivial
  go_wp2_with (have _t := tok; at_builtin; refine Lib.wpList_append_run _ rfl _ _ _ _ rfl _ _ rfl rfl _ _ run5 ?_; clear tok _t)
  clear run5
  generalize v5.alloc (.cells #[.int .i64 i, .int .i64 j] 3) = v6 at *
  obtain ⟨qi0, qi1⟩ := qi
  obtain ⟨qj0, qj1⟩ := qj
  have k0 : Calls Try.prog 52 #[.slice (some ⟨v5.heap.size, 0, none⟩) 2 2] v6 _ := two_ok _ 2 2 [i, j] v6 rfl (by decide) r6.sl0 (by simp; omega)
  refine k0.mono ?_
  clear k0
  rintro e v7 ⟨ax, cx, rfl, ox, hXx⟩
  rw [length_layed] at ox ⊢
  have X10 := X9.trans hXx
  obtain ⟨a8, q8, v8, run8, o8, ext8⟩ := run_append_sl (P := Try.prog) v7 w2.heap.size 26 26 5 (.int .u8 0) 1 Try.underlying26 info8 rfl (ownsRow_ext o6 hXx) (m := 4) cx (by rw [ints_length, length_layed]; rfl) (ownsRow_sl ox) (own_nil ox) (ints_oneCell' _ _) (by decide) (by decide) X10.size
  have X11 := X2.trans (ext8 w2 X10 (Nat.le_refl _))
  rw [← ints_append] at o8
  have hlB : ((([k, r] ++ layed 2 [l, s]) ++ layed 2 D) ++ layed 2 [i, j]).length = 26 := by
    rw [List.length_append, List.length_append, List.length_append, HL16.out, length_layed, length_layed]; rfl
  have HBY' := HBY
  generalize (([k, r] ++ layed 2 [l, s]) ++ layed 2 D) ++ layed 2 [i, j] = B at *
  have HLB := Lib.hid hlB
  clear X8 o6 hXx X9 X10 ox ext8 c12 c13 hlB hlt5 r6
  have tok : True := trivial
  go_wp2_with (have _t := tok; at_builtin; refine Lib.wpList_append_run _ rfl _ _ _ _ rfl _ _ rfl rfl _ _ run8 ?_; clear tok _t)
  clear run8
  have k0 : Calls Try.prog 29 #[.slice a8 26 q8, .int .i64 32] v8 _ := rFill_ok a8 26 q8 32 B v8 HLB.out (ownsRow_sl o8) (own_nil o8) (by decide) (by decide)
  refine k0.mono ?_
  clear k0
  rintro e v9 ⟨ax, cx, rfl, ox, hXx⟩
  rw [← HBY.out] at ox ⊢
  have X12 := X11.trans hXx
  have ox' := ownsRow_base ox X11.size
  clear ox hXx X11 o8
  go_wp2_with fail
  go_ret2
  exact ⟨ax, cx, rfl, ox', X12⟩
theorem rLay_ino (n : Ino) (w : World) (hw : n.wf) : Calls Try.prog 30 #[n.v] w (Gave .u8 5 w n.layR) := by
  cases h : n.rightB
  · exact rLay_bad n w h
  · exact rLay_good n w hw h
end Go.Proofs.Ytnodinancnfoeaa.Ino
