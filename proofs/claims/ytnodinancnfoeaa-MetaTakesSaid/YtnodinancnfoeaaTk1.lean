/- Right; FillR; ILay; RwP; RightI; Agg; Guard; RwLay; Bit; BitB; Geo -/
import Derived.Test.YtnodinancnfoeaaTk0
import Derived.Laws.StructEq
import Derived.Laws.Rows
import Derived.LoopTactic
import Derived.BigQuiet
import Derived.Deep.QuietTactic
import Derived.Lib.AppendZeros
import Derived.OwnWalk
import Derived.Laws.BitsAllLaws
import Derived.Test.YtnodinancnfoeaaRows
import Derived.Maps.OwnOps
import Derived.Maps.Views
import Derived.Deep.RegionHeld3
import Derived.WalkSpells
import Derived.IntWalk
import Derived.Lib.Hide
import Derived.Laws.Tables
import Derived.Laws.ResultCell
import Derived.Deep.MidRow
import Derived.BigFrame
import Derived.Laws.CopyRow
import Derived.Laws.IdiomCopy
/- Contracts: inode.Right, moatref11.Right. -/
namespace Go.Proofs.Ytnodinancnfoeaa.Ino
open Go.RowKit Words Mem Plain Ops
open Go.Proofs.Ytnodinancnfoeaa.Field
set_option linter.ambiguousOpen false
set_option linter.unusedVariables false
set_option linter.unusedSimpArgs false

theorem index8 (d0 d1 d2 d3 d4 d5 d6 d7 : Int) (k : Nat) (hk : k < 8) (w : World) :
    (Instr.index 46 (.agg #[.int .i64 d0, .int .i64 d1, .int .i64 d2, .int .i64 d3, .int .i64 d4, .int .i64 d5, .int .i64 d6, .int .i64 d7]) (.int .i64 (k : Int))).run Try.prog w = .ok (.int .i64 ([d0, d1, d2, d3, d4, d5, d6, d7][k])) w := by
  obtain rfl | rfl | rfl | rfl | rfl | rfl | rfl | rfl : k = 0 ∨ k = 1 ∨ k = 2 ∨ k = 3 ∨ k = 4 ∨ k = 5 ∨ k = 6 ∨ k = 7 := by omega
  all_goals kernel_rfl

theorem eqD (w : World) (d : Nat) (a0 a1 a2 a3 a4 a5 a6 a7 b0 b1 b2 b3 b4 b5 b6 b7 : Int) :
    (Op.equalIn (d+2) 46 (.agg #[.int .i64 a0, .int .i64 a1, .int .i64 a2, .int .i64 a3, .int .i64 a4, .int .i64 a5, .int .i64 a6, .int .i64 a7]) (.agg #[.int .i64 b0, .int .i64 b1, .int .i64 b2, .int .i64 b3, .int .i64 b4, .int .i64 b5, .int .i64 b6, .int .i64 b7])).run Try.prog w
      = .ok (a0 == b0 && (a1 == b1 && (a2 == b2 && (a3 == b3 && (a4 == b4 && (a5 == b5 && (a6 == b6 && a7 == b7))))))) w := by
  unfold Op.equalIn
  simp only [Sem.run_bind, run_underlying Try.underlying46, Result.andThen_ok]
  have hs : (sizeOf 3).run Try.prog w = .ok 1 w := by kernel_rfl
  simp only [hs, Result.andThen_ok]
  simp only [Std.Legacy.Range.forIn_eq_forIn_range', Std.Legacy.Range.size, List.range']
  have h : ∀ (a b : Int), (Op.equalIn (d+1) 3 (.int .i64 a) (.int .i64 b)).run Try.prog w = .ok (a == b) w := fun a b => run_equalIn_int w d 3 .i64 .i64 a b Try.underlying3
  have ha : (isAgg 3).run Try.prog w = .ok false w := by kernel_rfl
  by_cases h0 : a0 = b0
  case neg => simp [part, ha, h, h0]
  by_cases h1 : a1 = b1
  case neg => simp [part, ha, h, h0, h1]
  by_cases h2 : a2 = b2
  case neg => simp [part, ha, h, h0, h1, h2]
  by_cases h3 : a3 = b3
  case neg => simp [part, ha, h, h0, h1, h2, h3]
  by_cases h4 : a4 = b4
  case neg => simp [part, ha, h, h0, h1, h2, h3, h4]
  by_cases h5 : a5 = b5
  case neg => simp [part, ha, h, h0, h1, h2, h3, h4, h5]
  by_cases h6 : a6 = b6
  case neg => simp [part, ha, h, h0, h1, h2, h3, h4, h5, h6]
  by_cases h7 : a7 = b7 <;> simp [part, ha, h, h0, h1, h2, h3, h4, h5, h6, h7]

theorem eqIno (a b : Ino) (w : World) : (Op.equalIn 10000 48 a.v b.v).run Try.prog w = .ok (Ino.eqB a b) w := by
  obtain ⟨k, r, l, s, d0, d1, d2, d3, d4, d5, d6, d7, i, j⟩ := a
  obtain ⟨k', r', l', s', e0, e1, e2, e3, e4, e5, e6, e7, i', j'⟩ := b
  have hi : ∀ (a b : Int), (Op.equalIn 9999 3 (.int .i64 a) (.int .i64 b)).run Try.prog w = .ok (a == b) w := fun a b => run_equalIn_int w 9998 3 .i64 .i64 a b Try.underlying3
  have hu : ∀ (a b : Int), (Op.equalIn 9999 5 (.int .u8 a) (.int .u8 b)).run Try.prog w = .ok (a == b) w := fun a b => run_equalIn_int w 9998 5 .u8 .u8 a b Try.underlying5
  have hd := eqD w 9997
  have ha : (isAgg 3).run Try.prog w = .ok false w := by kernel_rfl
  have hb : (isAgg 5).run Try.prog w = .ok false w := by kernel_rfl
  have hc : (isAgg 46).run Try.prog w = .ok true w := by kernel_rfl
  have hs : (sizeOf 46).run Try.prog w = .ok 8 w := by kernel_rfl
  rw [run_equalIn_agg w 9999 48 _ _ (by kernel_rfl) (by kernel_rfl)]
  simp only [Program.fieldsOf, Try.underlying48]
  simp [Op.eqFields, part, ha, hb, hc, hs, hi, hu, hd]
  unfold Ino.eqB
  dsimp only
  by_cases hkq : k = k'
  case neg => simp [hkq]
  by_cases hrq : r = r'
  case neg => simp [hkq, hrq]
  by_cases hlq : l = l'
  case neg => simp [hkq, hrq, hlq]
  by_cases hsq : s = s'
  case neg => simp [hkq, hrq, hlq, hsq]
  by_cases hd0q : d0 = e0
  case neg => simp [hkq, hrq, hlq, hsq, hd0q]
  by_cases hd1q : d1 = e1
  case neg => simp [hkq, hrq, hlq, hsq, hd0q, hd1q]
  by_cases hd2q : d2 = e2
  case neg => simp [hkq, hrq, hlq, hsq, hd0q, hd1q, hd2q]
  by_cases hd3q : d3 = e3
  case neg => simp [hkq, hrq, hlq, hsq, hd0q, hd1q, hd2q, hd3q]
  by_cases hd4q : d4 = e4
  case neg => simp [hkq, hrq, hlq, hsq, hd0q, hd1q, hd2q, hd3q, hd4q]
  by_cases hd5q : d5 = e5
  case neg => simp [hkq, hrq, hlq, hsq, hd0q, hd1q, hd2q, hd3q, hd4q, hd5q]
  by_cases hd6q : d6 = e6
  case neg => simp [hkq, hrq, hlq, hsq, hd0q, hd1q, hd2q, hd3q, hd4q, hd5q, hd6q]
  by_cases hd7q : d7 = e7
  case neg => simp [hkq, hrq, hlq, hsq, hd0q, hd1q, hd2q, hd3q, hd4q, hd5q, hd6q, hd7q]
  by_cases hiq : i = i'
  case neg => simp [hkq, hrq, hlq, hsq, hd0q, hd1q, hd2q, hd3q, hd4q, hd5q, hd6q, hd7q, hiq]
  by_cases hjq : j = j'
  case neg => simp [hkq, hrq, hlq, hsq, hd0q, hd1q, hd2q, hd3q, hd4q, hd5q, hd6q, hd7q, hiq, hjq]
  simp [hkq, hrq, hlq, hsq, hd0q, hd1q, hd2q, hd3q, hd4q, hd5q, hd6q, hd7q, hiq, hjq]

theorem neqIno (a b : Ino) (w : World) : (binOp .neq 48 a.v b.v).run Try.prog w = .ok (.bool (!(Ino.eqB a b))) w := by
  rw [run_neq_struct, eqIno]; rfl
theorem eqlIno (a b : Ino) (w : World) : (binOp .eql 48 a.v b.v).run Try.prog w = .ok (.bool (Ino.eqB a b)) w := by
  rw [run_eql_struct, eqIno]; rfl

/-- What a block of an inode's cells holds. -/
theorem Ino.cellD (n : Ino) (w : World) (k : Nat) (hk : k < 8) : (w.alloc (.cells n.cs 48)).cell? ⟨w.heap.size, 4 + k, none⟩ = some (.int .i64 (n.D[k]'hk)) := by
  obtain rfl | rfl | rfl | rfl | rfl | rfl | rfl | rfl : k = 0 ∨ k = 1 ∨ k = 2 ∨ k = 3 ∨ k = 4 ∨ k = 5 ∨ k = 6 ∨ k = 7 := by omega
  all_goals (go_simp; rfl)

theorem Right_kind (n : Ino) (w : World) (h : 3 ≤ n.k) : Calls Try.prog 33 #[n.v] w fun e w' => e = .returned (.bool n.rightB) ∧ Ext w w' := by
  have hr : n.rightB = false := Ino.rightB_no (fun hh => by have := hh.1; omega)
  rw [hr]
  clear hr
  obtain ⟨k, r, l, s, d0, d1, d2, d3, d4, d5, d6, d7, i, j⟩ := n
  dsimp only at h
  dsimp only [Ino.v, Ino.cs]
  go_enter Try.func33, Try.ntmps33
  go_wp2
  go_ret
  exact ⟨rfl, (Ext.refl w).alloc _⟩
theorem Right_free (n : Ino) (w : World) (h : n.k = 0) (he : Ino.eqB n Ino.zero = false) : Calls Try.prog 33 #[n.v] w fun e w' => e = .returned (.bool n.rightB) ∧ Ext w w' := by
  have hr : n.rightB = false := Ino.rightB_no (fun hh => by have := hh.2.1 h; rw [he] at this; cases this)
  rw [hr]
  clear hr
  have hq := neqIno n Ino.zero
  rw [he] at hq
  obtain ⟨k, r, l, s, d0, d1, d2, d3, d4, d5, d6, d7, i, j⟩ := n
  dsimp only at h
  subst h
  clear he
  dsimp only [Ino.v, Ino.cs, Ino.zero] at hq ⊢
  go_enter Try.func33, Try.ntmps33
  go_wp2
  go_ret
  exact ⟨rfl, (Ext.refl w).alloc _⟩

/-- What kind, row, links and size let in. -/
def Ino.HeadP (n : Ino) : Prop := n.k ≤ 2 ∧ (n.k = 0 → Ino.eqB n Ino.zero = true) ∧ n.r < 16 ∧ 0 ≤ n.l ∧ n.l ≤ 65535 ∧ 0 ≤ n.s ∧ n.s ≤ 3840
theorem Ino.rightB_head {n : Ino} (h : n.HeadP) : n.rightB = (n.D.all ptrB && (ptrB n.i && ptrB n.j)) := by
  obtain ⟨h1, h2, h3, h4, h5, h6, h7⟩ := h
  unfold Ino.rightB
  have : (!(n.k == 0) || Ino.eqB n Ino.zero) = true := by
    by_cases e : n.k = 0
    · rw [h2 e, Bool.or_true]
    · simp [e]
  rw [decide_eq_true h1, this, decide_eq_true h3, decide_eq_true h4, decide_eq_true h5, decide_eq_true h6, decide_eq_true h7]
  rfl
theorem Right_head (n : Ino) (w : World) (h0 : n.k ≠ 0) (hk : n.k ≤ 2) (h : n.r < 16 → 0 ≤ n.l → n.l ≤ 65535 → 0 ≤ n.s → n.s ≤ 3840 → False) : Calls Try.prog 33 #[n.v] w fun e w' => e = .returned (.bool n.rightB) ∧ Ext w w' := by
  have hr : n.rightB = false := Ino.rightB_no (fun hh => h hh.2.2.1 hh.2.2.2.1 hh.2.2.2.2.1 hh.2.2.2.2.2.1 hh.2.2.2.2.2.2.1)
  rw [hr]
  clear hr
  obtain ⟨k, r, l, s, d0, d1, d2, d3, d4, d5, d6, d7, i, j⟩ := n
  dsimp only at h h0 hk
  dsimp only [Ino.v, Ino.cs]
  have hk0 : (k == 0) = false := by simpa using h0
  by_cases h1 : r < 16
  · by_cases h2 : 0 ≤ l
    · by_cases h3 : l ≤ 65535
      · by_cases h4 : 0 ≤ s
        · by_cases h5 : s ≤ 3840
          · exact (h h1 h2 h3 h4 h5).elim
          · clear h
            go_enter Try.func33, Try.ntmps33
            go_wp2
            go_ret
            exact ⟨rfl, (Ext.refl w).alloc _⟩
        · clear h
          go_enter Try.func33, Try.ntmps33
          go_wp2
          go_ret
          exact ⟨rfl, (Ext.refl w).alloc _⟩
      · clear h
        go_enter Try.func33, Try.ntmps33
        go_wp2
        go_ret
        exact ⟨rfl, (Ext.refl w).alloc _⟩
    · clear h
      go_enter Try.func33, Try.ntmps33
      go_wp2
      go_ret
      exact ⟨rfl, (Ext.refl w).alloc _⟩
  · clear h
    go_enter Try.func33, Try.ntmps33
    go_wp2
    go_ret
    exact ⟨rfl, (Ext.refl w).alloc _⟩

theorem idx8 (d0 d1 d2 d3 d4 d5 d6 d7 : Int) (k : Nat) (hk : k < 8) : ∃ x, [d0, d1, d2, d3, d4, d5, d6, d7][k]? = some x ∧
    (∀ w : World, (Instr.index 46 (.agg #[.int .i64 d0, .int .i64 d1, .int .i64 d2, .int .i64 d3, .int .i64 d4, .int .i64 d5, .int .i64 d6, .int .i64 d7]) (.int .i64 (k : Int))).run Try.prog w = .ok (.int .i64 x) w) :=
  ⟨[d0, d1, d2, d3, d4, d5, d6, d7][k], List.getElem?_eq_getElem hk, fun w => index8 d0 d1 d2 d3 d4 d5 d6 d7 k hk w⟩
theorem cell8 (k' r l s d0 d1 d2 d3 d4 d5 d6 d7 i j : Int) (w : World) (k : Nat) (hk : k < 8) : ∃ x, [d0, d1, d2, d3, d4, d5, d6, d7][k]? = some x ∧
    (w.alloc (.cells #[.int .u8 k', .int .u8 r, .int .i64 l, .int .i64 s, .int .i64 d0, .int .i64 d1, .int .i64 d2, .int .i64 d3, .int .i64 d4, .int .i64 d5, .int .i64 d6, .int .i64 d7, .int .i64 i, .int .i64 j] 48)).cell? ⟨w.heap.size, 4 + k, none⟩ = some (.int .i64 x) :=
  ⟨[d0, d1, d2, d3, d4, d5, d6, d7][k], List.getElem?_eq_getElem hk, Ino.cellD ⟨k', r, l, s, d0, d1, d2, d3, d4, d5, d6, d7, i, j⟩ w k hk⟩
theorem drop_all {D : List Int} {k : Nat} {x : Int} (h : D[k]? = some x) : (D.drop k).all ptrB = (ptrB x && (D.drop (k + 1)).all ptrB) := by
  obtain ⟨h1, h2⟩ := List.getElem?_eq_some_iff.1 h
  rw [List.drop_eq_getElem_cons h1, h2]; rfl

set_option maxHeartbeats 1000000 in
theorem Right_good (n : Ino) (w : World) (h : n.HeadP) (h0 : (n.k == 0) = false ∨ n.k = 0) : Calls Try.prog 33 #[n.v] w fun e w' => e = .returned (.bool n.rightB) ∧ Ext w w' := by
  rw [Ino.rightB_head h]
  obtain ⟨h1, h2, h3, h4, h5, h6, h7⟩ := h
  have hix := idx8 n.d0 n.d1 n.d2 n.d3 n.d4 n.d5 n.d6 n.d7
  have hq : n.k = 0 → ∀ v : World, (binOp .neq 48 n.v Ino.zero.v).run Try.prog v = .ok (.bool false) v := fun e v => by rw [neqIno, h2 e]; rfl
  obtain ⟨k, r, l, s, d0, d1, d2, d3, d4, d5, d6, d7, i, j⟩ := n
  dsimp only [Ino.v, Ino.cs, Ino.zero, Ino.D] at *
  obtain ⟨D, hD⟩ : ∃ D, D = [d0, d1, d2, d3, d4, d5, d6, d7] := ⟨_, rfl⟩
  rw [← hD] at hix ⊢
  have hD8 : D.drop 8 = [] := by rw [hD]; rfl
  have HIX := Lib.hid hix
  have HD8 := Lib.hid hD8
  clear hD hix h2 hD8
  rcases h0 with h0 | rfl
  all_goals
    first | (have hq' := hq rfl; clear hq) | clear hq
    go_enter Try.func33, Try.ntmps33
    go_wp2_with fail
    go_loop [41] (fun v => ∃ m : Nat, m ≤ 8 ∧ v = .int .i64 m ∧ Hid (D.all ptrB = (D.drop m).all ptrB)) (fun v => 8 - (intOf v).toNat)
    case atStart => exact ⟨0, by omega, rfl, rfl⟩
    case round =>
      obtain ⟨m, hm, rfl, hall⟩ := hrel
      by_cases hlt : m < 8
      · obtain ⟨x, hx, hi⟩ := HIX.out m hlt
        have hst := Lib.hid (drop_all hx)
        clear hx
        cases hp : ptrB x
        · go_wp2_with fail
          refine (pointer_ok x _).mono ?_
          rintro e w' ⟨rfl, rfl⟩
          rw [hp]
          have hf : Hid (D.all ptrB = false) := by show D.all ptrB = false; rw [hall.out, hst.out, hp]; rfl
          go_wp2_with fail
          go_ret
          exact ⟨by rw [hf.out]; rfl, (Ext.refl w).alloc _⟩
        · have HP := Lib.hid hp
          go_wp2_with fail
          refine (pointer_ok x _).mono ?_
          rintro e w' ⟨rfl, rfl⟩
          rw [hp]
          clear hp
          go_wp2_with fail
          go_round
          case rel => exact ⟨m + 1, hlt, by go_num, by show _ = _; rw [hall.out, hst.out, HP.out, Bool.true_and]⟩
          case measure => simp [intOf]; omega
      · have : m = 8 := by omega
        subst this
        have hf : Hid (D.all ptrB = true) := by show D.all ptrB = true; rw [hall.out, HD8.out]; rfl
        clear hlt hm hall
        go_wp2_with fail
        refine (pointer_ok i _).mono ?_
        rintro e w' ⟨rfl, rfl⟩
        cases hp : ptrB i
        · have HP := Lib.hid hp
          go_wp2_with fail
          go_ret
          exact ⟨by rw [hf.out]; simp [hp], (Ext.refl w).alloc _⟩
        · have HP := Lib.hid hp
          go_wp2_with fail
          refine (pointer_ok j _).mono ?_
          rintro e w' ⟨rfl, rfl⟩
          go_wp2_with fail
          go_ret
          exact ⟨by rw [hf.out]; simp [hp], (Ext.refl w).alloc _⟩

theorem Right_ok (n : Ino) (w : World) : Calls Try.prog 33 #[n.v] w fun e w' => e = .returned (.bool n.rightB) ∧ Ext w w' := by
  by_cases hk : 3 ≤ n.k
  · exact Right_kind n w hk
  · by_cases h0 : n.k = 0
    · cases he : Ino.eqB n Ino.zero
      · exact Right_free n w h0 he
      · have hz := (Ino.eqB_iff _ _).1 he
        subst hz
        refine Right_good Ino.zero w ?_ (.inr rfl)
        unfold Ino.HeadP Ino.zero
        refine ⟨by decide, fun _ => rfl, by decide, by decide, by decide, by decide, by decide⟩
    · by_cases h : n.r < 16 ∧ 0 ≤ n.l ∧ n.l ≤ 65535 ∧ 0 ≤ n.s ∧ n.s ≤ 3840
      · exact Right_good n w ⟨by omega, fun e => absurd e h0, h⟩ (.inl (by simpa using h0))
      · exact Right_head n w h0 (by omega) (fun a b c d e => h ⟨a, b, c, d, e⟩)

/-! ### The reference's -/
theorem rRight_kind (n : Ino) (w : World) (h : 3 ≤ n.k) : Calls Try.prog 37 #[n.v] w fun e w' => e = .returned (.bool n.rightB) ∧ Ext w w' := by
  have hr : n.rightB = false := Ino.rightB_no (fun hh => by have := hh.1; omega)
  rw [hr]
  clear hr
  obtain ⟨k, r, l, s, d0, d1, d2, d3, d4, d5, d6, d7, i, j⟩ := n
  dsimp only at h
  dsimp only [Ino.v, Ino.cs]
  go_enter Try.func37, Try.ntmps37
  go_wp2
  go_ret
  exact ⟨rfl, (Ext.refl w).alloc _⟩
theorem rRight_free (n : Ino) (w : World) (h : n.k = 0) (he : Ino.eqB n Ino.zero = false) : Calls Try.prog 37 #[n.v] w fun e w' => e = .returned (.bool n.rightB) ∧ Ext w w' := by
  have hr : n.rightB = false := Ino.rightB_no (fun hh => by have := hh.2.1 h; rw [he] at this; cases this)
  rw [hr]
  clear hr
  have hq := neqIno n Ino.zero
  rw [he] at hq
  obtain ⟨k, r, l, s, d0, d1, d2, d3, d4, d5, d6, d7, i, j⟩ := n
  dsimp only at h
  subst h
  clear he
  dsimp only [Ino.v, Ino.cs, Ino.zero] at hq ⊢
  go_enter Try.func37, Try.ntmps37
  go_wp2
  go_ret
  exact ⟨rfl, (Ext.refl w).alloc _⟩
set_option maxHeartbeats 1000000 in
theorem rRight_head (n : Ino) (w : World) (h0 : n.k ≠ 0) (hk : n.k ≤ 2) (h : n.r < 16 → 0 ≤ n.l → n.l ≤ 65535 → 0 ≤ n.s → n.s ≤ 3840 → False) : Calls Try.prog 37 #[n.v] w fun e w' => e = .returned (.bool n.rightB) ∧ Ext w w' := by
  have hr : n.rightB = false := Ino.rightB_no (fun hh => h hh.2.2.1 hh.2.2.2.1 hh.2.2.2.2.1 hh.2.2.2.2.2.1 hh.2.2.2.2.2.2.1)
  rw [hr]
  clear hr
  obtain ⟨k, r, l, s, d0, d1, d2, d3, d4, d5, d6, d7, i, j⟩ := n
  dsimp only at h h0 hk
  dsimp only [Ino.v, Ino.cs]
  have hk0 : (k == 0) = false := by simpa using h0
  by_cases h1 : r < 16
  · by_cases h2 : 0 ≤ l
    · by_cases h3 : l ≤ 65535
      · by_cases h4 : 0 ≤ s
        · by_cases h5 : s ≤ 3840
          · exact (h h1 h2 h3 h4 h5).elim
          · clear h
            go_enter Try.func37, Try.ntmps37
            go_wp2
            go_ret
            exact ⟨rfl, (Ext.refl w).alloc _⟩
        · clear h
          go_enter Try.func37, Try.ntmps37
          go_wp2
          go_ret
          exact ⟨rfl, (Ext.refl w).alloc _⟩
      · clear h
        go_enter Try.func37, Try.ntmps37
        go_wp2
        go_ret
        exact ⟨rfl, (Ext.refl w).alloc _⟩
    · clear h
      go_enter Try.func37, Try.ntmps37
      go_wp2
      go_ret
      exact ⟨rfl, (Ext.refl w).alloc _⟩
  · clear h
    go_enter Try.func37, Try.ntmps37
    go_wp2
    go_ret
    exact ⟨rfl, (Ext.refl w).alloc _⟩

set_option maxHeartbeats 1000000 in
theorem rRight_good (n : Ino) (w : World) (h : n.HeadP) (h0 : (n.k == 0) = false ∨ n.k = 0) : Calls Try.prog 37 #[n.v] w fun e w' => e = .returned (.bool n.rightB) ∧ Ext w w' := by
  rw [Ino.rightB_head h]
  obtain ⟨h1, h2, h3, h4, h5, h6, h7⟩ := h
  have hix := cell8 n.k n.r n.l n.s n.d0 n.d1 n.d2 n.d3 n.d4 n.d5 n.d6 n.d7 n.i n.j w
  have hq : n.k = 0 → ∀ v : World, (binOp .neq 48 n.v Ino.zero.v).run Try.prog v = .ok (.bool false) v := fun e v => by rw [neqIno, h2 e]; rfl
  obtain ⟨k, r, l, s, d0, d1, d2, d3, d4, d5, d6, d7, i, j⟩ := n
  dsimp only [Ino.v, Ino.cs, Ino.zero, Ino.D] at *
  obtain ⟨D, hD⟩ : ∃ D, D = [d0, d1, d2, d3, d4, d5, d6, d7] := ⟨_, rfl⟩
  rw [← hD] at hix ⊢
  have hD8 : D.drop 8 = [] := by rw [hD]; rfl
  have HIX := Lib.hid hix
  have HD8 := Lib.hid hD8
  clear hD hix h2 hD8
  rcases h0 with h0 | rfl
  all_goals
    first | (have hq' := hq rfl; clear hq) | clear hq
    go_enter Try.func37, Try.ntmps37
    go_wp2_with fail
    go_loop [3] (fun v => ∃ m : Nat, m ≤ 8 ∧ v = .int .i64 m ∧ Hid (D.all ptrB = (D.drop m).all ptrB)) (fun v => 8 - (intOf v).toNat)
    case atStart => exact ⟨0, by omega, rfl, rfl⟩
    case round =>
      obtain ⟨m, hm, rfl, hall⟩ := hrel
      by_cases hlt : m < 8
      · obtain ⟨x, hx, hi⟩ := HIX.out m hlt
        have hst := Lib.hid (drop_all hx)
        clear hx
        cases hp : ptrB x
        · go_wp2_with fail
          refine (rpointer_ok x _).mono ?_
          rintro e w' ⟨rfl, rfl⟩
          rw [hp]
          have hf : Hid (D.all ptrB = false) := by show D.all ptrB = false; rw [hall.out, hst.out, hp]; rfl
          go_wp2_with fail
          go_ret
          exact ⟨by rw [hf.out]; rfl, (Ext.refl w).alloc _⟩
        · have HP := Lib.hid hp
          go_wp2_with fail
          refine (rpointer_ok x _).mono ?_
          rintro e w' ⟨rfl, rfl⟩
          rw [hp]
          clear hp
          go_wp2_with fail
          go_round
          case rel => exact ⟨m + 1, hlt, by go_num, by show _ = _; rw [hall.out, hst.out, HP.out, Bool.true_and]⟩
          case measure => simp [intOf]; omega
      · have : m = 8 := by omega
        subst this
        have hf : Hid (D.all ptrB = true) := by show D.all ptrB = true; rw [hall.out, HD8.out]; rfl
        clear hlt hm hall
        go_wp2_with fail
        refine (rpointer_ok i _).mono ?_
        rintro e w' ⟨rfl, rfl⟩
        cases hp : ptrB i
        · have HP := Lib.hid hp
          go_wp2_with fail
          go_ret
          exact ⟨by rw [hf.out]; simp [hp], (Ext.refl w).alloc _⟩
        · have HP := Lib.hid hp
          go_wp2_with fail
          refine (rpointer_ok j _).mono ?_
          rintro e w' ⟨rfl, rfl⟩
          go_wp2_with fail
          go_ret
          exact ⟨by rw [hf.out]; simp [hp], (Ext.refl w).alloc _⟩

theorem rRight_ok (n : Ino) (w : World) : Calls Try.prog 37 #[n.v] w fun e w' => e = .returned (.bool n.rightB) ∧ Ext w w' := by
  by_cases hk : 3 ≤ n.k
  · exact rRight_kind n w hk
  · by_cases h0 : n.k = 0
    · cases he : Ino.eqB n Ino.zero
      · exact rRight_free n w h0 he
      · have hz := (Ino.eqB_iff _ _).1 he
        subst hz
        refine rRight_good Ino.zero w ?_ (.inr rfl)
        unfold Ino.HeadP Ino.zero
        refine ⟨by decide, fun _ => rfl, by decide, by decide, by decide, by decide, by decide⟩
    · by_cases h : n.r < 16 ∧ 0 ≤ n.l ∧ n.l ≤ 65535 ∧ 0 ≤ n.s ∧ n.s ≤ 3840
      · exact rRight_good n w ⟨by omega, fun e => absurd e h0, h⟩ (.inl (by simpa using h0))
      · exact rRight_head n w h0 (by omega) (fun a b c d e => h ⟨a, b, c, d, e⟩)
end Go.Proofs.Ytnodinancnfoeaa.Ino
/- The reference's Fill, whatever comes in. -/
namespace Go.Proofs.Ytnodinancnfoeaa.Field
open Go.RowKit Words Mem Plain Ops
set_option linter.unusedVariables false
set_option linter.unusedSimpArgs false

theorem rFill_no (a : Option Addr) (n cap : Nat) (s : Int) (w : World) (b0 : -9223372036854775808 ≤ s) (b1 : s ≤ 9223372036854775807) (h : s < 0 ∨ 4096 < s ∨ s < n) (hm : n ≤ 9223372036854775807) :
    Calls Try.prog 29 #[.slice a n cap, .int .i64 s] w fun e w' => e = .returned (.tuple #[.slice none 0 0, .int .i64 (if s < 0 then 1 else 4)]) ∧ w = w' := by
  by_cases h0 : s < 0
  · rw [if_pos h0]
    clear h
    go_enter Try.func29, Try.ntmps29
    go_wp2
    go_ret2
    exact ⟨rfl, rfl⟩
  · rw [if_neg h0]
    by_cases h2 : s < n
    · clear h
      go_enter Try.func29, Try.ntmps29
      go_wp2
      go_ret2
      exact ⟨rfl, rfl⟩
    · have h1 : 4096 < s := by omega
      clear h
      go_enter Try.func29, Try.ntmps29
      go_wp2
      go_ret2
      exact ⟨rfl, rfl⟩
theorem rFill_ok (a : Option Addr) (n cap s : Nat) (xs : List Int) (w : World) (hl : xs.length = n) (hx : Sl w a (ints .u8 xs)) (hnil : a = none → n = 0 ∧ cap = 0) (hns : n ≤ s) (hs : s ≤ 4096) :
    Calls Try.prog 29 #[.slice a n cap, .int .i64 s] w (OwnB0 w (filled xs s)) := by
  have r0 := Row.new w 5 []
  have o0 := ownsRow_of (base := w.heap.size) (n := 0) r0 (Nat.le_refl _) rfl (by decide)
  have XA := (Ext.refl w).alloc (.cells (List.toArray []) 5)
  obtain ⟨a2, c2, w2, hrun2, hown2, hext2⟩ := run_append_sl (P := Try.prog) _ w.heap.size 26 26 5 (.int .u8 0) 1 Try.underlying26 info8 rfl o0 (m := n) cap (by rw [ints_length]; exact hl) (hx.ext XA) hnil (ints_oneCell' _ _) (by omega) (by omega) XA.size
  have X2 := hext2 w XA (Nat.le_refl _)
  rw [Nat.zero_add] at hown2 hrun2
  rw [List.nil_append, ← filled_self xs n hl] at hown2
  have HL := Lib.hid hl
  clear r0 o0 hext2 XA hx hl
  go_enter Try.func29, Try.ntmps29
  go_wp2_with (at_builtin; refine Lib.wpList_append_run _ rfl _ _ _ _ rfl _ _ rfl rfl _ _ hrun2 ?_)
  clear hrun2
  go_loopw [6] (fun u wr => ∃ (k c : Nat) (ao : Option Addr), n ≤ k ∧ k ≤ s ∧ u = .slice ao k c ∧ wr.ownsRow w.heap.size 5 1 (.slice ao k c) k (ints .u8 (filled xs k)) ∧ Ext w wr) (fun u _ => s - lenOfV u)
  case atStart => exact ⟨n, c2, a2, Nat.le_refl _, hns, rfl, hown2, X2⟩
  case round =>
    obtain ⟨k, c, ao, hnk, hk, rfl, hown, hX⟩ := hrel
    by_cases hlt : k < s
    · have hfm := filled_more xs k (by rw [HL.out]; exact hnk)
      have HF := Lib.hid hfm; clear hfm
      obtain ⟨wo, rfl⟩ : ∃ wo : World, wo = wr := ⟨_, rfl⟩
      obtain ⟨a', c', w3, hrun, hown', hext⟩ := run_append_one (P := Try.prog) wo w.heap.size 26 26 5 .u8 1 Try.underlying26 info8 hown 0 (by omega) (by omega) hX.size
      have hX' := hext w hX (Nat.le_refl _)
      rw [HF.out] at hown'
      clear hext hown
      go_wp2_with (at_builtin; refine Lib.wpList_append_run _ rfl _ _ _ _ rfl _ _ rfl rfl _ _ hrun ?_)
      go_roundw
      case rel => exact ⟨k + 1, c', a', by omega, hlt, rfl, hown', hX'⟩
      case measure => simp [lenOfV]; omega
    · have : k = s := by omega
      subst this
      have hml : Hid ((filled xs k).length = k) := length_filled _ _ (by rw [HL.out]; exact hns)
      go_wp2
      go_ret2
      exact ⟨ao, c, by rw [hml.out]; rfl, by rw [hml.out]; exact hown, hX⟩
theorem rFill_gave (a : Option Addr) (n cap : Nat) (xs : List Int) (w : World) (s : Int) (b0 : -9223372036854775808 ≤ s) (b1 : s ≤ 9223372036854775807) (hl : xs.length = n) (hn : n ≤ 9223372036854775807) (hs : Sl w a (ints .u8 xs)) (hnil : a = none → n = 0 ∧ cap = 0) :
    Calls Try.prog 29 #[.slice a n cap, .int .i64 s] w (Gave .u8 5 w (fillR xs s)) := by
  unfold fillR
  rw [hl]
  by_cases h : s < 0 ∨ 4096 < s ∨ s < n
  · refine (rFill_no a n cap s w b0 b1 h hn).mono fun e w' ⟨h1, h2⟩ => ?_
    by_cases h0 : s < 0
    · rw [if_pos h0] at h1 ⊢
      exact Gave.nil h1 (by subst h2; exact Ext.refl _)
    · rw [if_neg h0] at h1 ⊢
      rw [if_pos (by omega)]
      exact Gave.nil h1 (by subst h2; exact Ext.refl _)
  · rw [if_neg (by omega), if_neg (by omega)]
    obtain ⟨q, rfl⟩ : ∃ q : Nat, s = q := ⟨s.toNat, by omega⟩
    rw [Int.toNat_natCast]
    exact rFill_ok a n cap q xs w hl hs hnil (by omega) (by omega)
end Go.Proofs.Ytnodinancnfoeaa.Field
/- Contracts: inode.Lay, moatref11.Lay. -/
namespace Go.Proofs.Ytnodinancnfoeaa.Ino
open Go.RowKit Words Mem Plain Ops
open Go.Proofs.Ytnodinancnfoeaa.Field
set_option linter.ambiguousOpen false
set_option linter.unusedVariables false
set_option linter.unusedSimpArgs false

theorem Ino.layR_no {n : Ino} (h : n.rightB = false) : n.layR = ([], 1) := by unfold Ino.layR; rw [if_neg (by rw [h]; simp)]
theorem Ino.layR_yes {n : Ino} (h : n.rightB = true) : n.layR = (n.bytes, 0) := by unfold Ino.layR; rw [if_pos h]
theorem Lay_bad (n : Ino) (w : World) (h : n.rightB = false) : Calls Try.prog 27 #[n.v] w (Gave .u8 5 w n.layR) := by
  rw [Ino.layR_no h]
  have hR := Right_ok n
  rw [h] at hR
  obtain ⟨k, r, l, s, d0, d1, d2, d3, d4, d5, d6, d7, i, j⟩ := n
  dsimp only [Ino.v, Ino.cs] at *
  go_enter Try.func27, Try.ntmps27
  go_wp2_with fail
  refine (hR _).mono ?_
  rintro e w2 ⟨rfl, hX2⟩
  have X2 := ((Ext.refl w).alloc _).trans hX2
  go_wp2_with fail
  go_ret2
  exact Gave.nil rfl X2
theorem rLay_bad (n : Ino) (w : World) (h : n.rightB = false) : Calls Try.prog 30 #[n.v] w (Gave .u8 5 w n.layR) := by
  rw [Ino.layR_no h]
  have hR := rRight_ok n
  rw [h] at hR
  obtain ⟨k, r, l, s, d0, d1, d2, d3, d4, d5, d6, d7, i, j⟩ := n
  dsimp only [Ino.v, Ino.cs] at *
  go_enter Try.func30, Try.ntmps30
  go_wp2_with fail
  refine (hR _).mono ?_
  rintro e w2 ⟨rfl, hX2⟩
  have X2 := ((Ext.refl w).alloc _).trans hX2
  go_wp2_with fail
  go_ret2
  exact Gave.nil rfl X2

/-- The cells of a block that holds an inode, in a later world. -/
theorem inoKept {w w2 : World} {k r l s d0 d1 d2 d3 d4 d5 d6 d7 i j : Int} (h : Ext (w.alloc (.cells #[.int .u8 k, .int .u8 r, .int .i64 l, .int .i64 s, .int .i64 d0, .int .i64 d1, .int .i64 d2, .int .i64 d3, .int .i64 d4, .int .i64 d5, .int .i64 d6, .int .i64 d7, .int .i64 i, .int .i64 j] 48)) w2) :
    w.heap.size < w2.heap.size ∧ w2.cell? ⟨w.heap.size, 0, none⟩ = some (.int .u8 k) ∧ w2.cell? ⟨w.heap.size, 1, none⟩ = some (.int .u8 r) ∧ w2.cell? ⟨w.heap.size, 2, none⟩ = some (.int .i64 l) ∧ w2.cell? ⟨w.heap.size, 3, none⟩ = some (.int .i64 s) ∧ w2.cell? ⟨w.heap.size, 4, none⟩ = some (.int .i64 d0) ∧ w2.cell? ⟨w.heap.size, 5, none⟩ = some (.int .i64 d1) ∧ w2.cell? ⟨w.heap.size, 6, none⟩ = some (.int .i64 d2) ∧ w2.cell? ⟨w.heap.size, 7, none⟩ = some (.int .i64 d3) ∧ w2.cell? ⟨w.heap.size, 8, none⟩ = some (.int .i64 d4) ∧ w2.cell? ⟨w.heap.size, 9, none⟩ = some (.int .i64 d5) ∧ w2.cell? ⟨w.heap.size, 10, none⟩ = some (.int .i64 d6) ∧ w2.cell? ⟨w.heap.size, 11, none⟩ = some (.int .i64 d7) ∧ w2.cell? ⟨w.heap.size, 12, none⟩ = some (.int .i64 i) ∧ w2.cell? ⟨w.heap.size, 13, none⟩ = some (.int .i64 j) := by
  have hlt : w.heap.size < (w.alloc (.cells #[.int .u8 k, .int .u8 r, .int .i64 l, .int .i64 s, .int .i64 d0, .int .i64 d1, .int .i64 d2, .int .i64 d3, .int .i64 d4, .int .i64 d5, .int .i64 d6, .int .i64 d7, .int .i64 i, .int .i64 j] 48)).heap.size := by simp
  refine ⟨Nat.lt_of_lt_of_le hlt h.size, ?_, ?_, ?_, ?_, ?_, ?_, ?_, ?_, ?_, ?_, ?_, ?_, ?_, ?_⟩
  all_goals (rw [h.cell (p := ⟨w.heap.size, _, none⟩) hlt]; go_simp)

theorem or_kr (k r : Int) (k0 : 0 ≤ k) (k1 : k < 256) (r0 : 0 ≤ r) (r1 : r < 256) : bits .or .u64 k (r * 256) = k + 256 * r := by
  have h := or_join k r 1 (by decide) k0 (by rw [p1]; exact k1) r0 r1
  rw [p1] at h
  rw [← h, show (2 : Int) ^ (8 * 1) = 256 from rfl, IntKind.wrap_u64, Int.emod_eq_of_lt (by omega) (by omega)]

set_option maxHeartbeats 2000000 in
theorem Lay_good (n : Ino) (w : World) (hw : n.wf) (h : n.rightB = true) : Calls Try.prog 27 #[n.v] w (Gave .u8 5 w n.layR) := by
  rw [Ino.layR_yes h]
  have hP := Ino.right_of h
  have hbd := Ino.nums_bd hw hP
  have hR := Right_ok n
  rw [h] at hR
  have hix := idx8 n.d0 n.d1 n.d2 n.d3 n.d4 n.d5 n.d6 n.d7
  have hD : n.D = [n.d0, n.d1, n.d2, n.d3, n.d4, n.d5, n.d6, n.d7] := rfl
  have hnum : n.nums = [n.k + 256 * n.r, n.l, n.s] ++ n.D ++ [n.i, n.j] := rfl
  rw [← hD] at hix
  have hl8 : n.D.length = 8 := rfl
  have hby : n.bytes = filled (layed 2 n.nums) 32 := rfl
  obtain ⟨h1, h2, h3, h4, h5, h6, h7, h8, h9, h10⟩ := hP
  have qi := ptrB_true h9
  have qj := ptrB_true h10
  have hor := or_kr n.k n.r hw.1.1 hw.1.2 hw.2.1 hw.2.2
  obtain ⟨⟨k0, k1⟩, r0, r1⟩ := hw
  generalize n.nums = NN at *
  generalize n.bytes = BB at *
  generalize n.D = D at *
  obtain ⟨k, r, l, s, d0, d1, d2, d3, d4, d5, d6, d7, i, j⟩ := n
  dsimp only [Ino.v, Ino.cs] at *
  have H8 := Lib.hid h8; have HIX := Lib.hid hix; have HNUM := Lib.hid hnum; have HL8 := Lib.hid hl8; have HBY := Lib.hid hby; have HBD := Lib.hid hbd
  clear h h2 h8 h9 h10 hD hix hnum hl8 hby hbd
  go_enter Try.func27, Try.ntmps27
  go_wp2_with fail
  refine (hR _).mono ?_
  rintro e w2 ⟨rfl, hX2⟩
  clear hR
  have X2 := ((Ext.refl w).alloc _).trans hX2
  obtain ⟨hlt, c0, c1, c2, c3, c4, c5, c6, c7, c8, c9, c10, c11, c12, c13⟩ := inoKept hX2
  clear hX2
  go_wp2_with fail
  have r1 : Row (w2.alloc (.cells #[.int .u64 (k + 256 * r), .int .u64 l, .int .u64 s] 76)) w2.heap.size 76 (ints .u64 [k + 256 * r, l, s]) := Row.new w2 76 (ints .u64 [k + 256 * r, l, s])
  have o1 := ownsRow_of (n := 3) (base := w2.heap.size) r1 (Nat.le_refl _) rfl (by decide)
  have X3 := (Ext.refl w2).alloc (.cells #[.int .u64 (k + 256 * r), .int .u64 l, .int .u64 s] 76)
  generalize w2.alloc (.cells #[.int .u64 (k + 256 * r), .int .u64 l, .int .u64 s] 76) = w3 at *
  clear c0 c1 c2 c3 c4 c5 c6 c7 c8 c9 c10 c11 hor r1
  have C12 := Lib.hid c12; have C13 := Lib.hid c13
  clear c12 c13
  go_loopw [4, 29] (fun u v wr => ∃ (m c q : Nat) (ao : Option Addr), m ≤ 8 ∧ q = 3 + m ∧ v = .int .i64 m ∧ u = .slice ao q c ∧ wr.ownsRow w2.heap.size 76 1 (.slice ao q c) q (ints .u64 ([k + 256 * r, l, s] ++ D.take m)) ∧ Ext w2 wr) (fun _ v _ => 8 - (intOf v).toNat)
  case atStart => exact ⟨0, 3, 3, _, by omega, rfl, rfl, rfl, by simpa using o1, X3⟩
  case round =>
    obtain ⟨m, c, q, ao, hm, hq, rfl, rfl, hown, hX⟩ := hrel
    by_cases hlt8 : m < 8
    · obtain ⟨x, hx, hi⟩ := HIX.out m hlt8
      have hpx := ptrB_true (H8.out x (List.mem_of_getElem? hx))
      have hts : Hid (D.take (m + 1) = D.take m ++ [x]) := by
        obtain ⟨h1, h2⟩ := List.getElem?_eq_some_iff.1 hx
        show D.take (m + 1) = _
        rw [List.take_succ_eq_append_getElem h1, h2]
      obtain ⟨wo, rfl⟩ : ∃ wo : World, wo = wr := ⟨_, rfl⟩
      obtain ⟨a', c', w4, hrun, hown', hext⟩ := run_append_one (P := Try.prog) wo w2.heap.size 73 73 76 .u64 8 Try.underlying73 info64 hown x (by omega) (by omega) hX.size
      have hX' := hext w2 hX (Nat.le_refl _)
      rw [List.append_assoc, ← hts.out] at hown'
      obtain ⟨x0, x1⟩ := hpx
      have HQ := Lib.hid hq
      have hq2 : q ≤ 11 := by omega
      clear hext hown hx hq
      go_wp2_with (at_builtin; refine Lib.wpList_append_run _ rfl _ _ _ _ rfl _ _ rfl rfl _ _ hrun ?_)
      go_roundw
      case rel => exact ⟨m + 1, c', q + 1, a', hlt8, by have := HQ.out; omega, by go_num, rfl, hown', hX'⟩
      case measure => simp [intOf]; omega
    · have hm8 : m = 8 := by omega
      subst hm8
      subst hq
      have htk : Hid (D.take 8 = D) := List.take_of_length_le (by rw [HL8.out]; exact Nat.le_refl _)
      rw [htk.out] at hown
      have d12 := hX.keep C12.out
      have d13 := hX.keep C13.out
      have r2 : Row (wr.alloc (.cells #[.int .u64 i, .int .u64 j] 76)) wr.heap.size 76 (ints .u64 [i, j]) := Row.new wr 76 (ints .u64 [i, j])
      obtain ⟨a', c', w4, hrun, hown', hext⟩ := run_append_sl (P := Try.prog) (wr.alloc (.cells #[.int .u64 i, .int .u64 j] 76)) w2.heap.size 73 73 76 (.int .u64 0) 8 Try.underlying73 info64 rfl (hown.alloc _) (m := 2) 2 (news := ints .u64 [i, j]) rfl r2.sl0 (by simp) (ints_oneCell' _ _) (by decide) (by decide) (by simp; have := hX.size; omega)
      have hX' := hext w2 (hX.alloc _) (Nat.le_refl _)
      rw [← ints_append, ← HNUM.out] at hown'
      obtain ⟨qi0, qi1⟩ := qi
      obtain ⟨qj0, qj1⟩ := qj
      clear hext hown r2 o1 X3
      go_wp2_with (at_builtin; refine Lib.wpList_append_run _ rfl _ _ _ _ rfl _ _ rfl rfl _ _ hrun ?_)
      have hl13 : NN.length = 13 := by rw [HNUM.out]; simp [HL8.out]
      have k0 : Calls Try.prog 49 #[.int .i64 2, .slice a' 13 c'] w4 _ := Lay_gave a' 13 c' NN w4 2 hl13 (by decide) (ownsRow_sl hown') (fun x hx => by have := HBD.out x hx; omega)
      refine k0.mono ?_
      clear k0
      rintro e w5 ⟨a5, c5, rfl, ho5, hX5⟩
      have hok : okLay 2 NN = true := okLay_of hl13 (by decide) (fun x hx => by have := HBD.out x hx; exact fits2 (by omega) (by omega))
      have hlr : Field.layR 2 NN = (layed 2 NN, 0) := by unfold Field.layR; rw [if_neg (by decide)]; show (if okLay 2 NN = true then _ else _) = _; rw [if_pos hok]; rfl
      rw [hlr] at ho5 ⊢
      dsimp only at ho5 ⊢
      have hl26 : (layed 2 NN).length = 26 := by rw [length_layed, hl13]
      have s5 := ownsRow_sl ho5
      have X5 := (X2.trans hX').trans hX5
      rw [hl26] at ho5 ⊢
      have HL26 := Lib.hid hl26
      clear hrun hown' ho5 hX5 hX' hlr hok d12 d13 hl26 hl13
      go_wp2_with fail
      have k0 : Calls Try.prog 50 #[.slice a5 26 c5, .int .i64 32] w5 _ := Fill_ok a5 26 c5 32 (layed 2 NN) w5 HL26.out s5 (by decide) (by decide)
      refine k0.mono ?_
      clear k0
      rintro e w6 ⟨rfl, rfl⟩
      go_wp2_with fail
      go_ret2
      rw [HBY.out]
      have hl32 : (filled (layed 2 NN) 32).length = 32 := length_filled _ _ (by rw [HL26.out]; decide)
      exact Gave.own (n := 32) rfl hl32 (ownsRow_base (ownsRow_of (Row.new w5 5 (ints .u8 (filled (layed 2 NN) 32))) (Nat.le_refl _) (by rw [ints_length]; exact hl32) (by decide)) X5.size) (X5.alloc _)

theorem Lay_ino (n : Ino) (w : World) (hw : n.wf) : Calls Try.prog 27 #[n.v] w (Gave .u8 5 w n.layR) := by
  cases h : n.rightB
  · exact Lay_bad n w h
  · exact Lay_good n w hw h

/-- The head of the reference's bytes. -/
theorem Ino.bytes_ref {n : Ino} (hw : n.wf) : n.bytes = filled (([n.k, n.r] ++ layed 2 [n.l, n.s]) ++ layed 2 n.D ++ layed 2 [n.i, n.j]) 32 := by
  unfold Ino.bytes
  congr 1
  have e : n.nums = [n.k + 256 * n.r] ++ [n.l, n.s] ++ n.D ++ [n.i, n.j] := rfl
  rw [e, layed_append, layed_append, layed_append]
  congr 3
  obtain ⟨⟨k0, k1⟩, r0, r1⟩ := hw
  have : layed 2 [n.k + 256 * n.r] = bytesOf 2 (n.k + 256 * n.r) := by simp [layed]
  rw [this, bytesOf_cons, bytesOf_cons, bytesOf_zero]
  congr 1
  · omega
  · congr 1; omega

set_option maxHeartbeats 2000000 in
theorem rLay_good (n : Ino) (w : World) (hw : n.wf) (h : n.rightB = true) : Calls Try.prog 30 #[n.v] w (Gave .u8 5 w n.layR) := by
  rw [Ino.layR_yes h]
  have hP := Ino.right_of h
  have hR := rRight_ok n
  rw [h] at hR
  have hD : n.D = [n.d0, n.d1, n.d2, n.d3, n.d4, n.d5, n.d6, n.d7] := rfl
  have hl8 : n.D.length = 8 := rfl
  have hby := Ino.bytes_ref hw
  obtain ⟨h1, h2, h3, h4, h5, h6, h7, h8, h9, h10⟩ := hP
  have qi := ptrB_true h9
  have qj := ptrB_true h10
  have hcd : ∀ v : World, Ext (w.alloc (.cells n.cs 48)) v → Sl v (some ⟨w.heap.size, 4, none⟩) (ints .i64 n.D) := fun v hv => Sl.mk fun q hq => by
    rw [ints_length] at hq
    rw [ints_getElem]
    exact hv.keep (Ino.cellD n w q hq)
  generalize n.bytes = BB at *
  generalize n.D = D at *
  obtain ⟨k, r, l, s, d0, d1, d2, d3, d4, d5, d6, d7, i, j⟩ := n
  dsimp only [Ino.v, Ino.cs] at *
  have H8 := Lib.hid h8; have HL8 := Lib.hid hl8; have HBY := Lib.hid hby; have HCD := Lib.hid hcd
  clear h h2 h8 h9 h10 hD hl8 hby hcd
  go_enter Try.func30, Try.ntmps30
  go_wp2_with fail
  refine (hR _).mono ?_
  rintro e w2 ⟨rfl, hX2⟩
  clear hR
  have X2 := ((Ext.refl w).alloc _).trans hX2
  obtain ⟨hlt, c0, c1, c2, c3, c4, c5, c6, c7, c8, c9, c10, c11, c12, c13⟩ := inoKept hX2
  have HX2 := Lib.hid hX2
  clear hX2 c4 c5 c6 c7 c8 c9 c10 c11
  have C2 := Lib.hid c2; have C3 := Lib.hid c3; have C12 := Lib.hid c12; have C13 := Lib.hid c13
  have r1 : Row (w2.alloc (.cells #[.int .u8 k, .int .u8 r] 5)) w2.heap.size 5 (ints .u8 [k, r]) := Row.new w2 5 (ints .u8 [k, r])
  have o1 := ownsRow_of (n := 2) (base := w2.heap.size) r1 (Nat.le_refl _) rfl (by decide)
  have X3 := (Ext.refl w2).alloc (.cells #[.int .u8 k, .int .u8 r] 5)
  have X4 := X3.alloc (.cells #[.int .i64 l, .int .i64 s] 3)
  have o2 := o1.alloc (.cells #[.int .i64 l, .int .i64 s] 3)
  have r2 : Row ((w2.alloc (.cells #[.int .u8 k, .int .u8 r] 5)).alloc (.cells #[.int .i64 l, .int .i64 s] 3)) (w2.alloc (.cells #[.int .u8 k, .int .u8 r] 5)).heap.size 3 (ints .i64 [l, s]) := Row.new _ 3 (ints .i64 [l, s])
  rw [show (w2.alloc (.cells #[.int .u8 k, .int .u8 r] 5)).heap.size = w2.heap.size + 1 by simp] at r2
  clear o1 r1 X3
  go_wp2_with fail
  generalize (w2.alloc (.cells #[.int .u8 k, .int .u8 r] 5)).alloc (.cells #[.int .i64 l, .int .i64 s] 3) = v1 at *
  have k0 : Calls Try.prog 52 #[.slice (some ⟨w2.heap.size + 1, 0, none⟩) 2 2] v1 _ := two_ok _ 2 2 [l, s] v1 rfl (by decide) r2.sl0 (by simp; omega)
  refine k0.mono ?_
  clear k0
  rintro e v2 ⟨ax, cx, rfl, ox, hXx⟩
  rw [length_layed] at ox ⊢
  have X5 := X4.trans hXx
  obtain ⟨a3, q3, v3, run3, o3, ext3⟩ := run_append_sl (P := Try.prog) v2 w2.heap.size 26 26 5 (.int .u8 0) 1 Try.underlying26 info8 rfl (ownsRow_ext o2 hXx) (m := 4) cx (by rw [ints_length, length_layed]; rfl) (ownsRow_sl ox) (own_nil ox) (ints_oneCell' _ _) (by decide) (by decide) X5.size
  have X6 := ext3 w2 X5 (Nat.le_refl _)
  rw [← ints_append] at o3
  have hsD := HCD.out v3 (HX2.out.trans X6)
  have lcl : (k == k) = true := by simp
  clear X4 o2 r2 hXx X5 ox ext3 c0 c1 c2 c3 c12 c13
  have tok : True := trivial
  go_wp2_with (have _t := tok; at_builtin; refine Lib.wpList_append_run _ rfl _ _ _ _ rfl _ _ rfl rfl _ _ run3 ?_; clear tok _t)
  clear run3
  refine (two_ok _ 8 8 D v3 HL8.out (by decide) hsD (fun x hx => by have := ptrB_true (H8.out x hx); omega)).mono ?_
  rintro e v4 ⟨ax, cx, rfl, ox, hXx⟩
  have hl16 : (layed 2 D).length = 16 := by rw [length_layed, HL8.out]
  rw [hl16] at ox ⊢
  have X7 := X6.trans hXx
  obtain ⟨a5, q5, v5, run5, o5, ext5⟩ := run_append_sl (P := Try.prog) v4 w2.heap.size 26 26 5 (.int .u8 0) 1 Try.underlying26 info8 rfl (ownsRow_ext o3 hXx) (m := 16) cx (by rw [ints_length]; exact hl16) (ownsRow_sl ox) (own_nil ox) (ints_oneCell' _ _) (by decide) (by decide) X7.size
  have X8 := ext5 w2 X7 (Nat.le_refl _)
  rw [← ints_append] at o5
  have c12 := X8.keep C12.out
  have c13 := X8.keep C13.out
  have hlt5 := World.block_lt_of_cell? v5 _ c12
  have o6 := o5.alloc (.cells #[.int .i64 i, .int .i64 j] 3)
  have r6 : Row (v5.alloc (.cells #[.int .i64 i, .int .i64 j] 3)) v5.heap.size 3 (ints .i64 [i, j]) := Row.new _ 3 (ints .i64 [i, j])
  have X9 := X8.alloc (.cells #[.int .i64 i, .int .i64 j] 3)
  have HL16 := Lib.hid hl16
  clear X6 o3 hXx X7 ox ext5 hsD hl16 o5
  have tok : True := trivial
  go_wp2_with (have _t := tok; at_builtin; refine Lib.wpList_append_run _ rfl _ _ _ _ rfl _ _ rfl rfl _ _ run5 ?_; clear tok _t)
  clear run5
  generalize v5.alloc (.cells #[.int .i64 i, .int .i64 j] 3) = v6 at *
  obtain ⟨qi0, qi1⟩ := qi
  obtain ⟨qj0, qj1⟩ := qj
  have k0 : Calls Try.prog 52 #[.slice (some ⟨v5.heap.size, 0, none⟩) 2 2] v6 _ := two_ok _ 2 2 [i, j] v6 rfl (by decide) r6.sl0 (by simp; omega)
  refine k0.mono ?_
  clear k0
  rintro e v7 ⟨ax, cx, rfl, ox, hXx⟩
  rw [length_layed] at ox ⊢
  have X10 := X9.trans hXx
  obtain ⟨a8, q8, v8, run8, o8, ext8⟩ := run_append_sl (P := Try.prog) v7 w2.heap.size 26 26 5 (.int .u8 0) 1 Try.underlying26 info8 rfl (ownsRow_ext o6 hXx) (m := 4) cx (by rw [ints_length, length_layed]; rfl) (ownsRow_sl ox) (own_nil ox) (ints_oneCell' _ _) (by decide) (by decide) X10.size
  have X11 := X2.trans (ext8 w2 X10 (Nat.le_refl _))
  rw [← ints_append] at o8
  have hlB : ((([k, r] ++ layed 2 [l, s]) ++ layed 2 D) ++ layed 2 [i, j]).length = 26 := by
    rw [List.length_append, List.length_append, List.length_append, HL16.out, length_layed, length_layed]; rfl
  have HBY' := HBY
  generalize (([k, r] ++ layed 2 [l, s]) ++ layed 2 D) ++ layed 2 [i, j] = B at *
  have HLB := Lib.hid hlB
  clear X8 o6 hXx X9 X10 ox ext8 c12 c13 hlB hlt5 r6
  have tok : True := trivial
  go_wp2_with (have _t := tok; at_builtin; refine Lib.wpList_append_run _ rfl _ _ _ _ rfl _ _ rfl rfl _ _ run8 ?_; clear tok _t)
  clear run8
  have k0 : Calls Try.prog 29 #[.slice a8 26 q8, .int .i64 32] v8 _ := rFill_ok a8 26 q8 32 B v8 HLB.out (ownsRow_sl o8) (own_nil o8) (by decide) (by decide)
  refine k0.mono ?_
  clear k0
  rintro e v9 ⟨ax, cx, rfl, ox, hXx⟩
  rw [← HBY.out] at ox ⊢
  have X12 := X11.trans hXx
  have ox' := ownsRow_base ox X11.size
  clear ox hXx X11 o8
  go_wp2_with fail
  go_ret2
  exact ⟨ax, cx, rfl, ox', X12⟩
theorem rLay_ino (n : Ino) (w : World) (hw : n.wf) : Calls Try.prog 30 #[n.v] w (Gave .u8 5 w n.layR) := by
  cases h : n.rightB
  · exact rLay_bad n w h
  · exact rLay_good n w hw h
end Go.Proofs.Ytnodinancnfoeaa.Ino
/- Rows: plain law, and how they lie. -/
namespace Go.Proofs.Ytnodinancnfoeaa.Intern
open Go.RowKit Words Mem Plain Ops
set_option linter.unusedVariables false
set_option linter.unusedSimpArgs false

abbrev RowT := Int × Int
abbrev rc (r : RowT) : List Value := [.int .u16 r.1, .int .i64 r.2]
def rowsC (L : List RowT) : List Value := L.flatMap rc
def rg (L : List RowT) (k : Nat) : RowT := L.getD k (0, 0)
theorem rowsC_nil : rowsC [] = [] := rfl
theorem rowsC_cons (r : RowT) (L : List RowT) : rowsC (r :: L) = .int .u16 r.1 :: .int .i64 r.2 :: rowsC L := rfl
theorem rowsC_append (L M : List RowT) : rowsC (L ++ M) = rowsC L ++ rowsC M := by simp [rowsC]
theorem rowsC_length (L : List RowT) : (rowsC L).length = 2 * L.length := by
  induction L with
  | nil => rfl
  | cons r L ih => rw [rowsC_cons]; simp; omega
theorem rowsC_at (L : List RowT) : ∀ k, k < L.length → (rowsC L)[2 * k]? = some (.int .u16 (rg L k).1) ∧ (rowsC L)[2 * k + 1]? = some (.int .i64 (rg L k).2) := by
  induction L with
  | nil => intro k h; simp at h
  | cons r L ih =>
    intro k h
    rw [rowsC_cons]
    cases k with
    | zero => exact ⟨rfl, rfl⟩
    | succ k =>
      have := ih k (by simpa using h)
      rw [show 2 * (k + 1) = 2 * k + 1 + 1 by omega]
      simpa [rg] using this
theorem rowsC_one (L : List RowT) : ∀ u ∈ rowsC L, u.oneCell' = true := by
  intro u hu
  obtain ⟨r, _, hr⟩ := List.mem_flatMap.1 hu
  simp [rc] at hr
  rcases hr with rfl | rfl <;> rfl
theorem rowsC_take (L : List RowT) : ∀ n, (rowsC L).take (2 * n) = rowsC (L.take n) := by
  induction L with
  | nil => intro n; simp [rowsC]
  | cons r L ih =>
    intro n
    cases n with
    | zero => rfl
    | succ n => rw [show 2 * (n + 1) = 2 * n + 1 + 1 by omega, rowsC_cons, List.take_succ_cons, List.take_succ_cons, ih, List.take_succ_cons, rowsC_cons]
theorem rowsC_set0 (L : List RowT) : ∀ (k : Nat) (x : Int), (rowsC L).set (2 * k) (.int .u16 x) = rowsC (L.set k (x, (rg L k).2)) := by
  induction L with
  | nil => intro k x; simp [rowsC]
  | cons r L ih =>
    intro k x
    cases k with
    | zero => rfl
    | succ k => rw [show 2 * (k + 1) = 2 * k + 1 + 1 by omega, rowsC_cons, List.set_cons_succ, List.set_cons_succ, ih, List.set_cons_succ, rowsC_cons]; rfl
theorem rowsC_set1 (L : List RowT) : ∀ (k : Nat) (x : Int), (rowsC L).set (2 * k + 1) (.int .i64 x) = rowsC (L.set k ((rg L k).1, x)) := by
  induction L with
  | nil => intro k x; simp [rowsC]
  | cons r L ih =>
    intro k x
    cases k with
    | zero => rfl
    | succ k => rw [show 2 * (k + 1) + 1 = 2 * k + 1 + 1 + 1 by omega, rowsC_cons, List.set_cons_succ, List.set_cons_succ, ih, List.set_cons_succ, rowsC_cons]; rfl
theorem rowsC_inj : ∀ {L M : List RowT}, rowsC L = rowsC M → L = M
  | [], [], _ => rfl
  | [], _ :: _, h => by simp [rowsC] at h
  | _ :: _, [], h => by simp [rowsC] at h
  | r :: L, s :: M, h => by
    rw [rowsC_cons, rowsC_cons] at h
    injection h with h1 h2
    injection h2 with h2 h3
    injection h1 with _ h1
    injection h2 with _ h2
    rw [rowsC_inj h3, Prod.ext h1 h2]

theorem rg_eq (L : List RowT) (k : Nat) (h : k < L.length) : rg L k = L[k] := by simp [rg, h]
theorem rg_set (L : List RowT) (i : Nat) (r : RowT) (k : Nat) (hi : i < L.length) : rg (L.set i r) k = if k = i then r else rg L k := by
  unfold rg
  simp only [List.getD_eq_getElem?_getD, List.getElem?_set]
  by_cases e : i = k
  · subst e; simp [hi]
  · rw [if_neg e, if_neg (fun h => e h.symm)]
theorem rg_take (L : List RowT) (n k : Nat) (h : k < n) : rg (L.take n) k = rg L k := by
  unfold rg
  simp [List.getElem?_take, h]
theorem rg_mem {L : List RowT} {k : Nat} (h : k < L.length) : rg L k ∈ L := by rw [rg_eq L k h]; exact List.getElem_mem h
theorem rg_ext {L M : List RowT} (h : L.length = M.length) (hk : ∀ k, k < L.length → rg L k = rg M k) : L = M := by
  apply List.ext_getElem h
  intro k h1 h2
  rw [← rg_eq L k h1, ← rg_eq M k h2]
  exact hk k h1

/-- What a row's numbers may be in the language. -/
def wfR (L : List RowT) : Prop := ∀ r ∈ L, (0 ≤ r.1 ∧ r.1 ≤ 65535) ∧ (-9223372036854775808 ≤ r.2 ∧ r.2 ≤ 9223372036854775807)
theorem wfR.at {L : List RowT} (h : wfR L) {k : Nat} (hk : k < L.length) : (0 ≤ (rg L k).1 ∧ (rg L k).1 ≤ 65535) ∧ (-9223372036854775808 ≤ (rg L k).2 ∧ (rg L k).2 ≤ 9223372036854775807) := h _ (rg_mem hk)
theorem wfR.set {L : List RowT} (h : wfR L) (i : Nat) (r : RowT) (h1 : 0 ≤ r.1 ∧ r.1 ≤ 65535) (h2 : -9223372036854775808 ≤ r.2 ∧ r.2 ≤ 9223372036854775807) : wfR (L.set i r) := by
  intro x hx
  rcases List.mem_or_eq_of_mem_set hx with hx | rfl
  · exact h x hx
  · exact ⟨h1, h2⟩
theorem wfR.take {L : List RowT} (h : wfR L) (n : Nat) : wfR (L.take n) := fun x hx => h x (List.mem_of_mem_take hx)

/-- Row k may stand behind those ahead of it. -/
def goodAt (L : List RowT) (k : Nat) : Prop := 0 ≤ (rg L k).2 ∧ (rg L k).2 ≤ 65535 ∧ ((rg L k).2 = 0 → (rg L k).1 = 0) ∧ (0 < (rg L k).2 → ∀ j, j < k → 0 < (rg L j).2 → (rg L j).1 ≠ (rg L k).1)
instance (L : List RowT) (k : Nat) : Decidable (goodAt L k) := by unfold goodAt; infer_instance
def okP (L : List RowT) : Prop := L.length = 16 ∧ ∀ k, k < L.length → goodAt L k
instance (L : List RowT) : Decidable (okP L) := by unfold okP; infer_instance
def rightB (L : List RowT) : Bool := decide (okP L)
theorem right_iff (L : List RowT) : rightB L = true ↔ okP L := by simp [rightB]
theorem right_no {L : List RowT} {k : Nat} (hk : k < L.length) (h : ¬ goodAt L k) : rightB L = false := by
  cases e : rightB L
  · rfl
  · exact absurd (((right_iff L).1 e).2 k hk) h
theorem right_len {L : List RowT} (h : L.length ≠ 16) : rightB L = false := by
  cases e : rightB L
  · rfl
  · exact absurd ((right_iff L).1 e).1 h
theorem right_yes {L : List RowT} (h1 : L.length = 16) (h2 : ∀ k, k < L.length → goodAt L k) : rightB L = true := (right_iff L).2 ⟨h1, h2⟩

/-- The first row that is as p tells; -1: none. -/
def idxI (p : RowT → Bool) (L : List RowT) : Int := match L.findIdx? p with | some i => i | none => -1
theorem idxI_at {p : RowT → Bool} {L : List RowT} {k : Nat} (hk : k < L.length) (h : p (rg L k) = true) (hn : ∀ j, j < k → p (rg L j) = false) : idxI p L = k := by
  have : L.findIdx? p = some k := by
    rw [List.findIdx?_eq_some_iff_getElem]
    refine ⟨hk, by rw [← rg_eq L k hk]; exact h, fun j hj => ?_⟩
    rw [← rg_eq L j (by omega), hn j hj]; simp
  simp [idxI, this]
theorem idxI_none {p : RowT → Bool} {L : List RowT} (hn : ∀ j, j < L.length → p (rg L j) = false) : idxI p L = -1 := by
  have : L.findIdx? p = none := by
    rw [List.findIdx?_eq_none_iff]
    intro x hx
    obtain ⟨j, hj, rfl⟩ := List.getElem_of_mem hx
    rw [← rg_eq L j hj]; exact hn j hj
  simp [idxI, this]
theorem idxI_cases (p : RowT → Bool) (L : List RowT) : (idxI p L = -1 ∧ ∀ j, j < L.length → p (rg L j) = false) ∨ ∃ k, k < L.length ∧ idxI p L = (k : Nat) ∧ p (rg L k) = true ∧ ∀ j, j < k → p (rg L j) = false := by
  cases e : L.findIdx? p with
  | none =>
    refine .inl ⟨by simp [idxI, e], fun j hj => ?_⟩
    rw [List.findIdx?_eq_none_iff] at e
    exact e _ (rg_mem hj)
  | some k =>
    have e' := e
    rw [List.findIdx?_eq_some_iff_getElem] at e'
    obtain ⟨hk, h1, h2⟩ := e'
    refine .inr ⟨k, hk, by simp [idxI, e], by rw [rg_eq L k hk]; exact h1, fun j hj => ?_⟩
    rw [rg_eq L j (by omega)]
    have := h2 j hj
    simpa using this

def isL (a : Int) (r : RowT) : Bool := decide (0 < r.2) && decide (r.1 = a)
def isF (r : RowT) : Bool := decide (r.2 = 0)
def ofI (L : List RowT) (a : Int) : Int := idxI (isL a) L
def freeI (L : List RowT) : Int := idxI isF L
/-- Find. -/
def findR (L : List RowT) (a : Int) : Int × Bool := if ofI L a < 0 ∨ rightB L = false then (0, false) else (ofI L a, true)
/-- Retain. -/
def retR (L : List RowT) (a : Int) : List RowT × Int × Int :=
  if rightB L = false then ([], 0, 1)
  else if 0 ≤ ofI L a then (if (rg L (ofI L a).toNat).2 = 65535 then ([], 0, 4) else (L.set (ofI L a).toNat (a, (rg L (ofI L a).toNat).2 + 1), ofI L a, 0))
  else if 0 ≤ freeI L then (L.set (freeI L).toNat (a, 1), freeI L, 0)
  else ([], 0, 5)
/-- Release. -/
def relR (L : List RowT) (i : Int) : List RowT × Int :=
  if rightB L = false ∨ i < 0 ∨ (L.length : Int) ≤ i then ([], 1)
  else if (rg L i.toNat).2 = 0 then ([], 2)
  else if (rg L i.toNat).2 = 1 then (L.set i.toNat (0, 0), 0)
  else (L.set i.toNat ((rg L i.toNat).1, (rg L i.toNat).2 - 1), 0)

/-- The shapes of Retain. -/
theorem ret_cases (L : List RowT) (a : Int) :
    (rightB L = false ∧ retR L a = ([], 0, 1)) ∨
    (rightB L = true ∧ ((∃ k, k < L.length ∧ ofI L a = (k : Nat) ∧ 0 < (rg L k).2 ∧ (rg L k).1 = a ∧ (rg L k).2 = 65535 ∧ findR L a = ((k : Int), true) ∧ retR L a = ([], 0, 4)) ∨
      (∃ k, k < L.length ∧ ofI L a = (k : Nat) ∧ 0 < (rg L k).2 ∧ (rg L k).1 = a ∧ (rg L k).2 < 65535 ∧ findR L a = ((k : Int), true) ∧ retR L a = (L.set k (a, (rg L k).2 + 1), (k : Int), 0)) ∨
      (ofI L a = -1 ∧ findR L a = (0, false) ∧ ∃ k, k < L.length ∧ freeI L = (k : Nat) ∧ (rg L k).2 = 0 ∧ (∀ j, j < k → (rg L j).2 ≠ 0) ∧ retR L a = (L.set k (a, 1), (k : Int), 0)) ∨
      (ofI L a = -1 ∧ findR L a = (0, false) ∧ freeI L = -1 ∧ (∀ j, j < L.length → (rg L j).2 ≠ 0) ∧ retR L a = ([], 0, 5)))) := by
  cases hr : rightB L
  · exact .inl ⟨rfl, by simp [retR, hr]⟩
  · refine .inr ⟨rfl, ?_⟩
    have hok := (right_iff L).1 hr
    rcases idxI_cases (isL a) L with ⟨h1, _⟩ | ⟨k, hk, h1, h2, _⟩
    · have h1 : ofI L a = -1 := h1
      have hf : findR L a = (0, false) := by simp [findR, h1]
      rcases idxI_cases isF L with ⟨h3, h4⟩ | ⟨k, hk, h3, h4, h5⟩
      · have h3 : freeI L = -1 := h3
        exact .inr (.inr (.inr ⟨h1, hf, h3, fun j hj => by simpa [isF] using h4 j hj, by simp [retR, hr, h1, h3]⟩))
      · have h3 : freeI L = (k : Nat) := h3
        exact .inr (.inr (.inl ⟨h1, hf, k, hk, h3, by simpa [isF] using h4, fun j hj => by simpa [isF] using h5 j hj, by simp [retR, hr, h1, h3]⟩))
    · have h1 : ofI L a = (k : Nat) := h1
      have hn : ¬ ((k : Int) < 0) := by omega
      have hf : findR L a = ((k : Int), true) := by simp [findR, h1, hr, hn]
      have h2' : 0 < (rg L k).2 ∧ (rg L k).1 = a := by simpa [isL] using h2
      by_cases e : (rg L k).2 = 65535
      · exact .inl ⟨k, hk, h1, h2'.1, h2'.2, e, hf, by simp [retR, hr, h1, e]⟩
      · have := (hok.2 k hk).2.1
        exact .inr (.inl ⟨k, hk, h1, h2'.1, h2'.2, by omega, hf, by simp [retR, hr, h1, e]⟩)
theorem find_cases (L : List RowT) (a : Int) : (findR L a = (0, false) ∧ (rightB L = false ∨ ∀ j, j < L.length → isL a (rg L j) = false)) ∨ ∃ k, k < L.length ∧ rightB L = true ∧ findR L a = ((k : Int), true) ∧ isL a (rg L k) = true ∧ ∀ j, j < k → isL a (rg L j) = false := by
  cases hr : rightB L
  · exact .inl ⟨by simp [findR, hr], .inl rfl⟩
  · rcases idxI_cases (isL a) L with ⟨h1, h2⟩ | ⟨k, hk, h1, h2, h3⟩
    · have h1 : ofI L a = -1 := h1
      exact .inl ⟨by simp [findR, h1], .inr h2⟩
    · have h1 : ofI L a = (k : Nat) := h1
      have hn : ¬ ((k : Int) < 0) := by omega
      exact .inr ⟨k, hk, rfl, by simp [findR, h1, hr, hn], h2, h3⟩
theorem rel_cases (L : List RowT) (i : Int) :
    ((rightB L = false ∨ i < 0 ∨ (L.length : Int) ≤ i) ∧ relR L i = ([], 1)) ∨
    ∃ k : Nat, i = k ∧ k < L.length ∧ rightB L = true ∧ (((rg L k).2 = 0 ∧ relR L i = ([], 2)) ∨ ((rg L k).2 = 1 ∧ relR L i = (L.set k (0, 0), 0)) ∨ (1 < (rg L k).2 ∧ (rg L k).2 ≤ 65535 ∧ relR L i = (L.set k ((rg L k).1, (rg L k).2 - 1), 0))) := by
  by_cases h : rightB L = false ∨ i < 0 ∨ (L.length : Int) ≤ i
  · exact .inl ⟨h, by unfold relR; rw [if_pos h]⟩
  · have hr : rightB L = true := by
      cases e : rightB L
      · exact absurd (.inl e) h
      · rfl
    obtain ⟨h1, h2⟩ : 0 ≤ i ∧ i < L.length := by omega
    obtain ⟨k, rfl⟩ : ∃ k : Nat, i = k := ⟨i.toNat, by omega⟩
    have hk : k < L.length := by omega
    have hg := ((right_iff L).1 hr).2 k hk
    refine .inr ⟨k, rfl, hk, hr, ?_⟩
    unfold relR
    rw [if_neg h]
    simp only [Int.toNat_natCast]
    by_cases e0 : (rg L k).2 = 0
    · exact .inl ⟨e0, by rw [if_pos e0]⟩
    · rw [if_neg e0]
      by_cases e1 : (rg L k).2 = 1
      · exact .inr (.inl ⟨e1, by rw [if_pos e1]⟩)
      · rw [if_neg e1]
        have h0 := hg.1
        exact .inr (.inr ⟨by omega, hg.2.1, rfl⟩)
def freeL : List RowT := List.replicate 16 (0, 0)

/-! How rows lie. -/
theorem rows_at {w : World} {a : Option Addr} {L : List RowT} (h : Sl w a (rowsC L)) (h0 : 0 < L.length) : ∃ b off, a = some ⟨b, off, none⟩ ∧ ∀ k, k < L.length → w.cell? ⟨b, off + k * 2, none⟩ = some (.int .u16 (rg L k).1) ∧ w.cell? ⟨b, off + k * 2 + 1, none⟩ = some (.int .i64 (rg L k).2) := by
  obtain ⟨b, off, e, hc⟩ := h.at (by rw [rowsC_length]; omega)
  refine ⟨b, off, e, fun k hk => ?_⟩
  have hl := rowsC_length L
  obtain ⟨h1, h2⟩ := rowsC_at L k hk
  rw [Nat.mul_comm]
  refine ⟨?_, ?_⟩
  · rw [hc (2 * k) (by omega), ← h1, List.getElem?_eq_getElem (by omega)]
  · rw [show off + 2 * k + 1 = off + (2 * k + 1) by omega, hc (2 * k + 1) (by omega), ← h2, List.getElem?_eq_getElem (by omega)]
end Go.Proofs.Ytnodinancnfoeaa.Intern
/- intern.Right. -/
namespace Go.Proofs.Ytnodinancnfoeaa.Intern
open Go.RowKit Go.Maps Words Mem Plain Ops
open Go.ChangeShapes Go.WideShapes
set_option linter.ambiguousOpen false
set_option linter.unusedVariables false
set_option linter.unusedSimpArgs false

abbrev U := Unit
/-- What is in the map ahead of row k. -/
def Dm (L : List RowT) : Nat → DataW U
  | 0 => .map []
  | k + 1 => if 0 < (rg L k).2 then (Dm L k).put (.int .u16 (rg L k).1) (.lit (.bool true)) else Dm L k
open Classical in
noncomputable def hadB (L : List RowT) (k : Nat) (x : Int) : Bool := decide (∃ j, j < k ∧ 0 < (rg L j).2 ∧ (rg L j).1 = x)
theorem key_int (i : Int) : WideAt.IsKeyLit (.int .u16 i) := by trivial
theorem dm_tidy (L : List RowT) (k : Nat) : Tidy (Dm L k) := by
  induction k with
  | zero => exact tidy_empty
  | succ k ih =>
    unfold Dm
    split
    · exact ih.put (key_int _) _
    · exact ih
theorem dm_at (L : List RowT) (k : Nat) (x : Int) : (Dm L k).atKey (.int .u16 x) (.lit (.bool false)) = .lit (.bool (hadB L k x)) := by
  induction k with
  | zero =>
    have : hadB L 0 x = false := by simp [hadB]
    rw [this]; rfl
  | succ k ih =>
    unfold Dm
    by_cases h0 : 0 < (rg L k).2
    · rw [if_pos h0]
      by_cases h : (rg L k).1 = x
      · rw [h, atKey_put_same (dm_tidy L k).isMap (key_int _)]
        have : hadB L (k + 1) x = true := by
          simp only [hadB, decide_eq_true_eq]
          exact ⟨k, by omega, h0, h⟩
        rw [this]
      · rw [atKey_put_other (by intro e; cases e; exact h rfl), ih]
        congr 2
        unfold hadB
        rw [decide_eq_decide]
        constructor
        · rintro ⟨j, h1, h2⟩; exact ⟨j, by omega, h2⟩
        · rintro ⟨j, h1, h2, h3⟩
          by_cases e : j = k
          · subst e; exact absurd h3 h
          · exact ⟨j, by omega, h2, h3⟩
    · rw [if_neg h0, ih]
      congr 2
      unfold hadB
      rw [decide_eq_decide]
      constructor
      · rintro ⟨j, h1, h2⟩; exact ⟨j, by omega, h2⟩
      · rintro ⟨j, h1, h2, h3⟩
        by_cases e : j = k
        · subst e; exact absurd h2 h0
        · exact ⟨j, by omega, h2, h3⟩
theorem lawL : Keyed Try.prog 43 := int_keyed Try.underlying43
theorem zeroB (w : World) : (zeroValue 4).run Try.prog w = .ok (.bool false) w := by kernel_rfl
theorem infoRow : (Try.prog.info? 45).map (·.size) = some 2 := by kernel_rfl
theorem oneRow (x y : Int) : (#[.int .u16 x, .int .i64 y] : Array Value).all (·.oneCell') = true := by simp [Value.oneCell']
theorem byCell {w w' : World} {g : Nat} (h : By g w w') {p : Addr} {v : Value} (hc : w.cell? p = some v) (hne : p.block ≠ g) : w'.cell? p = some v := by
  have hl := World.block_lt_of_cell? w p hc
  rw [World.cell?_of_block (w := w) (h.block p.block hl (by simpa using hne))]
  exact hc
theorem lookB {w : World} {b n : Nat} {D : DataW U} (h : w.ownsMap Try.prog 43 (plainElem Try.prog 4) b n D) {x : Int} (hw : (Lit.int .u16 x).wf = true) {v : Bool} (hv : D.atKey (.int .u16 x) (.lit (.bool false)) = .lit (.bool v)) :
    (Instr.lookup 84 (.map (some b)) (.int .u16 x) false).run Try.prog w = .ok (.bool v) w := by
  obtain ⟨r, ps, h1, h2⟩ := h.lookup lawL Try.underlying84 (zeroB w) (plainElem_bool Try.underlying4 false) (keyOf_int_mk Try.underlying43 hw)
  rw [h1]
  rw [hv] at h2
  unfold plainElem at h2
  simp only [Try.underlying4] at h2
  split at h2 <;> simp_all
theorem wf_u16 {x : Int} (h : 0 ≤ x ∧ x ≤ 65535) : (Lit.int .u16 x).wf = true := by
  simp [Lit.wf, IntKind.has, IntKind.min, IntKind.max, IntKind.signed, IntKind.bits]
  omega

set_option maxRecDepth 100000 in
set_option maxHeartbeats 2000000 in
theorem Right_pos (L : List RowT) (b off cap : Nat) (w : World) (h16 : L.length = 16)
    (hc : ∀ k, k < L.length → w.cell? ⟨b, off + k * 2, none⟩ = some (.int .u16 (rg L k).1) ∧ w.cell? ⟨b, off + k * 2 + 1, none⟩ = some (.int .i64 (rg L k).2)) (hwf : wfR L) :
    Calls Try.prog 32 #[.slice (some ⟨b, off, none⟩) L.length cap] w fun e w' => e = .returned (.bool (rightB L)) ∧ Ext w w' := by
  have hb : b < w.heap.size := World.block_lt_of_cell? w _ (hc 0 (by omega)).1
  have hown0 : (w.alloc (.map #[] 0)).ownsMap Try.prog 43 (plainElem Try.prog 4) w.heap.size 0 (Dm L 0) := World.ownsMap_made _ _ _ _
  have HC := Lib.hid (show ∀ v, By w.heap.size (w.alloc (.map #[] 0)) v → ∀ k, k < L.length → v.cell? ⟨b, off + k * 2, none⟩ = some (.int .u16 (rg L k).1) ∧ v.cell? ⟨b, off + k * 2 + 1, none⟩ = some (.int .i64 (rg L k).2) from fun v hv k hk =>
    ⟨byCell hv (((Ext.refl w).alloc _).keep (hc k hk).1) (by simp; omega), byCell hv (((Ext.refl w).alloc _).keep (hc k hk).2) (by simp; omega)⟩)
  have HX0 := Lib.hid (show Ext w (w.alloc (.map #[] 0)) from (Ext.refl w).alloc _)
  have HWF := Lib.hid hwf
  have HL := Lib.hid h16
  have HO := Lib.hid hown0
  have hmk := @run_makeMap Try.prog
  rw [h16]
  clear hc hwf h16 hown0
  go_enter Try.func32, Try.ntmps32
  go_wp2
  generalize hw1 : w.alloc (.map #[] 0) = w1 at *
  obtain ⟨gm, hgm⟩ : ∃ g, g = w.heap.size := ⟨_, rfl⟩
  rw [← hgm] at hb HC HO ⊢
  have HGM := Lib.hid hgm
  clear hgm hw1 hmk
  go_loopw [12] (fun v wr => ∃ k : Nat, k ≤ 16 ∧ v = .int .i64 k ∧ (∀ j, j < k → goodAt L j) ∧ wr.ownsMap Try.prog 43 (plainElem Try.prog 4) gm k (Dm L k) ∧ By gm w1 wr) (fun v _ => 16 - (intOf v).toNat)
  case atStart => exact ⟨0, by omega, rfl, fun j hj => absurd hj (by omega), HO.out, By.refl _ _⟩
  case round =>
    obtain ⟨k, hk, rfl, hgood, hown, hby⟩ := hrel
    by_cases hlt : k < 16
    · have hkL : k < L.length := by rw [HL.out]; exact hlt
      obtain ⟨c0, c1⟩ := HC.out wr hby k hkL
      obtain ⟨⟨p0, p1⟩, q0, q1⟩ := HWF.out.at hkL
      obtain ⟨x, hx⟩ : ∃ x, x = (rg L k).1 := ⟨_, rfl⟩
      obtain ⟨y, hy⟩ : ∃ y, y = (rg L k).2 := ⟨_, rfl⟩
      have HG := Lib.hid hgood
      have HBY := Lib.hid hby
      have HXY := Lib.hid (And.intro hx hy)
      rw [← hx] at c0 p0 p1
      rw [← hy] at c1 q0 q1
      have hwx := wf_u16 (And.intro p0 p1)
      have hown1 := hown.alloc (.cells #[.int .u16 x, .int .i64 y] 45)
      have hby1 := hby.alloc (.cells #[.int .u16 x, .int .i64 y] 45)
      have hhad := dm_at L k x
      have hD1 : ¬ 0 < y → Dm L (k + 1) = Dm L k := fun h => by rw [hy] at h; show (if 0 < (rg L k).2 then _ else _) = _; rw [if_neg h]
      have hD2 : 0 < y → Dm L (k + 1) = (Dm L k).put (.int .u16 x) (.lit (.bool true)) := fun h => by rw [hy] at h; show (if 0 < (rg L k).2 then _ else _) = _; rw [if_pos h, hx]
      have hnext : goodAt L k → ∀ j, j < k + 1 → goodAt L j := fun h j hj => by
        by_cases e : j = k
        · subst e; exact h
        · exact hgood j (by omega)
      have HD1 := Lib.hid hD1
      have HD2 := Lib.hid hD2
      have HN := Lib.hid hnext
      have HHAD := Lib.hid hhad
      have HBY1 := Lib.hid hby1
      have hXr : Ext w (wr.alloc (.cells #[.int .u16 x, .int .i64 y] 45)) := (HX0.out.by hby (by rw [HGM.out]; exact Nat.le_refl _)).alloc _
      have HXR := Lib.hid hXr
      clear hgood hby hx hy hown hD1 hD2 hnext hhad hby1 hXr
      have hcase : ∀ P : Prop, (y = 0 → ¬ x = 0 → P) → (y = 0 → x = 0 → P) → (y < 0 → P) → (y > 65535 → P) → (0 < y → ¬ y > 65535 → P) → P := fun P a b c d e => by
        by_cases h0 : y = 0
        · by_cases h1 : x = 0
          · exact b h0 h1
          · exact a h0 h1
        · by_cases h1 : y < 0
          · exact c h1
          · by_cases h2 : y > 65535
            · exact d h2
            · exact e (by omega) h2
      refine hcase _ ?_ ?_ ?_ ?_ ?_
      · intro hy0 hx0
        clear hcase hown1
        have hv : rightB L = false := right_no hkL (fun hg => by
          have := hg.2.2.1
          rw [← HXY.out.1, ← HXY.out.2] at this
          exact hx0 (this hy0))
        have HV := Lib.hid hv; clear hv
        have HX := Lib.hid HXR.out
        subst hy0
        go_wp2
        go_ret
        exact ⟨by rw [HV.out]; rfl, HX.out⟩
      · intro hy0 hx0
        clear hcase
        have hg : goodAt L k := ⟨by rw [← HXY.out.2, hy0]; decide, by rw [← HXY.out.2, hy0]; decide, by rw [← HXY.out.1]; exact fun _ => hx0, by rw [← HXY.out.2, hy0]; exact fun h => absurd h (by decide)⟩
        rw [← HD1.out (by omega)] at hown1
        have HON := Lib.hid (hown1.mono (Nat.le_succ _))
        have HGN := Lib.hid (HN.out hg)
        clear hown1 hg
        subst hy0 hx0
        go_wp2
        go_roundw
        case rel => exact ⟨k + 1, hlt, by go_num, HGN.out, HON.out, HBY1.out⟩
        case measure => simp [intOf]; omega
      · intro hy0
        clear hcase hown1
        have hv : rightB L = false := right_no hkL (fun hg => by
          have := hg.1
          rw [← HXY.out.2] at this
          omega)
        have HV := Lib.hid hv; clear hv
        have hne : ¬ y = 0 := by omega
        go_wp2
        go_ret
        exact ⟨by rw [HV.out]; rfl, HXR.out⟩
      · intro hy0
        clear hcase hown1
        have hv : rightB L = false := right_no hkL (fun hg => by
          have := hg.2.1
          rw [← HXY.out.2] at this
          omega)
        have HV := Lib.hid hv; clear hv
        have hne : ¬ y = 0 := by omega
        have hnl : ¬ y < 0 := by omega
        go_wp2
        go_ret
        exact ⟨by rw [HV.out]; rfl, HXR.out⟩
      · intro hy0 hy1
        clear hcase
        have hne : ¬ y = 0 := by omega
        have hnl : ¬ y < 0 := by omega
        by_cases hh : hadB L k x = true
        · have hv : rightB L = false := right_no hkL (fun hg => by
            have := hg.2.2.2
            rw [← HXY.out.2, ← HXY.out.1] at this
            unfold hadB at hh
            obtain ⟨j, h1, h2, h3⟩ := of_decide_eq_true hh
            exact this hy0 j h1 h2 h3)
          have hwl := lookB hown1 hwx (HHAD.out.trans (by rw [hh]))
          have HV := Lib.hid hv; clear hv hown1 hh
          go_wp2
          go_ret
          exact ⟨by rw [HV.out]; rfl, HXR.out⟩
        · have hh : hadB L k x = false := by simpa using hh
          have hwl := lookB hown1 hwx (HHAD.out.trans (by rw [hh]))
          have hg : goodAt L k := ⟨by rw [← HXY.out.2]; omega, by rw [← HXY.out.2]; omega, by rw [← HXY.out.2]; exact fun h => absurd h hne, by
            rw [← HXY.out.2, ← HXY.out.1]
            intro _ j hj h1 h2
            unfold hadB at hh
            exact absurd ⟨j, hj, h1, h2⟩ (of_decide_eq_false hh)⟩
          have HGN := Lib.hid (HN.out hg)
          have HD := Lib.hid (HD2.out hy0)
          generalize Dm L k = D at *
          clear hh hg
          go_wp2_with (at_mapUpdate; refine wpList_mapUpdate_own _ rfl _ _ _ 84 rfl 43 4 lawL Try.underlying84 _ gm k D rfl hown1 (by unfold maxLen; omega) _ _ _ rfl rfl (keyOf_int_mk Try.underlying43 hwx) _ [] (plainElem_bool Try.underlying4 true) ?_; intro w2 hown2 hgrow2)
          rw [← HD.out] at hown2
          have HB2 := Lib.hid (By.trans HBY1.out hgrow2)
          have HO2 := Lib.hid hown2
          clear hown1 hown2 hgrow2
          go_roundw
          case rel => exact ⟨k + 1, hlt, by go_num, HGN.out, HO2.out, HB2.out⟩
          case measure => simp [intOf]; omega
    · have : k = 16 := by omega
      subst this
      have hv : rightB L = true := right_yes HL.out (by rw [HL.out]; exact hgood)
      have HV := Lib.hid hv
      have HX := Lib.hid (HX0.out.by hby (by rw [HGM.out]; exact Nat.le_refl _))
      clear hv hgood hby hown
      go_wp2
      go_ret
      exact ⟨by rw [HV.out]; rfl, HX.out⟩

theorem Right_ok (L : List RowT) (a : Option Addr) (cap : Nat) (w : World) (hs : Sl w a (rowsC L)) (hwf : wfR L) (hm : L.length ≤ 9223372036854775807) :
    Calls Try.prog 32 #[.slice a L.length cap] w fun e w' => e = .returned (.bool (rightB L)) ∧ Ext w w' := by
  by_cases h : L.length = 16
  · obtain ⟨b, off, rfl, hc⟩ := rows_at hs (by omega)
    exact Right_pos L b off cap w h hc hwf
  · have hv := right_len h
    have h' : ¬ (L.length : Int) = 16 := by omega
    have HV := Lib.hid hv
    generalize L.length = n at *
    clear hv
    go_enter Try.func32, Try.ntmps32
    go_wp2
    go_ret
    exact ⟨by rw [HV.out]; rfl, Ext.refl _⟩
end Go.Proofs.Ytnodinancnfoeaa.Intern
/- Aggregates that fill a block: storing, loading, a result in a cell. No program named. -/
namespace Go.Proofs.Ytnodinancnfoeaa.Agg
open Go.RowKit Words Mem Ops
set_option linter.unusedVariables false
set_option linter.unusedSimpArgs false

theorem _root_.Go.Proofs.Ytnodinancnfoeaa.Words.Ext.setRow {a w : World} (h : Ext a w) {g : Nat} (hg : a.heap.size ≤ g) (c : Array Value) : Ext a (w.setRow g c) := by
  have hb : Below a.heap.size w (w.setRow g c) := ⟨rfl, rfl, rfl, by simp [World.setRow], fun k hk => setRow_other w g k c (by omega)⟩
  exact Below.trans h hb
theorem _root_.Go.Proofs.Ytnodinancnfoeaa.Mem.Row.setRow {w : World} {g : Nat} {t : TypeId} {L : List Value} (h : Row w g t L) (c : Array Value) : Row (w.setRow g c) g t c.toList := by
  have := setRow_heap w g L.toArray c t (0, 0) h
  unfold Row; simpa using this
theorem _root_.Go.Proofs.Ytnodinancnfoeaa.Mem.Row.setRow_other {w : World} {g g' : Nat} {t : TypeId} {L : List Value} (h : Row w g t L) (c : Array Value) (hne : g ≠ g') : Row (w.setRow g' c) g t L :=
  (Go.setRow_other w g' g c hne).trans h
theorem size_setRow (w : World) (g : Nat) (c : Array Value) : (w.setRow g c).heap.size = w.heap.size := by simp [World.setRow]

variable {P : Program}
theorem load_row {w : World} {g : Nat} {t ty : TypeId} {c : Array Value} {d : TypeDesc} (h : Row w g t c.toList) (hu : P.underlying ty = some d) (hd : (match d with | .struct _ | .array _ _ => true | _ => false) = true) (hi : (P.info? ty).map (·.size) = some c.size) :
    (loadVar ty ⟨g, 0, none⟩).run P w = .ok (.agg c) w :=
  run_loadVar_row w g t ty c (0, 0) d (by unfold Row at h; simpa using h) hu hd hi
/-- The end of a function whose first result lies in a cell. -/
theorem post_cell {fn : Func} {p u : Tmp} {ty t : TypeId} {R : Ending → World → Prop} {a : Act} {w : World} {g : Nat} {c : Array Value} {x : Value} {d : TypeDesc} (h : fn.results = #[.cell p ty, .tmp u])
    (hp : a.tmps.getD p undef = .pointer (some ⟨g, 0, none⟩)) (hx : a.tmps.getD u undef = x) (hrow : Row w g t c.toList) (hu : P.underlying ty = some d) (hd : (match d with | .struct _ | .array _ _ => true | _ => false) = true) (hi : (P.info? ty).map (·.size) = some c.size)
    (hdf : a.defers = []) (hR : R (.returned (.tuple #[.agg c, x])) w) : bodyPost P fn R .ret a w := by
  refine bodyPost_ret (v := .tuple #[.agg c, x]) ?_ hdf hR
  rw [results_cell_tmp h, hp, hx]
  simp [asAddr, load_row hrow hu hd hi]
end Go.Proofs.Ytnodinancnfoeaa.Agg
/- append in a guarded operation ('&&'): the kit's law, for a guard that is decided. -/
namespace Go.Proofs.Ytnodinancnfoeaa.Guard
open Go Go.Lib Go.BigFrame

theorem wpList_append_want {P : Program} (w : World) {ops : Array Oper} {rest : List Oper} {o : Oper} {a : Act} {Q : Exit → Act → World → Prop} (hw : Region.wanted o (yielded ops a.tmps) = true) (s x : Operand) (t tn : TypeId)
    (ho : o.op = .call { callee := .builtin .append, args := #[s, x], argTypes := #[t, tn] }) (vs vx : Value) (hs : a.eval s = vs) (hx : a.eval x = vx)
    (v' : Value) (w' : World) (hr : (Builtin.append_ #[t, tn] o.type #[vs, vx]).run P w = .ok v' w') (h : wpList P ops Q rest (a.put o.dst v') w') : wpList P ops Q (o :: rest) a w :=
  wpList_want hw fun _ hK => wp_append_run w s x t tn ho vs vx hs hx v' w' hr (hK _ _ h)
end Go.Proofs.Ytnodinancnfoeaa.Guard
/- intern.Lay and the reference's. -/
namespace Go.Proofs.Ytnodinancnfoeaa.Intern
open Go.RowKit Words Mem Plain Ops Agg
open Go.Proofs.Ytnodinancnfoeaa.Field
set_option linter.ambiguousOpen false
set_option linter.unusedVariables false
set_option linter.unusedSimpArgs false

def numsR (L : List RowT) : List Int := L.flatMap fun r => [r.1, r.2]
theorem numsR_length (L : List RowT) : (numsR L).length = 2 * L.length := by
  induction L with
  | nil => rfl
  | cons r L ih => show (r.1 :: r.2 :: numsR L).length = _; simp only [List.length_cons, ih]; omega
theorem numsR_snoc (L : List RowT) (x y : Int) : numsR (L ++ [(x, y)]) = numsR L ++ [x, y] := by simp [numsR]
theorem numsR_take (L : List RowT) {k : Nat} (hk : k < L.length) : numsR (L.take (k + 1)) = numsR (L.take k) ++ [(rg L k).1, (rg L k).2] := by
  rw [List.take_succ_eq_append_getElem hk, ← rg_eq L k hk]
  exact numsR_snoc _ _ _
theorem numsR_mem {L : List RowT} {x : Int} (h : x ∈ numsR L) : ∃ k, k < L.length ∧ (x = (rg L k).1 ∨ x = (rg L k).2) := by
  obtain ⟨r, hr, hx⟩ := List.mem_flatMap.1 h
  obtain ⟨k, hk, rfl⟩ := List.getElem_of_mem hr
  refine ⟨k, hk, ?_⟩
  rw [rg_eq L k hk]
  simpa using hx
theorem numsR_bd {L : List RowT} (h : okP L) (hw : wfR L) : ∀ x ∈ numsR L, 0 ≤ x ∧ x < 65536 := by
  intro x hx
  obtain ⟨k, hk, rfl | rfl⟩ := numsR_mem hx
  · have := (hw.at hk).1; omega
  · have := h.2 k hk
    obtain ⟨h0, h1, _⟩ := this
    omega
theorem okLay_rows {L : List RowT} (h : okP L) (hw : wfR L) : okLay 2 (numsR L) = true := by
  unfold okLay
  rw [numsR_length, h.1]
  simp only [Bool.and_eq_true, List.all_eq_true]
  refine ⟨by decide, fun x hx => fitsB_of ?_⟩
  have := numsR_bd h hw x hx
  have e : (256 : Int) ^ 2 = 65536 := by decide
  rw [e]; omega
theorem layR_rows {L : List RowT} (h : okP L) (hw : wfR L) : layR 2 (numsR L) = (layed 2 (numsR L), 0) := by
  unfold layR
  rw [if_neg (by decide)]
  have := okLay_rows h hw
  simp [this]
/-- Lay. -/
def RowsAt (b off : Nat) (L : List RowT) (w : World) : Prop := ∀ k, k < L.length → w.cell? ⟨b, off + k * 2, none⟩ = some (.int .u16 (rg L k).1) ∧ w.cell? ⟨b, off + k * 2 + 1, none⟩ = some (.int .i64 (rg L k).2)
theorem RowsAt.ext {b off : Nat} {L : List RowT} {w w' : World} (h : RowsAt b off L w) (e : Ext w w') : RowsAt b off L w' := fun k hk => ⟨e.keep (h k hk).1, e.keep (h k hk).2⟩
def rowsLay (L : List RowT) : List Int × Int := if rightB L = true then (layed 2 (numsR L), 0) else ([], 1)
theorem rowsLay_yes {L : List RowT} (h : rightB L = true) : rowsLay L = (layed 2 (numsR L), 0) := by unfold rowsLay; rw [if_pos h]
theorem rowsLay_no {L : List RowT} (h : rightB L = false) : rowsLay L = ([], 1) := by unfold rowsLay; rw [if_neg (by rw [h]; simp)]

set_option maxRecDepth 100000 in
set_option maxHeartbeats 2000000 in
theorem RLay_ok (L : List RowT) (s : Option Addr) (cap : Nat) (w : World) (hm : L.length ≤ 9223372036854775807) (hc : Sl w s (rowsC L)) (hwf : wfR L) :
    Calls Try.prog 25 #[.slice s L.length cap] w (Gave .u8 5 w (rowsLay L)) := by
  have hright := Right_ok L s cap w hc hwf hm
  cases hr : rightB L
  · rw [hr] at hright
    rw [rowsLay_no hr]
    clear hm hc hwf hr
    generalize L.length = n at *
    go_enter Try.func25, Try.ntmps25
    go_wp2_with fail
    refine hright.mono ?_
    rintro e w2 ⟨rfl, h2⟩
    have H2 := Lib.hid h2
    clear h2 hright
    go_wp2
    go_ret2
    exact Gave.nil rfl H2.out
  · have hok := (right_iff L).1 hr
    have h16 := hok.1
    obtain ⟨b, off, rfl, hrows⟩ := rows_at hc (by omega)
    have hrows : RowsAt b off L w := hrows
    have HROWS := Lib.hid hrows
    rw [hr] at hright
    rw [rowsLay_yes hr, ← layR_rows hok hwf]
    have HOK := Lib.hid (And.intro hok hwf)
    have H16 := Lib.hid h16
    rw [h16] at hright ⊢
    clear hm hc hwf hr hok hrows h16
    go_enter Try.func25, Try.ntmps25
    go_wp2_with fail
    refine hright.mono ?_
    rintro e w2 ⟨rfl, h2⟩
    have H2 := Lib.hid h2
    clear h2 hright
    go_wp2
    go_loopw [12, 4] (fun v u wr => ∃ (k m c : Nat) (ao : Option Addr), k ≤ 16 ∧ m = 2 * k ∧ v = .int .i64 k ∧ u = .slice ao m c ∧ wr.ownsRow w.heap.size 76 1 (.slice ao m c) m (ints .u64 (numsR (L.take k))) ∧ Ext w wr) (fun v _ _ => 16 - (intOf v).toNat)
    case atStart => exact ⟨0, 0, 0, none, by omega, rfl, rfl, rfl, ownsRow_nil _ _ _, H2.out⟩
    case round =>
      obtain ⟨k, m, c, ao, hk, hm, rfl, rfl, hown, hX⟩ := hrel
      have HM := Lib.hid hm
      have hm2 : m ≤ 32 := by omega
      clear hm
      by_cases hlt : k < 16
      · have hkL : k < L.length := by rw [H16.out]; exact hlt
        obtain ⟨c0, c1⟩ := HROWS.out.ext hX k hkL
        obtain ⟨x, hx⟩ : ∃ x, x = (rg L k).1 := ⟨_, rfl⟩
        obtain ⟨y, hy⟩ : ∃ y, y = (rg L k).2 := ⟨_, rfl⟩
        have HTS := Lib.hid (show numsR (L.take (k + 1)) = numsR (L.take k) ++ [x, y] by rw [numsR_take L hkL, hx, hy])
        have hx1 : 0 ≤ x ∧ x ≤ 65535 := by rw [hx]; exact (HOK.out.2.at hkL).1
        have hy1 : 0 ≤ y ∧ y ≤ 65535 := by rw [hy]; exact ⟨(HOK.out.1.2 k hkL).1, (HOK.out.1.2 k hkL).2.1⟩
        rw [← hx] at c0
        rw [← hy] at c1
        clear hx hy
        obtain ⟨x0, x1⟩ := hx1
        obtain ⟨y0, y1⟩ := hy1
        have X1 := hX.alloc (.cells #[.int .u16 x, .int .i64 y] 45)
        have X2 := X1.alloc (.cells #[.int .u64 x, .int .u64 y] 76)
        have hrow := Row.new (wr.alloc (.cells #[.int .u16 x, .int .i64 y] 45)) 76 (ints .u64 [x, y])
        have hown2 := ownsRow_ext hown (((Ext.refl wr).alloc (.cells #[.int .u16 x, .int .i64 y] 45)).alloc (.cells #[.int .u64 x, .int .u64 y] 76))
        have hs1 : (wr.alloc (.cells #[.int .u16 x, .int .i64 y] 45)).heap.size = wr.heap.size + 1 := by simp
        rw [hs1] at hrow
        obtain ⟨a4, c4, w4, hrun4, hown4, hext4⟩ := run_append_sl (P := Try.prog) _ w.heap.size 73 73 76 (.int .u64 0) 8 Try.underlying73 info64 rfl hown2 (m := 2) 2 (by rfl) hrow.sl0 (by simp) (ints_oneCell' _ _) (by omega) (by omega) X2.size
        have X4 := hext4 w X2 (Nat.le_refl _)
        rw [← ints_append, ← HTS.out] at hown4
        have HO4 := Lib.hid hown4
        have HX4 := Lib.hid X4
        clear hext4 hown4 hown hown2 hX X1 X2 X4 hrow hs1
        go_wp2_with (at_builtin; refine Guard.wpList_append_want _ rfl _ _ _ _ rfl _ _ rfl rfl _ _ hrun4 ?_)
        go_roundw
        case rel => exact ⟨k + 1, m + 2, c4, a4, hlt, by have := HM.out; omega, by go_num, rfl, HO4.out, HX4.out⟩
        case measure => simp [intOf]; omega
      · have : k = 16 := by omega
        subst this
        obtain rfl : m = 32 := HM.out
        have HX := Lib.hid hX
        rw [List.take_of_length_le (by rw [H16.out]; exact Nat.le_refl _)] at hown
        have hnl : (numsR L).length = 32 := by rw [numsR_length, H16.out]
        have hcall := Lay_gave ao 32 c (numsR L) wr 2 hnl (by omega) (ownsRow_sl hown) (fun x hx => by have := numsR_bd HOK.out.1 HOK.out.2 x hx; omega)
        clear hown hX
        generalize layR 2 (numsR L) = R at *
        obtain ⟨Rl, Rc⟩ := R
        go_wp2_with fail
        refine hcall.mono ?_
        rintro e w3 ⟨a3, c3, rfl, ho3, h3⟩
        have HO := Lib.hid (ownsRow_base ho3 HX.out.size)
        have H3 := Lib.hid (HX.out.trans h3)
        clear ho3 h3 hcall
        dsimp only at *
        go_wp2
        go_ret2
        exact ⟨a3, c3, rfl, HO.out, H3.out⟩
end Go.Proofs.Ytnodinancnfoeaa.Intern
/- Contracts of bits.Has, within, Count, First, List and of the reference's. -/
namespace Go.Proofs.Ytnodinancnfoeaa.Bit
open Go.RowKit Words Mem Plain Ops
set_option linter.unusedVariables false
set_option linter.unusedSimpArgs false

theorem and_one_u8 (y : Int) (h0 : 0 ≤ y) (h1 : y < 256) : bits .and .u8 y 1 = y % 2 := by
  rw [u8_and y 1 h0 h1 (by decide) (by decide)]
  obtain ⟨m, rfl⟩ := Int.eq_ofNat_of_zero_le h0
  have : (m &&& 1) = m % 2 := Nat.and_one_is_mod m
  simp [this]

/-- Bit k of bytes. -/
def bitN (xs : List Int) (k : Nat) : Bool := xs.getD (k / 8) 0 / 2 ^ (k % 8) % 2 == 1
/-- Is bit i there, and 1? -/
def bitB (xs : List Int) (i : Int) : Bool := decide (0 ≤ i) && (decide (i < 8 * xs.length) && bitN xs i.toNat)

theorem Has_no (a : Option Addr) (n cap : Nat) (xs : List Int) (i : Int) (w : World) (hl : xs.length = n) (hn : n ≤ 1152921504606846975) (h : i < 0 ∨ 8 * (n : Int) ≤ i) : Calls Try.prog 55 #[.slice a n cap, .int .i64 i] w fun e w' => e = .returned (.bool (bitB xs i)) ∧ w = w' := by
  have hb : bitB xs i = false := by
    unfold bitB; rw [hl]
    rcases h with h | h
    · rw [decide_eq_false (by omega)]; rfl
    · rw [decide_eq_false (p := i < _) (by omega)]; simp
  rw [hb]
  by_cases h0 : i < 0
  · clear h
    go_enter Try.func55, Try.ntmps55
    go_wp2
    go_ret
    exact ⟨rfl, rfl⟩
  · have h1 : 8 * (n : Int) ≤ i := by omega
    clear h
    go_enter Try.func55, Try.ntmps55
    go_wp2
    go_ret
    exact ⟨rfl, rfl⟩

theorem Has_yes (b off n cap : Nat) (xs : List Int) (k : Nat) (x : Int) (w : World) (hl : xs.length = n) (hn : n ≤ 1152921504606846975) (h : k < 8 * n) (hx : x = xs.getD (k / 8) 0) (h0 : 0 ≤ x) (h1 : x < 256) (hc : w.cell? ⟨b, off + k / 8, none⟩ = some (.int .u8 x)) : Calls Try.prog 55 #[.slice (some ⟨b, off, none⟩) n cap, .int .i64 k] w fun e w' => e = .returned (.bool (bitB xs k)) ∧ w = w' := by
  have hk : k / 8 < n := by omega
  have HX := Lib.hid hx; clear hx
  have HL := Lib.hid hl; clear hl
  go_enter Try.func55, Try.ntmps55
  go_wp2
  go_ret
  refine ⟨?_, rfl⟩
  have hq0 : 0 ≤ x / 2 ^ (k % 8) := Int.ediv_nonneg h0 (Int.le_of_lt (Int.pow_pos (by decide)))
  have hq1 : x / 2 ^ (k % 8) ≤ x := Int.ediv_le_self _ h0
  have e : bitB xs k = (bits BinOp.and IntKind.u8 (x / 2 ^ (k % 8)) 1 == 1) := by
    rw [and_one_u8 _ hq0 (by omega)]
    unfold bitB bitN
    rw [HL.out, decide_eq_true (by omega), decide_eq_true (p := (k : Int) < _) (by omega), Int.toNat_natCast, ← HX.out]
    simp
  rw [e]; rfl

theorem Has_ok (a : Option Addr) (n cap : Nat) (xs : List Int) (i : Int) (w : World) (hl : xs.length = n) (hn : n ≤ 1152921504606846975) (hb : isBytes xs) (hs : Sl w a (ints .u8 xs)) : Calls Try.prog 55 #[.slice a n cap, .int .i64 i] w fun e w' => e = .returned (.bool (bitB xs i)) ∧ w = w' := by
  by_cases h : i < 0 ∨ 8 * (n : Int) ≤ i
  · exact Has_no a n cap xs i w hl hn h
  · obtain ⟨k, rfl⟩ := Int.eq_ofNat_of_zero_le (show 0 ≤ i by omega)
    obtain ⟨b, off, rfl, hc⟩ := hs.ints (by omega)
    have hk : k / 8 < xs.length := by omega
    have hx := hb xs[k / 8] (List.getElem_mem hk)
    exact Has_yes b off n cap xs k xs[k / 8] w hl hn (by omega) (by simp [List.getD, hk]) hx.1 hx.2 (hc _ hk)

theorem rHas_no (a : Option Addr) (n cap : Nat) (xs : List Int) (i : Int) (w : World) (hl : xs.length = n) (hn : n ≤ 1152921504606846975) (h : i < 0 ∨ 8 * (n : Int) ≤ i) : Calls Try.prog 36 #[.slice a n cap, .int .i64 i] w fun e w' => e = .returned (.bool (bitB xs i)) ∧ w = w' := by
  have hb : bitB xs i = false := by
    unfold bitB; rw [hl]
    rcases h with h | h
    · rw [decide_eq_false (by omega)]; rfl
    · rw [decide_eq_false (p := i < _) (by omega)]; simp
  rw [hb]
  by_cases h0 : i < 0
  · clear h
    go_enter Try.func36, Try.ntmps36
    go_wp2
    go_ret
    exact ⟨rfl, rfl⟩
  · have h1 : 8 * (n : Int) ≤ i := by omega
    clear h
    go_enter Try.func36, Try.ntmps36
    go_wp2
    go_ret
    exact ⟨rfl, rfl⟩

theorem half_pow (x : Int) (k : Nat) : x / 2 ^ k / 2 = x / 2 ^ (k + 1) := by
  rw [Int.pow_succ, ← Int.ediv_ediv_of_nonneg (Int.le_of_lt (Int.pow_pos (by decide)))]

set_option maxHeartbeats 400000 in
theorem rHas_yes (b off n cap : Nat) (xs : List Int) (k : Nat) (x : Int) (w : World) (hl : xs.length = n) (hn : n ≤ 1152921504606846975) (h : k < 8 * n) (hx : x = xs.getD (k / 8) 0) (h0 : 0 ≤ x) (h1 : x < 256) (hc : w.cell? ⟨b, off + k / 8, none⟩ = some (.int .u8 x)) : Calls Try.prog 36 #[.slice (some ⟨b, off, none⟩) n cap, .int .i64 k] w fun e w' => e = .returned (.bool (bitB xs k)) ∧ w = w' := by
  have hk : k / 8 < n := by omega
  have HX := Lib.hid hx; clear hx
  have HL := Lib.hid hl; clear hl
  go_enter Try.func36, Try.ntmps36
  go_wp2
  go_loop [5, 6] (fun u v => ∃ m : Nat, m ≤ k % 8 ∧ v = .int .i64 m ∧ u = .int .u8 (x / 2 ^ m)) (fun _ v => k % 8 - (intOf v).toNat)
  case atStart => exact ⟨0, by omega, rfl, by simp⟩
  case round =>
    obtain ⟨m, hm, rfl, rfl⟩ := hrel
    have hh := half_pow x m
    have HH := Lib.hid hh; clear hh
    have hq0 : 0 ≤ x / 2 ^ m := Int.ediv_nonneg h0 (Int.le_of_lt (Int.pow_pos (by decide)))
    have hq1 : x / 2 ^ m ≤ x := Int.ediv_le_self _ h0
    generalize hy : x / 2 ^ m = y at *
    have HY := Lib.hid hy; clear hy
    by_cases hlt : m < k % 8
    · go_wp2
      go_round
      case rel => exact ⟨m + 1, hlt, by go_num, by rw [← HH.out]⟩
      case measure => simp [intOf]; omega
    · have : m = k % 8 := by omega
      go_wp2
      go_ret
      refine ⟨?_, rfl⟩
      have e : bitB xs k = (y % 2 == 1) := by
        unfold bitB bitN
        rw [HL.out, decide_eq_true (by omega), decide_eq_true (p := (k : Int) < _) (by omega), Int.toNat_natCast, ← HX.out, ← this, HY.out]
        simp
      rw [e]; rfl

theorem rHas_ok (a : Option Addr) (n cap : Nat) (xs : List Int) (i : Int) (w : World) (hl : xs.length = n) (hn : n ≤ 1152921504606846975) (hb : isBytes xs) (hs : Sl w a (ints .u8 xs)) : Calls Try.prog 36 #[.slice a n cap, .int .i64 i] w fun e w' => e = .returned (.bool (bitB xs i)) ∧ w = w' := by
  by_cases h : i < 0 ∨ 8 * (n : Int) ≤ i
  · exact rHas_no a n cap xs i w hl hn h
  · obtain ⟨k, rfl⟩ := Int.eq_ofNat_of_zero_le (show 0 ≤ i by omega)
    obtain ⟨b, off, rfl, hc⟩ := hs.ints (by omega)
    have hk : k / 8 < xs.length := by omega
    have hx := hb xs[k / 8] (List.getElem_mem hk)
    exact rHas_yes b off n cap xs k xs[k / 8] w hl hn (by omega) (by simp [List.getD, hk]) hx.1 hx.2 (hc _ hk)

def mx (x : Int) : Int := if x < 0 then 0 else x
def mn (y m : Int) : Int := if m < y then m else y
theorem within_ok (a : Option Addr) (n cap : Nat) (x y : Int) (w : World) (hn : n ≤ 1152921504606846975) : Calls Try.prog 54 #[.slice a n cap, .int .i64 x, .int .i64 y] w fun e w' => e = .returned (.tuple #[.int .i64 (mx x), .int .i64 (mn y (8 * n))]) ∧ w = w' := by
  unfold mx mn
  by_cases h1 : x < 0 <;> by_cases h2 : 8 * (n : Int) < y <;> simp only [h1, h2, if_true, if_false]
  all_goals
    go_enter Try.func54, Try.ntmps54
    go_wp2
    go_ret2
    exact ⟨rfl, rfl⟩

/-- Does bit k count, from one on up to another one? -/
def inR (xs : List Int) (x y : Int) (on : Bool) (k : Nat) : Bool := decide (x ≤ k) && (decide ((k : Int) < y) && (bitN xs k == on))
def countTo (xs : List Int) (x y : Int) (m : Nat) : Nat := ((List.range m).filter (inR xs x y true)).length
def countN (xs : List Int) (x y : Int) : Nat := countTo xs x y (8 * xs.length)
theorem countTo_succ (xs : List Int) (x y : Int) (m : Nat) : countTo xs x y (m + 1) = countTo xs x y m + if inR xs x y true m then 1 else 0 := by
  unfold countTo
  rw [List.range_succ, List.filter_append, List.length_append]
  cases h : inR xs x y true m <;> simp [h]
theorem countTo_same (xs : List Int) (x y : Int) (m d : Nat) (h : ∀ k, m ≤ k → k < m + d → inR xs x y true k = false) : countTo xs x y (m + d) = countTo xs x y m := by
  induction d with
  | zero => rfl
  | succ d ih =>
    rw [← Nat.add_assoc, countTo_succ, h (m + d) (by omega) (by omega), ih (fun k h1 h2 => h k h1 (by omega))]; rfl
theorem countTo_le (xs : List Int) (x y : Int) (m : Nat) : countTo xs x y m ≤ m := by
  unfold countTo
  have := List.length_filter_le (inR xs x y true) (List.range m)
  simpa using this
theorem bitB_nat (xs : List Int) (k : Nat) (h : k < 8 * xs.length) : bitB xs k = bitN xs k := by
  unfold bitB; rw [decide_eq_true (by omega), decide_eq_true (p := (k : Int) < _) (by omega)]; simp

theorem rCount_step (xs : List Int) (x y : Int) (k : Nat) (h : k < 8 * xs.length) : inR xs x y true k = (decide (x ≤ k) && (decide ((k : Int) < y) && bitB xs k)) := by
  rw [bitB_nat xs k h]; unfold inR; simp

end Go.Proofs.Ytnodinancnfoeaa.Bit
/- Contracts of bits.Count, First (both), SameInts, few. -/
namespace Go.Proofs.Ytnodinancnfoeaa.Bit
open Go.RowKit Words Mem Plain Ops
set_option linter.unusedVariables false
set_option linter.unusedSimpArgs false

theorem lo_zero (xs : List Int) (x y : Int) (k : Nat) (h : (k : Int) ≤ mx x) : countTo xs x y k = 0 := by
  have := countTo_same xs x y 0 k (fun j _ h2 => by
    unfold inR; unfold mx at h
    rw [decide_eq_false (p := x ≤ j) (by split at h <;> omega)]; rfl)
  rw [Nat.zero_add] at this
  rw [this]; rfl
theorem hi_same (xs : List Int) (x y : Int) (k : Nat) (hk : k ≤ 8 * xs.length) (h : mn y (8 * xs.length) ≤ k) : countTo xs x y k = countN xs x y := by
  unfold countN
  obtain ⟨d, hd⟩ := Nat.exists_eq_add_of_le hk
  rw [hd, countTo_same xs x y k d (fun j h1 h2 => by
    unfold inR; unfold mn at h
    rw [decide_eq_false (p := (j : Int) < y) (by split at h <;> omega)]; simp)]

set_option maxHeartbeats 1000000 in
theorem Count_ok (a : Option Addr) (n cap : Nat) (xs : List Int) (x y : Int) (w : World) (hl : xs.length = n) (hn : n ≤ 1152921504606846975) (hb : isBytes xs) (hs : Sl w a (ints .u8 xs)) : Calls Try.prog 34 #[.slice a n cap, .int .i64 x, .int .i64 y] w fun e w' => e = .returned (.int .i64 (countN xs x y)) ∧ w = w' := by
  have HL := Lib.hid hl
  have hlo : 0 ≤ mx x := by unfold mx; split <;> omega
  obtain ⟨lo, hlo'⟩ := Int.eq_ofNat_of_zero_le hlo
  have hhi : mn y (8 * n) ≤ 8 * n := by unfold mn; split <;> omega
  by_cases hbig : 8 * n < lo
  · -- the first bit lies behind the last one
    have hz : countN xs x y = 0 := by unfold countN; exact lo_zero xs x y _ (by rw [hlo', hl]; omega)
    rw [hz]
    clear hl hz
    go_enter Try.func34, Try.ntmps34
    go_wp2_with (go_at_call 54; refine (within_ok _ _ _ _ _ _ hn).mono ?_; rintro e w' ⟨rfl, rfl⟩; rw [hlo'])
    refine wp_loop_once ?_
    go_wp2
    go_ret
    exact ⟨rfl, rfl⟩
  · have HLO := Lib.hid hlo'
    have hx1 : ∀ k : Nat, lo ≤ k → x ≤ k := by intro k hk; unfold mx at hlo'; split at hlo' <;> omega
    have HX1 := Lib.hid hx1
    clear hl hx1
    go_enter Try.func34, Try.ntmps34
    go_wp2_with (go_at_call 54; refine (within_ok _ _ _ _ _ _ hn).mono ?_; rintro e w' ⟨rfl, rfl⟩; rw [hlo'])
    clear hlo'
    generalize hhe : mn y (8 * n) = hi at *
    have HHE := Lib.hid hhe; clear hhe
    go_loop [7, 10] (fun u v => ∃ k : Nat, lo ≤ k ∧ k ≤ 8 * n ∧ v = .int .i64 k ∧ u = .int .i64 (countTo xs x y k)) (fun _ v => 8 * n - (intOf v).toNat)
    case atStart => exact ⟨lo, Nat.le_refl _, by omega, rfl, by rw [lo_zero xs x y lo (by rw [HLO.out]; omega)]; rfl⟩
    case round =>
      obtain ⟨k, hk0, hk, rfl, rfl⟩ := hrel
      have hcl := countTo_le xs x y k
      by_cases hlt : (k : Int) < hi
      · have hst := countTo_succ xs x y k
        have hk8 : k < 8 * n := by omega
        rw [rCount_step xs x y k (by rw [HL.out]; exact hk8), decide_eq_true (HX1.out k hk0), decide_eq_true (p := (k : Int) < y) (by have := HHE.out; unfold mn at this; split at this <;> omega)] at hst
        have HST := Lib.hid hst; clear hst
        generalize countTo xs x y k = c at *
        cases h3 : bitB xs k
        · go_wp2_with (go_at_call 55; refine (Has_ok _ _ _ xs _ _ HL.out hn hb hs).mono ?_; rintro e w' ⟨rfl, rfl⟩)
          go_round
          case rel => exact ⟨k + 1, by omega, hk8, by go_num, by rw [HST.out, h3]; simp⟩
          case measure => simp [intOf]; omega
        · go_wp2_with (go_at_call 55; refine (Has_ok _ _ _ xs _ _ HL.out hn hb hs).mono ?_; rintro e w' ⟨rfl, rfl⟩)
          go_round
          case rel => exact ⟨k + 1, by omega, hk8, by go_num, by rw [HST.out, h3]; simp⟩
          case measure => simp [intOf]; omega
      · go_wp2
        go_ret
        exact ⟨by rw [← hi_same xs x y k (by rw [HL.out]; exact hk) (by rw [HL.out, HHE.out]; omega)]; rfl, rfl⟩

/-- The first bit that is so, from one on up to another one. -/
def firstN (xs : List Int) (x y : Int) (on : Bool) : Option Nat := (List.range (8 * xs.length)).find? (inR xs x y on)
def firstV (xs : List Int) (x y : Int) (on : Bool) : Value := match firstN xs x y on with | some k => .tuple #[.int .i64 k, .bool true] | none => .tuple #[.int .i64 0, .bool false]
theorem find_some {p : Nat → Bool} {m i : Nat} (hi : i < m) (hp : p i = true) (h : ∀ k, k < i → p k = false) : (List.range m).find? p = some i := by
  rw [List.find?_range_eq_some]
  exact ⟨hp, by simpa using hi, fun k hk => by simp [h k hk]⟩
theorem find_none {p : Nat → Bool} {m : Nat} (h : ∀ k, k < m → p k = false) : (List.range m).find? p = none := by
  rw [List.find?_eq_none]
  intro k hk
  simp [h k (List.mem_range.1 hk)]
end Go.Proofs.Ytnodinancnfoeaa.Bit
/- Contracts of package super: within, Right, Meta, Plan, Group; and the reference's. -/
namespace Go.Proofs.Ytnodinancnfoeaa.Super
open Go.RowKit Words Mem
set_option linter.unusedVariables false

def inB (n a b : Int) : Bool := decide (a ≤ n) && decide (n ≤ b)
theorem within_ok (n a b : Int) (w : World) : Calls Try.prog 48 #[.int .i64 n, .int .i64 a, .int .i64 b] w fun e w' => e = .returned (.bool (inB n a b)) ∧ w = w' := by
  unfold inB
  by_cases h : a ≤ n
  · go_enter Try.func48, Try.ntmps48
    go_wp2
    go_ret
    exact ⟨by simp [h], rfl⟩
  · go_enter Try.func48, Try.ntmps48
    go_wp2
    go_ret
    exact ⟨by simp; omega, rfl⟩

def rightB (J I G P : Int) : Bool := inB J 3 1000 && (inB I 2 64 && (I % 2 == 0 && (inB G 1 64 && inB P 1 (512 / G))))
abbrev geoV (J I G P : Int) : Value := .agg #[.int .i64 J, .int .i64 I, .int .i64 G, .int .i64 P]

theorem inB_true {n a b : Int} (h : inB n a b = true) : a ≤ n ∧ n ≤ b := by simpa [inB] using h
theorem inB_false {n a b : Int} (h : inB n a b = false) : n < a ∨ b < n := by
  simp only [inB, Bool.and_eq_false_iff, decide_eq_false_iff_not] at h; omega

set_option maxHeartbeats 1000000 in
theorem Right_ok (J I G P : Int) (w : World) : Calls Try.prog 23 #[geoV J I G P] w fun e w' => e = .returned (.bool (rightB J I G P)) ∧ Ext w w' := by
  unfold rightB
  cases h1 : inB J 3 1000
  · go_enter Try.func23, Try.ntmps23
    go_wp2_with (go_at_call 48; refine (within_ok _ _ _ _).mono ?_; rintro e w' ⟨rfl, rfl⟩)
    go_ret
    exact ⟨rfl, by repeat (first | exact Ext.refl _ | apply Ext.drewN | apply Ext.alloc)⟩
  · cases h2 : inB I 2 64
    · go_enter Try.func23, Try.ntmps23
      go_wp2_with (go_at_call 48; refine (within_ok _ _ _ _).mono ?_; rintro e w' ⟨rfl, rfl⟩)
      go_ret
      exact ⟨rfl, by repeat (first | exact Ext.refl _ | apply Ext.drewN | apply Ext.alloc)⟩
    · obtain ⟨hi0, hi1⟩ := inB_true h2
      cases h3 : (I % 2 == 0)
      · go_enter Try.func23, Try.ntmps23
        go_wp2_with (go_at_call 48; refine (within_ok _ _ _ _).mono ?_; rintro e w' ⟨rfl, rfl⟩)
        go_ret
        exact ⟨rfl, by repeat (first | exact Ext.refl _ | apply Ext.drewN | apply Ext.alloc)⟩
      · cases h4 : inB G 1 64
        · go_enter Try.func23, Try.ntmps23
          go_wp2_with (go_at_call 48; refine (within_ok _ _ _ _).mono ?_; rintro e w' ⟨rfl, rfl⟩)
          go_quiet ((go_at_call 48; exact Calls.quiet_of_same ((within_ok _ _ _ _).mono fun _ _ h => ⟨h.1, h.2.symm⟩)))
          go_wp2
          go_ret
          exact ⟨rfl, by repeat (first | exact Ext.refl _ | apply Ext.drewN | apply Ext.alloc)⟩
        · obtain ⟨hg0, hg1⟩ := inB_true h4
          go_enter Try.func23, Try.ntmps23
          go_wp2_with (go_at_call 48; refine (within_ok _ _ _ _).mono ?_; rintro e w' ⟨rfl, rfl⟩)
          have hG0 : ¬ G = 0 := by omega
          have hGd : IntKind.i64.wrap (Int.tdiv 512 G) = 512 / G := by rw [Int.tdiv_eq_ediv_of_nonneg (by decide), IntWalk.i64_in _ (by have := Int.ediv_le_self (a := 512) G (by decide); have := Int.ediv_nonneg (a := 512) (b := G) (by decide) (by omega); omega)]
          go_quiet ((go_at_call 48; exact Calls.quiet_of_same ((within_ok _ _ _ _).mono fun _ _ h => ⟨h.1, h.2.symm⟩)))
          go_wp2
          go_ret
          exact ⟨rfl, by repeat (first | exact Ext.refl _ | apply Ext.drewN | apply Ext.alloc)⟩

def metaN (J I G P : Int) : Int := if rightB J I G P then 3 + I / 2 else 0
theorem right_bd {J I G P : Int} (h : rightB J I G P = true) : (3 ≤ J ∧ J ≤ 1000) ∧ (2 ≤ I ∧ I ≤ 64) ∧ I % 2 = 0 ∧ (1 ≤ G ∧ G ≤ 64) ∧ (1 ≤ P ∧ P ≤ 512 ∧ 1 ≤ G * P ∧ G * P ≤ 512) := by
  simp only [rightB, Bool.and_eq_true, beq_iff_eq] at h
  obtain ⟨h1, h2, h3, h4, h5⟩ := h
  obtain ⟨g0, g1⟩ := inB_true h4
  obtain ⟨p0, p1⟩ := inB_true h5
  refine ⟨inB_true h1, inB_true h2, h3, ⟨g0, g1⟩, p0, ?_, ?_, ?_⟩
  · have := Int.ediv_le_self (a := 512) G (by decide); omega
  · have := Int.mul_le_mul g0 p0 (by decide) (by omega); omega
  · have h6 := Int.mul_le_mul_of_nonneg_left p1 (show 0 ≤ G by omega)
    have h7 := Int.mul_ediv_self_le (x := 512) (k := G) (by omega)
    omega

theorem Meta_ok (J I G P : Int) (w : World) : Calls Try.prog 41 #[geoV J I G P] w fun e w' => e = .returned (.int .i64 (metaN J I G P)) ∧ Ext w w' := by
  unfold metaN
  cases h : rightB J I G P
  · go_enter Try.func41, Try.ntmps41
    go_wp2_with (go_at_call 23; refine (Right_ok _ _ _ _ _).mono ?_; rintro e w' ⟨rfl, hg⟩; have hX := Ext.trans ((Ext.refl w).alloc _) hg)
    go_ret
    exact ⟨rfl, hX⟩
  · obtain ⟨⟨j0, j1⟩, ⟨i0, i1⟩, _⟩ := right_bd h
    go_enter Try.func41, Try.ntmps41
    go_wp2_with (go_at_call 23; refine (Right_ok _ _ _ _ _).mono ?_; rintro e w' ⟨rfl, hg⟩; have hX := Ext.trans ((Ext.refl w).alloc _) hg; have hcs := hg.cells)
    go_ret
    exact ⟨rfl, hX⟩
end Go.Proofs.Ytnodinancnfoeaa.Super
