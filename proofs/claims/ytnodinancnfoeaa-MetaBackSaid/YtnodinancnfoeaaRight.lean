/- Contracts: inode.Right, moatref11.Right. -/
import Derived.Test.YtnodinancnfoeaaInoP
import Derived.Laws.StructEq
import Derived.Laws.Rows
import Derived.LoopTactic
import Derived.BigQuiet
import Derived.Deep.QuietTactic
namespace Go.Proofs.Ytnodinancnfoeaa.Ino
open Go.RowKit Words Mem Plain Ops
open Go.Proofs.Ytnodinancnfoeaa.Field
set_option linter.ambiguousOpen false
set_option linter.unusedVariables false
set_option linter.unusedSimpArgs false

theorem index8 (d0 d1 d2 d3 d4 d5 d6 d7 : Int) (k : Nat) (hk : k < 8) (w : World) :
    (Instr.index 46 (.agg #[.int .i64 d0, .int .i64 d1, .int .i64 d2, .int .i64 d3, .int .i64 d4, .int .i64 d5, .int .i64 d6, .int .i64 d7]) (.int .i64 (k : Int))).run Try.prog w = .ok (.int .i64 ([d0, d1, d2, d3, d4, d5, d6, d7][k])) w := by
  obtain rfl | rfl | rfl | rfl | rfl | rfl | rfl | rfl : k = 0 ∨ k = 1 ∨ k = 2 ∨ k = 3 ∨ k = 4 ∨ k = 5 ∨ k = 6 ∨ k = 7 := by omega
  all_goals kernel_rfl

theorem eqD (w : World) (d : Nat) (a0 a1 a2 a3 a4 a5 a6 a7 b0 b1 b2 b3 b4 b5 b6 b7 : Int) :
    (Op.equalIn (d+2) 46 (.agg #[.int .i64 a0, .int .i64 a1, .int .i64 a2, .int .i64 a3, .int .i64 a4, .int .i64 a5, .int .i64 a6, .int .i64 a7]) (.agg #[.int .i64 b0, .int .i64 b1, .int .i64 b2, .int .i64 b3, .int .i64 b4, .int .i64 b5, .int .i64 b6, .int .i64 b7])).run Try.prog w
      = .ok (a0 == b0 && (a1 == b1 && (a2 == b2 && (a3 == b3 && (a4 == b4 && (a5 == b5 && (a6 == b6 && a7 == b7))))))) w := by
  unfold Op.equalIn
  simp only [Sem.run_bind, run_underlying Try.underlying46, Result.andThen_ok]
  have hs : (sizeOf 3).run Try.prog w = .ok 1 w := by kernel_rfl
  simp only [hs, Result.andThen_ok]
  simp only [Std.Legacy.Range.forIn_eq_forIn_range', Std.Legacy.Range.size, List.range']
  have h : ∀ (a b : Int), (Op.equalIn (d+1) 3 (.int .i64 a) (.int .i64 b)).run Try.prog w = .ok (a == b) w := fun a b => run_equalIn_int w d 3 .i64 .i64 a b Try.underlying3
  have ha : (isAgg 3).run Try.prog w = .ok false w := by kernel_rfl
  by_cases h0 : a0 = b0
  case neg => simp [part, ha, h, h0]
  by_cases h1 : a1 = b1
  case neg => simp [part, ha, h, h0, h1]
  by_cases h2 : a2 = b2
  case neg => simp [part, ha, h, h0, h1, h2]
  by_cases h3 : a3 = b3
  case neg => simp [part, ha, h, h0, h1, h2, h3]
  by_cases h4 : a4 = b4
  case neg => simp [part, ha, h, h0, h1, h2, h3, h4]
  by_cases h5 : a5 = b5
  case neg => simp [part, ha, h, h0, h1, h2, h3, h4, h5]
  by_cases h6 : a6 = b6
  case neg => simp [part, ha, h, h0, h1, h2, h3, h4, h5, h6]
  by_cases h7 : a7 = b7 <;> simp [part, ha, h, h0, h1, h2, h3, h4, h5, h6, h7]

theorem eqIno (a b : Ino) (w : World) : (Op.equalIn 10000 48 a.v b.v).run Try.prog w = .ok (Ino.eqB a b) w := by
  obtain ⟨k, r, l, s, d0, d1, d2, d3, d4, d5, d6, d7, i, j⟩ := a
  obtain ⟨k', r', l', s', e0, e1, e2, e3, e4, e5, e6, e7, i', j'⟩ := b
  have hi : ∀ (a b : Int), (Op.equalIn 9999 3 (.int .i64 a) (.int .i64 b)).run Try.prog w = .ok (a == b) w := fun a b => run_equalIn_int w 9998 3 .i64 .i64 a b Try.underlying3
  have hu : ∀ (a b : Int), (Op.equalIn 9999 5 (.int .u8 a) (.int .u8 b)).run Try.prog w = .ok (a == b) w := fun a b => run_equalIn_int w 9998 5 .u8 .u8 a b Try.underlying5
  have hd := eqD w 9997
  have ha : (isAgg 3).run Try.prog w = .ok false w := by kernel_rfl
  have hb : (isAgg 5).run Try.prog w = .ok false w := by kernel_rfl
  have hc : (isAgg 46).run Try.prog w = .ok true w := by kernel_rfl
  have hs : (sizeOf 46).run Try.prog w = .ok 8 w := by kernel_rfl
  rw [run_equalIn_agg w 9999 48 _ _ (by kernel_rfl) (by kernel_rfl)]
  simp only [Program.fieldsOf, Try.underlying48]
  simp [Op.eqFields, part, ha, hb, hc, hs, hi, hu, hd]
  unfold Ino.eqB
  dsimp only
  by_cases hkq : k = k'
  case neg => simp [hkq]
  by_cases hrq : r = r'
  case neg => simp [hkq, hrq]
  by_cases hlq : l = l'
  case neg => simp [hkq, hrq, hlq]
  by_cases hsq : s = s'
  case neg => simp [hkq, hrq, hlq, hsq]
  by_cases hd0q : d0 = e0
  case neg => simp [hkq, hrq, hlq, hsq, hd0q]
  by_cases hd1q : d1 = e1
  case neg => simp [hkq, hrq, hlq, hsq, hd0q, hd1q]
  by_cases hd2q : d2 = e2
  case neg => simp [hkq, hrq, hlq, hsq, hd0q, hd1q, hd2q]
  by_cases hd3q : d3 = e3
  case neg => simp [hkq, hrq, hlq, hsq, hd0q, hd1q, hd2q, hd3q]
  by_cases hd4q : d4 = e4
  case neg => simp [hkq, hrq, hlq, hsq, hd0q, hd1q, hd2q, hd3q, hd4q]
  by_cases hd5q : d5 = e5
  case neg => simp [hkq, hrq, hlq, hsq, hd0q, hd1q, hd2q, hd3q, hd4q, hd5q]
  by_cases hd6q : d6 = e6
  case neg => simp [hkq, hrq, hlq, hsq, hd0q, hd1q, hd2q, hd3q, hd4q, hd5q, hd6q]
  by_cases hd7q : d7 = e7
  case neg => simp [hkq, hrq, hlq, hsq, hd0q, hd1q, hd2q, hd3q, hd4q, hd5q, hd6q, hd7q]
  by_cases hiq : i = i'
  case neg => simp [hkq, hrq, hlq, hsq, hd0q, hd1q, hd2q, hd3q, hd4q, hd5q, hd6q, hd7q, hiq]
  by_cases hjq : j = j'
  case neg => simp [hkq, hrq, hlq, hsq, hd0q, hd1q, hd2q, hd3q, hd4q, hd5q, hd6q, hd7q, hiq, hjq]
  simp [hkq, hrq, hlq, hsq, hd0q, hd1q, hd2q, hd3q, hd4q, hd5q, hd6q, hd7q, hiq, hjq]

theorem neqIno (a b : Ino) (w : World) : (binOp .neq 48 a.v b.v).run Try.prog w = .ok (.bool (!(Ino.eqB a b))) w := by
  rw [run_neq_struct, eqIno]; rfl
theorem eqlIno (a b : Ino) (w : World) : (binOp .eql 48 a.v b.v).run Try.prog w = .ok (.bool (Ino.eqB a b)) w := by
  rw [run_eql_struct, eqIno]; rfl

/-- What a block of an inode's cells holds. -/
theorem Ino.cellD (n : Ino) (w : World) (k : Nat) (hk : k < 8) : (w.alloc (.cells n.cs 48)).cell? ⟨w.heap.size, 4 + k, none⟩ = some (.int .i64 (n.D[k]'hk)) := by
  obtain rfl | rfl | rfl | rfl | rfl | rfl | rfl | rfl : k = 0 ∨ k = 1 ∨ k = 2 ∨ k = 3 ∨ k = 4 ∨ k = 5 ∨ k = 6 ∨ k = 7 := by omega
  all_goals (go_simp; rfl)

theorem Right_kind (n : Ino) (w : World) (h : 3 ≤ n.k) : Calls Try.prog 33 #[n.v] w fun e w' => e = .returned (.bool n.rightB) ∧ Ext w w' := by
  have hr : n.rightB = false := Ino.rightB_no (fun hh => by have := hh.1; omega)
  rw [hr]
  clear hr
  obtain ⟨k, r, l, s, d0, d1, d2, d3, d4, d5, d6, d7, i, j⟩ := n
  dsimp only at h
  dsimp only [Ino.v, Ino.cs]
  go_enter Try.func33, Try.ntmps33
  go_wp2
  go_ret
  exact ⟨rfl, (Ext.refl w).alloc _⟩
theorem Right_free (n : Ino) (w : World) (h : n.k = 0) (he : Ino.eqB n Ino.zero = false) : Calls Try.prog 33 #[n.v] w fun e w' => e = .returned (.bool n.rightB) ∧ Ext w w' := by
  have hr : n.rightB = false := Ino.rightB_no (fun hh => by have := hh.2.1 h; rw [he] at this; cases this)
  rw [hr]
  clear hr
  have hq := neqIno n Ino.zero
  rw [he] at hq
  obtain ⟨k, r, l, s, d0, d1, d2, d3, d4, d5, d6, d7, i, j⟩ := n
  dsimp only at h
  subst h
  clear he
  dsimp only [Ino.v, Ino.cs, Ino.zero] at hq ⊢
  go_enter Try.func33, Try.ntmps33
  go_wp2
  go_ret
  exact ⟨rfl, (Ext.refl w).alloc _⟩

/-- What kind, row, links and size let in. -/
def Ino.HeadP (n : Ino) : Prop := n.k ≤ 2 ∧ (n.k = 0 → Ino.eqB n Ino.zero = true) ∧ n.r < 16 ∧ 0 ≤ n.l ∧ n.l ≤ 65535 ∧ 0 ≤ n.s ∧ n.s ≤ 3840
theorem Ino.rightB_head {n : Ino} (h : n.HeadP) : n.rightB = (n.D.all ptrB && (ptrB n.i && ptrB n.j)) := by
  obtain ⟨h1, h2, h3, h4, h5, h6, h7⟩ := h
  unfold Ino.rightB
  have : (!(n.k == 0) || Ino.eqB n Ino.zero) = true := by
    by_cases e : n.k = 0
    · rw [h2 e, Bool.or_true]
    · simp [e]
  rw [decide_eq_true h1, this, decide_eq_true h3, decide_eq_true h4, decide_eq_true h5, decide_eq_true h6, decide_eq_true h7]
  rfl
theorem Right_head (n : Ino) (w : World) (h0 : n.k ≠ 0) (hk : n.k ≤ 2) (h : n.r < 16 → 0 ≤ n.l → n.l ≤ 65535 → 0 ≤ n.s → n.s ≤ 3840 → False) : Calls Try.prog 33 #[n.v] w fun e w' => e = .returned (.bool n.rightB) ∧ Ext w w' := by
  have hr : n.rightB = false := Ino.rightB_no (fun hh => h hh.2.2.1 hh.2.2.2.1 hh.2.2.2.2.1 hh.2.2.2.2.2.1 hh.2.2.2.2.2.2.1)
  rw [hr]
  clear hr
  obtain ⟨k, r, l, s, d0, d1, d2, d3, d4, d5, d6, d7, i, j⟩ := n
  dsimp only at h h0 hk
  dsimp only [Ino.v, Ino.cs]
  have hk0 : (k == 0) = false := by simpa using h0
  by_cases h1 : r < 16
  · by_cases h2 : 0 ≤ l
    · by_cases h3 : l ≤ 65535
      · by_cases h4 : 0 ≤ s
        · by_cases h5 : s ≤ 3840
          · exact (h h1 h2 h3 h4 h5).elim
          · clear h
            go_enter Try.func33, Try.ntmps33
            go_wp2
            go_ret
            exact ⟨rfl, (Ext.refl w).alloc _⟩
        · clear h
          go_enter Try.func33, Try.ntmps33
          go_wp2
          go_ret
          exact ⟨rfl, (Ext.refl w).alloc _⟩
      · clear h
        go_enter Try.func33, Try.ntmps33
        go_wp2
        go_ret
        exact ⟨rfl, (Ext.refl w).alloc _⟩
    · clear h
      go_enter Try.func33, Try.ntmps33
      go_wp2
      go_ret
      exact ⟨rfl, (Ext.refl w).alloc _⟩
  · clear h
    go_enter Try.func33, Try.ntmps33
    go_wp2
    go_ret
    exact ⟨rfl, (Ext.refl w).alloc _⟩

theorem idx8 (d0 d1 d2 d3 d4 d5 d6 d7 : Int) (k : Nat) (hk : k < 8) : ∃ x, [d0, d1, d2, d3, d4, d5, d6, d7][k]? = some x ∧
    (∀ w : World, (Instr.index 46 (.agg #[.int .i64 d0, .int .i64 d1, .int .i64 d2, .int .i64 d3, .int .i64 d4, .int .i64 d5, .int .i64 d6, .int .i64 d7]) (.int .i64 (k : Int))).run Try.prog w = .ok (.int .i64 x) w) :=
  ⟨[d0, d1, d2, d3, d4, d5, d6, d7][k], List.getElem?_eq_getElem hk, fun w => index8 d0 d1 d2 d3 d4 d5 d6 d7 k hk w⟩
theorem cell8 (k' r l s d0 d1 d2 d3 d4 d5 d6 d7 i j : Int) (w : World) (k : Nat) (hk : k < 8) : ∃ x, [d0, d1, d2, d3, d4, d5, d6, d7][k]? = some x ∧
    (w.alloc (.cells #[.int .u8 k', .int .u8 r, .int .i64 l, .int .i64 s, .int .i64 d0, .int .i64 d1, .int .i64 d2, .int .i64 d3, .int .i64 d4, .int .i64 d5, .int .i64 d6, .int .i64 d7, .int .i64 i, .int .i64 j] 48)).cell? ⟨w.heap.size, 4 + k, none⟩ = some (.int .i64 x) :=
  ⟨[d0, d1, d2, d3, d4, d5, d6, d7][k], List.getElem?_eq_getElem hk, Ino.cellD ⟨k', r, l, s, d0, d1, d2, d3, d4, d5, d6, d7, i, j⟩ w k hk⟩
theorem drop_all {D : List Int} {k : Nat} {x : Int} (h : D[k]? = some x) : (D.drop k).all ptrB = (ptrB x && (D.drop (k + 1)).all ptrB) := by
  obtain ⟨h1, h2⟩ := List.getElem?_eq_some_iff.1 h
  rw [List.drop_eq_getElem_cons h1, h2]; rfl

set_option maxHeartbeats 1000000 in
theorem Right_good (n : Ino) (w : World) (h : n.HeadP) (h0 : (n.k == 0) = false ∨ n.k = 0) : Calls Try.prog 33 #[n.v] w fun e w' => e = .returned (.bool n.rightB) ∧ Ext w w' := by
  rw [Ino.rightB_head h]
  obtain ⟨h1, h2, h3, h4, h5, h6, h7⟩ := h
  have hix := idx8 n.d0 n.d1 n.d2 n.d3 n.d4 n.d5 n.d6 n.d7
  have hq : n.k = 0 → ∀ v : World, (binOp .neq 48 n.v Ino.zero.v).run Try.prog v = .ok (.bool false) v := fun e v => by rw [neqIno, h2 e]; rfl
  obtain ⟨k, r, l, s, d0, d1, d2, d3, d4, d5, d6, d7, i, j⟩ := n
  dsimp only [Ino.v, Ino.cs, Ino.zero, Ino.D] at *
  obtain ⟨D, hD⟩ : ∃ D, D = [d0, d1, d2, d3, d4, d5, d6, d7] := ⟨_, rfl⟩
  rw [← hD] at hix ⊢
  have hD8 : D.drop 8 = [] := by rw [hD]; rfl
  have HIX := Lib.hid hix
  have HD8 := Lib.hid hD8
  clear hD hix h2 hD8
  rcases h0 with h0 | rfl
  all_goals
    first | (have hq' := hq rfl; clear hq) | clear hq
    go_enter Try.func33, Try.ntmps33
    go_wp2_with fail
    go_loop [41] (fun v => ∃ m : Nat, m ≤ 8 ∧ v = .int .i64 m ∧ Hid (D.all ptrB = (D.drop m).all ptrB)) (fun v => 8 - (intOf v).toNat)
    case atStart => exact ⟨0, by omega, rfl, rfl⟩
    case round =>
      obtain ⟨m, hm, rfl, hall⟩ := hrel
      by_cases hlt : m < 8
      · obtain ⟨x, hx, hi⟩ := HIX.out m hlt
        have hst := Lib.hid (drop_all hx)
        clear hx
        cases hp : ptrB x
        · go_wp2_with fail
          refine (pointer_ok x _).mono ?_
          rintro e w' ⟨rfl, rfl⟩
          rw [hp]
          have hf : Hid (D.all ptrB = false) := by show D.all ptrB = false; rw [hall.out, hst.out, hp]; rfl
          go_wp2_with fail
          go_ret
          exact ⟨by rw [hf.out]; rfl, (Ext.refl w).alloc _⟩
        · have HP := Lib.hid hp
          go_wp2_with fail
          refine (pointer_ok x _).mono ?_
          rintro e w' ⟨rfl, rfl⟩
          rw [hp]
          clear hp
          go_wp2_with fail
          go_round
          case rel => exact ⟨m + 1, hlt, by go_num, by show _ = _; rw [hall.out, hst.out, HP.out, Bool.true_and]⟩
          case measure => simp [intOf]; omega
      · have : m = 8 := by omega
        subst this
        have hf : Hid (D.all ptrB = true) := by show D.all ptrB = true; rw [hall.out, HD8.out]; rfl
        clear hlt hm hall
        go_wp2_with fail
        refine (pointer_ok i _).mono ?_
        rintro e w' ⟨rfl, rfl⟩
        cases hp : ptrB i
        · have HP := Lib.hid hp
          go_wp2_with fail
          go_ret
          exact ⟨by rw [hf.out]; simp [hp], (Ext.refl w).alloc _⟩
        · have HP := Lib.hid hp
          go_wp2_with fail
          refine (pointer_ok j _).mono ?_
          rintro e w' ⟨rfl, rfl⟩
          go_wp2_with fail
          go_ret
          exact ⟨by rw [hf.out]; simp [hp], (Ext.refl w).alloc _⟩

theorem Right_ok (n : Ino) (w : World) : Calls Try.prog 33 #[n.v] w fun e w' => e = .returned (.bool n.rightB) ∧ Ext w w' := by
  by_cases hk : 3 ≤ n.k
  · exact Right_kind n w hk
  · by_cases h0 : n.k = 0
    · cases he : Ino.eqB n Ino.zero
      · exact Right_free n w h0 he
      · have hz := (Ino.eqB_iff _ _).1 he
        subst hz
        refine Right_good Ino.zero w ?_ (.inr rfl)
        unfold Ino.HeadP Ino.zero
        refine ⟨by decide, fun _ => rfl, by decide, by decide, by decide, by decide, by decide⟩
    · by_cases h : n.r < 16 ∧ 0 ≤ n.l ∧ n.l ≤ 65535 ∧ 0 ≤ n.s ∧ n.s ≤ 3840
      · exact Right_good n w ⟨by omega, fun e => absurd e h0, h⟩ (.inl (by simpa using h0))
      · exact Right_head n w h0 (by omega) (fun a b c d e => h ⟨a, b, c, d, e⟩)

/-! ### The reference's -/
theorem rRight_kind (n : Ino) (w : World) (h : 3 ≤ n.k) : Calls Try.prog 37 #[n.v] w fun e w' => e = .returned (.bool n.rightB) ∧ Ext w w' := by
  have hr : n.rightB = false := Ino.rightB_no (fun hh => by have := hh.1; omega)
  rw [hr]
  clear hr
  obtain ⟨k, r, l, s, d0, d1, d2, d3, d4, d5, d6, d7, i, j⟩ := n
  dsimp only at h
  dsimp only [Ino.v, Ino.cs]
  go_enter Try.func37, Try.ntmps37
  go_wp2
  go_ret
  exact ⟨rfl, (Ext.refl w).alloc _⟩
theorem rRight_free (n : Ino) (w : World) (h : n.k = 0) (he : Ino.eqB n Ino.zero = false) : Calls Try.prog 37 #[n.v] w fun e w' => e = .returned (.bool n.rightB) ∧ Ext w w' := by
  have hr : n.rightB = false := Ino.rightB_no (fun hh => by have := hh.2.1 h; rw [he] at this; cases this)
  rw [hr]
  clear hr
  have hq := neqIno n Ino.zero
  rw [he] at hq
  obtain ⟨k, r, l, s, d0, d1, d2, d3, d4, d5, d6, d7, i, j⟩ := n
  dsimp only at h
  subst h
  clear he
  dsimp only [Ino.v, Ino.cs, Ino.zero] at hq ⊢
  go_enter Try.func37, Try.ntmps37
  go_wp2
  go_ret
  exact ⟨rfl, (Ext.refl w).alloc _⟩
set_option maxHeartbeats 1000000 in
theorem rRight_head (n : Ino) (w : World) (h0 : n.k ≠ 0) (hk : n.k ≤ 2) (h : n.r < 16 → 0 ≤ n.l → n.l ≤ 65535 → 0 ≤ n.s → n.s ≤ 3840 → False) : Calls Try.prog 37 #[n.v] w fun e w' => e = .returned (.bool n.rightB) ∧ Ext w w' := by
  have hr : n.rightB = false := Ino.rightB_no (fun hh => h hh.2.2.1 hh.2.2.2.1 hh.2.2.2.2.1 hh.2.2.2.2.2.1 hh.2.2.2.2.2.2.1)
  rw [hr]
  clear hr
  obtain ⟨k, r, l, s, d0, d1, d2, d3, d4, d5, d6, d7, i, j⟩ := n
  dsimp only at h h0 hk
  dsimp only [Ino.v, Ino.cs]
  have hk0 : (k == 0) = false := by simpa using h0
  by_cases h1 : r < 16
  · by_cases h2 : 0 ≤ l
    · by_cases h3 : l ≤ 65535
      · by_cases h4 : 0 ≤ s
        · by_cases h5 : s ≤ 3840
          · exact (h h1 h2 h3 h4 h5).elim
          · clear h
            go_enter Try.func37, Try.ntmps37
            go_wp2
            go_ret
            exact ⟨rfl, (Ext.refl w).alloc _⟩
        · clear h
          go_enter Try.func37, Try.ntmps37
          go_wp2
          go_ret
          exact ⟨rfl, (Ext.refl w).alloc _⟩
      · clear h
        go_enter Try.func37, Try.ntmps37
        go_wp2
        go_ret
        exact ⟨rfl, (Ext.refl w).alloc _⟩
    · clear h
      go_enter Try.func37, Try.ntmps37
      go_wp2
      go_ret
      exact ⟨rfl, (Ext.refl w).alloc _⟩
  · clear h
    go_enter Try.func37, Try.ntmps37
    go_wp2
    go_ret
    exact ⟨rfl, (Ext.refl w).alloc _⟩

set_option maxHeartbeats 1000000 in
theorem rRight_good (n : Ino) (w : World) (h : n.HeadP) (h0 : (n.k == 0) = false ∨ n.k = 0) : Calls Try.prog 37 #[n.v] w fun e w' => e = .returned (.bool n.rightB) ∧ Ext w w' := by
  rw [Ino.rightB_head h]
  obtain ⟨h1, h2, h3, h4, h5, h6, h7⟩ := h
  have hix := cell8 n.k n.r n.l n.s n.d0 n.d1 n.d2 n.d3 n.d4 n.d5 n.d6 n.d7 n.i n.j w
  have hq : n.k = 0 → ∀ v : World, (binOp .neq 48 n.v Ino.zero.v).run Try.prog v = .ok (.bool false) v := fun e v => by rw [neqIno, h2 e]; rfl
  obtain ⟨k, r, l, s, d0, d1, d2, d3, d4, d5, d6, d7, i, j⟩ := n
  dsimp only [Ino.v, Ino.cs, Ino.zero, Ino.D] at *
  obtain ⟨D, hD⟩ : ∃ D, D = [d0, d1, d2, d3, d4, d5, d6, d7] := ⟨_, rfl⟩
  rw [← hD] at hix ⊢
  have hD8 : D.drop 8 = [] := by rw [hD]; rfl
  have HIX := Lib.hid hix
  have HD8 := Lib.hid hD8
  clear hD hix h2 hD8
  rcases h0 with h0 | rfl
  all_goals
    first | (have hq' := hq rfl; clear hq) | clear hq
    go_enter Try.func37, Try.ntmps37
    go_wp2_with fail
    go_loop [3] (fun v => ∃ m : Nat, m ≤ 8 ∧ v = .int .i64 m ∧ Hid (D.all ptrB = (D.drop m).all ptrB)) (fun v => 8 - (intOf v).toNat)
    case atStart => exact ⟨0, by omega, rfl, rfl⟩
    case round =>
      obtain ⟨m, hm, rfl, hall⟩ := hrel
      by_cases hlt : m < 8
      · obtain ⟨x, hx, hi⟩ := HIX.out m hlt
        have hst := Lib.hid (drop_all hx)
        clear hx
        cases hp : ptrB x
        · go_wp2_with fail
          refine (rpointer_ok x _).mono ?_
          rintro e w' ⟨rfl, rfl⟩
          rw [hp]
          have hf : Hid (D.all ptrB = false) := by show D.all ptrB = false; rw [hall.out, hst.out, hp]; rfl
          go_wp2_with fail
          go_ret
          exact ⟨by rw [hf.out]; rfl, (Ext.refl w).alloc _⟩
        · have HP := Lib.hid hp
          go_wp2_with fail
          refine (rpointer_ok x _).mono ?_
          rintro e w' ⟨rfl, rfl⟩
          rw [hp]
          clear hp
          go_wp2_with fail
          go_round
          case rel => exact ⟨m + 1, hlt, by go_num, by show _ = _; rw [hall.out, hst.out, HP.out, Bool.true_and]⟩
          case measure => simp [intOf]; omega
      · have : m = 8 := by omega
        subst this
        have hf : Hid (D.all ptrB = true) := by show D.all ptrB = true; rw [hall.out, HD8.out]; rfl
        clear hlt hm hall
        go_wp2_with fail
        refine (rpointer_ok i _).mono ?_
        rintro e w' ⟨rfl, rfl⟩
        cases hp : ptrB i
        · have HP := Lib.hid hp
          go_wp2_with fail
          go_ret
          exact ⟨by rw [hf.out]; simp [hp], (Ext.refl w).alloc _⟩
        · have HP := Lib.hid hp
          go_wp2_with fail
          refine (rpointer_ok j _).mono ?_
          rintro e w' ⟨rfl, rfl⟩
          go_wp2_with fail
          go_ret
          exact ⟨by rw [hf.out]; simp [hp], (Ext.refl w).alloc _⟩

theorem rRight_ok (n : Ino) (w : World) : Calls Try.prog 37 #[n.v] w fun e w' => e = .returned (.bool n.rightB) ∧ Ext w w' := by
  by_cases hk : 3 ≤ n.k
  · exact rRight_kind n w hk
  · by_cases h0 : n.k = 0
    · cases he : Ino.eqB n Ino.zero
      · exact rRight_free n w h0 he
      · have hz := (Ino.eqB_iff _ _).1 he
        subst hz
        refine rRight_good Ino.zero w ?_ (.inr rfl)
        unfold Ino.HeadP Ino.zero
        refine ⟨by decide, fun _ => rfl, by decide, by decide, by decide, by decide, by decide⟩
    · by_cases h : n.r < 16 ∧ 0 ≤ n.l ∧ n.l ≤ 65535 ∧ 0 ≤ n.s ∧ n.s ≤ 3840
      · exact rRight_good n w ⟨by omega, fun e => absurd e h0, h⟩ (.inl (by simpa using h0))
      · exact rRight_head n w h0 (by omega) (fun a b c d e => h ⟨a, b, c, d, e⟩)
end Go.Proofs.Ytnodinancnfoeaa.Ino
