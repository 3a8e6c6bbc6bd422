/- Acts as they come in, and few of them. -/
import Derived.Test.YtfonkicpjkcchaaDkN
import Derived.Deep.Slices
import Derived.Deep.Fields
import Derived.ChangeSame
namespace Go.Proofs.Ytfonkicpjkcchaa.Dk
open Go.RowKit Words Mem Plain Ops Agg OwnS
open Go.Joins Go.ChangeShapes Go.WideShapes Go.Deep
set_option linter.ambiguousOpen false
set_option linter.unusedVariables false
set_option linter.unusedSimpArgs false

structure ActT where
  kind : Int
  pos : Int
  c : Int
  bp : Option Addr
  bl : Nat
  bc : Nat
  tag : Int
  there : Int
def ActT.ok (x : ActT) : Prop := (0 ≤ x.kind ∧ x.kind ≤ 255) ∧ (-9223372036854775808 ≤ x.pos ∧ x.pos ≤ 9223372036854775807) ∧ (0 ≤ x.c ∧ x.c ≤ 255) ∧ x.bl ≤ 9223372036854775807
def actC (x : ActT) : List Value := [.int .u8 x.kind, .int .i64 x.pos, .int .u8 x.c, .slice x.bp x.bl x.bc, .int .u16 x.tag, .int .u64 x.there]
/-- An act's cells. -/
def ActAt (w : World) (b o : Nat) (x : ActT) : Prop :=
  w.cell? ⟨b, o, none⟩ = some (.int .u8 x.kind) ∧ w.cell? ⟨b, o + 1, none⟩ = some (.int .i64 x.pos) ∧ w.cell? ⟨b, o + 2, none⟩ = some (.int .u8 x.c) ∧
  w.cell? ⟨b, o + 3, none⟩ = some (.slice x.bp x.bl x.bc) ∧ w.cell? ⟨b, o + 4, none⟩ = some (.int .u16 x.tag) ∧ w.cell? ⟨b, o + 5, none⟩ = some (.int .u64 x.there)
theorem ActAt.ext {w w' : World} {b o : Nat} {x : ActT} (h : ActAt w b o x) (e : Ext w w') : ActAt w' b o x := by
  obtain ⟨h0, h1, h2, h3, h4, h5⟩ := h
  have k := fun {p : Addr} {v : Value} (hc : w.cell? p = some v) => (e.cell (World.block_lt_of_cell? w p hc)).trans hc
  exact ⟨k h0, k h1, k h2, k h3, k h4, k h5⟩
def ActsAt (w : World) (a : Option Addr) (n : Nat) : Prop := 0 < n → ∃ b off, a = some ⟨b, off, none⟩ ∧ ∀ k, k < n → ∃ x : ActT, x.ok ∧ ActAt w b (off + k * 6) x
theorem ActsAt.ext {w w' : World} {a : Option Addr} {n : Nat} (h : ActsAt w a n) (e : Ext w w') : ActsAt w' a n := fun h0 => by
  obtain ⟨b, off, ha, hk⟩ := h h0
  exact ⟨b, off, ha, fun k hk' => by obtain ⟨x, hx, hc⟩ := hk k hk'; exact ⟨x, hx, hc.ext e⟩⟩
theorem ActsAt.fewer {w : World} {a : Option Addr} {n m : Nat} (h : ActsAt w a n) (hm : m ≤ n) : ActsAt w a m := fun h0 => by
  obtain ⟨b, off, ha, hk⟩ := h (by omega)
  exact ⟨b, off, ha, fun k hk' => hk k (by omega)⟩

theorem cellsActT : Try.prog.cellsOf 34 = 6 := by kernel_rfl
theorem bd_u8 {x : Int} (h : (Lit.int .u8 x).wf = true) : 0 ≤ x ∧ x ≤ 255 := bounds_u8 h
set_option maxHeartbeats 1000000 in
theorem acts_in {H : Type} {enc : TypeId × Value → H} {base : Nat} {d : DataW H} {p : List MemPlace} {v : Value} {w : World} (ho : Value.okWide Try.prog w .any base 22 v) (h : DataW.Trod enc Try.prog w 0 (fun _ => true) true 22 v d p) :
    ∃ a n cap, v = .slice a n cap ∧ n ≤ cap ∧ cap ≤ 9223372036854775807 ∧ ActsAt w a n := by
  obtain ⟨a, n, cap, rfl⟩ := okWide_slice Try.underlying22 ho
  obtain ⟨fuel, hf⟩ := h
  rcases open_slice Try.underlying22 hf with ⟨hc, hx⟩ | ⟨a, len, cap, m, k, D, Pl, hc, _, hl, hm, hmm, hx, hall⟩
  · simp [Value.cells] at hc
    obtain ⟨rfl, rfl, rfl⟩ := hc
    exact ⟨none, 0, 0, rfl, Nat.le_refl _, by omega, fun h => absurd h (by omega)⟩
  · simp [Value.cells] at hc
    obtain ⟨rfl, rfl, rfl⟩ := hc
    simp only [if_true] at hmm
    subst hmm
    refine ⟨some a, n, m, rfl, hl, by unfold maxLen at hm; omega, fun h0 => ?_⟩
    have hat : ∀ i, i < m → ∃ x : ActT, x.ok ∧ ∀ j (hj : j < 6), w.cell? (a.add (i * 6 + j)) = (actC x)[j]? := by
      intro i hi
      obtain ⟨cs', hc, ht⟩ := hall i hi
      rw [cellsActT] at hc
      obtain ⟨ys, n', hn', hy, hlen, hyl, hf⟩ := DataW.trod_struct Try.underlying34 ht
      obtain ⟨_, hcl, hcell⟩ := World.cells?_some hc
      obtain ⟨u0, u1, u2, u3, u4, u5, rfl⟩ : ∃ u0 u1 u2 u3 u4 u5, cs' = [u0, u1, u2, u3, u4, u5] := by
        match cs', hcl with
        | [u0, u1, u2, u3, u4, u5], _ => exact ⟨_, _, _, _, _, _, rfl⟩
      have hyl' : ys.length = 6 := hyl
      obtain ⟨y0, y1, y2, y3, y4, y5, rfl⟩ : ∃ y0 y1 y2 y3 y4 y5, ys = [y0, y1, y2, y3, y4, y5] := by
        match ys, hyl' with
        | [y0, y1, y2, y3, y4, y5], _ => exact ⟨_, _, _, _, _, _, rfl⟩
      have one : ∀ t, Try.prog.cellsOf t = 1 → ∀ (l : List Value) , l.take (Try.prog.cellsOf t) = l.take 1 := fun t h l => by rw [h]
      have t0 := hf 0 _ rfl
      have t1 := hf 1 _ rfl
      have t2 := hf 2 _ rfl
      have t3 := hf 3 _ rfl
      rw [one _ (by kernel_rfl)] at t0 t1 t2 t3
      obtain ⟨a0, e0, _, b0⟩ := DataW.trod_int Try.underlying5 (show DataW.trod enc Try.prog w 0 (fun _ => true) true n' 5 [u0] = some y0 from t0)
      obtain ⟨a1, e1, _, b1⟩ := DataW.trod_int Try.underlying3 (show DataW.trod enc Try.prog w 0 (fun _ => true) true n' 3 [u1] = some y1 from t1)
      obtain ⟨a2, e2, _, b2⟩ := DataW.trod_int Try.underlying5 (show DataW.trod enc Try.prog w 0 (fun _ => true) true n' 5 [u2] = some y2 from t2)
      have t3' : DataW.trod enc Try.prog w 0 (fun _ => true) true n' 29 [u3] = some y3 := t3
      have t4 := hf 4 _ rfl
      have t5 := hf 5 _ rfl
      rw [one _ (by kernel_rfl)] at t4 t5
      obtain ⟨a4, e4, _, b4⟩ := DataW.trod_int Try.underlying31 (show DataW.trod enc Try.prog w 0 (fun _ => true) true n' 31 [u4] = some y4 from t4)
      obtain ⟨a5, e5, _, b5⟩ := DataW.trod_int Try.underlying32 (show DataW.trod enc Try.prog w 0 (fun _ => true) true n' 32 [u5] = some y5 from t5)
      simp only [List.cons.injEq, and_true] at e0 e1 e2 e4 e5
      subst e0 e1 e2 e4 e5
      have h3 : ∃ bp bl bc, u3 = .slice bp bl bc ∧ bl ≤ 9223372036854775807 := by
        rcases DataW.trod_slice Try.underlying29 t3' with ⟨e, _⟩ | ⟨a, len, cap, elems, rest, nn, _, e, _, _, hl', hm', _⟩
        · simp at e; exact ⟨_, _, _, e, by omega⟩
        · simp at e; exact ⟨_, _, _, e, by unfold maxLen at hm'; omega⟩
      obtain ⟨bp, bl, bc, rfl, hbl⟩ := h3
      refine ⟨⟨a0, a1, a2, bp, bl, bc, a4, a5⟩, ⟨bd_u8 b0, bounds_i64 b1, bd_u8 b2, hbl⟩, fun j hj => ?_⟩
      have := hcell j hj
      rw [Go.Deep.add_add] at this
      rw [this]
      rfl
    obtain ⟨b, off, sp⟩ := a
    have hsp : sp = none := by
      cases sp with
      | none => rfl
      | some s =>
        obtain ⟨x, _, hx⟩ := hat 0 (by omega)
        have := hx 0 (by decide)
        simp [Addr.add, World.cell?, actC] at this
        split at this <;> simp at this
    subst hsp
    refine ⟨b, off, rfl, fun i hi => ?_⟩
    obtain ⟨x, hx, hc⟩ := hat i (by omega)
    have k := fun j hj => (show w.cell? ⟨b, off + i * 6 + j, none⟩ = (actC x)[j]? from by rw [← hc j hj, Addr.add_lit, Nat.add_assoc])
    exact ⟨x, hx, k 0 (by decide), k 1 (by decide), k 2 (by decide), k 3 (by decide), k 4 (by decide), k 5 (by decide)⟩

set_option maxHeartbeats 1000000 in
theorem few_ok (a : Option Addr) (n cap : Nat) (w : World) (hn : n ≤ cap) (hm : cap ≤ 9223372036854775807) (hs : ActsAt w a n) :
    Calls Try.prog 10 #[.slice a n cap] w fun e w' => w' = w ∧ ∃ m : Nat, e = .returned (.slice a m cap) ∧ m ≤ n ∧ m ≤ 120 := by
  by_cases h0 : 0 < n
  · obtain ⟨b, off, rfl, hk⟩ := hs h0
    have HK := Lib.hid hk
    clear hk hs
    go_enter Try.func10, Try.ntmps10
    go_wp2
    go_loopw [6] (fun v wr => ∃ k : Nat, k ≤ n ∧ k ≤ 120 ∧ v = .int .i64 k ∧ wr = w) (fun v _ => n - (intOf v).toNat)
    case atStart => exact ⟨0, by omega, by omega, rfl, rfl⟩
    case round =>
      obtain ⟨k, hkn, hk120, rfl, rfl⟩ := hrel
      by_cases hlt : k < n
      · obtain ⟨x, hx, c0, c1, c2, c3, c4, c5⟩ := HK.out k hlt
        have hbl := hx.2.2.2
        clear hx c0 c1 c2 c4 c5
        obtain ⟨kind, pos, c, bp, bl, bc, tag, there⟩ := x
        dsimp only at *
        by_cases h120 : k = 120
        · subst h120
          go_wp2
          go_ret
          exact ⟨rfl, 120, rfl, by omega, by omega⟩
        · have hk2 : ¬ (120 : Int) ≤ k := by omega
          by_cases hb : 200 < bl
          · have hb2 : (200 : Int) < bl := by omega
            go_wp2
            go_ret
            exact ⟨rfl, k, rfl, by omega, by omega⟩
          · have hb2 : ¬ (200 : Int) < bl := by omega
            go_wp2
            go_roundw
            case rel => exact ⟨k + 1, by omega, by omega, by go_num, trivial⟩
            case measure => simp [intOf]; omega
      · obtain rfl : k = n := by omega
        go_wp2
        go_ret
        exact ⟨rfl, k, rfl, by omega, by omega⟩
  · obtain rfl : n = 0 := by omega
    go_enter Try.func10, Try.ntmps10
    go_wp2
    go_loopw [6] (fun v wr => v = .int .i64 0 ∧ wr = w) (fun v _ => 0)
    case atStart => exact ⟨rfl, rfl⟩
    case round =>
      obtain ⟨rfl, rfl⟩ := hrel
      go_wp2
      go_ret
      exact ⟨rfl, 0, rfl, by omega, by omega⟩
end Go.Proofs.Ytfonkicpjkcchaa.Dk
