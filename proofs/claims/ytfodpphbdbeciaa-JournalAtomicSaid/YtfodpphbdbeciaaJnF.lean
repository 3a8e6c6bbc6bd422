/- JnF; JnFw -/
import Derived.Test.YtfodpphbdbeciaaJnP
import Derived.Test.YtfodpphbdbeciaaJnL
import Derived.Deep.Slices
import Derived.Deep.Fields
import Derived.Lib.SmallJoins
import Derived.ChangeSame
import Derived.OpenShut
/- Acts as they come in, and few of them. -/
namespace Go.Proofs.Ytfodpphbdbeciaa.Jn
open Go.RowKit Words Mem Plain Ops Agg OwnS Dk
open Go.Joins Go.ChangeShapes Go.WideShapes Go.Deep
set_option maxRecDepth 100000
set_option linter.ambiguousOpen false
set_option linter.unusedVariables false
set_option linter.unusedSimpArgs false

structure ActT where
  kind : Nat
  la : Option Addr
  ln : Nat
  lc : Nat
  pos : Int
  c : Int
  bp : Option Addr
  bl : Nat
  bc : Nat
  there : Int
  sets : List (Int × Int)
structure ActT.ok (x : ActT) (w : World) : Prop where
  kind : x.kind ≤ 255
  pos : -9223372036854775808 ≤ x.pos ∧ x.pos ≤ 9223372036854775807
  there : 0 ≤ x.there ∧ x.there ≤ 18446744073709551615
  ln : x.ln ≤ 9223372036854775807
  bl : x.bl ≤ 9223372036854775807
  sets : SetsIn w x.la x.ln x.sets
def actC (x : ActT) : List Value := [.int .u8 x.kind, .slice x.la x.ln x.lc, .int .i64 x.pos, .int .u8 x.c, .slice x.bp x.bl x.bc, .int .u64 x.there]
theorem ActT.ok.ext {x : ActT} {w w' : World} (h : x.ok w) (e : Ext w w') : x.ok w' := ⟨h.kind, h.pos, h.there, h.ln, h.bl, h.sets.ext e⟩
/-- Acts that lie somewhere. -/
def ActsIn (w : World) (a : Option Addr) (n : Nat) (L : List ActT) : Prop :=
  L.length = n ∧ (0 < n → ∃ b off, a = some ⟨b, off, none⟩ ∧ ∀ i (h : i < L.length), L[i].ok w ∧ ∀ j, j < 6 → w.cell? ⟨b, off + i * 6 + j, none⟩ = (actC L[i])[j]?)
theorem ActsIn.ext {w w' : World} {a : Option Addr} {n : Nat} {L : List ActT} (h : ActsIn w a n L) (e : Ext w w') : ActsIn w' a n L := by
  refine ⟨h.1, fun h0 => ?_⟩
  obtain ⟨b, off, ea, hc⟩ := h.2 h0
  refine ⟨b, off, ea, fun i hi => ⟨(hc i hi).1.ext e, fun j hj => ?_⟩⟩
  have hv := (hc i hi).2 j hj
  have hl : (actC L[i]).length = 6 := rfl
  rw [List.getElem?_eq_getElem (by rw [hl]; exact hj)] at hv ⊢
  exact e.keep hv
theorem cellsSet2 : Try.prog.cellsOf 53 = 2 := by kernel_rfl
theorem cellsActT : Try.prog.cellsOf 47 = 6 := by kernel_rfl
set_option maxHeartbeats 1000000 in
theorem sets_cs {H : Type} {enc : TypeId × Value → H} {w : World} {fuel : Nat} {v : Value} {x : DataW H × List MemPlace} (hf : DataW.trod enc Try.prog w 0 (fun _ => true) true fuel 45 [v] = some x) :
    ∃ a n c L, v = .slice a n c ∧ n ≤ 9223372036854775807 ∧ SetsIn w a n L := by
  rcases open_slice Try.underlying45 hf with ⟨hc, _⟩ | ⟨a, len, cap, m, k, D, Pl, hc, _, hl, hm, hmm, hx, hall⟩
  · simp at hc; subst hc
    exact ⟨none, 0, 0, ([] : List (Int × Int)), rfl, by decide, rfl, fun s hs => (by cases hs), fun h => absurd h (by omega)⟩
  · simp at hc; subst hc
    simp only [if_true] at hmm
    subst hmm
    have hat : ∀ i, i < len → ∃ r : Int × Int, (0 ≤ r.2 ∧ r.2 ≤ 255) ∧ ∀ q, q < 2 → w.cell? (a.add (i * 2 + q)) = ([.int .i64 r.1, .int .u8 r.2] : List Value)[q]? := by
      intro i hi
      obtain ⟨cs', hc, ht⟩ := hall i (by omega)
      rw [cellsSet2] at hc
      obtain ⟨ys, n', hn', hy, hlen, hyl, hf⟩ := DataW.trod_struct Try.underlying53 ht
      obtain ⟨_, hcl, hcell⟩ := World.cells?_some hc
      obtain ⟨u0, u1, rfl⟩ : ∃ u0 u1, cs' = [u0, u1] := by
        match cs', hcl with
        | [u0, u1], _ => exact ⟨_, _, rfl⟩
      have hyl' : ys.length = 2 := hyl
      obtain ⟨y0, y1, rfl⟩ : ∃ y0 y1, ys = [y0, y1] := by
        match ys, hyl' with
        | [y0, y1], _ => exact ⟨_, _, rfl⟩
      have t0 := hf 0 _ rfl
      have t1 := hf 1 _ rfl
      have one : ∀ t, Try.prog.cellsOf t = 1 → ∀ (l : List Value) , l.take (Try.prog.cellsOf t) = l.take 1 := fun t h l => by rw [h]
      rw [one _ (by kernel_rfl)] at t0 t1
      obtain ⟨a0, e0, _, b0⟩ := DataW.trod_int Try.underlying3 (show DataW.trod enc Try.prog w 0 (fun _ => true) true n' 3 [u0] = some y0 from t0)
      obtain ⟨a1, e1, _, b1⟩ := DataW.trod_int Try.underlying5 (show DataW.trod enc Try.prog w 0 (fun _ => true) true n' 5 [u1] = some y1 from t1)
      simp only [List.cons.injEq, and_true] at e0 e1
      subst e0 e1
      refine ⟨(a0, a1), bounds_u8 b1, fun j hj => ?_⟩
      have := hcell j hj
      rw [Go.Deep.add_add] at this
      rw [this]
    obtain ⟨L, hL, hp⟩ := choose_list hat
    refine ⟨some a, len, _, L, rfl, by unfold maxLen at hm; omega, hL, fun s hs => ?_, fun h0 => ?_⟩
    · obtain ⟨i, hi, rfl⟩ := List.getElem_of_mem hs
      exact (hp i hi).1
    · obtain ⟨b, off, sp⟩ := a
      have hsp : sp = none := by
        cases sp with
        | none => rfl
        | some s =>
          have hx := (hp 0 (by omega)).2 0 (by decide)
          simp [Addr.add, World.cell?] at hx
          split at hx <;> simp at hx
      subst hsp
      refine ⟨b, off, rfl, fun i hi => ⟨?_, ?_⟩⟩
      · have := (hp i hi).2 0 (by decide)
        rw [Addr.add_lit] at this
        exact this
      · have := (hp i hi).2 1 (by decide)
        rw [Addr.add_lit] at this
        exact this
set_option maxHeartbeats 1000000 in
theorem acts_in {H : Type} {enc : TypeId × Value → H} {base : Nat} {d : DataW H} {p : List MemPlace} {v : Value} {w : World} (ho : Value.okWide Try.prog w .any base 43 v) (h : DataW.Trod enc Try.prog w 0 (fun _ => true) true 43 v d p) :
    ∃ a n cap L, v = .slice a n cap ∧ n ≤ cap ∧ cap ≤ 9223372036854775807 ∧ ActsIn w a n L := by
  obtain ⟨a, n, cap, rfl⟩ := okWide_slice Try.underlying43 ho
  obtain ⟨fuel, hf⟩ := h
  rcases open_slice Try.underlying43 hf with ⟨hc, hx⟩ | ⟨a, len, cap, m, k, D, Pl, hc, _, hl, hm, hmm, hx, hall⟩
  · simp [Value.cells] at hc
    obtain ⟨rfl, rfl, rfl⟩ := hc
    exact ⟨none, 0, 0, ([] : List ActT), rfl, Nat.le_refl _, by omega, rfl, fun h => absurd h (by omega)⟩
  · simp [Value.cells] at hc
    obtain ⟨rfl, rfl, rfl⟩ := hc
    simp only [if_true] at hmm
    subst hmm
    haveI : Inhabited ActT := ⟨⟨0, none, 0, 0, 0, 0, none, 0, 0, 0, []⟩⟩
    have hat : ∀ i, i < n → ∃ x : ActT, x.ok w ∧ ∀ j, j < 6 → w.cell? (a.add (i * 6 + j)) = (actC x)[j]? := by
      intro i hi
      obtain ⟨cs', hc, ht⟩ := hall i (by omega)
      rw [cellsActT] at hc
      obtain ⟨ys, n', hn', hy, hlen, hyl, hf⟩ := DataW.trod_struct Try.underlying47 ht
      obtain ⟨_, hcl, hcell⟩ := World.cells?_some hc
      obtain ⟨u0, u1, u2, u3, u4, u5, rfl⟩ : ∃ u0 u1 u2 u3 u4 u5, cs' = [u0, u1, u2, u3, u4, u5] := by
        match cs', hcl with
        | [u0, u1, u2, u3, u4, u5], _ => exact ⟨_, _, _, _, _, _, rfl⟩
      have hyl' : ys.length = 6 := hyl
      obtain ⟨y0, y1, y2, y3, y4, y5, rfl⟩ : ∃ y0 y1 y2 y3 y4 y5, ys = [y0, y1, y2, y3, y4, y5] := by
        match ys, hyl' with
        | [y0, y1, y2, y3, y4, y5], _ => exact ⟨_, _, _, _, _, _, rfl⟩
      have one : ∀ t, Try.prog.cellsOf t = 1 → ∀ (l : List Value) , l.take (Try.prog.cellsOf t) = l.take 1 := fun t h l => by rw [h]
      have t0 := hf 0 _ rfl
      have t1 := hf 1 _ rfl
      have t2 := hf 2 _ rfl
      have t3 := hf 3 _ rfl
      have t4 := hf 4 _ rfl
      have t5 := hf 5 _ rfl
      rw [one _ (by kernel_rfl)] at t0 t1 t2 t3 t4 t5
      obtain ⟨a0, e0, _, b0⟩ := DataW.trod_int Try.underlying5 (show DataW.trod enc Try.prog w 0 (fun _ => true) true n' 5 [u0] = some y0 from t0)
      obtain ⟨la, ln, lc, S, e1, hln, hS⟩ := sets_cs (show DataW.trod enc Try.prog w 0 (fun _ => true) true n' 45 [u1] = some y1 from t1)
      obtain ⟨a2, e2, _, b2⟩ := DataW.trod_int Try.underlying3 (show DataW.trod enc Try.prog w 0 (fun _ => true) true n' 3 [u2] = some y2 from t2)
      obtain ⟨a3, e3, _, b3⟩ := DataW.trod_int Try.underlying5 (show DataW.trod enc Try.prog w 0 (fun _ => true) true n' 5 [u3] = some y3 from t3)
      have t4' : DataW.trod enc Try.prog w 0 (fun _ => true) true n' 34 [u4] = some y4 := t4
      obtain ⟨a5, e5, _, b5⟩ := DataW.trod_int Try.underlying40 (show DataW.trod enc Try.prog w 0 (fun _ => true) true n' 40 [u5] = some y5 from t5)
      simp only [List.cons.injEq, and_true] at e0 e2 e3 e5
      subst e0 e1 e2 e3 e5
      have h3 : ∃ bp bl bc, u4 = .slice bp bl bc ∧ bl ≤ 9223372036854775807 := by
        rcases DataW.trod_slice Try.underlying34 t4' with ⟨e, _⟩ | ⟨a, len, cap, elems, rest, nn, _, e, _, _, hl', hm', _⟩
        · simp at e; exact ⟨_, _, _, e, by omega⟩
        · simp at e; exact ⟨_, _, _, e, by unfold maxLen at hm'; omega⟩
      obtain ⟨bp, bl, bc, rfl, hbl⟩ := h3
      have hb0 := bounds_u8 b0
      have hb5 : 0 ≤ a5 ∧ a5 ≤ 18446744073709551615 := by
        simp [Lit.wf, IntKind.has, IntKind.min, IntKind.max, IntKind.signed, IntKind.bits] at b5
        omega
      obtain ⟨k0, rfl⟩ : ∃ q : Nat, a0 = q := ⟨a0.toNat, by omega⟩
      refine ⟨⟨k0, la, ln, lc, a2, a3, bp, bl, bc, a5, S⟩, ⟨by dsimp only; omega, bounds_i64 b2, hb5, hln, hbl, hS⟩, fun j hj => ?_⟩
      have := hcell j hj
      rw [Go.Deep.add_add] at this
      rw [this]
      rfl
    obtain ⟨L, hL, hp⟩ := choose_list hat
    refine ⟨some a, n, m, L, rfl, hl, by unfold maxLen at hm; omega, hL, fun h0 => ?_⟩
    obtain ⟨b, off, sp⟩ := a
    have hsp : sp = none := by
      cases sp with
      | none => rfl
      | some s =>
        have hx := (hp 0 (by omega)).2 0 (by decide)
        simp [Addr.add, World.cell?, actC] at hx
        split at hx <;> simp at hx
    subst hsp
    refine ⟨b, off, rfl, fun i hi => ⟨(hp i hi).1, fun j hj => ?_⟩⟩
    have := (hp i hi).2 j hj
    rw [Addr.add_lit] at this
    rw [Nat.add_assoc]
    exact this
end Go.Proofs.Ytfodpphbdbeciaa.Jn
/- moatlaw07's few. -/
namespace Go.Proofs.Ytfodpphbdbeciaa.Jn
open Go.RowKit Words Mem Plain Ops Agg OwnS Dk
open Go.Joins Go.ChangeShapes Go.WideShapes Go.Deep
set_option maxRecDepth 100000
set_option linter.ambiguousOpen false
set_option linter.unusedVariables false
set_option linter.unusedSimpArgs false

set_option maxHeartbeats 4000000 in
theorem few_ok (a : Option Addr) (n cap : Nat) (L : List ActT) (w : World) (hn : n ≤ cap) (hm : cap ≤ 9223372036854775807) (hs : ActsIn w a n L) :
    Calls Try.prog 17 #[.slice a n cap] w fun e w' => w = w' ∧ ∃ m : Nat, e = .returned (.slice a m cap) ∧ m ≤ n ∧ m ≤ 40 ∧ ∀ i (h : i < L.length), i < m → L[i].ln ≤ 60 := by
  by_cases h0 : 0 < n
  · obtain ⟨b, off, rfl, hk⟩ := hs.2 h0
    have HK := Lib.hid hk
    have HL := Lib.hid hs.1
    clear hk hs
    go_enter Try.func17, Try.ntmps17
    go_wp2
    go_loopw [6] (fun v wr => ∃ k : Nat, k ≤ n ∧ k ≤ 40 ∧ v = .int .i64 k ∧ w = wr ∧ ∀ i (h : i < L.length), i < k → L[i].ln ≤ 60) (fun v _ => n - (intOf v).toNat)
    case atStart => exact ⟨0, by omega, by omega, rfl, rfl, fun i _ hi => absurd hi (by omega)⟩
    case round =>
      obtain ⟨k, hkn, hk40, rfl, rfl, hfew⟩ := hrel
      have HF := Lib.hid hfew
      clear hfew
      by_cases hlt : k < n
      · have hkL : k < L.length := by rw [HL.out]; exact hlt
        obtain ⟨hok, hc⟩ := HK.out k hkL
        have HNX := Lib.hid (show L[k].ln ≤ 60 → ∀ i (h : i < L.length), i < k + 1 → L[i].ln ≤ 60 from fun h60 i h hi => by
          by_cases e : i < k
          · exact HF.out i h e
          · have : i = k := by omega
            subst this; exact h60)
        have c1 := hc 1 (by decide)
        have c4 := hc 4 (by decide)
        have hln := hok.ln
        have hbl := hok.bl
        generalize L[k] = x at *
        obtain ⟨kind, la, ln, lc, pos, c, bp, bl, bc, there, S⟩ := x
        replace c1 : w.cell? ⟨b, off + k * 6 + 1, none⟩ = some (.slice la ln lc) := c1
        replace c4 : w.cell? ⟨b, off + k * 6 + 4, none⟩ = some (.slice bp bl bc) := c4
        dsimp only at hln hbl HNX
        clear hc hok hkL
        by_cases h40 : k = 40
        · subst h40
          go_wp2
          go_ret
          exact ⟨rfl, 40, rfl, by omega, by omega, HF.out⟩
        · have hk2 : ¬ (40 : Int) ≤ k := by omega
          by_cases h60 : 60 < ln
          · have h60' : (60 : Int) < ln := by omega
            go_wp2
            go_ret
            exact ⟨rfl, k, rfl, by omega, by omega, HF.out⟩
          · have h60' : ¬ (60 : Int) < ln := by omega
            have HN2 := Lib.hid (HNX.out (by omega))
            by_cases hb : 200 < bl
            · have hb2 : (200 : Int) < bl := by omega
              go_wp2
              go_ret
              exact ⟨rfl, k, rfl, by omega, by omega, HF.out⟩
            · have hb2 : ¬ (200 : Int) < bl := by omega
              go_wp2
              go_roundw
              case rel => exact ⟨k + 1, by omega, by omega, by go_num, (by first | rfl | trivial), HN2.out⟩
              case measure => simp [intOf]; omega
      · obtain rfl : k = n := by omega
        go_wp2
        go_ret
        exact ⟨rfl, k, rfl, by omega, by omega, HF.out⟩
  · obtain rfl : n = 0 := by omega
    go_enter Try.func17, Try.ntmps17
    go_wp2
    go_loopw [6] (fun v wr => v = .int .i64 0 ∧ w = wr) (fun v _ => 0)
    case atStart => exact ⟨rfl, rfl⟩
    case round =>
      obtain ⟨rfl, rfl⟩ := hrel
      go_wp2
      go_ret
      exact ⟨rfl, 0, rfl, by omega, by omega, fun i _ hi => absurd hi (by omega)⟩
end Go.Proofs.Ytfodpphbdbeciaa.Jn
