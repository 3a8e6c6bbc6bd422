/- A parting and what is known, as they come in. -/
import Derived.Test.YtnodinancnfoeaaMtSame
import Derived.Deep.Slices
import Derived.Lib.SmallJoins
import Derived.ChangeSame
import Derived.OpenShut
namespace Go.Proofs.Ytnodinancnfoeaa.Mt
open Go.RowKit Words Mem Plain Ops Agg OwnS Intern Ino
open Go.Joins Go.ChangeShapes Go.WideShapes Go.Deep
set_option linter.ambiguousOpen false
set_option linter.unusedVariables false
set_option linter.unusedSimpArgs false

theorem bd_u16 {x : Int} (h : (Lit.int .u16 x).wf = true) : 0 ≤ x ∧ x ≤ 65535 := by
  simp [Lit.wf, IntKind.has, IntKind.min, IntKind.max, IntKind.signed, IntKind.bits] at h
  omega
theorem choose_list {α : Type} [Inhabited α] {n : Nat} {Pr : Nat → α → Prop} (h : ∀ i, i < n → ∃ x, Pr i x) : ∃ L : List α, L.length = n ∧ ∀ i (hi : i < L.length), Pr i L[i] := by
  obtain ⟨f, hf⟩ := choose_lt h
  refine ⟨(List.range n).map f, by simp, fun i hi => ?_⟩
  simp only [List.length_map, List.length_range] at hi
  simp only [List.getElem_map, List.getElem_range]
  exact hf i hi
theorem flat_sl {α : Type} {f : α → List Value} {s : Nat} (hs0 : 0 < s) (hs : ∀ x, (f x).length = s) {w : World} {a : Addr} {L : List α} (h : ∀ i (hi : i < L.length), ∀ q, q < s → w.cell? (a.add (i * s + q)) = (f L[i])[q]?) : Sl w (some a) (flat f L) := by
  intro j hj
  have hfl := flat_length (f := f) hs L
  refine ⟨a, rfl, ?_⟩
  have hk : j / s < L.length := Nat.div_lt_of_lt_mul (by rw [Nat.mul_comm]; omega)
  have hq : j % s < s := Nat.mod_lt _ hs0
  have e1 : j / s * s + j % s = j := by rw [Nat.mul_comm]; exact Nat.div_add_mod j s
  have e2 := flat_at (f := f) (s := s) hs L (j / s) hk (j % s) hq
  have h1 := h (j / s) hk (j % s) hq
  rw [e1] at e2 h1
  rw [h1, ← e2, List.getElem?_eq_getElem hj]
instance : Inhabited Ino := ⟨Ino.zero⟩
section
variable {H : Type} {enc : TypeId × Value → H} {w : World} {fuel : Nat} {v : Value} {x : DataW H × List MemPlace}
theorem cellsRow2 : Try.prog.cellsOf 45 = 2 := by kernel_rfl
theorem cellsIno14 : Try.prog.cellsOf 48 = 14 := by kernel_rfl
theorem cellsInt1 : Try.prog.cellsOf 3 = 1 := by kernel_rfl
theorem cellsU81 : Try.prog.cellsOf 5 = 1 := by kernel_rfl
theorem rows_cs (hf : DataW.trod enc Try.prog w 0 (fun _ => true) true fuel 24 [v] = some x) :
    ∃ a c L, v = .slice a (List.length L) c ∧ Sl w a (rowsC L) ∧ wfR L ∧ (a = none → L.length = 0 ∧ c = 0) := by
  rcases open_slice Try.underlying24 hf with ⟨hc, _⟩ | ⟨a, len, cap, m, k, D, Pl, hc, _, hl, hm, hmm, hx, hall⟩
  · simp at hc; subst hc
    exact ⟨none, 0, [], rfl, Sl.nil _ _, fun r hr => (by cases hr), fun _ => ⟨rfl, rfl⟩⟩
  · simp at hc; subst hc
    simp only [if_true] at hmm
    subst hmm
    have hat : ∀ i, i < len → ∃ r : RowT, ((0 ≤ r.1 ∧ r.1 ≤ 65535) ∧ (-9223372036854775808 ≤ r.2 ∧ r.2 ≤ 9223372036854775807)) ∧ ∀ q, q < 2 → w.cell? (a.add (i * 2 + q)) = (rc r)[q]? := by
      intro i hi
      obtain ⟨cs', hc, ht⟩ := hall i (by omega)
      rw [cellsRow2] at hc
      obtain ⟨ys, n', hn', hy, hlen, hyl, hf⟩ := DataW.trod_struct Try.underlying45 ht
      obtain ⟨_, hcl, hcell⟩ := World.cells?_some hc
      obtain ⟨u0, u1, rfl⟩ : ∃ u0 u1, cs' = [u0, u1] := by
        match cs', hcl with
        | [u0, u1], _ => exact ⟨_, _, rfl⟩
      have hyl' : ys.length = 2 := hyl
      obtain ⟨y0, y1, rfl⟩ : ∃ y0 y1, ys = [y0, y1] := by
        match ys, hyl' with
        | [y0, y1], _ => exact ⟨_, _, rfl⟩
      have t0 := hf 0 _ rfl
      have t1 := hf 1 _ rfl
      have one : ∀ t, Try.prog.cellsOf t = 1 → ∀ (l : List Value) , l.take (Try.prog.cellsOf t) = l.take 1 := fun t h l => by rw [h]
      rw [one _ (by kernel_rfl)] at t0 t1
      obtain ⟨a0, e0, _, b0⟩ := DataW.trod_int Try.underlying43 (show DataW.trod enc Try.prog w 0 (fun _ => true) true n' 43 [u0] = some y0 from t0)
      obtain ⟨a1, e1, _, b1⟩ := DataW.trod_int Try.underlying3 (show DataW.trod enc Try.prog w 0 (fun _ => true) true n' 3 [u1] = some y1 from t1)
      simp only [List.cons.injEq, and_true] at e0 e1
      subst e0 e1
      refine ⟨(a0, a1), ⟨bd_u16 b0, bounds_i64 b1⟩, fun j hj => ?_⟩
      have := hcell j hj
      rw [Go.Deep.add_add] at this
      rw [this]
    obtain ⟨L, hL, hp⟩ := choose_list hat
    subst hL
    exact ⟨some a, _, L, rfl, flat_sl (f := rc) (by decide) (fun _ => rfl) (fun i hi q hq => (hp i hi).2 q hq), fun r hr => by
      obtain ⟨i, hi, rfl⟩ := List.getElem_of_mem hr
      exact (hp i hi).1, fun e => by cases e⟩
theorem ints_cs (hf : DataW.trod enc Try.prog w 0 (fun _ => true) true fuel 25 [v] = some x) :
    ∃ a c L, v = .slice a (List.length L) c ∧ Sl w a (ints .i64 L) ∧ (a = none → L.length = 0 ∧ c = 0) := by
  rcases open_slice1 Try.underlying25 cellsInt1 hf with ⟨hc, _⟩ | ⟨a, len, cap, m, k, V, D, Pl, hc, _, hl, hm, hmm, hx, hall⟩
  · simp at hc; subst hc
    exact ⟨none, 0, [], rfl, Sl.nil _ _, fun _ => ⟨rfl, rfl⟩⟩
  · simp at hc; subst hc
    simp only [if_true] at hmm
    subst hmm
    have hat : ∀ i, i < len → ∃ y : Int, w.cell? (a.add i) = some (.int .i64 y) := by
      intro i hi
      obtain ⟨h1, h2⟩ := hall i (by omega)
      obtain ⟨y, e, _, _⟩ := DataW.trod_int Try.underlying3 h2
      simp only [List.cons.injEq, and_true] at e
      exact ⟨y, by rw [h1, e]⟩
    obtain ⟨L, hL, hp⟩ := choose_list hat
    subst hL
    refine ⟨some a, _, L, rfl, fun j hj => ⟨a, rfl, ?_⟩, fun e => by cases e⟩
    rw [ints_length] at hj
    rw [hp j hj, ints_getElem]
theorem bytes_cs (hf : DataW.trod enc Try.prog w 0 (fun _ => true) true fuel 26 [v] = some x) :
    ∃ a c L, v = .slice a (List.length L) c ∧ Sl w a (ints .u8 L) ∧ isBytes L ∧ L.length ≤ c ∧ c ≤ 9223372036854775807 ∧ (a = none → L.length = 0 ∧ c = 0) := by
  rcases open_slice1 Try.underlying26 cellsU81 hf with ⟨hc, _⟩ | ⟨a, len, cap, m, k, V, D, Pl, hc, _, hl, hm, hmm, hx, hall⟩
  · simp at hc; subst hc
    exact ⟨none, 0, [], rfl, Sl.nil _ _, fun x hx => (by cases hx), Nat.le_refl _, by decide, fun _ => ⟨rfl, rfl⟩⟩
  · simp at hc; subst hc
    simp only [if_true] at hmm
    subst hmm
    have hat : ∀ i, i < len → ∃ y : Int, w.cell? (a.add i) = some (.int .u8 y) ∧ 0 ≤ y ∧ y < 256 := by
      intro i hi
      obtain ⟨h1, h2⟩ := hall i (by omega)
      obtain ⟨y, e, _, hb⟩ := DataW.trod_int Try.underlying5 h2
      simp only [List.cons.injEq, and_true] at e
      have := bounds_u8 hb
      exact ⟨y, by rw [h1, e], by omega, by omega⟩
    obtain ⟨L, hL, hp⟩ := choose_list hat
    subst hL
    refine ⟨some a, _, L, rfl, fun j hj => ⟨a, rfl, ?_⟩, fun x hx => ?_, hl, by unfold maxLen at hm; omega, fun e => by cases e⟩
    · rw [ints_length] at hj
      rw [(hp j hj).1, ints_getElem]
    · obtain ⟨i, hi, rfl⟩ := List.getElem_of_mem hx
      exact (hp i hi).2
theorem inos_cs (hf : DataW.trod enc Try.prog w 0 (fun _ => true) true fuel 27 [v] = some x) :
    ∃ a c L, v = .slice a (List.length L) c ∧ Sl w a (flat inoC L) ∧ (∀ n ∈ L, n.wf) ∧ (a = none → L.length = 0 ∧ c = 0) := by
  rcases open_slice Try.underlying27 hf with ⟨hc, _⟩ | ⟨a, len, cap, m, k, D, Pl, hc, _, hl, hm, hmm, hx, hall⟩
  · simp at hc; subst hc
    exact ⟨none, 0, [], rfl, Sl.nil _ _, fun r hr => (by cases hr), fun _ => ⟨rfl, rfl⟩⟩
  · simp at hc; subst hc
    simp only [if_true] at hmm
    subst hmm
    have hat : ∀ i, i < len → ∃ n : Ino, n.wf ∧ ∀ q, q < 14 → w.cell? (a.add (i * 14 + q)) = (inoC n)[q]? := by
      intro i hi
      obtain ⟨cs', hc, ht⟩ := hall i (by omega)
      rw [cellsIno14] at hc
      obtain ⟨ys, n', hn', hy, hlen, hyl, hf⟩ := DataW.trod_struct Try.underlying48 ht
      obtain ⟨_, hcl, hcell⟩ := World.cells?_some hc
      obtain ⟨u0, u1, u2, u3, u4, u5, u6, u7, u8, u9, u10, u11, u12, u13, rfl⟩ : ∃ u0 u1 u2 u3 u4 u5 u6 u7 u8 u9 u10 u11 u12 u13, cs' = [u0, u1, u2, u3, u4, u5, u6, u7, u8, u9, u10, u11, u12, u13] := by
        match cs', hcl with
        | [u0, u1, u2, u3, u4, u5, u6, u7, u8, u9, u10, u11, u12, u13], _ => exact ⟨_, _, _, _, _, _, _, _, _, _, _, _, _, _, rfl⟩
      have hyl' : ys.length = 7 := hyl
      obtain ⟨y0, y1, y2, y3, y4, y5, y6, rfl⟩ : ∃ y0 y1 y2 y3 y4 y5 y6, ys = [y0, y1, y2, y3, y4, y5, y6] := by
        match ys, hyl' with
        | [y0, y1, y2, y3, y4, y5, y6], _ => exact ⟨_, _, _, _, _, _, _, rfl⟩
      have one : ∀ t, Try.prog.cellsOf t = 1 → ∀ (l : List Value) , l.take (Try.prog.cellsOf t) = l.take 1 := fun t h l => by rw [h]
      have t0 := hf 0 _ rfl
      have t1 := hf 1 _ rfl
      have t2 := hf 2 _ rfl
      have t3 := hf 3 _ rfl
      have t4 := hf 4 _ rfl
      have t5 := hf 5 _ rfl
      have t6 := hf 6 _ rfl
      rw [one _ (by kernel_rfl)] at t0 t1 t2 t3 t5 t6
      rw [show Try.prog.cellsOf _ = 8 from (by kernel_rfl)] at t4
      have t4' : DataW.trod enc Try.prog w 0 (fun _ => true) true n' 46 [u4, u5, u6, u7, u8, u9, u10, u11] = some y4 := t4
      obtain ⟨zs, m', _, _, _, hzl, hz⟩ := DataW.trod_array Try.underlying46 t4'
      obtain ⟨x0, e0, _, b0⟩ := DataW.trod_int Try.underlying5 (show DataW.trod enc Try.prog w 0 (fun _ => true) true n' 5 [u0] = some y0 from t0)
      obtain ⟨x1, e1, _, b1⟩ := DataW.trod_int Try.underlying5 (show DataW.trod enc Try.prog w 0 (fun _ => true) true n' 5 [u1] = some y1 from t1)
      obtain ⟨x2, e2, _, b2⟩ := DataW.trod_int Try.underlying3 (show DataW.trod enc Try.prog w 0 (fun _ => true) true n' 3 [u2] = some y2 from t2)
      obtain ⟨x3, e3, _, b3⟩ := DataW.trod_int Try.underlying3 (show DataW.trod enc Try.prog w 0 (fun _ => true) true n' 3 [u3] = some y3 from t3)
      obtain ⟨x12, e12, _, b12⟩ := DataW.trod_int Try.underlying3 (show DataW.trod enc Try.prog w 0 (fun _ => true) true n' 3 [u12] = some y5 from t5)
      obtain ⟨x13, e13, _, b13⟩ := DataW.trod_int Try.underlying3 (show DataW.trod enc Try.prog w 0 (fun _ => true) true n' 3 [u13] = some y6 from t6)
      have hel : ∀ i, i < 8 → ∃ y, [u4, u5, u6, u7, u8, u9, u10, u11][i]? = some (.int .i64 y) := fun i hi => by
        have h1 := hz i hi
        rw [cellsInt1, Nat.mul_one] at h1
        have h2 : ([u4, u5, u6, u7, u8, u9, u10, u11].drop i).take 1 = [[u4, u5, u6, u7, u8, u9, u10, u11][i]'hi] := by
          rw [List.drop_eq_getElem_cons hi]; rfl
        rw [h2, List.getElem?_eq_getElem (by rw [hzl]; exact hi)] at h1
        obtain ⟨y, e, _, _⟩ := DataW.trod_int Try.underlying3 h1
        simp only [List.cons.injEq, and_true] at e
        exact ⟨y, by rw [List.getElem?_eq_getElem hi, e]⟩
      obtain ⟨x4, e4⟩ := hel 0 (by decide)
      obtain ⟨x5, e5⟩ := hel 1 (by decide)
      obtain ⟨x6, e6⟩ := hel 2 (by decide)
      obtain ⟨x7, e7⟩ := hel 3 (by decide)
      obtain ⟨x8, e8⟩ := hel 4 (by decide)
      obtain ⟨x9, e9⟩ := hel 5 (by decide)
      obtain ⟨x10, e10⟩ := hel 6 (by decide)
      obtain ⟨x11, e11⟩ := hel 7 (by decide)
      simp only [List.cons.injEq, and_true, List.getElem?_cons_zero, List.getElem?_cons_succ, Option.some.injEq] at e0 e1 e2 e3 e4 e5 e6 e7 e8 e9 e10 e11 e12 e13
      subst e0 e1 e2 e3 e4 e5 e6 e7 e8 e9 e10 e11 e12 e13
      have c0 := bounds_u8 b0
      have c1 := bounds_u8 b1
      refine ⟨⟨x0, x1, x2, x3, x4, x5, x6, x7, x8, x9, x10, x11, x12, x13⟩, ⟨⟨by dsimp only; omega, by dsimp only; omega⟩, by dsimp only; omega, by dsimp only; omega⟩, fun j hj => ?_⟩
      have := hcell j hj
      rw [Go.Deep.add_add] at this
      rw [this]
      rfl
    obtain ⟨L, hL, hp⟩ := choose_list hat
    subst hL
    exact ⟨some a, _, L, rfl, flat_sl (f := inoC) (by decide) inoC_len (fun i hi q hq => (hp i hi).2 q hq), fun r hr => by
      obtain ⟨i, hi, rfl⟩ := List.getElem_of_mem hr
      exact (hp i hi).1, fun e => by cases e⟩
end
/-- Few enough. -/
def MetaT.small (M : MetaT) : Prop := M.rows.length ≤ 100 ∧ M.owners.length ≤ 100 ∧ M.used.length ≤ 200 ∧ M.inodes.length ≤ 100
theorem cellsMeta : Try.prog.cellsOf 29 = 4 := by kernel_rfl
theorem cellsGeo : Try.prog.cellsOf 23 = 4 := by kernel_rfl
theorem meta_in {H : Type} {enc : TypeId × Value → H} {base : Nat} {d : DataW H} {pl : List MemPlace} {v : Value} {w : World} (ho : Value.okWide Try.prog w .any base 29 v) (h : DataW.Trod enc Try.prog w 0 (fun _ => true) true 29 v d pl) :
    ∃ p M, v = metaV p M ∧ (M.small → MetaIn w p M) := by
  obtain ⟨v0, v1, v2, v3, y0, y1, y2, y3, n, rfl, _, _, h0, h1, h2, h3⟩ := open_agg4 Try.underlying29 rfl cellsMeta ho h
  obtain ⟨a0, c0, L0, rfl, s0, f0, z0⟩ := rows_cs h0
  obtain ⟨a1, c1, L1, rfl, s1, z1⟩ := ints_cs h1
  obtain ⟨a2, c2, L2, rfl, s2, f2, _, _, z2⟩ := bytes_cs h2
  obtain ⟨a3, c3, L3, rfl, s3, f3, z3⟩ := inos_cs h3
  exact ⟨⟨a0, c0, a1, c1, a2, c2, a3, c3⟩, ⟨L0, L1, L2, L3⟩, rfl, fun hs => ⟨s0, s1, s2, s3, f0, f2, f3, by obtain ⟨q0, q1, q2, q3⟩ := hs; dsimp only at *; omega, z0, z1, z2, z3⟩⟩
theorem geo_in {H : Type} {enc : TypeId × Value → H} {base : Nat} {d : DataW H} {pl : List MemPlace} {v : Value} {w : World} (ho : Value.okWide Try.prog w .any base 23 v) (h : DataW.Trod enc Try.prog w 0 (fun _ => true) true 23 v d pl) :
    ∃ J I G P, v = Super.geoV J I G P := by
  obtain ⟨v0, v1, v2, v3, y0, y1, y2, y3, n, rfl, _, _, h0, h1, h2, h3⟩ := open_agg4 Try.underlying23 rfl cellsGeo ho h
  obtain ⟨x0, e0, _, _⟩ := DataW.trod_int Try.underlying3 h0
  obtain ⟨x1, e1, _, _⟩ := DataW.trod_int Try.underlying3 h1
  obtain ⟨x2, e2, _, _⟩ := DataW.trod_int Try.underlying3 h2
  obtain ⟨x3, e3, _, _⟩ := DataW.trod_int Try.underlying3 h3
  simp only [List.cons.injEq, and_true] at e0 e1 e2 e3
  subst e0 e1 e2 e3
  exact ⟨x0, x1, x2, x3, rfl⟩
end Go.Proofs.Ytnodinancnfoeaa.Mt
