/- Rows that came in, as the laws' frames tell of them. -/
import Derived.Test.YtiknmifbhhfblaaShown10
import Derived.Deep.SlicePairs
import Derived.Lib.SmallJoins
import Derived.WideShapes
import Derived.OpenShut
namespace Go.Proofs.Ytiknmifbhhfblaa.Intern
open Go.RowKit Words Mem Plain Ops
open Go.ChangeShapes Go.WideShapes Go.Deep
set_option linter.ambiguousOpen false
set_option linter.unusedVariables false
set_option linter.unusedSimpArgs false

theorem bd_u16 {x : Int} (h : (Lit.int .u16 x).wf = true) : 0 ≤ x ∧ x ≤ 65535 := by
  simp [Lit.wf, IntKind.has, IntKind.min, IntKind.max, IntKind.signed, IntKind.bits] at h
  omega
theorem cellsRow : Try.prog.cellsOf 37 = 2 := by kernel_rfl
theorem cellsLab : Try.prog.cellsOf 24 = 1 := by kernel_rfl
theorem cellsInt : Try.prog.cellsOf 3 = 1 := by kernel_rfl
theorem rows_in {H : Type} {enc : TypeId × Value → H} {base : Nat} {d : DataW H} {p : List MemPlace} {v : Value} {w : World} (ho : Value.okWide Try.prog w .any base 22 v) (h : DataW.Trod enc Try.prog w 0 (fun _ => true) true 22 v d p) :
    ∃ a n cap L, v = .slice a n cap ∧ L.length = n ∧ n ≤ cap ∧ cap ≤ 9223372036854775807 ∧ Sl w a (rowsC L) ∧ wfR L ∧ (a = none → n = 0 ∧ cap = 0) := by
  obtain ⟨a, n, cap, rfl⟩ := okWide_slice Try.underlying22 ho
  obtain ⟨fuel, hf⟩ := h
  rcases open_slice_pairs Try.underlying22 Try.underlying37 cellsRow rfl rfl cellsLab cellsInt hf with ⟨hc, hx⟩ | ⟨a, len, cap, m, k, V0, V1, D0, D1, P0, P1, hc, _, hl, hm, hmm, hx, hall⟩
  · simp [Value.cells] at hc
    obtain ⟨rfl, rfl, rfl⟩ := hc
    exact ⟨none, 0, 0, [], rfl, rfl, Nat.le_refl _, by omega, Sl.nil _ _, by simp [wfR], fun _ => ⟨rfl, rfl⟩⟩
  · simp [Value.cells] at hc
    obtain ⟨rfl, rfl, rfl⟩ := hc
    simp only [if_true] at hmm
    subst hmm
    have h0 : ∀ i, i < n → ∃ x y, V0 i = .int .u16 x ∧ V1 i = .int .i64 y ∧ (0 ≤ x ∧ x ≤ 65535) ∧ (-9223372036854775808 ≤ y ∧ y ≤ 9223372036854775807) := fun i hi => by
      obtain ⟨x, h1, _, h3⟩ := DataW.trod_int Try.underlying24 (hall i (by omega)).2.2.1
      obtain ⟨y, g1, _, g3⟩ := DataW.trod_int Try.underlying3 (hall i (by omega)).2.2.2
      simp only [List.cons.injEq, and_true] at h1 g1
      exact ⟨x, y, h1, g1, bd_u16 h3, bounds_i64 g3⟩
    have hL : ∀ q, q ≤ n → ∃ L : List RowT, L.length = q ∧ wfR L ∧ ∀ i, i < q → V0 i = .int .u16 (rg L i).1 ∧ V1 i = .int .i64 (rg L i).2 := by
      intro q
      induction q with
      | zero => exact fun _ => ⟨[], rfl, by simp [wfR], fun i hi => absurd hi (by omega)⟩
      | succ q ih =>
        intro hq
        obtain ⟨L, l1, l2, l3⟩ := ih (by omega)
        obtain ⟨x, y, e0, e1, bx, by'⟩ := h0 q (by omega)
        refine ⟨L ++ [(x, y)], by simp [l1], ?_, fun i hi => ?_⟩
        · intro r hr
          rcases List.mem_append.1 hr with hr | hr
          · exact l2 r hr
          · simp at hr; subst hr; exact ⟨bx, by'⟩
        · by_cases e : i = q
          · subst e
            have : rg (L ++ [(x, y)]) i = (x, y) := by subst l1; simp [rg]
            rw [this]; exact ⟨e0, e1⟩
          · have : rg (L ++ [(x, y)]) i = rg L i := by
              unfold rg
              rw [List.getD_eq_getElem?_getD, List.getD_eq_getElem?_getD, List.getElem?_append_left (by omega)]
            rw [this]; exact l3 i (by omega)
    obtain ⟨L, l1, l2, l3⟩ := hL n (Nat.le_refl _)
    refine ⟨some a, n, m, L, rfl, l1, hl, by unfold maxLen at hm; omega, ?_, l2, fun e => by cases e⟩
    intro j hj
    rw [rowsC_length] at hj
    refine ⟨a, rfl, ?_⟩
    have hi : j / 2 < L.length := by omega
    obtain ⟨c0, c1, _⟩ := hall (j / 2) (by omega)
    obtain ⟨v0, v1⟩ := l3 (j / 2) (by omega)
    obtain ⟨r0, r1⟩ := rowsC_at L (j / 2) hi
    rw [v0] at c0
    rw [v1] at c1
    by_cases e : j % 2 = 0
    · have ej : j / 2 * 2 = j := by omega
      rw [ej] at c0
      rw [show 2 * (j / 2) = j by omega] at r0
      rw [c0, ← r0, List.getElem?_eq_getElem (by rw [rowsC_length]; omega)]
    · have ej : j / 2 * 2 + 1 = j := by omega
      rw [ej] at c1
      rw [show 2 * (j / 2) + 1 = j by omega] at r1
      rw [c1, ← r1, List.getElem?_eq_getElem (by rw [rowsC_length]; omega)]
end Go.Proofs.Ytiknmifbhhfblaa.Intern
