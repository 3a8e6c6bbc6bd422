/- An inode that came in by value, and the laws InodeLays and InodeBack as their frames ask for them. -/
import Derived.Test.YtdimnnnklhjnfaaLawLays
import Derived.WideShapes
import Derived.OpenShut
namespace Go.Proofs.Ytdimnnnklhjnfaa.Ino
open Go.RowKit Words Mem Plain Ops Base
open Go.ChangeShapes Go.WideShapes
open Go.Proofs.Ytdimnnnklhjnfaa.Field
set_option linter.ambiguousOpen false
set_option linter.unusedVariables false
set_option linter.unusedSimpArgs false

theorem ino_cells (cs : List Value) (h : cs.length = 14) (h0 : ∀ i, i < 2 → ∃ x, cs[i]? = some (.int .u8 x) ∧ 0 ≤ x ∧ x ≤ 255) (h1 : ∀ i, 2 ≤ i → i < 14 → ∃ x, cs[i]? = some (.int .i64 x) ∧ -9223372036854775808 ≤ x ∧ x ≤ 9223372036854775807) :
    ∃ n : Ino, cs = n.cs.toList ∧ n.wf := by
  obtain ⟨x0, e0, b0⟩ := h0 0 (by decide)
  obtain ⟨x1, e1, b1⟩ := h0 1 (by decide)
  obtain ⟨x2, e2, b2⟩ := h1 2 (by decide) (by decide)
  obtain ⟨x3, e3, b3⟩ := h1 3 (by decide) (by decide)
  obtain ⟨x4, e4, b4⟩ := h1 4 (by decide) (by decide)
  obtain ⟨x5, e5, b5⟩ := h1 5 (by decide) (by decide)
  obtain ⟨x6, e6, b6⟩ := h1 6 (by decide) (by decide)
  obtain ⟨x7, e7, b7⟩ := h1 7 (by decide) (by decide)
  obtain ⟨x8, e8, b8⟩ := h1 8 (by decide) (by decide)
  obtain ⟨x9, e9, b9⟩ := h1 9 (by decide) (by decide)
  obtain ⟨x10, e10, b10⟩ := h1 10 (by decide) (by decide)
  obtain ⟨x11, e11, b11⟩ := h1 11 (by decide) (by decide)
  obtain ⟨x12, e12, b12⟩ := h1 12 (by decide) (by decide)
  obtain ⟨x13, e13, b13⟩ := h1 13 (by decide) (by decide)
  refine ⟨⟨x0, x1, x2, x3, x4, x5, x6, x7, x8, x9, x10, x11, x12, x13⟩, ?_, ?_⟩
  · apply List.ext_getElem?
    intro i
    by_cases hi : i < 14
    · obtain rfl | rfl | rfl | rfl | rfl | rfl | rfl | rfl | rfl | rfl | rfl | rfl | rfl | rfl : i = 0 ∨ i = 1 ∨ i = 2 ∨ i = 3 ∨ i = 4 ∨ i = 5 ∨ i = 6 ∨ i = 7 ∨ i = 8 ∨ i = 9 ∨ i = 10 ∨ i = 11 ∨ i = 12 ∨ i = 13 := by omega
      all_goals assumption
    · rw [List.getElem?_eq_none (by omega), List.getElem?_eq_none (by simp; omega)]
  · unfold Ino.wf
    dsimp only
    omega

theorem has_u8 {x : Int} (h : IntKind.u8.has x) : 0 ≤ x ∧ x ≤ 255 := by
  simpa [IntKind.has, IntKind.min, IntKind.max, IntKind.signed, IntKind.bits] using h
theorem has_i64 {x : Int} (h : IntKind.i64.has x) : -9223372036854775808 ≤ x ∧ x ≤ 9223372036854775807 := by
  simpa [IntKind.has, IntKind.min, IntKind.max, IntKind.signed, IntKind.bits] using h
theorem cell_u8 {w : World} {r : Reach} {base : Nat} {v : Value} (h : Cell.okWide Try.prog w r base 5 v) : ∃ x, v = .int .u8 x ∧ 0 ≤ x ∧ x ≤ 255 := by
  simp only [Cell.okWide, Try.underlying5] at h
  cases v <;> simp_all [Cell.ok, Try.underlying5]
  exact has_u8 h.2
theorem cell_i64 {w : World} {r : Reach} {base : Nat} {v : Value} (h : Cell.okWide Try.prog w r base 3 v) : ∃ x, v = .int .i64 x ∧ -9223372036854775808 ≤ x ∧ x ≤ 9223372036854775807 := by
  simp only [Cell.okWide, Try.underlying3] at h
  cases v <;> simp_all [Cell.ok, Try.underlying3]
  exact has_i64 h.2
theorem cellsIno : Try.prog.cellsOf 39 = 14 := by kernel_rfl
theorem typesIno : Try.prog.cellTypes Try.prog.depth 39 = some [5, 5, 3, 3, 3, 3, 3, 3, 3, 3, 3, 3, 3, 3] := by kernel_rfl

theorem ino_in {w : World} {base : Nat} {v : Value} (ho : Value.okWide Try.prog w .any base 39 v) : ∃ n : Ino, v = n.v ∧ n.wf := by
  simp only [Value.okWide, Try.underlying39] at ho
  obtain ⟨cs, rfl, hsz, ts, hts, _, hc⟩ := ho
  rw [typesIno] at hts
  cases hts
  rw [cellsIno] at hsz
  have hget : ∀ i, i < 14 → ∃ x, cs[i]? = some x := fun i hi => ⟨cs[i]'(by omega), by simp [hsz, hi]⟩
  obtain ⟨n, h1, h2⟩ := ino_cells cs.toList (by simpa using hsz)
    (fun i hi => by
      obtain ⟨x, hx⟩ := hget i (by omega)
      obtain ⟨u, hu, hk⟩ := hc i x hx
      have : u = 5 := by
        obtain rfl | rfl : i = 0 ∨ i = 1 := by omega
        all_goals (simp at hu; exact hu.symm)
      subst this
      obtain ⟨y, rfl, hy⟩ := cell_u8 hk
      exact ⟨y, by simpa using hx, hy⟩)
    (fun i h2 hi => by
      obtain ⟨x, hx⟩ := hget i (by omega)
      obtain ⟨u, hu, hk⟩ := hc i x hx
      have : u = 3 := by
        obtain rfl | rfl | rfl | rfl | rfl | rfl | rfl | rfl | rfl | rfl | rfl | rfl : i = 2 ∨ i = 3 ∨ i = 4 ∨ i = 5 ∨ i = 6 ∨ i = 7 ∨ i = 8 ∨ i = 9 ∨ i = 10 ∨ i = 11 ∨ i = 12 ∨ i = 13 := by omega
        all_goals (simp at hu; exact hu.symm)
      subst this
      obtain ⟨y, rfl, hy⟩ := cell_i64 hk
      exact ⟨y, by simpa using hx, hy⟩)
  refine ⟨n, ?_, h2⟩
  have : cs = n.cs := by apply Array.toList_inj.1; exact h1
  rw [this]

theorem law_InodeLays {H : Type} {enc : TypeId × Value → H} {base : Nat} {d : DataW H} {p : List MemPlace} (v : Value) (w : World) (ho : Value.okWide Try.prog w .any base 39 v) (h : DataW.Trod enc Try.prog w 0 (fun _ => true) true 39 v d p) :
    Calls Try.prog 6 #[v] w fun e w' => e = .returned (.bool true) ∧ Below w.heap.size w w' := by
  obtain ⟨n, rfl, hw⟩ := ino_in ho
  exact walk_InodeLays' n w hw
end Go.Proofs.Ytdimnnnklhjnfaa.Ino
