/- Bytes of the call's own that are written over, one after the other. -/
import Derived.Test.YtgflpbbdohmhiaaGave
namespace Go.Proofs.Ytgflpbbdohmhiaa.Field
open Go.RowKit Words Mem Plain Ops
set_option linter.unusedVariables false
set_option linter.unusedSimpArgs false

/-- A slice of numbers of the call's own, whatever they are. -/
def Scr (w0 : World) (t : TypeId) (k : IntKind) (a : Option Addr) (n : Nat) (w : World) : Prop :=
  Ext w0 w ∧ (0 < n → ∃ g M, a = some ⟨g, 0, none⟩ ∧ w0.heap.size ≤ g ∧ Row w g t M ∧ ∀ j, j < n → ∃ x : Int, M[j]? = some (.int k x))
theorem Scr.ext {w0 w : World} {t : TypeId} {k : IntKind} {a : Option Addr} {n : Nat} (h : Scr w0 t k a n w) : Ext w0 w := h.1
theorem Scr.of {w0 w1 w : World} {t : TypeId} {k : IntKind} {a : Option Addr} {n cap : Nat} {L : List Int} (h : w.ownsRow w1.heap.size t 1 (.slice a n cap) n (ints k L)) (hX : Ext w0 w) (h1 : Ext w0 w1) : Scr w0 t k a n w := by
  refine ⟨hX, fun h0 => ?_⟩
  rcases ownsRow_cases h with ⟨_, h2, _⟩ | ⟨g, M, e, hg, hr, _, _, _, ht⟩
  · omega
  · refine ⟨g, M, e, Nat.le_trans h1.size hg, hr, fun j hj => ?_⟩
    have hl := ownsRow_len h
    rw [ints_length] at hl
    have h2 : (M.take n)[j]? = M[j]? := by rw [List.getElem?_take]; rw [if_pos hj]
    rw [← h2, ht, ints_getElem?]
    exact ⟨L[j]'(by omega), by simp⟩
theorem Scr.later {w0 w w' : World} {t : TypeId} {k : IntKind} {a : Option Addr} {n : Nat} (h : Scr w0 t k a n w) (hX : Ext w w') : Scr w0 t k a n w' := by
  refine ⟨h.1.trans hX, fun h0 => ?_⟩
  obtain ⟨g, M, e, hg, hr, hc⟩ := h.2 h0
  exact ⟨g, M, e, hg, hr.ext hX, hc⟩
/-- One of them, and what is so when it is written over. -/
theorem Scr.at {w0 w : World} {t : TypeId} {k : IntKind} {a : Option Addr} {n j : Nat} (h : Scr w0 t k a n w) (hj : j < n) :
    ∃ g x, a = some ⟨g, 0, none⟩ ∧ w.cell? ⟨g, j, none⟩ = some (.int k x) ∧ w.frozen? ⟨g, j, none⟩ = false ∧ ∀ y, Scr w0 t k (some ⟨g, 0, none⟩) n (w.setCell ⟨g, j, none⟩ (.int k y)) := by
  obtain ⟨g, M, rfl, hg, hr, hc⟩ := h.2 (by omega)
  obtain ⟨x, hx⟩ := hc j hj
  refine ⟨g, x, rfl, by rw [hr.cell?]; exact hx, hr.frozen j, fun y => ⟨h.1.setCell hg _, fun _ => ⟨g, M.set j (.int k y), rfl, hg, hr.set j _, fun i hi => ?_⟩⟩⟩
  by_cases e : j = i
  · subst e
    exact ⟨y, by rw [List.getElem?_set]; simp [(List.getElem?_eq_some_iff.1 hx).1]⟩
  · rw [List.getElem?_set, if_neg e]; exact hc i hi
end Go.Proofs.Ytgflpbbdohmhiaa.Field
