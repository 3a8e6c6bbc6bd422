/- append to a slice that is full: what is made anew. No program named. -/
import Derived.Test.YthhkkjnahiimbaaOps
import Derived.Laws.Append
namespace Go.Proofs.Ythhkkjnahiimbaa.Ops
open Go.RowKit Words Mem Plain
set_option linter.unusedVariables false
variable {P : Program}
theorem run_append_full (w : World) (t ty e : TypeId) (z : Value) (bts : Nat) (ht : P.underlying t = some (.slice e)) (hi : (P.info? e).map (fun i => (i.zero, i.size, i.bytes)) = some (some z, 1, bts)) (hz1 : z.cells.size = 1)
    {b0 : Addr} {n cap0 : Nat} {olds : List Value} (hlo : olds.length = n) (holds : Sl w (some b0) olds) {a : Addr} {m : Nat} (c : Nat) {news : List Value} (hl : news.length = m) (hx : Sl w (some a) news)
    (hg : cap0 < n + m) (hb : (n + m) * bts ≤ 140737488355328) (h63 : n + m ≤ 9223372036854775807) :
    ∃ a' cap' w', (Builtin.append_ #[t, t] ty #[.slice (some b0) n cap0, .slice (some a) m c]).run P w = .ok (.slice a' (n + m) cap') w' ∧ w'.ownsRow w.heap.size e 1 (.slice a' (n + m) cap') (n + m) (olds ++ news) ∧ ∀ w0, Ext w0 w → Ext w0 w' := by
  obtain ⟨i, h2, h3, h4, h5⟩ := info_parts hi
  have get : ∀ {ad : Addr} {L : List Value}, Sl w (some ad) L → ∀ (j : Nat) (v : Value), L[j]? = some v → w.cell? (ad.add j) = some v := fun {ad L} h j v hv => by
    obtain ⟨hj, e⟩ := List.getElem?_eq_some_iff.1 hv
    obtain ⟨ad', had, hc⟩ := h j hj
    cases had
    rw [hc, e]
  have hr := run_append_grow (P := P) w t ty e i z ht h2 h3 b0 n cap0 olds (by rw [h4, hlo]; omega) (get holds) a m c news (by rw [h4, hl]; omega) (get hx) hg (by omega) (growslice_fits (by omega) (by rw [h5]; exact hb))
  have hge := grownCap_ge w (n + m) cap0 e
  have hcm : grownCap w (n + m) cap0 e ≤ maxLen := grownCap_le_maxLen w (n + m) cap0 e (by unfold maxLen; omega)
  have hlen : (olds ++ news).length = (n + m) * 1 := by rw [List.length_append, hlo, hl]; omega
  refine ⟨_, _, _, hr, ⟨hlen, .inr ⟨w.heap.size, _, _, rfl, Nat.le_refl _, heap_alloc_new w.drew _, hge, hcm, ?_, ?_⟩⟩, fun w0 h => (h.drew).alloc _⟩
  · simp only [Array.size_append, List.size_toArray, size_zeroCells, hz1, hlo, hl]
    omega
  · simp only [Array.toList_append, List.append_assoc]
    rw [← List.append_assoc, ← hlen]
    exact List.take_left
end Go.Proofs.Ythhkkjnahiimbaa.Ops
