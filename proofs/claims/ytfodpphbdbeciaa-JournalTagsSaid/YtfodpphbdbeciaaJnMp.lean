/- A map[api.Label]bool of the law's own, read as the labels that are true; an array of bytes. -/
import Derived.Test.YtfodpphbdbeciaaJnD
import Derived.Maps.OwnOps
import Derived.Maps.Views
namespace Go.Proofs.Ytfodpphbdbeciaa.Jn
open Go.RowKit Words Mem Plain Ops Agg OwnS Dk
open Go.Maps
set_option maxRecDepth 100000
set_option linter.ambiguousOpen false
set_option linter.unusedVariables false
set_option linter.unusedSimpArgs false

noncomputable abbrev mR : Value → Option (DataW Unit × List MemPlace) := plainElem Try.prog 4
theorem keyLaw : Keyed Try.prog 35 := int_keyed Try.underlying35
theorem zeroBool (w : World) : (zeroValue 4).run Try.prog w = .ok (.bool false) w := by kernel_rfl
theorem plainElem_bool_inv {v : Value} {z : DataW Unit × List MemPlace} (h : mR v = some z) : ∃ x, v = .bool x ∧ z = (.lit (.bool x), []) := by
  unfold mR plainElem at h
  rw [Try.underlying4] at h
  cases v <;> simp at h
  exact ⟨_, rfl, h.symm⟩
/-- Block b is a map of at most n entries in which the labels of K are true. -/
def Had (w : World) (b n : Nat) (K : List Int) : Prop := ∃ D : DataW Unit, w.ownsMap Try.prog 35 mR b n D ∧ IsMap D ∧ ∀ c ∈ K, D.atKey (.int .u16 c) (.lit (.bool false)) = .lit (.bool true)
theorem Had.made (w : World) : Had (w.alloc (.map #[] 0)) w.heap.size 0 [] := ⟨.map [], World.ownsMap_made _ _ _ _, isMap_empty, fun c hc => by cases hc⟩
theorem Had.lt {w : World} {b n : Nat} {K : List Int} (h : Had w b n K) : b < w.heap.size := by obtain ⟨D, h1, _⟩ := h; exact h1.lt
theorem Had.mono {w : World} {b n m : Nat} {K : List Int} (h : Had w b n K) (hm : n ≤ m) : Had w b m K := by obtain ⟨D, h1, h2⟩ := h; exact ⟨D, h1.mono hm, h2⟩
theorem Had.sub {w : World} {b n : Nat} {K J : List Int} (h : Had w b n K) (hJ : ∀ c ∈ J, c ∈ K) : Had w b n J := by obtain ⟨D, h1, h2, h3⟩ := h; exact ⟨D, h1, h2, fun c hc => h3 c (hJ c hc)⟩
theorem Had.heap {w w' : World} {b n : Nat} {K : List Int} (h : Had w b n K) (e : w'.heap[b]? = w.heap[b]?) : Had w' b n K := by
  obtain ⟨D, ⟨es, clock, hb, F⟩, h2⟩ := h
  exact ⟨D, ⟨es, clock, e.trans hb, F⟩, h2⟩
theorem Had.ext {w w' : World} {b n : Nat} {K : List Int} (h : Had w b n K) (e : Ext w w') : Had w' b n K := h.heap (Below.block e b h.lt)
theorem u16_wf {c : Int} (hc : 0 ≤ c ∧ c ≤ 65535) : (Lit.int .u16 c).wf = true := WalkArith.wf_u16 hc
theorem Had.look {w : World} {b n : Nat} {K : List Int} (h : Had w b n K) {c : Int} (hc : 0 ≤ c ∧ c ≤ 65535) (hk : c ∈ K) : (Instr.lookup 50 (.map (some b)) (.int .u16 c) false).run Try.prog w = .ok (.bool true) w := by
  obtain ⟨D, h1, h2, h3⟩ := h
  obtain ⟨v, ps, hrun, hv⟩ := h1.lookup (t := 50) keyLaw Try.underlying50 (zeroBool w) (plainElem_bool Try.underlying4 false) (keyOf_int_mk Try.underlying35 (u16_wf hc))
  rw [h3 c hk] at hv
  obtain ⟨x, rfl, e⟩ := plainElem_bool_inv hv
  cases e
  exact hrun
theorem Had.put {w : World} {b n : Nat} {K : List Int} (h : Had w b n K) (hn : n < 1000000) {c : Int} (hc : 0 ≤ c ∧ c ≤ 65535) : ∃ w', (Instr.mapUpdate 50 (.map (some b)) (.int .u16 c) (.bool true)).run Try.prog w = .ok () w' ∧ Had w' b (n + 1) (c :: K) ∧ w.grownBy w' (some b) := by
  obtain ⟨D, h1, h2, h3⟩ := h
  obtain ⟨w', hrun, how, hg⟩ := h1.update (t := 50) keyLaw Try.underlying50 (by unfold maxLen; omega) (keyOf_int_mk Try.underlying35 (u16_wf hc)) (plainElem_bool Try.underlying4 true)
  refine ⟨w', hrun, ⟨_, how, h2.put _ _, fun k hk => ?_⟩, hg⟩
  by_cases e : k = c
  · subst e
    exact atKey_put_same h2 (by trivial) _ _
  · rw [atKey_put_other (by simpa using e)]
    rcases List.mem_cons.1 hk with hk | hk
    · exact absurd hk e
    · exact h3 k hk
theorem zero12 (w : World) : (zeroValue 51).run Try.prog w = .ok (.agg (ints .u8 [0, 0, 0, 0, 0, 0, 0, 0, 0, 0, 0, 0]).toArray) w := by kernel_rfl
theorem Tag_atM {w0 u : World} {g gs sc : Nat} {X : Nat → Prop} {D : Dsk} (h : AtM w0 g gs sc D X u) (i : Int) :
    Calls Try.prog 19 #[.pointer (some ⟨g, 0, none⟩), .int .i64 i] u fun e w' => e = .returned (.tuple #[.int .u16 (getR D i).1.tag, .int .i64 (getR D i).2]) ∧ Ext u w' := by
  obtain ⟨h1, wa, wc, h2, _⟩ := h
  exact Tag_ok h2 i
end Go.Proofs.Ytfodpphbdbeciaa.Jn
