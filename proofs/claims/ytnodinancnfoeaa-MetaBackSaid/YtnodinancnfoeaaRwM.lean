/- Rows in memory of the call's own: slices of two cells an element. No program named. -/
import Derived.Test.YtnodinancnfoeaaRwP
import Derived.Test.YtnodinancnfoeaaAgg
import Derived.Laws.CopyRow
import Derived.Laws.IdiomCopy
namespace Go.Proofs.Ytnodinancnfoeaa.Intern
open Go.RowKit Words Mem Plain Ops Agg
set_option linter.unusedVariables false
set_option linter.unusedSimpArgs false

section
variable {w w' : World} {base n cap : Nat} {t : TypeId} {a : Option Addr} {xs : List Value}
theorem own2_cases (h : w.ownsRow base t 2 (.slice a n cap) n xs) : (a = none ∧ n = 0 ∧ cap = 0 ∧ xs = []) ∨ ∃ g M, a = some ⟨g, 0, none⟩ ∧ base ≤ g ∧ Row w g t M ∧ n ≤ cap ∧ cap ≤ maxLen ∧ M.length = cap * 2 ∧ M.take (n * 2) = xs := by
  rcases h.2 with ⟨hv, hn⟩ | ⟨g, cap', cur, hv, hb, hg, hle, hm, hcs, htk⟩
  · cases hv
    exact .inl ⟨rfl, rfl, rfl, List.eq_nil_of_length_eq_zero (by simpa using h.1)⟩
  · cases hv
    exact .inr ⟨g, cur.toList, rfl, hb, by unfold Row; simpa using hg, hle, hm, by simpa using hcs, htk⟩
theorem own2_sl (h : w.ownsRow base t 2 (.slice a n cap) n xs) : Sl w a xs := by
  rcases own2_cases h with ⟨_, _, _, rfl⟩ | ⟨g, M, rfl, _, hr, _, _, _, rfl⟩
  · exact Sl.nil _ _
  · exact hr.slTake _
theorem own2_ext (h : w.ownsRow base t 2 (.slice a n cap) n xs) (e : Ext w w') : w'.ownsRow base t 2 (.slice a n cap) n xs := by
  refine h.kept (row := none) ⟨e.os, e.tape, e.output, e.size, fun k hk _ => e.block k hk⟩ ?_
  cases hb : Value.ownBlock (.slice a n cap) <;> simp
theorem own2_base {base' : Nat} (h : w.ownsRow base t 2 (.slice a n cap) n xs) (hb : base' ≤ base) : w.ownsRow base' t 2 (.slice a n cap) n xs := by
  refine ⟨h.1, ?_⟩
  rcases h.2 with hv | ⟨g, cap', cur, hv, hg, r⟩
  · exact .inl hv
  · exact .inr ⟨g, cap', cur, hv, Nat.le_trans hb hg, r⟩
theorem own2_of {g : Nat} {M : List Value} (hr : Row w g t M) (hb : base ≤ g) (hl : M.length = n * 2) (hm : n ≤ maxLen) : w.ownsRow base t 2 (.slice (some ⟨g, 0, none⟩) n n) n M :=
  ⟨hl, .inr ⟨g, n, M.toArray, rfl, hb, hr, Nat.le_refl _, hm, by simpa using hl, by simp [← hl]⟩⟩
theorem own2_nil (w : World) (base : Nat) (t : TypeId) : w.ownsRow base t 2 (.slice none 0 0) 0 [] := World.ownsRow_nil w base t 2
theorem own2_cap (h : w.ownsRow base t 2 (.slice a n cap) n xs) : n ≤ cap ∧ cap ≤ 9223372036854775807 := by
  rcases own2_cases h with ⟨_, h2, h3, _⟩ | ⟨g, M, _, _, _, h4, h5, _⟩
  · omega
  · unfold maxLen at h5; omega
theorem own2_lt (h : w.ownsRow base t 2 (.slice a n cap) n xs) : ∀ ad, a = some ad → base ≤ ad.block := by
  rcases own2_cases h with ⟨h1, _⟩ | ⟨g, M, h1, h2, _⟩
  · intro ad e; rw [h1] at e; cases e
  · intro ad e; rw [h1] at e; cases e; exact h2
end

/-- Rows that the call made. -/
def OwnR (t : TypeId) (w : World) (R : List RowT) (v : Value) (w' : World) : Prop := ∃ a cap, v = .slice a R.length cap ∧ w'.ownsRow w.heap.size t 2 (.slice a R.length cap) R.length (rowsC R) ∧ Ext w w'
theorem OwnR.nil {t : TypeId} {w w' : World} (h : Ext w w') : OwnR t w [] (.slice none 0 0) w' := ⟨none, 0, rfl, own2_nil _ _ _, h⟩
theorem OwnR.of {t : TypeId} {w w' : World} {R : List RowT} {n g : Nat} (hn : R.length = n) (hr : Row w' g t (rowsC R)) (hg : w.heap.size ≤ g) (hm : n ≤ maxLen) (h : Ext w w') : OwnR t w R (.slice (some ⟨g, 0, none⟩) n n) w' := by
  subst hn
  exact ⟨_, _, rfl, own2_of hr hg (by rw [rowsC_length, Nat.mul_comm]) hm, h⟩
theorem OwnR.up {t : TypeId} {w0 w w' : World} {R : List RowT} {v : Value} (h0 : Ext w0 w) (h : OwnR t w R v w') : OwnR t w0 R v w' := by
  obtain ⟨a, cap, e, ho, hx⟩ := h
  exact ⟨a, cap, e, own2_base ho h0.size, h0.trans hx⟩

variable {P : Program}
theorem run_copy_rows (w : World) (dT sT ty elem : TypeId) (g n dCap : Nat) (a : Addr) (sCap : Nat) (cur : Array Value) (t : TypeId) (cs : List Value)
    (hu : P.underlying dT = some (.slice elem)) (hs : (P.info? elem).map (·.size) = some 2)
    (hg : w.heap[g]? = some (.cells cur t (0, 0))) (hn : cs.length = n * 2)
    (hsrc : ∀ j v, cs[j]? = some v → w.cell? (a.add j) = some v) (hfit : cs.length ≤ cur.size) (h1 : ∀ v ∈ cs, v.oneCell' = true) :
    (Builtin.copy_ #[dT, sT] ty #[.slice (some ⟨g, 0, none⟩) n dCap, .slice (some a) n sCap]).run P w =
      .ok (goInt n) (w.setRow g (cs ++ cur.toList.drop cs.length).toArray) := by
  have hl := run_loadCells_list (P := P) w a cs hsrc
  have hst := run_storeCells_at P g 0 t cs 0 cur w hg (by simpa using hfit) h1
  simp only [Nat.add_zero, Nat.zero_add, List.take_zero, List.nil_append] at hst
  cases hq : P.info? elem with
  | none => simp [hq] at hs
  | some i =>
    have hi : i.size = 2 := by simpa [hq] using hs
    simp [Builtin.copy_, run_underlying hu, Builtin.lenOf, Builtin.firstCells, sizeOf, typeInfo, hq, hi, ← hn, hl, hst]

theorem Row.setCells2 {w : World} {g : Nat} {t : TypeId} {M : List Value} (h : Row w g t M) (o : Nat) (x y : Value) : Row (w.setCells g o [x, y]) g t ((M.set o x).set (o + 1) y) := by
  simp only [World.setCells]
  exact (Row.set (Row.set h o x) (o + 1) y)
theorem Ext.setCells2 {a w : World} (h : Ext a w) {g : Nat} (hg : a.heap.size ≤ g) (o : Nat) (x y : Value) : Ext a (w.setCells g o [x, y]) := by
  simp only [World.setCells]
  exact Ext.setCell (Ext.setCell h hg _) hg _
theorem rowsC_set (L : List RowT) (k : Nat) (x y : Int) : ((rowsC L).set (k * 2) (.int .u16 x)).set (k * 2 + 1) (.int .i64 y) = rowsC (L.set k (x, y)) := by
  rw [Nat.mul_comm, rowsC_set0, rowsC_set1]
  by_cases hk : k < L.length
  · rw [List.set_set, rg_set _ _ _ _ hk, if_pos rfl]
  · rw [List.set_eq_of_length_le (by simp; omega), List.set_eq_of_length_le (by omega), List.set_eq_of_length_le (by omega)]
theorem there_row {w : World} {g : Nat} {t : TypeId} {M : List Value} (h : Row w g t M) (o : Nat) (ho : o + 2 ≤ M.length) : w.there g o 2 := fun j hj => by
  refine ⟨?_, h.frozen _⟩
  rw [h.cell (by omega)]; rfl

theorem own2_set {w : World} {base n cap g : Nat} {t : TypeId} {xs : List Value} (h : w.ownsRow base t 2 (.slice (some ⟨g, 0, none⟩) n cap) n xs) (j : Nat) (v : Value) : (w.setCell ⟨g, j, none⟩ v).ownsRow base t 2 (.slice (some ⟨g, 0, none⟩) n cap) n (xs.set j v) := by
  rcases own2_cases h with ⟨e, _⟩ | ⟨g', M, e, hb, hr, hle, hm, hl, htk⟩
  · cases e
  · cases e
    have hr2 := Row.set hr j v
    refine ⟨by rw [List.length_set]; exact h.1, .inr ⟨g, cap, (M.set j v).toArray, rfl, hb, hr2, hle, hm, by simpa using hl, ?_⟩⟩
    rw [← htk]
    simp [List.take_set]
/-- append of rows to rows. -/
theorem run_append_rows (w : World) (base : Nat) (t ty e : TypeId) (z : Value) (bts : Nat) (ht : P.underlying t = some (.slice e)) (hi : (P.info? e).map (fun i => (i.zero, i.size, i.bytes)) = some (some z, 2, bts)) (hz2 : z.cells.size = 2)
    {a0 : Option Addr} {n cap0 : Nat} {xs : List Value} (hown : w.ownsRow base e 2 (.slice a0 n cap0) n xs) {a : Option Addr} {m : Nat} (c : Nat) {news : List Value} (hl : news.length = m * 2) (hx : Sl w a news) (hnil : a = none → m = 0 ∧ c = 0) (h1 : ∀ u ∈ news, u.oneCell' = true)
    (hb : (n + m) * bts ≤ 140737488355328) (h63 : n + m ≤ 9223372036854775807) (hbase : base ≤ w.heap.size) :
    ∃ a' cap' w', (Builtin.append_ #[t, t] ty #[.slice a0 n cap0, .slice a m c]).run P w = .ok (.slice a' (n + m) cap') w' ∧ w'.ownsRow base e 2 (.slice a' (n + m) cap') (n + m) (xs ++ news) ∧ ∀ w0, Ext w0 w → w0.heap.size ≤ base → Ext w0 w' := by
  obtain ⟨i, h2, h3, h4, h5⟩ := info_parts hi
  cases a with
  | none =>
    obtain ⟨rfl, rfl⟩ := hnil rfl
    have : news = [] := List.eq_nil_of_length_eq_zero (by simpa using hl)
    subst this
    exact ⟨a0, cap0, w, run_append_owned_none (P := P) (w := w) base t ty e i 2 ht h2 _ n xs hown, by simpa using hown, fun w0 h _ => h⟩
  | some ad =>
    obtain ⟨v', w', hrun, hown', hg, _⟩ := run_append_own (P := P) w base t ty e i z 2 bts ht h2 h3 h4 h5 hz2 (by decide) _ n xs hown ad m c news hl (fun j u hu => by
      obtain ⟨hj, e⟩ := List.getElem?_eq_some_iff.1 hu
      obtain ⟨ad', had, hc⟩ := hx j hj
      cases had; rw [hc, e]) h1 (by unfold maxLen; omega) hb hbase
    have hlt := hown.lt
    have hv : ∃ a' cap', v' = .slice a' (n + m) cap' := by
      rcases hown'.2 with ⟨rfl, hn⟩ | ⟨g, cap', cur, rfl, _⟩
      · exact ⟨none, 0, by rw [hn]⟩
      · exact ⟨_, cap', rfl⟩
    obtain ⟨a', cap', rfl⟩ := hv
    exact ⟨a', cap', w', hrun, hown', fun w0 h hb0 => Ext_grown h hb0 hbase hg (fun k hk => (hlt k hk).1)⟩
/-- 'append([]T{}, l...)'. -/
theorem run_copy_out (w : World) (t ty e : TypeId) (z : Value) (bts : Nat) (ht : P.underlying t = some (.slice e)) (hi : (P.info? e).map (fun i => (i.zero, i.size, i.bytes)) = some (some z, 2, bts)) (hz2 : z.cells.size = 2)
    {a : Option Addr} {m : Nat} (c : Nat) {news : List Value} (hl : news.length = m * 2) (hx : Sl w a news) (hnil : a = none → m = 0 ∧ c = 0) (h1 : ∀ u ∈ news, u.oneCell' = true)
    (hb : m * bts ≤ 140737488355328) (h63 : m ≤ 9223372036854775807) :
    ∃ a' cap' w', (Builtin.append_ #[t, t] ty #[.slice (some ⟨w.heap.size, 0, none⟩) 0 0, .slice a m c]).run P (w.alloc (.cells #[] e)) = .ok (.slice a' m cap') w' ∧ w'.ownsRow w.heap.size e 2 (.slice a' m cap') m news ∧ ∀ w0, Ext w0 w → Ext w0 w' := by
  have h0 : (w.alloc (.cells #[] e)).ownsRow w.heap.size e 2 (.slice (some ⟨w.heap.size, 0, none⟩) 0 0) 0 [] := own2_of (Row.new w e []) (Nat.le_refl _) rfl (by decide)
  obtain ⟨a', cap', w', r1, r2, r3⟩ := run_append_rows (P := P) (w.alloc (.cells #[] e)) w.heap.size t ty e z bts ht hi hz2 h0 c hl (hx.ext ((Ext.refl w).alloc _)) hnil h1 (by rw [Nat.zero_add]; exact hb) (by omega) (by simp)
  rw [Nat.zero_add] at r1 r2
  exact ⟨a', cap', w', r1, r2, fun w0 h => r3 w0 (h.alloc _) h.size⟩
end Go.Proofs.Ytnodinancnfoeaa.Intern
