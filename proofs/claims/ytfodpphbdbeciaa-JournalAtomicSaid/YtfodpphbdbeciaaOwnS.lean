/- Slices whose elements are structs of s cells: what is owned, and elements by place. No program named. -/
import Derived.Test.YtfodpphbdbeciaaOps
import Derived.Test.YtfodpphbdbeciaaAgg
import Derived.Laws.CopyRow
import Derived.Laws.IdiomCopy
import Derived.Deep.MidRow
import Derived.Maps.AppendAt
namespace Go.Proofs.Ytfodpphbdbeciaa.OwnS
open Go.RowKit Words Mem Plain Ops Agg
set_option maxRecDepth 100000
set_option linter.unusedVariables false
set_option linter.unusedSimpArgs false

section flat
variable {α : Type} (f : α → List Value)
def flat (L : List α) : List Value := L.flatMap f
theorem flat_nil : flat f [] = [] := rfl
theorem flat_cons (x : α) (L : List α) : flat f (x :: L) = f x ++ flat f L := rfl
theorem flat_append (L M : List α) : flat f (L ++ M) = flat f L ++ flat f M := by simp [flat]
theorem flat_one (x : α) : flat f [x] = f x := by simp [flat]
variable {f} {s : Nat} (hs : ∀ x, (f x).length = s)
include hs
theorem flat_length (L : List α) : (flat f L).length = L.length * s := by
  induction L with
  | nil => simp [flat]
  | cons x L ih => rw [flat_cons, List.length_append, hs, ih, List.length_cons, Nat.succ_mul]; omega
theorem flat_drop (L : List α) (k : Nat) : (flat f L).drop (k * s) = flat f (L.drop k) := by
  induction L generalizing k with
  | nil => simp [flat]
  | cons x L ih =>
    cases k with
    | zero => simp
    | succ k =>
      have e : (k + 1) * s = (f x).length + k * s := by rw [hs, Nat.succ_mul]; omega
      rw [flat_cons, e, ← List.drop_drop, List.drop_left, ih]
      rfl
theorem flat_take (L : List α) (k : Nat) : (flat f L).take (k * s) = flat f (L.take k) := by
  induction L generalizing k with
  | nil => simp [flat]
  | cons x L ih =>
    cases k with
    | zero => simp [flat]
    | succ k =>
      have e : (k + 1) * s = (f x).length + k * s := by rw [hs, Nat.succ_mul]; omega
      rw [flat_cons, e, List.take_length_add_append, List.take_succ_cons, flat_cons, ih]
theorem flat_at (L : List α) (k : Nat) (hk : k < L.length) (j : Nat) (hj : j < s) : (flat f L)[k * s + j]? = (f L[k])[j]? := by
  have e : (flat f L)[k * s + j]? = ((flat f L).drop (k * s))[j]? := by rw [List.getElem?_drop]
  rw [e, flat_drop hs, List.drop_eq_getElem_cons hk, flat_cons, List.getElem?_append_left (by rw [hs]; exact hj)]
end flat

/-- A run of cells, laid over a list. -/
def setL : List Value → Nat → List Value → List Value
  | M, _, [] => M
  | M, o, v :: vs => setL (M.set o v) (o + 1) vs
theorem setL_length : ∀ (vs M : List Value) (o : Nat), (setL M o vs).length = M.length
  | [], _, _ => rfl
  | v :: vs, M, o => by rw [setL, setL_length vs]; simp
theorem setL_eq : ∀ (vs M : List Value) (o : Nat), o + vs.length ≤ M.length → setL M o vs = M.take o ++ vs ++ M.drop (o + vs.length)
  | [], M, o, _ => by simp [setL]
  | v :: vs, M, o, h => by
    have hl : o < M.length := by simp at h; omega
    rw [setL, setL_eq vs (M.set o v) (o + 1) (by simp at h ⊢; omega)]
    have h1 : (M.set o v).take (o + 1) = M.take o ++ [v] := by
      rw [List.take_succ_eq_append_getElem (by simpa using hl)]
      simp [List.take_set_of_le]
    have h2 : (M.set o v).drop (o + 1 + vs.length) = M.drop (o + (v :: vs).length) := by
      rw [List.drop_set_of_lt (by omega)]
      congr 1
      simp; omega
    rw [h1, h2]
    simp
theorem setL_flat {α : Type} {f : α → List Value} {s : Nat} (hs : ∀ x, (f x).length = s) (L : List α) (k : Nat) (hk : k < L.length) (x : α) : setL (flat f L) (k * s) (f x) = flat f (L.set k x) := by
  have hle : k * s + s ≤ L.length * s := by rw [← Nat.succ_mul]; exact Nat.mul_le_mul_right s hk
  rw [setL_eq _ _ _ (by rw [hs, flat_length hs]; exact hle), hs, ← Nat.succ_mul, flat_take hs, flat_drop hs, List.set_eq_take_append_cons_drop, if_pos hk, flat_append, flat_cons, List.append_assoc]
theorem take_setL {M : List Value} {n o : Nat} {vs : List Value} (h : o + vs.length ≤ n) (hn : n ≤ M.length) : (setL M o vs).take n = setL (M.take n) o vs := by
  rw [setL_eq _ _ _ (by omega), setL_eq _ _ _ (by rw [List.length_take]; omega)]
  have h1 : (M.take o ++ vs).length = o + vs.length := by rw [List.length_append, List.length_take]; omega
  rw [List.take_append, List.take_of_length_le (by rw [h1]; exact h), h1, List.take_take, Nat.min_eq_left (by omega), List.drop_take]

theorem Row.setCells {w : World} {g : Nat} {t : TypeId} : ∀ (vs : List Value) (M : List Value) (w : World) (o : Nat), Row w g t M → Row (w.setCells g o vs) g t (setL M o vs)
  | [], M, w, o, h => h
  | v :: vs, M, w, o, h => by
    rw [World.setCells, setL]
    exact Row.setCells (w := w) vs _ _ _ (Mem.Row.set h o v)
theorem Ext.setCells {a : World} {g : Nat} (hg : a.heap.size ≤ g) : ∀ (vs : List Value) (w : World) (o : Nat), Ext a w → Ext a (w.setCells g o vs)
  | [], w, o, h => h
  | v :: vs, w, o, h => by
    rw [World.setCells]
    exact Ext.setCells hg vs _ _ (Words.Ext.setCell h (p := ⟨g, o, none⟩) hg _)
theorem gb_setCells (g : Nat) : ∀ (vs : List Value) (w : World) (o : Nat), By g w (w.setCells g o vs)
  | [], w, o => By.refl g w
  | v :: vs, w, o => by
    rw [World.setCells]
    exact (By.set w g o v).trans (gb_setCells g vs _ _)

section
variable {w w' : World} {base n cap s : Nat} {t : TypeId} {a : Option Addr} {xs : List Value}
theorem ownS_cases (h : w.ownsRow base t s (.slice a n cap) n xs) : (a = none ∧ n = 0 ∧ cap = 0 ∧ xs = []) ∨ ∃ g M, a = some ⟨g, 0, none⟩ ∧ base ≤ g ∧ Row w g t M ∧ n ≤ cap ∧ cap ≤ maxLen ∧ M.length = cap * s ∧ M.take (n * s) = xs := by
  rcases h.2 with ⟨hv, hn⟩ | ⟨g, cap', cur, hv, hb, hg, hle, hm, hcs, htk⟩
  · cases hv
    exact .inl ⟨rfl, rfl, rfl, List.eq_nil_of_length_eq_zero (by simpa using h.1)⟩
  · cases hv
    exact .inr ⟨g, cur.toList, rfl, hb, by unfold Row; simpa using hg, hle, hm, by simpa using hcs, htk⟩
theorem ownS_sl (h : w.ownsRow base t s (.slice a n cap) n xs) : Sl w a xs := by
  rcases ownS_cases h with ⟨_, _, _, rfl⟩ | ⟨g, M, rfl, _, hr, _, _, _, rfl⟩
  · exact Sl.nil _ _
  · exact hr.slTake _
theorem ownS_ext (h : w.ownsRow base t s (.slice a n cap) n xs) (e : Ext w w') : w'.ownsRow base t s (.slice a n cap) n xs := by
  refine h.kept (row := none) ⟨e.os, e.tape, e.output, e.size, fun k hk _ => e.block k hk⟩ ?_
  cases hb : Value.ownBlock (.slice a n cap) <;> simp
theorem ownS_base {base' : Nat} (h : w.ownsRow base t s (.slice a n cap) n xs) (hb : base' ≤ base) : w.ownsRow base' t s (.slice a n cap) n xs := by
  refine ⟨h.1, ?_⟩
  rcases h.2 with hv | ⟨g, cap', cur, hv, hg, r⟩
  · exact .inl hv
  · exact .inr ⟨g, cap', cur, hv, Nat.le_trans hb hg, r⟩
theorem ownS_of {g : Nat} {M : List Value} (hr : Row w g t M) (hb : base ≤ g) (hl : M.length = n * s) (hm : n ≤ maxLen) : w.ownsRow base t s (.slice (some ⟨g, 0, none⟩) n n) n M :=
  ⟨hl, .inr ⟨g, n, M.toArray, rfl, hb, hr, Nat.le_refl _, hm, by simpa using hl, by simp [← hl]⟩⟩
theorem ownS_nil (w : World) (base s : Nat) (t : TypeId) : w.ownsRow base t s (.slice none 0 0) 0 [] := World.ownsRow_nil w base t s
theorem ownS_cap (h : w.ownsRow base t s (.slice a n cap) n xs) : n ≤ cap ∧ cap ≤ 9223372036854775807 := by
  rcases ownS_cases h with ⟨_, h2, h3, _⟩ | ⟨g, M, _, _, _, h4, h5, _⟩
  · omega
  · unfold maxLen at h5; omega
theorem ownS_lt (h : w.ownsRow base t s (.slice a n cap) n xs) : ∀ ad, a = some ad → base ≤ ad.block ∧ ad.block < w.heap.size := by
  rcases ownS_cases h with ⟨h1, _⟩ | ⟨g, M, h1, h2, h3, _⟩
  · intro ad e; rw [h1] at e; cases e
  · intro ad e; rw [h1] at e; cases e; exact ⟨h2, h3.lt⟩
/-- What it takes that nothing of it turned. -/
theorem ownS_block (h : w.ownsRow base t s (.slice a n cap) n xs) (hk : ∀ ad, a = some ad → w'.heap[ad.block]? = w.heap[ad.block]?) : w'.ownsRow base t s (.slice a n cap) n xs := by
  rcases ownS_cases h with ⟨rfl, rfl, rfl, rfl⟩ | ⟨g, M, rfl, h2, h3, h4, h5, h6, h7⟩
  · exact ownS_nil _ _ _ _
  · exact ⟨h.1, .inr ⟨g, cap, M.toArray, rfl, h2, (hk _ rfl).trans h3, h4, h5, by simpa using h6, by simpa using h7⟩⟩
/-- An element that lies there. -/
theorem ownS_elem {α : Type} {f : α → List Value} (hs : ∀ x, (f x).length = s) {L : List α} (h : w.ownsRow base t s (.slice a n cap) n (flat f L)) (hn : L.length = n) {k : Nat} (hk : k < L.length) : ∃ g, a = some ⟨g, 0, none⟩ ∧ base ≤ g ∧ w.rangeAt g (k * s) (f L[k]) ∧ w.there g (k * s) s := by
  rcases ownS_cases h with ⟨_, e, _, _⟩ | ⟨g, M, rfl, h2, h3, h4, h5, h6, h7⟩
  · omega
  · have hle : k * s + s ≤ n * s := by rw [← Nat.succ_mul]; exact Nat.mul_le_mul_right s (by omega)
    have hle2 : n * s ≤ cap * s := Nat.mul_le_mul_right s h4
    refine ⟨g, rfl, h2, fun j v hv => ?_, fun j hj => ?_⟩
    · have hj : j < s := by
        have := (List.getElem?_eq_some_iff.1 hv).1
        rw [hs] at this; exact this
      rw [h3.cell?, ← hv, ← flat_at hs L k hk j hj, ← h7, List.getElem?_take, if_pos (by omega)]
    · refine ⟨?_, h3.frozen _⟩
      rw [h3.cell (by omega)]; rfl
/-- An element is written. -/
theorem ownS_set {α : Type} {f : α → List Value} (hs : ∀ x, (f x).length = s) {L : List α} {g : Nat} (h : w.ownsRow base t s (.slice (some ⟨g, 0, none⟩) n cap) n (flat f L)) (hn : L.length = n) {k : Nat} (hk : k < L.length) (x : α) : (w.setCells g (k * s) (f x)).ownsRow base t s (.slice (some ⟨g, 0, none⟩) n cap) n (flat f (L.set k x)) := by
  rcases ownS_cases h with ⟨e, _⟩ | ⟨g', M, e, h2, h3, h4, h5, h6, h7⟩
  · cases e
  · cases e
    have hle : k * s + s ≤ n * s := by rw [← Nat.succ_mul]; exact Nat.mul_le_mul_right s (by omega)
    have hle2 : n * s ≤ cap * s := Nat.mul_le_mul_right s h4
    have hr := Row.setCells (w := w) (f x) M w (k * s) h3
    refine ⟨by rw [flat_length hs, List.length_set, hn], .inr ⟨g, cap, (setL M (k * s) (f x)).toArray, rfl, h2, hr, h4, h5, by simpa [setL_length] using h6, ?_⟩⟩
    rw [← setL_flat hs L k hk, ← h7]
    exact take_setL (by rw [hs]; exact hle) (by omega)
end

variable {P : Program}
/-- append to what is owned. -/
theorem run_append_s (w : World) (base s : Nat) (hs0 : 0 < s) (t ty e : TypeId) (z : Value) (bts : Nat) (ht : P.underlying t = some (.slice e)) (hi : (P.info? e).map (fun i => (i.zero, i.size, i.bytes)) = some (some z, s, bts)) (hz : z.cells.size = s)
    {a0 : Option Addr} {n cap0 : Nat} {xs : List Value} (hown : w.ownsRow base e s (.slice a0 n cap0) n xs) {a : Option Addr} {m : Nat} (c : Nat) {news : List Value} (hl : news.length = m * s) (hx : Sl w a news) (hnil : a = none → m = 0 ∧ c = 0) (h1 : ∀ u ∈ news, u.oneCell' = true)
    (hb : (n + m) * bts ≤ 140737488355328) (h63 : n + m ≤ 9223372036854775807) (hbase : base ≤ w.heap.size) :
    ∃ a' cap' w', (Builtin.append_ #[t, t] ty #[.slice a0 n cap0, .slice a m c]).run P w = .ok (.slice a' (n + m) cap') w' ∧ w'.ownsRow base e s (.slice a' (n + m) cap') (n + m) (xs ++ news) ∧ w.grownBy w' (Value.ownBlock (.slice a0 n cap0)) ∧ (a' = a0 ∨ ∀ ad, a' = some ad → w.heap.size ≤ ad.block) := by
  obtain ⟨i, h2, h3, h4, h5⟩ := info_parts hi
  cases a with
  | none =>
    obtain ⟨rfl, rfl⟩ := hnil rfl
    have : news = [] := List.eq_nil_of_length_eq_zero (by simpa using hl)
    subst this
    exact ⟨a0, cap0, w, run_append_owned_none (P := P) (w := w) base t ty e i s ht h2 _ n xs hown, by simpa using hown, ⟨rfl, rfl, rfl, Nat.le_refl _, fun _ _ _ => rfl⟩, .inl rfl⟩
  | some ad =>
    obtain ⟨v', w', hr, ho, hg, hnn, h5'⟩ := run_append_own_at (P := P) w base t ty e i z s bts ht h2 h3 h4 h5 hz hs0 _ n xs hown ad m c news hl (fun j u hu => by
      obtain ⟨hj, e⟩ := List.getElem?_eq_some_iff.1 hu
      obtain ⟨ad', had, hc⟩ := hx j hj
      cases had; rw [hc, e]) h1 (by unfold maxLen; omega) hb hbase
    have hv : ∃ a' cap', v' = .slice a' (n + m) cap' := by
      rcases ho.2 with ⟨rfl, hn⟩ | ⟨g, cap', cur, rfl, _⟩
      · exact ⟨none, 0, by rw [hn]⟩
      · exact ⟨_, cap', rfl⟩
    obtain ⟨a', cap', rfl⟩ := hv
    refine ⟨a', cap', w', hr, ho, hg, ?_⟩
    rcases h5' with h5' | h5'
    · rcases ownS_cases ho with ⟨e1, _⟩ | ⟨g, M, e1, _⟩
      · rcases ownS_cases hown with ⟨e2, _⟩ | ⟨g2, M2, e2, _⟩
        · exact .inl (by rw [e1, e2])
        · rw [e1, e2] at h5'; simp [Value.ownBlock] at h5'
      · rcases ownS_cases hown with ⟨e2, _⟩ | ⟨g2, M2, e2, _⟩
        · rw [e1, e2] at h5'; simp [Value.ownBlock] at h5'
        · rw [e1, e2] at h5' ⊢
          simp [Value.ownBlock] at h5'
          subst h5'
          exact .inl rfl
    · refine .inr fun ad' e => ?_
      rw [e] at h5'
      simp [Value.ownBlock] at h5'
      omega
/-- 'append([]T{}, l...)'. -/
theorem run_clone_s (w : World) (s : Nat) (hs0 : 0 < s) (t ty e : TypeId) (z : Value) (bts : Nat) (ht : P.underlying t = some (.slice e)) (hi : (P.info? e).map (fun i => (i.zero, i.size, i.bytes)) = some (some z, s, bts)) (hz : z.cells.size = s)
    {a : Option Addr} {m : Nat} (c : Nat) {news : List Value} (hl : news.length = m * s) (hx : Sl w a news) (hnil : a = none → m = 0 ∧ c = 0) (h1 : ∀ u ∈ news, u.oneCell' = true)
    (hb : m * bts ≤ 140737488355328) (h63 : m ≤ 9223372036854775807) :
    ∃ a' cap' w', (Builtin.append_ #[t, t] ty #[.slice (some ⟨w.heap.size, 0, none⟩) 0 0, .slice a m c]).run P (w.alloc (.cells #[] e)) = .ok (.slice a' m cap') w' ∧ w'.ownsRow w.heap.size e s (.slice a' m cap') m news ∧ Ext w w' := by
  have h0 : (w.alloc (.cells #[] e)).ownsRow w.heap.size e s (.slice (some ⟨w.heap.size, 0, none⟩) 0 0) 0 [] := ownS_of (Row.new w e []) (Nat.le_refl _) (by simp) (by decide)
  obtain ⟨a', cap', w', r1, r2, r3, _⟩ := run_append_s (P := P) (w.alloc (.cells #[] e)) w.heap.size s hs0 t ty e z bts ht hi hz h0 c hl (hx.ext ((Ext.refl w).alloc _)) hnil h1 (by rw [Nat.zero_add]; exact hb) (by omega) (by simp)
  rw [Nat.zero_add] at r1 r2
  refine ⟨a', cap', w', r1, r2, Ext_grown ((Ext.refl w).alloc _) (Nat.le_refl _) (by simp) r3 (fun k hk => ?_)⟩
  simp [Value.ownBlock] at hk
  omega
end Go.Proofs.Ytfodpphbdbeciaa.OwnS
