/- OwnS; MtP; MtR; MtS; MtC; MtL -/
import Derived.Test.YtnodinancnfoeaaTk0
import Derived.Test.YtnodinancnfoeaaTk1
import Derived.Laws.CopyRow
import Derived.Laws.IdiomCopy
import Derived.Deep.MidRow
import Derived.Maps.AppendAt
import Derived.LoopTactic
import Derived.Lib.SliceRun
/- Slices whose elements are structs of s cells: what is owned, and elements by place. No program named. -/
namespace Go.Proofs.Ytnodinancnfoeaa.OwnS
open Go.RowKit Words Mem Plain Ops Agg
set_option linter.unusedVariables false
set_option linter.unusedSimpArgs false

section flat
variable {α : Type} (f : α → List Value)
def flat (L : List α) : List Value := L.flatMap f
theorem flat_nil : flat f [] = [] := rfl
theorem flat_cons (x : α) (L : List α) : flat f (x :: L) = f x ++ flat f L := rfl
theorem flat_append (L M : List α) : flat f (L ++ M) = flat f L ++ flat f M := by simp [flat]
theorem flat_one (x : α) : flat f [x] = f x := by simp [flat]
variable {f} {s : Nat} (hs : ∀ x, (f x).length = s)
include hs
theorem flat_length (L : List α) : (flat f L).length = L.length * s := by
  induction L with
  | nil => simp [flat]
  | cons x L ih => rw [flat_cons, List.length_append, hs, ih, List.length_cons, Nat.succ_mul]; omega
theorem flat_drop (L : List α) (k : Nat) : (flat f L).drop (k * s) = flat f (L.drop k) := by
  induction L generalizing k with
  | nil => simp [flat]
  | cons x L ih =>
    cases k with
    | zero => simp
    | succ k =>
      have e : (k + 1) * s = (f x).length + k * s := by rw [hs, Nat.succ_mul]; omega
      rw [flat_cons, e, ← List.drop_drop, List.drop_left, ih]
      rfl
theorem flat_take (L : List α) (k : Nat) : (flat f L).take (k * s) = flat f (L.take k) := by
  induction L generalizing k with
  | nil => simp [flat]
  | cons x L ih =>
    cases k with
    | zero => simp [flat]
    | succ k =>
      have e : (k + 1) * s = (f x).length + k * s := by rw [hs, Nat.succ_mul]; omega
      rw [flat_cons, e, List.take_length_add_append, List.take_succ_cons, flat_cons, ih]
theorem flat_at (L : List α) (k : Nat) (hk : k < L.length) (j : Nat) (hj : j < s) : (flat f L)[k * s + j]? = (f L[k])[j]? := by
  have e : (flat f L)[k * s + j]? = ((flat f L).drop (k * s))[j]? := by rw [List.getElem?_drop]
  rw [e, flat_drop hs, List.drop_eq_getElem_cons hk, flat_cons, List.getElem?_append_left (by rw [hs]; exact hj)]
end flat

/-- A run of cells, laid over a list. -/
def setL : List Value → Nat → List Value → List Value
  | M, _, [] => M
  | M, o, v :: vs => setL (M.set o v) (o + 1) vs
theorem setL_length : ∀ (vs M : List Value) (o : Nat), (setL M o vs).length = M.length
  | [], _, _ => rfl
  | v :: vs, M, o => by rw [setL, setL_length vs]; simp
theorem setL_eq : ∀ (vs M : List Value) (o : Nat), o + vs.length ≤ M.length → setL M o vs = M.take o ++ vs ++ M.drop (o + vs.length)
  | [], M, o, _ => by simp [setL]
  | v :: vs, M, o, h => by
    have hl : o < M.length := by simp at h; omega
    rw [setL, setL_eq vs (M.set o v) (o + 1) (by simp at h ⊢; omega)]
    have h1 : (M.set o v).take (o + 1) = M.take o ++ [v] := by
      rw [List.take_succ_eq_append_getElem (by simpa using hl)]
      simp [List.take_set_of_le]
    have h2 : (M.set o v).drop (o + 1 + vs.length) = M.drop (o + (v :: vs).length) := by
      rw [List.drop_set_of_lt (by omega)]
      congr 1
      simp; omega
    rw [h1, h2]
    simp
theorem setL_flat {α : Type} {f : α → List Value} {s : Nat} (hs : ∀ x, (f x).length = s) (L : List α) (k : Nat) (hk : k < L.length) (x : α) : setL (flat f L) (k * s) (f x) = flat f (L.set k x) := by
  have hle : k * s + s ≤ L.length * s := by rw [← Nat.succ_mul]; exact Nat.mul_le_mul_right s hk
  rw [setL_eq _ _ _ (by rw [hs, flat_length hs]; exact hle), hs, ← Nat.succ_mul, flat_take hs, flat_drop hs, List.set_eq_take_append_cons_drop, if_pos hk, flat_append, flat_cons, List.append_assoc]
theorem take_setL {M : List Value} {n o : Nat} {vs : List Value} (h : o + vs.length ≤ n) (hn : n ≤ M.length) : (setL M o vs).take n = setL (M.take n) o vs := by
  rw [setL_eq _ _ _ (by omega), setL_eq _ _ _ (by rw [List.length_take]; omega)]
  have h1 : (M.take o ++ vs).length = o + vs.length := by rw [List.length_append, List.length_take]; omega
  rw [List.take_append, List.take_of_length_le (by rw [h1]; exact h), h1, List.take_take, Nat.min_eq_left (by omega), List.drop_take]

theorem Row.setCells {w : World} {g : Nat} {t : TypeId} : ∀ (vs : List Value) (M : List Value) (w : World) (o : Nat), Row w g t M → Row (w.setCells g o vs) g t (setL M o vs)
  | [], M, w, o, h => h
  | v :: vs, M, w, o, h => by
    rw [World.setCells, setL]
    exact Row.setCells (w := w) vs _ _ _ (Mem.Row.set h o v)
theorem Ext.setCells {a : World} {g : Nat} (hg : a.heap.size ≤ g) : ∀ (vs : List Value) (w : World) (o : Nat), Ext a w → Ext a (w.setCells g o vs)
  | [], w, o, h => h
  | v :: vs, w, o, h => by
    rw [World.setCells]
    exact Ext.setCells hg vs _ _ (Words.Ext.setCell h (p := ⟨g, o, none⟩) hg _)
theorem gb_setCells (g : Nat) : ∀ (vs : List Value) (w : World) (o : Nat), By g w (w.setCells g o vs)
  | [], w, o => By.refl g w
  | v :: vs, w, o => by
    rw [World.setCells]
    exact (By.set w g o v).trans (gb_setCells g vs _ _)

section
variable {w w' : World} {base n cap s : Nat} {t : TypeId} {a : Option Addr} {xs : List Value}
theorem ownS_cases (h : w.ownsRow base t s (.slice a n cap) n xs) : (a = none ∧ n = 0 ∧ cap = 0 ∧ xs = []) ∨ ∃ g M, a = some ⟨g, 0, none⟩ ∧ base ≤ g ∧ Row w g t M ∧ n ≤ cap ∧ cap ≤ maxLen ∧ M.length = cap * s ∧ M.take (n * s) = xs := by
  rcases h.2 with ⟨hv, hn⟩ | ⟨g, cap', cur, hv, hb, hg, hle, hm, hcs, htk⟩
  · cases hv
    exact .inl ⟨rfl, rfl, rfl, List.eq_nil_of_length_eq_zero (by simpa using h.1)⟩
  · cases hv
    exact .inr ⟨g, cur.toList, rfl, hb, by unfold Row; simpa using hg, hle, hm, by simpa using hcs, htk⟩
theorem ownS_sl (h : w.ownsRow base t s (.slice a n cap) n xs) : Sl w a xs := by
  rcases ownS_cases h with ⟨_, _, _, rfl⟩ | ⟨g, M, rfl, _, hr, _, _, _, rfl⟩
  · exact Sl.nil _ _
  · exact hr.slTake _
theorem ownS_ext (h : w.ownsRow base t s (.slice a n cap) n xs) (e : Ext w w') : w'.ownsRow base t s (.slice a n cap) n xs := by
  refine h.kept (row := none) ⟨e.os, e.tape, e.output, e.size, fun k hk _ => e.block k hk⟩ ?_
  cases hb : Value.ownBlock (.slice a n cap) <;> simp
theorem ownS_base {base' : Nat} (h : w.ownsRow base t s (.slice a n cap) n xs) (hb : base' ≤ base) : w.ownsRow base' t s (.slice a n cap) n xs := by
  refine ⟨h.1, ?_⟩
  rcases h.2 with hv | ⟨g, cap', cur, hv, hg, r⟩
  · exact .inl hv
  · exact .inr ⟨g, cap', cur, hv, Nat.le_trans hb hg, r⟩
theorem ownS_of {g : Nat} {M : List Value} (hr : Row w g t M) (hb : base ≤ g) (hl : M.length = n * s) (hm : n ≤ maxLen) : w.ownsRow base t s (.slice (some ⟨g, 0, none⟩) n n) n M :=
  ⟨hl, .inr ⟨g, n, M.toArray, rfl, hb, hr, Nat.le_refl _, hm, by simpa using hl, by simp [← hl]⟩⟩
theorem ownS_nil (w : World) (base s : Nat) (t : TypeId) : w.ownsRow base t s (.slice none 0 0) 0 [] := World.ownsRow_nil w base t s
theorem ownS_cap (h : w.ownsRow base t s (.slice a n cap) n xs) : n ≤ cap ∧ cap ≤ 9223372036854775807 := by
  rcases ownS_cases h with ⟨_, h2, h3, _⟩ | ⟨g, M, _, _, _, h4, h5, _⟩
  · omega
  · unfold maxLen at h5; omega
theorem ownS_lt (h : w.ownsRow base t s (.slice a n cap) n xs) : ∀ ad, a = some ad → base ≤ ad.block ∧ ad.block < w.heap.size := by
  rcases ownS_cases h with ⟨h1, _⟩ | ⟨g, M, h1, h2, h3, _⟩
  · intro ad e; rw [h1] at e; cases e
  · intro ad e; rw [h1] at e; cases e; exact ⟨h2, h3.lt⟩
/-- What it takes that nothing of it turned. -/
theorem ownS_block (h : w.ownsRow base t s (.slice a n cap) n xs) (hk : ∀ ad, a = some ad → w'.heap[ad.block]? = w.heap[ad.block]?) : w'.ownsRow base t s (.slice a n cap) n xs := by
  rcases ownS_cases h with ⟨rfl, rfl, rfl, rfl⟩ | ⟨g, M, rfl, h2, h3, h4, h5, h6, h7⟩
  · exact ownS_nil _ _ _ _
  · exact ⟨h.1, .inr ⟨g, cap, M.toArray, rfl, h2, (hk _ rfl).trans h3, h4, h5, by simpa using h6, by simpa using h7⟩⟩
/-- An element that lies there. -/
theorem ownS_elem {α : Type} {f : α → List Value} (hs : ∀ x, (f x).length = s) {L : List α} (h : w.ownsRow base t s (.slice a n cap) n (flat f L)) (hn : L.length = n) {k : Nat} (hk : k < L.length) : ∃ g, a = some ⟨g, 0, none⟩ ∧ base ≤ g ∧ w.rangeAt g (k * s) (f L[k]) ∧ w.there g (k * s) s := by
  rcases ownS_cases h with ⟨_, e, _, _⟩ | ⟨g, M, rfl, h2, h3, h4, h5, h6, h7⟩
  · omega
  · have hle : k * s + s ≤ n * s := by rw [← Nat.succ_mul]; exact Nat.mul_le_mul_right s (by omega)
    have hle2 : n * s ≤ cap * s := Nat.mul_le_mul_right s h4
    refine ⟨g, rfl, h2, fun j v hv => ?_, fun j hj => ?_⟩
    · have hj : j < s := by
        have := (List.getElem?_eq_some_iff.1 hv).1
        rw [hs] at this; exact this
      rw [h3.cell?, ← hv, ← flat_at hs L k hk j hj, ← h7, List.getElem?_take, if_pos (by omega)]
    · refine ⟨?_, h3.frozen _⟩
      rw [h3.cell (by omega)]; rfl
/-- An element is written. -/
theorem ownS_set {α : Type} {f : α → List Value} (hs : ∀ x, (f x).length = s) {L : List α} {g : Nat} (h : w.ownsRow base t s (.slice (some ⟨g, 0, none⟩) n cap) n (flat f L)) (hn : L.length = n) {k : Nat} (hk : k < L.length) (x : α) : (w.setCells g (k * s) (f x)).ownsRow base t s (.slice (some ⟨g, 0, none⟩) n cap) n (flat f (L.set k x)) := by
  rcases ownS_cases h with ⟨e, _⟩ | ⟨g', M, e, h2, h3, h4, h5, h6, h7⟩
  · cases e
  · cases e
    have hle : k * s + s ≤ n * s := by rw [← Nat.succ_mul]; exact Nat.mul_le_mul_right s (by omega)
    have hle2 : n * s ≤ cap * s := Nat.mul_le_mul_right s h4
    have hr := Row.setCells (w := w) (f x) M w (k * s) h3
    refine ⟨by rw [flat_length hs, List.length_set, hn], .inr ⟨g, cap, (setL M (k * s) (f x)).toArray, rfl, h2, hr, h4, h5, by simpa [setL_length] using h6, ?_⟩⟩
    rw [← setL_flat hs L k hk, ← h7]
    exact take_setL (by rw [hs]; exact hle) (by omega)
end

variable {P : Program}
/-- append to what is owned. -/
theorem run_append_s (w : World) (base s : Nat) (hs0 : 0 < s) (t ty e : TypeId) (z : Value) (bts : Nat) (ht : P.underlying t = some (.slice e)) (hi : (P.info? e).map (fun i => (i.zero, i.size, i.bytes)) = some (some z, s, bts)) (hz : z.cells.size = s)
    {a0 : Option Addr} {n cap0 : Nat} {xs : List Value} (hown : w.ownsRow base e s (.slice a0 n cap0) n xs) {a : Option Addr} {m : Nat} (c : Nat) {news : List Value} (hl : news.length = m * s) (hx : Sl w a news) (hnil : a = none → m = 0 ∧ c = 0) (h1 : ∀ u ∈ news, u.oneCell' = true)
    (hb : (n + m) * bts ≤ 140737488355328) (h63 : n + m ≤ 9223372036854775807) (hbase : base ≤ w.heap.size) :
    ∃ a' cap' w', (Builtin.append_ #[t, t] ty #[.slice a0 n cap0, .slice a m c]).run P w = .ok (.slice a' (n + m) cap') w' ∧ w'.ownsRow base e s (.slice a' (n + m) cap') (n + m) (xs ++ news) ∧ w.grownBy w' (Value.ownBlock (.slice a0 n cap0)) ∧ (a' = a0 ∨ ∀ ad, a' = some ad → w.heap.size ≤ ad.block) := by
  obtain ⟨i, h2, h3, h4, h5⟩ := info_parts hi
  cases a with
  | none =>
    obtain ⟨rfl, rfl⟩ := hnil rfl
    have : news = [] := List.eq_nil_of_length_eq_zero (by simpa using hl)
    subst this
    exact ⟨a0, cap0, w, run_append_owned_none (P := P) (w := w) base t ty e i s ht h2 _ n xs hown, by simpa using hown, ⟨rfl, rfl, rfl, Nat.le_refl _, fun _ _ _ => rfl⟩, .inl rfl⟩
  | some ad =>
    obtain ⟨v', w', hr, ho, hg, hnn, h5'⟩ := run_append_own_at (P := P) w base t ty e i z s bts ht h2 h3 h4 h5 hz hs0 _ n xs hown ad m c news hl (fun j u hu => by
      obtain ⟨hj, e⟩ := List.getElem?_eq_some_iff.1 hu
      obtain ⟨ad', had, hc⟩ := hx j hj
      cases had; rw [hc, e]) h1 (by unfold maxLen; omega) hb hbase
    have hv : ∃ a' cap', v' = .slice a' (n + m) cap' := by
      rcases ho.2 with ⟨rfl, hn⟩ | ⟨g, cap', cur, rfl, _⟩
      · exact ⟨none, 0, by rw [hn]⟩
      · exact ⟨_, cap', rfl⟩
    obtain ⟨a', cap', rfl⟩ := hv
    refine ⟨a', cap', w', hr, ho, hg, ?_⟩
    rcases h5' with h5' | h5'
    · rcases ownS_cases ho with ⟨e1, _⟩ | ⟨g, M, e1, _⟩
      · rcases ownS_cases hown with ⟨e2, _⟩ | ⟨g2, M2, e2, _⟩
        · exact .inl (by rw [e1, e2])
        · rw [e1, e2] at h5'; simp [Value.ownBlock] at h5'
      · rcases ownS_cases hown with ⟨e2, _⟩ | ⟨g2, M2, e2, _⟩
        · rw [e1, e2] at h5'; simp [Value.ownBlock] at h5'
        · rw [e1, e2] at h5' ⊢
          simp [Value.ownBlock] at h5'
          subst h5'
          exact .inl rfl
    · refine .inr fun ad' e => ?_
      rw [e] at h5'
      simp [Value.ownBlock] at h5'
      omega
/-- 'append([]T{}, l...)'. -/
theorem run_clone_s (w : World) (s : Nat) (hs0 : 0 < s) (t ty e : TypeId) (z : Value) (bts : Nat) (ht : P.underlying t = some (.slice e)) (hi : (P.info? e).map (fun i => (i.zero, i.size, i.bytes)) = some (some z, s, bts)) (hz : z.cells.size = s)
    {a : Option Addr} {m : Nat} (c : Nat) {news : List Value} (hl : news.length = m * s) (hx : Sl w a news) (hnil : a = none → m = 0 ∧ c = 0) (h1 : ∀ u ∈ news, u.oneCell' = true)
    (hb : m * bts ≤ 140737488355328) (h63 : m ≤ 9223372036854775807) :
    ∃ a' cap' w', (Builtin.append_ #[t, t] ty #[.slice (some ⟨w.heap.size, 0, none⟩) 0 0, .slice a m c]).run P (w.alloc (.cells #[] e)) = .ok (.slice a' m cap') w' ∧ w'.ownsRow w.heap.size e s (.slice a' m cap') m news ∧ Ext w w' := by
  have h0 : (w.alloc (.cells #[] e)).ownsRow w.heap.size e s (.slice (some ⟨w.heap.size, 0, none⟩) 0 0) 0 [] := ownS_of (Row.new w e []) (Nat.le_refl _) (by simp) (by decide)
  obtain ⟨a', cap', w', r1, r2, r3, _⟩ := run_append_s (P := P) (w.alloc (.cells #[] e)) w.heap.size s hs0 t ty e z bts ht hi hz h0 c hl (hx.ext ((Ext.refl w).alloc _)) hnil h1 (by rw [Nat.zero_add]; exact hb) (by omega) (by simp)
  rw [Nat.zero_add] at r1 r2
  refine ⟨a', cap', w', r1, r2, Ext_grown ((Ext.refl w).alloc _) (Nat.le_refl _) (by simp) r3 (fun k hk => ?_)⟩
  simp [Value.ownBlock] at hk
  omega
end Go.Proofs.Ytnodinancnfoeaa.OwnS
/- What is known of a disk: plain, and how it lies. -/
namespace Go.Proofs.Ytnodinancnfoeaa.Mt
open Go.RowKit Words Mem Plain Ops Agg OwnS Intern Ino
set_option linter.ambiguousOpen false
set_option linter.unusedVariables false
set_option linter.unusedSimpArgs false

structure MetaT where
  rows : List RowT
  owners : List Int
  used : List Int
  inodes : List Ino
structure Pl where
  ra : Option Addr
  rc : Nat
  oa : Option Addr
  oc : Nat
  ua : Option Addr
  uc : Nat
  ia : Option Addr
  ic : Nat
abbrev metaCs (p : Pl) (M : MetaT) : Array Value := #[.slice p.ra M.rows.length p.rc, .slice p.oa M.owners.length p.oc, .slice p.ua M.used.length p.uc, .slice p.ia M.inodes.length p.ic]
abbrev metaV (p : Pl) (M : MetaT) : Value := .agg (metaCs p M)
def inoC (n : Ino) : List Value := n.cs.toList
theorem inoC_len (n : Ino) : (inoC n).length = 14 := rfl
theorem inoC_one (n : Ino) : ∀ u ∈ inoC n, u.oneCell' = true := by
  intro u hu
  simp [inoC] at hu
  rcases hu with rfl | rfl | rfl | rfl | rfl | rfl | rfl | rfl | rfl | rfl | rfl | rfl | rfl | rfl <;> rfl
structure MetaIn (w : World) (p : Pl) (M : MetaT) : Prop where
  rows : Sl w p.ra (rowsC M.rows)
  owners : Sl w p.oa (ints .i64 M.owners)
  used : Sl w p.ua (ints .u8 M.used)
  inodes : Sl w p.ia (flat inoC M.inodes)
  wfr : wfR M.rows
  bu : isBytes M.used
  wfi : ∀ n ∈ M.inodes, n.wf
  few : M.rows.length ≤ 1000 ∧ M.owners.length ≤ 1000 ∧ M.used.length ≤ 1000 ∧ M.inodes.length ≤ 1000
  nil : (p.ra = none → M.rows.length = 0 ∧ p.rc = 0) ∧ (p.oa = none → M.owners.length = 0 ∧ p.oc = 0) ∧ (p.ua = none → M.used.length = 0 ∧ p.uc = 0) ∧ (p.ia = none → M.inodes.length = 0 ∧ p.ic = 0)
theorem MetaIn.ext {w w' : World} {p : Pl} {M : MetaT} (h : MetaIn w p M) (e : Ext w w') : MetaIn w' p M :=
  ⟨h.rows.ext e, h.owners.ext e, h.used.ext e, h.inodes.ext e, h.wfr, h.bu, h.wfi, h.few, h.nil⟩
def ownB (o : Int) : Bool := decide (0 ≤ o) && decide (o ≤ 16)
def rightM (J I G P : Int) (M : MetaT) : Bool :=
  Super.rightB J I G P && (Intern.rightB M.rows && (decide ((M.owners.length : Int) = G) && (decide ((M.used.length : Int) = 64) && (decide ((M.inodes.length : Int) = I) &&
    (M.owners.all ownB && (M.inodes.all Ino.rightB && decide (Bit.countN M.used (G * P) 512 = 0)))))))
/-- The two boxes at the head of the functions that take a parting and what is known. -/
def BoxAt (w : World) (bg bm : Nat) (J I G P : Int) (p : Pl) (M : MetaT) : Prop :=
  (w.cell? ⟨bg, 0, none⟩ = some (.int .i64 J) ∧ w.cell? ⟨bg, 1, none⟩ = some (.int .i64 I) ∧ w.cell? ⟨bg, 2, none⟩ = some (.int .i64 G) ∧ w.cell? ⟨bg, 3, none⟩ = some (.int .i64 P)) ∧
  (w.cell? ⟨bm, 0, none⟩ = some (.slice p.ra M.rows.length p.rc) ∧ w.cell? ⟨bm, 1, none⟩ = some (.slice p.oa M.owners.length p.oc) ∧ w.cell? ⟨bm, 2, none⟩ = some (.slice p.ua M.used.length p.uc) ∧ w.cell? ⟨bm, 3, none⟩ = some (.slice p.ia M.inodes.length p.ic))
theorem BoxAt.ext {w w' : World} {bg bm : Nat} {J I G P : Int} {p : Pl} {M : MetaT} (h : BoxAt w bg bm J I G P p M) (e : Ext w w') : BoxAt w' bg bm J I G P p M := by
  obtain ⟨⟨h0, h1, h2, h3⟩, k0, k1, k2, k3⟩ := h
  exact ⟨⟨e.keep h0, e.keep h1, e.keep h2, e.keep h3⟩, e.keep k0, e.keep k1, e.keep k2, e.keep k3⟩
abbrev boxW (w : World) (J I G P : Int) (p : Pl) (M : MetaT) : World := (w.alloc (.cells #[.int .i64 J, .int .i64 I, .int .i64 G, .int .i64 P] 23)).alloc (.cells #[.slice p.ra M.rows.length p.rc, .slice p.oa M.owners.length p.oc, .slice p.ua M.used.length p.uc, .slice p.ia M.inodes.length p.ic] 29)
theorem BoxAt.new (w : World) (J I G P : Int) (p : Pl) (M : MetaT) : BoxAt (boxW w J I G P p M) w.heap.size (w.heap.size + 1) J I G P p M ∧ Ext w (boxW w J I G P p M) := by
  have h1 := Row.new w 23 [.int .i64 J, .int .i64 I, .int .i64 G, .int .i64 P]
  have X1 := (Ext.refl w).alloc (.cells #[.int .i64 J, .int .i64 I, .int .i64 G, .int .i64 P] 23)
  have h2 := Row.new (w.alloc (.cells #[.int .i64 J, .int .i64 I, .int .i64 G, .int .i64 P] 23)) 29 [.slice p.ra M.rows.length p.rc, .slice p.oa M.owners.length p.oc, .slice p.ua M.used.length p.uc, .slice p.ia M.inodes.length p.ic]
  have X2 := (Ext.refl (w.alloc (.cells #[.int .i64 J, .int .i64 I, .int .i64 G, .int .i64 P] 23))).alloc (.cells #[.slice p.ra M.rows.length p.rc, .slice p.oa M.owners.length p.oc, .slice p.ua M.used.length p.uc, .slice p.ia M.inodes.length p.ic] 29)
  have h1' := h1.ext X2
  have hs : (w.alloc (.cells #[.int .i64 J, .int .i64 I, .int .i64 G, .int .i64 P] 23)).heap.size = w.heap.size + 1 := by simp
  rw [hs] at h2
  exact ⟨⟨⟨(h1'.cell? 0).trans rfl, (h1'.cell? 1).trans rfl, (h1'.cell? 2).trans rfl, (h1'.cell? 3).trans rfl⟩, (h2.cell? 0).trans rfl, (h2.cell? 1).trans rfl, (h2.cell? 2).trans rfl, (h2.cell? 3).trans rfl⟩, X1.trans X2⟩
end Go.Proofs.Ytnodinancnfoeaa.Mt
/- meta.Right. -/
namespace Go.Proofs.Ytnodinancnfoeaa.Mt
open Go.RowKit Words Mem Plain Ops Agg OwnS Intern Ino
set_option linter.ambiguousOpen false
set_option linter.unusedVariables false
set_option linter.unusedSimpArgs false

theorem infoIno : (Try.prog.info? 48).map (·.size) = some 14 := by kernel_rfl
theorem zeroIno (w : World) : (zeroValue 48).run Try.prog w = .ok (.agg Ino.zero.cs) w := by kernel_rfl
theorem rightM_of {J I G P : Int} {M : MetaT} (h1 : Super.rightB J I G P = true) (h2 : Intern.rightB M.rows = true) (h3 : (M.owners.length : Int) = G) (h4 : (M.used.length : Int) = 64) (h5 : (M.inodes.length : Int) = I) :
    rightM J I G P M = (M.owners.all ownB && (M.inodes.all Ino.rightB && decide (Bit.countN M.used (G * P) 512 = 0))) := by
  unfold rightM
  rw [h1, h2, decide_eq_true h3, decide_eq_true h4, decide_eq_true h5]; rfl
theorem all_drop {α : Type} {L : List α} {p : α → Bool} {k : Nat} (hk : k < L.length) : (L.drop k).all p = (p L[k] && (L.drop (k + 1)).all p) := by
  rw [List.drop_eq_getElem_cons hk]; rfl

set_option maxHeartbeats 4000000 in
set_option maxRecDepth 100000 in
theorem Right_ok (J I G P : Int) (p : Pl) (M : MetaT) (w : World) (h : MetaIn w p M) :
    Calls Try.prog 16 #[Super.geoV J I G P, metaV p M] w fun e w' => e = .returned (.bool (rightM J I G P M)) ∧ Ext w w' := by
  obtain ⟨hbox, hbx⟩ := BoxAt.new w J I G P p M
  have hgr := Super.Right_ok J I G P (boxW w J I G P p M)
  have HBX := Lib.hid hbx
  have HBOX := Lib.hid hbox
  have HIN := Lib.hid h
  clear hbox hbx h
  cases h1 : Super.rightB J I G P
  · have HV := Lib.hid (show rightM J I G P M = false by unfold rightM; rw [h1]; rfl)
    rw [h1] at hgr
    go_enter Try.func16, Try.ntmps16
    go_wp2_with fail
    refine hgr.mono ?_
    rintro e w2 ⟨rfl, h2⟩
    have H2 := Lib.hid (HBX.out.trans h2)
    clear h2 hgr
    go_wp2
    go_ret
    exact ⟨by rw [HV.out]; rfl, H2.out⟩
  rw [h1] at hgr
  have HBD := Lib.hid (Super.right_bd h1)
  have hrows := fun (v : World) (hv : Ext w v) => Intern.Right_ok M.rows p.ra p.rc v (HIN.out.rows.ext hv) HIN.out.wfr (by have := HIN.out.few; omega)
  have HROWS := Lib.hid hrows
  clear hrows
  go_enter Try.func16, Try.ntmps16
  go_wp2_with fail
  refine hgr.mono ?_
  rintro e w2 ⟨rfl, h2⟩
  have hr2 := HROWS.out w2 (HBX.out.trans h2)
  have H2 := Lib.hid (HBX.out.trans h2)
  have HBOX2 := Lib.hid (HBOX.out.ext h2)
  clear h2 hgr HROWS HBOX
  obtain ⟨⟨g0, g1, g2, g3⟩, m0, m1, m2, m3⟩ := HBOX2.out
  cases h3 : Intern.rightB M.rows
  · have HV := Lib.hid (show rightM J I G P M = false by unfold rightM; rw [h1, h3]; rfl)
    rw [h3] at hr2
    go_wp2_with fail
    refine hr2.mono ?_
    rintro e w3 ⟨rfl, h4⟩
    have H4 := Lib.hid (H2.out.trans h4)
    clear h4 hr2
    go_wp2
    go_ret
    exact ⟨by rw [HV.out]; rfl, H4.out⟩
  rw [h3] at hr2
  clear m0 m1 m2 m3 g0 g1 g2 g3
  have e0 : ∀ v : World, Ext w2 v → True := fun _ _ => trivial
  obtain ⟨⟨g0, g1, g2, g3⟩, m0, m1, m2, m3⟩ := HBOX2.out
  go_wp2_with fail
  refine hr2.mono ?_
  rintro e w3 ⟨rfl, h4⟩
  have H4 := Lib.hid (H2.out.trans h4)
  have HBOX3 := Lib.hid (HBOX2.out.ext h4)
  clear h4 hr2 g0 g1 g2 g3 m0 m1 m2 m3 e0 HBOX2 H2
  obtain ⟨⟨g0, g1, g2, g3⟩, m0, m1, m2, m3⟩ := HBOX3.out
  by_cases h5 : (M.owners.length : Int) = G
  case neg =>
    have HV := Lib.hid (show rightM J I G P M = false by unfold rightM; rw [h1, h3, decide_eq_false h5]; rfl)
    have hq : ((M.owners.length : Int) != G) = true := by simpa using h5
    go_wp2
    go_ret
    exact ⟨by rw [HV.out]; rfl, H4.out⟩
  by_cases h6 : (M.used.length : Int) = 64
  case neg =>
    have HV := Lib.hid (show rightM J I G P M = false by unfold rightM; rw [h1, h3, decide_eq_true h5, decide_eq_false h6]; rfl)
    have hq : ((M.used.length : Int) != 64) = true := by simpa using h6
    go_wp2
    go_ret
    exact ⟨by rw [HV.out]; rfl, H4.out⟩
  by_cases h7 : (M.inodes.length : Int) = I
  case neg =>
    have HV := Lib.hid (show rightM J I G P M = false by unfold rightM; rw [h1, h3, decide_eq_true h5, decide_eq_true h6, decide_eq_false h7]; rfl)
    have hq : ((M.inodes.length : Int) != I) = true := by simpa using h7
    go_wp2
    go_ret
    exact ⟨by rw [HV.out]; rfl, H4.out⟩
  have HV := Lib.hid (rightM_of h1 h3 h5 h6 h7)
  obtain ⟨no, hno⟩ : ∃ q, q = M.owners.length := ⟨_, rfl⟩
  obtain ⟨ni, hni⟩ : ∃ q, q = M.inodes.length := ⟨_, rfl⟩
  have HNO := Lib.hid hno
  have HNI := Lib.hid hni
  rw [← hno] at h5 m1
  rw [← hni] at h7 m3
  have h6' : M.used.length = 64 := by omega
  rw [h6'] at m2
  have H6 := Lib.hid h6'
  clear h6 h6' h1 h3 hno hni
  subst h5
  subst h7
  have hno64 : no ≤ 64 := by have := HBD.out; omega
  have hni64 : ni ≤ 64 := by have := HBD.out; omega
  go_wp2
  go_loopw [43] (fun v wr => ∃ k : Nat, k ≤ no ∧ v = .int .i64 k ∧ Ext w3 wr ∧ M.owners.all ownB = (M.owners.drop k).all ownB) (fun v _ => no - (intOf v).toNat)
  case atStart => exact ⟨0, by omega, rfl, Ext.refl _, rfl⟩
  case round =>
    obtain ⟨k, hk, rfl, hX, hall⟩ := hrel
    have HX := Lib.hid hX
    have HALL := Lib.hid hall
    clear hX hall g0 g1 g2 g3 m0 m1 m2 m3
    by_cases hlt : k < no
    · have hkL : k < M.owners.length := by rw [← HNO.out]; exact hlt
      obtain ⟨bo, oo, hoa, hoc⟩ := (HIN.out.owners.ext (H4.out.trans HX.out)).ints (by omega)
      have hcell := hoc k hkL
      have HST := Lib.hid (all_drop (p := ownB) hkL)
      generalize M.owners[k] = o at *
      rw [hoa]
      clear hoc hkL hoa
      by_cases ho0 : o < 0
      · have HF := Lib.hid (show ownB o = false by simp [ownB]; omega)
        go_wp2
        go_ret
        exact ⟨by rw [HV.out, HALL.out, HST.out, HF.out]; rfl, H4.out.trans HX.out⟩
      · by_cases ho1 : 16 < o
        · have HF := Lib.hid (show ownB o = false by simp [ownB]; omega)
          go_wp2
          go_ret
          exact ⟨by rw [HV.out, HALL.out, HST.out, HF.out]; rfl, H4.out.trans HX.out⟩
        · have HF := Lib.hid (show ownB o = true by simp [ownB]; omega)
          go_wp2
          go_roundw
          case rel => exact ⟨k + 1, hlt, by go_num, HX.out, by rw [HALL.out, HST.out, HF.out]; rfl⟩
          case measure => simp [intOf]; omega
    · obtain rfl : k = no := by omega
      have HOWN := Lib.hid (show M.owners.all ownB = true by rw [HALL.out, List.drop_eq_nil_of_le (by rw [← HNO.out]; exact Nat.le_refl _)]; rfl)
      clear hk hlt HALL
      have HBOX4 := Lib.hid (HBOX3.out.ext HX.out)
      obtain ⟨⟨g0, g1, g2, g3⟩, m0, m1, m2, m3⟩ := HBOX4.out
      rw [← HNI.out] at m3
      go_wp2
      go_loopw [57] (fun v w5 => ∃ j : Nat, j ≤ ni ∧ v = .int .i64 j ∧ Ext wr w5 ∧ M.inodes.all Ino.rightB = (M.inodes.drop j).all Ino.rightB) (fun v _ => ni - (intOf v).toNat)
      case atStart => exact ⟨0, by omega, rfl, Ext.refl _, rfl⟩
      case round =>
        obtain ⟨j, hj, rfl, hX5, hall⟩ := hrel
        have HX5 := Lib.hid hX5
        have HALL := Lib.hid hall
        clear hX5 hall g0 g1 g2 g3 m0 m1 m2 m3
        by_cases hlt : j < ni
        · have hjL : j < M.inodes.length := by rw [← HNI.out]; exact hlt
          have hsl := HIN.out.inodes.ext (H4.out.trans (HX.out.trans HX5.out))
          have hfl : (flat inoC M.inodes).length = M.inodes.length * 14 := flat_length inoC_len _
          obtain ⟨bi, oi, hia, hic⟩ := hsl.at (by omega)
          have HST := Lib.hid (all_drop (p := Ino.rightB) hjL)
          have HRG := Lib.hid (show wr.rangeAt bi (oi + j * 14) (inoC M.inodes[j]) from fun q v hv => by
            have hq : q < 14 := by have := (List.getElem?_eq_some_iff.1 hv).1; rw [inoC_len] at this; exact this
            have := hic (j * 14 + q) (by rw [hfl]; have : (j + 1) * 14 ≤ M.inodes.length * 14 := Nat.mul_le_mul_right 14 hjL; omega)
            rw [Nat.add_assoc, this, ← hv, ← flat_at inoC_len M.inodes j hjL q hq, List.getElem?_eq_getElem])
          rw [hia]
          generalize M.inodes[j] = n at *
          clear hic hsl hfl hjL hia
          have hn := Ino.Right_ok n (wr.alloc (.cells n.cs 48))
          have HX6 := Lib.hid (HX5.out.alloc (.cells n.cs 48))
          have HRG2 := Lib.hid (show wr.rangeAt bi (oi + j * 14) [.int .u8 n.k, .int .u8 n.r, .int .i64 n.l, .int .i64 n.s, .int .i64 n.d0, .int .i64 n.d1, .int .i64 n.d2, .int .i64 n.d3, .int .i64 n.d4, .int .i64 n.d5, .int .i64 n.d6, .int .i64 n.d7, .int .i64 n.i, .int .i64 n.j] from HRG.out)
          have hz := zeroIno
          cases hnr : n.rightB
          · rw [hnr] at hn
            go_wp2_with (first
              | (refine wpList_load_mid rfl 48 _ rfl bi (oi + j * 14) rfl [.int .u8 n.k, .int .u8 n.r, .int .i64 n.l, .int .i64 n.s, .int .i64 n.d0, .int .i64 n.d1, .int .i64 n.d2, .int .i64 n.d3, .int .i64 n.d4, .int .i64 n.d5, .int .i64 n.d6, .int .i64 n.d7, .int .i64 n.i, .int .i64 n.j] _ HRG2.out Try.underlying48 rfl infoIno ?_)
              | (go_at_call 33; refine hn.mono ?_; rintro e w6 ⟨rfl, h6⟩))
            go_ret
            exact ⟨by rw [HV.out, HOWN.out, HALL.out, HST.out, hnr]; rfl, H4.out.trans (HX.out.trans (HX6.out.trans h6))⟩
          · rw [hnr] at hn
            go_wp2_with (first
              | (refine wpList_load_mid rfl 48 _ rfl bi (oi + j * 14) rfl [.int .u8 n.k, .int .u8 n.r, .int .i64 n.l, .int .i64 n.s, .int .i64 n.d0, .int .i64 n.d1, .int .i64 n.d2, .int .i64 n.d3, .int .i64 n.d4, .int .i64 n.d5, .int .i64 n.d6, .int .i64 n.d7, .int .i64 n.i, .int .i64 n.j] _ HRG2.out Try.underlying48 rfl infoIno ?_)
              | (go_at_call 33; refine hn.mono ?_; rintro e w6 ⟨rfl, h6⟩))
            go_roundw
            case rel => exact ⟨j + 1, hlt, by go_num, HX6.out.trans h6, by rw [HALL.out, HST.out, hnr]; rfl⟩
            case measure => simp [intOf]; omega
        · obtain rfl : j = ni := by omega
          have HINO := Lib.hid (show M.inodes.all Ino.rightB = true by rw [HALL.out, List.drop_eq_nil_of_le (by rw [← HNI.out]; exact Nat.le_refl _)]; rfl)
          clear hj hlt HALL
          have HBOX5 := Lib.hid (HBOX4.out.ext HX5.out)
          obtain ⟨⟨g0, g1, g2, g3⟩, m0, m1, m2, m3⟩ := HBOX5.out
          rw [H6.out] at m2
          have hmul : IntKind.i64.wrap ((k : Int) * P) = (k : Int) * P := IntWalk.i64_in _ (by have := HBD.out; omega)
          have hcnt := Bit.Count_ok p.ua 64 p.uc M.used ((k : Int) * P) 512 wr H6.out (by decide) HIN.out.bu (HIN.out.used.ext (H4.out.trans (HX.out.trans HX5.out)))
          have HV2 := Lib.hid (show rightM J j k P M = decide (Bit.countN M.used ((k : Int) * P) 512 = 0) by rw [HV.out, HOWN.out, HINO.out]; rfl)
          generalize Bit.countN M.used ((k : Int) * P) 512 = cn at *
          clear HV HOWN HINO
          go_wp2_with fail
          refine hcnt.mono ?_
          rintro e w8 ⟨rfl, h8⟩
          have H8 := Lib.hid (show Ext w w8 by first | exact H4.out.trans (HX.out.trans (HX5.out.trans h8)) | (subst h8; exact H4.out.trans (HX.out.trans HX5.out)))
          clear h8 hcnt
          by_cases hcn : cn = 0
          · subst hcn
            go_wp2
            go_ret
            exact ⟨by rw [HV2.out]; rfl, H8.out⟩
          · have hcn2 : ((cn : Int) == 0) = false := by simp; omega
            go_wp2
            go_ret
            exact ⟨by rw [HV2.out, decide_eq_false hcn]; rfl, H8.out⟩
end Go.Proofs.Ytnodinancnfoeaa.Mt
/- Sectors: a slice of slices of bytes, in memory of the call's own. -/
namespace Go.Proofs.Ytnodinancnfoeaa.Mt
open Go.RowKit Words Mem Plain Ops Agg OwnS Intern Ino
set_option linter.ambiguousOpen false
set_option linter.unusedVariables false
set_option linter.unusedSimpArgs false

theorem ownS_ext {w w' : World} {base n s cap : Nat} {t : TypeId} {a : Option Addr} {xs : List Value} (h : w.ownsRow base t s (.slice a n cap) n xs) (e : Ext w w') : w'.ownsRow base t s (.slice a n cap) n xs :=
  ownS_block h (fun ad ha => e.block _ (ownS_lt h ad ha).2)
theorem infoSl : (Try.prog.info? 26).map (fun i => (i.zero, i.size, i.bytes)) = some (some (.slice none 0 0), 1, 24) := by kernel_rfl
abbrev slV (h : Nat × Nat) : Value := .slice (some ⟨h.1, 0, none⟩) 64 h.2
def slVs (H : List (Nat × Nat)) : List Value := H.map slV
theorem slVs_one (H : List (Nat × Nat)) : ∀ u ∈ slVs H, u.oneCell' = true := by
  intro u hu
  obtain ⟨h, _, rfl⟩ := List.mem_map.1 hu
  rfl
/-- One of the sectors. -/
structure InAt (w : World) (lo : Nat) (a : Option Addr) (h : Nat × Nat) (xs : List Int) : Prop where
  own : w.ownsRow lo 5 1 (slV h) 64 (ints .u8 xs)
  len : xs.length = 64
  ne : ∀ ad, a = some ad → h.1 ≠ ad.block
structure SecsAt (w : World) (lo : Nat) (a : Option Addr) (n cap : Nat) (L : List (List Int)) : Prop where
  len : L.length = n
  ex : ∃ H : List (Nat × Nat), H.length = n ∧ w.ownsRow lo 26 1 (.slice a n cap) n (slVs H) ∧ ∀ i (h : i < H.length) (h' : i < L.length), InAt w lo a H[i] L[i]
section
variable {w w' : World} {lo : Nat} {a : Option Addr} {n cap : Nat} {L : List (List Int)}
theorem SecsAt.ext (h : SecsAt w lo a n cap L) (e : Ext w w') : SecsAt w' lo a n cap L := by
  obtain ⟨h1, H, h2, h3, h4⟩ := h
  exact ⟨h1, H, h2, ownS_ext h3 e, fun i hi hi' => ⟨ownS_ext (h4 i hi hi').own e, (h4 i hi hi').len, (h4 i hi hi').ne⟩⟩
theorem SecsAt.low (h : SecsAt w lo a n cap L) {lo' : Nat} (hl : lo' ≤ lo) : SecsAt w lo' a n cap L := by
  obtain ⟨h1, H, h2, h3, h4⟩ := h
  exact ⟨h1, H, h2, ownS_base h3 hl, fun i hi hi' => ⟨ownS_base (h4 i hi hi').own hl, (h4 i hi hi').len, (h4 i hi hi').ne⟩⟩
/-- A sector more. -/
theorem SecsAt.more (h : SecsAt w lo a n cap L) (hn : n ≤ 100000) {b c : Nat} {xs : List Int} (hi : InAt w lo a (b, c) xs) (hlo : lo ≤ w.heap.size) {V : World} (hV : V = w.alloc (.cells #[.slice (some ⟨b, 0, none⟩) 64 c] 26)) :
    ∃ a' cap' w', (Builtin.append_ #[35, 35] 35 #[.slice a n cap, .slice (some ⟨w.heap.size, 0, none⟩) 1 1]).run Try.prog V = .ok (.slice a' (n + 1) cap') w' ∧
      SecsAt w' lo a' (n + 1) cap' (L ++ [xs]) ∧ ∀ w0, Ext w0 w → w0.heap.size ≤ lo → Ext w0 w' := by
  have hX := (Ext.refl w).alloc (.cells #[.slice (some ⟨b, 0, none⟩) 64 c] 26)
  have hrow := Row.new w 26 [slV (b, c)]
  rw [← hV] at hX
  have hrow : Row V w.heap.size 26 [slV (b, c)] := by rw [hV]; exact hrow
  obtain ⟨h1, H, h2, h3, h4⟩ := h
  have h3' := ownS_ext h3 hX
  obtain ⟨a', cap', w', hr, ho, hg, hside⟩ := run_append_s (P := Try.prog) V lo 1 (by decide) 35 35 26 _ 24 Try.underlying35 infoSl rfl h3' (m := 1) 1 (news := [slV (b, c)]) rfl hrow.sl0 (by simp) (by simp [Value.oneCell']) (by omega) (by omega) (Nat.le_trans hlo hX.size)
  refine ⟨a', cap', w', hr, ⟨by simp [h1], H ++ [(b, c)], by simp [h2], by simpa [slVs] using ho, fun i hi1 hi2 => ?_⟩, fun w0 h hb0 => ?_⟩
  · have key : ∀ (q : Nat × Nat) (ys : List Int), InAt w lo a q ys → InAt w' lo a' q ys := fun q ys hq => by
      have hq' := ownS_ext hq.own hX
      refine ⟨ownS_block hq' (fun ad e => hg.block _ (ownS_lt hq' ad e).2 (fun e2 => ?_)), hq.len, fun ad e => ?_⟩
      · cases e
        cases a with
        | none => simp [Value.ownBlock] at e2
        | some a0 =>
          simp [Value.ownBlock] at e2
          exact hq.ne a0 rfl e2
      · rcases hside with rfl | hside
        · exact hq.ne ad e
        · have := hside ad e
          have := (ownS_lt hq' ⟨q.1, 0, none⟩ rfl).2
          dsimp only at this
          omega
    simp only [List.length_append, List.length_cons, List.length_nil] at hi1 hi2
    by_cases hin : i < n
    · rw [List.getElem_append_left (by omega), List.getElem_append_left (by omega)]
      exact key _ _ (h4 i (by omega) (by omega))
    · obtain rfl : i = n := by omega
      have e1 : (H ++ [(b, c)])[i]'(by simp; omega) = (b, c) := by
        rw [List.getElem_append_right (by omega)]; simp
      have e2 : (L ++ [xs])[i]'(by simp; omega) = xs := by
        rw [List.getElem_append_right (by omega)]; simp
      rw [e1, e2]
      exact key _ _ hi
  · exact Ext_grown (h.trans hX) hb0 (Nat.le_trans hlo hX.size) hg (fun k hk => by
      cases a with
      | none => simp [Value.ownBlock] at hk
      | some a0 =>
        simp [Value.ownBlock] at hk
        subst hk
        exact (ownS_lt h3' a0 rfl).1)
end
end Go.Proofs.Ytnodinancnfoeaa.Mt
/- slices.Clone of four kinds, and meta.Copy. -/
namespace Go.Proofs.Ytnodinancnfoeaa.Mt
open Go.RowKit Words Mem Plain Ops Agg OwnS Intern Ino
set_option linter.ambiguousOpen false
set_option linter.unusedVariables false
set_option linter.unusedSimpArgs false

theorem run_eql_slice_nil' (w : World) (t e : TypeId) (a : Option Addr) (n c : Nat) (h : Try.prog.underlying t = some (.slice e)) : (binOp .eql t (.slice a n c) (.slice none 0 0)).run Try.prog w = .ok (.bool a.isNone) w := Go.Lib.run_eql_slice_nil (P := Try.prog) w t e a n c 0 0 h
theorem infoBC : (Try.prog.info? 5).map (fun i => (i.zero, i.size, i.bytes)) = some (some (.int .u8 0), 1, 1) := by kernel_rfl
theorem CloneB_ok (a : Option Addr) (n cap : Nat) (xs : List Value) (w : World) (hl : xs.length = n * 1) (hs : Sl w a xs) (h1 : ∀ u ∈ xs, u.oneCell' = true) (hnil : a = none → n = 0 ∧ cap = 0) (hn : n ≤ 1000000) :
    Calls Try.prog 26 #[.slice a n cap] w fun e w' => ∃ a' c', e = .returned (.slice a' n c') ∧ w'.ownsRow w.heap.size 5 1 (.slice a' n c') n xs ∧ Ext w w' := by
  have hq := fun (v : World) => run_eql_slice_nil' v 26 _ a n cap Try.underlying26
  cases a with
  | none =>
    obtain ⟨rfl, rfl⟩ := hnil rfl
    obtain rfl : xs = [] := List.eq_nil_of_length_eq_zero (by simpa using hl)
    clear hl hs h1 hnil
    go_enter Try.func26, Try.ntmps26
    go_wp2
    go_ret
    exact ⟨none, 0, rfl, ownS_nil _ _ _ _, Ext.refl _⟩
  | some ad =>
    obtain ⟨a', c', w', hap, how, hx⟩ := run_clone_s (P := Try.prog) w 1 (by decide) 26 26 5 _ 1 Try.underlying26 infoBC (by rfl) cap hl hs hnil h1 (by omega) (by omega)
    have HO := Lib.hid how
    have HX := Lib.hid hx
    clear hl hs h1 hnil how hx
    go_enter Try.func26, Try.ntmps26
    go_wp2_with (at_builtin; refine Guard.wpList_append_want _ rfl _ _ _ _ rfl _ _ rfl rfl _ _ hap ?_)
    go_ret
    exact ⟨a', c', rfl, HO.out, HX.out⟩
theorem infoIC : (Try.prog.info? 3).map (fun i => (i.zero, i.size, i.bytes)) = some (some (.int .i64 0), 1, 8) := by kernel_rfl
theorem CloneI_ok (a : Option Addr) (n cap : Nat) (xs : List Value) (w : World) (hl : xs.length = n * 1) (hs : Sl w a xs) (h1 : ∀ u ∈ xs, u.oneCell' = true) (hnil : a = none → n = 0 ∧ cap = 0) (hn : n ≤ 1000000) :
    Calls Try.prog 39 #[.slice a n cap] w fun e w' => ∃ a' c', e = .returned (.slice a' n c') ∧ w'.ownsRow w.heap.size 3 1 (.slice a' n c') n xs ∧ Ext w w' := by
  have hq := fun (v : World) => run_eql_slice_nil' v 25 _ a n cap Try.underlying25
  cases a with
  | none =>
    obtain ⟨rfl, rfl⟩ := hnil rfl
    obtain rfl : xs = [] := List.eq_nil_of_length_eq_zero (by simpa using hl)
    clear hl hs h1 hnil
    go_enter Try.func39, Try.ntmps39
    go_wp2
    go_ret
    exact ⟨none, 0, rfl, ownS_nil _ _ _ _, Ext.refl _⟩
  | some ad =>
    obtain ⟨a', c', w', hap, how, hx⟩ := run_clone_s (P := Try.prog) w 1 (by decide) 25 25 3 _ 8 Try.underlying25 infoIC (by rfl) cap hl hs hnil h1 (by omega) (by omega)
    have HO := Lib.hid how
    have HX := Lib.hid hx
    clear hl hs h1 hnil how hx
    go_enter Try.func39, Try.ntmps39
    go_wp2_with (at_builtin; refine Guard.wpList_append_want _ rfl _ _ _ _ rfl _ _ rfl rfl _ _ hap ?_)
    go_ret
    exact ⟨a', c', rfl, HO.out, HX.out⟩
theorem infoRC : (Try.prog.info? 45).map (fun i => (i.zero, i.size, i.bytes)) = some (some (.agg #[.int .u16 0, .int .i64 0]), 2, 16) := by kernel_rfl
theorem CloneR_ok (a : Option Addr) (n cap : Nat) (xs : List Value) (w : World) (hl : xs.length = n * 2) (hs : Sl w a xs) (h1 : ∀ u ∈ xs, u.oneCell' = true) (hnil : a = none → n = 0 ∧ cap = 0) (hn : n ≤ 1000000) :
    Calls Try.prog 38 #[.slice a n cap] w fun e w' => ∃ a' c', e = .returned (.slice a' n c') ∧ w'.ownsRow w.heap.size 45 2 (.slice a' n c') n xs ∧ Ext w w' := by
  have hq := fun (v : World) => run_eql_slice_nil' v 24 _ a n cap Try.underlying24
  cases a with
  | none =>
    obtain ⟨rfl, rfl⟩ := hnil rfl
    obtain rfl : xs = [] := List.eq_nil_of_length_eq_zero (by simpa using hl)
    clear hl hs h1 hnil
    go_enter Try.func38, Try.ntmps38
    go_wp2
    go_ret
    exact ⟨none, 0, rfl, ownS_nil _ _ _ _, Ext.refl _⟩
  | some ad =>
    obtain ⟨a', c', w', hap, how, hx⟩ := run_clone_s (P := Try.prog) w 2 (by decide) 24 24 45 _ 16 Try.underlying24 infoRC (by rfl) cap hl hs hnil h1 (by omega) (by omega)
    have HO := Lib.hid how
    have HX := Lib.hid hx
    clear hl hs h1 hnil how hx
    go_enter Try.func38, Try.ntmps38
    go_wp2_with (at_builtin; refine Guard.wpList_append_want _ rfl _ _ _ _ rfl _ _ rfl rfl _ _ hap ?_)
    go_ret
    exact ⟨a', c', rfl, HO.out, HX.out⟩
theorem infoNC : (Try.prog.info? 48).map (fun i => (i.zero, i.size, i.bytes)) = some (some (.agg Ino.zero.cs), 14, 104) := by kernel_rfl
theorem CloneN_ok (a : Option Addr) (n cap : Nat) (xs : List Value) (w : World) (hl : xs.length = n * 14) (hs : Sl w a xs) (h1 : ∀ u ∈ xs, u.oneCell' = true) (hnil : a = none → n = 0 ∧ cap = 0) (hn : n ≤ 1000000) :
    Calls Try.prog 40 #[.slice a n cap] w fun e w' => ∃ a' c', e = .returned (.slice a' n c') ∧ w'.ownsRow w.heap.size 48 14 (.slice a' n c') n xs ∧ Ext w w' := by
  have hq := fun (v : World) => run_eql_slice_nil' v 27 _ a n cap Try.underlying27
  cases a with
  | none =>
    obtain ⟨rfl, rfl⟩ := hnil rfl
    obtain rfl : xs = [] := List.eq_nil_of_length_eq_zero (by simpa using hl)
    clear hl hs h1 hnil
    go_enter Try.func40, Try.ntmps40
    go_wp2
    go_ret
    exact ⟨none, 0, rfl, ownS_nil _ _ _ _, Ext.refl _⟩
  | some ad =>
    obtain ⟨a', c', w', hap, how, hx⟩ := run_clone_s (P := Try.prog) w 14 (by decide) 27 27 48 _ 104 Try.underlying27 infoNC (by rfl) cap hl hs hnil h1 (by omega) (by omega)
    have HO := Lib.hid how
    have HX := Lib.hid hx
    clear hl hs h1 hnil how hx
    go_enter Try.func40, Try.ntmps40
    go_wp2_with (at_builtin; refine Guard.wpList_append_want _ rfl _ _ _ _ rfl _ _ rfl rfl _ _ hap ?_)
    go_ret
    exact ⟨a', c', rfl, HO.out, HX.out⟩
end Go.Proofs.Ytnodinancnfoeaa.Mt
/- meta.Lay. -/
namespace Go.Proofs.Ytnodinancnfoeaa.Mt
open Go.RowKit Words Mem Plain Ops Agg OwnS Intern Ino
open Go.Proofs.Ytnodinancnfoeaa.Field
set_option linter.ambiguousOpen false
set_option linter.unusedVariables false
set_option linter.unusedSimpArgs false

def pairsI : List Ino → List (List Int)
  | a :: b :: L => (a.bytes ++ b.bytes) :: pairsI L
  | _ => []
theorem pairsI_len : ∀ (q : Nat) (L : List Ino), L.length = 2 * q → (pairsI L).length = q
  | 0, L, h => by
    obtain rfl : L = [] := List.eq_nil_of_length_eq_zero (by omega)
    rfl
  | q + 1, a :: b :: L, h => by
    show (pairsI L).length + 1 = q + 1
    rw [pairsI_len q L (by simp at h; omega)]
theorem pairsI_at : ∀ (q : Nat) (L : List Ino) (h : 2 * q + 1 < L.length) (h' : q < (pairsI L).length), (pairsI L)[q] = L[2 * q].bytes ++ L[2 * q + 1].bytes
  | 0, a :: b :: L, h, h' => rfl
  | q + 1, a :: b :: L, h, h' => by
    show (pairsI L)[q]'(by simpa [pairsI] using h') = _
    rw [pairsI_at q L (by simp at h; omega)]
    rfl
  | q, [], h, h' => by simp at h
  | q, [a], h, h' => by simp at h
def ownersB (M : MetaT) : List Int := M.owners ++ List.replicate (64 - M.owners.length) 0
def sectM (M : MetaT) : List (List Int) := layed 2 (numsR M.rows) :: ownersB M :: M.used :: pairsI M.inodes
def layM (J I G P : Int) (M : MetaT) : List (List Int) × Int := if rightM J I G P M = true then (sectM M, 0) else ([], 1)
theorem rightM_out {J I G P : Int} {M : MetaT} (h : rightM J I G P M = true) : Super.rightB J I G P = true ∧ Intern.rightB M.rows = true ∧ (M.owners.length : Int) = G ∧ M.used.length = 64 ∧ (M.inodes.length : Int) = I ∧ (∀ o ∈ M.owners, 0 ≤ o ∧ o ≤ 16) ∧ (∀ n ∈ M.inodes, n.rightB = true) ∧ Bit.countN M.used (G * P) 512 = 0 := by
  unfold rightM at h
  simp only [Bool.and_eq_true, decide_eq_true_eq, List.all_eq_true] at h
  obtain ⟨h1, h2, h3, h4, h5, h6, h7, h8⟩ := h
  exact ⟨h1, h2, h3, by omega, h5, fun o ho => by have := h6 o ho; simpa [ownB] using this, h7, h8⟩
theorem ownersB_step (L : List Int) (k : Nat) (hk : k < L.length) (h64 : L.length ≤ 64) : (ints .u8 (L.take k ++ List.replicate (64 - k) 0)).set k (.int .u8 L[k]) = ints .u8 (L.take (k + 1) ++ List.replicate (64 - (k + 1)) 0) := by
  have hl : (ints .u8 (L.take k ++ List.replicate (64 - k) 0)).length = 64 := by simp [ints_length]; omega
  apply List.ext_getElem?
  intro i
  rw [List.getElem?_set, ints_getElem?, ints_getElem?]
  by_cases h : k = i
  · subst h
    rw [if_pos rfl, if_pos (by rw [hl]; omega), List.getElem?_append_left (by simp; omega), List.getElem?_take, if_pos (by omega), List.getElem?_eq_getElem hk]
    rfl
  · rw [if_neg h]
    congr 1
    simp only [List.getElem?_append, List.length_take, List.getElem?_replicate, List.getElem?_take]
    repeat' split
    all_goals first | rfl | omega

set_option maxHeartbeats 8000000 in
set_option maxRecDepth 100000 in
theorem Lay_ok (J I G P : Int) (p : Pl) (M : MetaT) (w : World) (h : MetaIn w p M) :
    Calls Try.prog 13 #[Super.geoV J I G P, metaV p M] w fun e w' => ∃ a cap, e = .returned (.tuple #[.slice a (layM J I G P M).1.length cap, .int .i64 (layM J I G P M).2]) ∧ SecsAt w' w.heap.size a (layM J I G P M).1.length cap (layM J I G P M).1 ∧ Ext w w' := by
  obtain ⟨hbox, hbx⟩ := BoxAt.new w J I G P p M
  have hright := Right_ok J I G P p M (boxW w J I G P p M) (h.ext hbx)
  have HBX := Lib.hid hbx
  have HBOX := Lib.hid hbox
  have HIN := Lib.hid h
  clear hbox hbx h
  cases hr : rightM J I G P M
  · have HV := Lib.hid (show layM J I G P M = ([], 1) by unfold layM; rw [hr]; rfl)
    rw [hr] at hright
    go_enter Try.func13, Try.ntmps13
    go_wp2_with fail
    refine hright.mono ?_
    rintro e w2 ⟨rfl, h2⟩
    have H2 := Lib.hid (HBX.out.trans h2)
    clear h2 hright
    go_wp2
    go_ret2
    rw [HV.out]
    exact ⟨none, 0, rfl, ⟨rfl, [], rfl, ownS_nil _ _ _ _, fun i hi => absurd hi (by simp)⟩, H2.out⟩
  have HV := Lib.hid (show layM J I G P M = (sectM M, 0) by unfold layM; rw [if_pos hr])
  obtain ⟨r1, r2, r3, r4, r5, r6, r7, r8⟩ := rightM_out hr
  have HBD := Lib.hid (Super.right_bd r1)
  have HR := Lib.hid r2
  have HRO := Lib.hid r6
  have HRI := Lib.hid r7
  have H64 := Lib.hid r4
  rw [hr] at hright
  obtain ⟨no, hno⟩ : ∃ q, q = M.owners.length := ⟨_, rfl⟩
  obtain ⟨ni, hni⟩ : ∃ q, q = M.inodes.length := ⟨_, rfl⟩
  have HNO := Lib.hid hno
  have HNI := Lib.hid hni
  have hrl := Intern.rowsLay_yes r2
  have h32 : (layed 2 (numsR M.rows)).length = 64 := by rw [length_layed, numsR_length, ((right_iff _).1 r2).1]
  have HROWL := Lib.hid (fun (v : World) (hv : Ext w v) => (show Calls Try.prog 25 #[.slice p.ra M.rows.length p.rc] v (Gave .u8 5 v (layed 2 (numsR M.rows), 0)) from hrl ▸ RLay_ok M.rows p.ra p.rc v (by have := HIN.out.few; omega) (HIN.out.rows.ext hv) HIN.out.wfr))
  have H32 := Lib.hid h32
  clear hr r1 r2 r4 r6 r7 r8 hrl h32
  rw [← hno] at r3
  rw [← hni] at r5
  clear hno hni
  subst r3
  subst r5
  have hno64 : no ≤ 64 := by have := HBD.out; omega
  have hni64 : ni ≤ 64 := by have := HBD.out; omega
  obtain ⟨nq, hnq⟩ : ∃ q, ni = 2 * q := ⟨ni / 2, by have := HBD.out; omega⟩
  have HNQ := Lib.hid hnq
  clear hnq
  go_enter Try.func13, Try.ntmps13
  go_wp2_with fail
  refine hright.mono ?_
  rintro e w2 ⟨rfl, h2⟩
  have H2 := Lib.hid (HBX.out.trans h2)
  have HBOX2 := Lib.hid (HBOX.out.ext h2)
  have hrl := HROWL.out w2 (HBX.out.trans h2)
  obtain ⟨⟨g0, g1, g2, g3⟩, m0, m1, m2, m3⟩ := HBOX2.out
  clear h2 hright HBOX HROWL
  go_wp2_with fail
  refine hrl.mono ?_
  rintro e w3 ⟨ar, cr, rfl, ho3, h3⟩
  dsimp only at ho3 ⊢
  rw [H32.out] at ho3 ⊢
  have HO3 := Lib.hid ho3
  have H3 := Lib.hid (H2.out.trans h3)
  have HBOX3 := Lib.hid (HBOX2.out.ext h3)
  have HX23 := Lib.hid h3
  clear g0 g1 g2 g3 m0 m1 m2 m3 ho3 h3 hrl
  obtain ⟨⟨g0, g1, g2, g3⟩, m0, m1, m2, m3⟩ := HBOX3.out
  rw [← HNO.out] at m1
  have hmk := run_make_ints (P := Try.prog) w3 26 5 .u8 1 Try.underlying26 infoBC .i64 .i64 64 64 rfl (by decide) (by decide)
  have hrow4 := Row.new w3 5 (ints .u8 (List.replicate 64 0))
  have hX4 := (Ext.refl w3).alloc (.cells (ints .u8 (List.replicate 64 0)).toArray 5)
  have HBOX4 := Lib.hid (HBOX3.out.ext hX4)
  have HRW4 := Lib.hid hrow4
  have HX4 := Lib.hid hX4
  clear hrow4 hX4 g0 g1 g2 g3 m0 m1 m2 m3
  generalize hw4 : w3.alloc (.cells (ints .u8 (List.replicate 64 0)).toArray 5) = w4 at *
  clear hw4
  obtain ⟨go, hgo⟩ : ∃ q, q = w3.heap.size := ⟨_, rfl⟩
  have HGO := Lib.hid hgo
  rw [← hgo] at hmk HRW4
  obtain ⟨⟨g0, g1, g2, g3⟩, m0, m1, m2, m3⟩ := HBOX4.out
  rw [← HNO.out] at m1
  clear hgo
  go_wp2_with fail
  go_loopw [31] (fun v wr => ∃ k : Nat, k ≤ no ∧ v = .int .i64 k ∧ Row wr go 5 (ints .u8 (M.owners.take k ++ List.replicate (64 - k) 0)) ∧ Ext w3 wr) (fun v _ => no - (intOf v).toNat)
  case atStart => exact ⟨0, by omega, rfl, by simpa using HRW4.out, HX4.out⟩
  case round =>
    obtain ⟨k, hk, rfl, hrow, hX⟩ := hrel
    have HX := Lib.hid hX
    clear hX g0 g1 g2 g3 m0 m1 m2 m3
    by_cases hlt : k < no
    · have hkL : k < M.owners.length := by rw [← HNO.out]; exact hlt
      obtain ⟨bo, oo, hoa, hoc⟩ := (HIN.out.owners.ext (H3.out.trans HX.out)).ints (by omega)
      have hcell := hoc k hkL
      have hob := HRO.out _ (List.getElem_mem hkL)
      have hst := ownersB_step M.owners k hkL (by rw [← HNO.out]; exact hno64)
      generalize M.owners[k] = o at *
      have hlen : (ints .u8 (M.owners.take k ++ List.replicate (64 - k) 0)).length = 64 := by simp [ints_length]; omega
      obtain ⟨cc, hcc⟩ : ∃ v, wr.cell? ⟨go, k, none⟩ = some v := ⟨_, hrow.cell (by rw [hlen]; omega)⟩
      have hfz := hrow.frozen k
      have hr2 := Row.set hrow k (.int .u8 o)
      rw [hst] at hr2
      have HR2 := Lib.hid hr2
      have HX2 := Lib.hid (Ext.setCell HX.out (p := ⟨go, k, none⟩) (by rw [HGO.out]; exact Nat.le_refl _) (.int .u8 o))
      have hw8 : IntKind.u8.wrap o = o := IntWalk.u8_in _ (by omega)
      have hk64 : (k : Int) < 64 := by omega
      rw [hoa]
      clear hrow hst hr2 hoc hkL hoa hlen
      go_wp2
      go_roundw
      case rel => exact ⟨k + 1, hlt, by go_num, HR2.out, HX2.out⟩
      case measure => simp [intOf]; omega
    · obtain rfl : k = no := by omega
      have HOB := Lib.hid (show Row wr go 5 (ints .u8 (ownersB M)) from by
        have := hrow
        rw [List.take_of_length_le (by rw [← HNO.out]; exact Nat.le_refl _)] at this
        unfold ownersB
        rw [← HNO.out]
        exact this)
      clear hrow hk hlt
      have HBOX5 := Lib.hid (HBOX3.out.ext HX.out)
      obtain ⟨⟨g0, g1, g2, g3⟩, m0, m1, m2, m3⟩ := HBOX5.out
      rw [H64.out] at m2
      have hcl := CloneB_ok p.ua 64 p.uc (ints .u8 M.used) wr (by rw [ints_length, H64.out]) (HIN.out.used.ext (H3.out.trans HX.out)) (ints_oneCell' _ _) (by rw [← H64.out]; exact HIN.out.nil.2.2.1) (by decide)
      go_wp2_with fail
      refine hcl.mono ?_
      rintro e w6 ⟨ac, cc, rfl, ho6, h6⟩
      have HX6 := Lib.hid (HX.out.trans h6)
      have HO6 := Lib.hid ho6
      have HO3' := Lib.hid (ownS_ext HO3.out (HX.out.trans h6))
      have HOB6 := Lib.hid (HOB.out.ext h6)
      clear hcl ho6 h6 g0 g1 g2 g3 m0 m1 m2 m3
      obtain ⟨br, hbr⟩ : ∃ q, ar = some ⟨q, 0, none⟩ := by
        rcases ownS_cases HO3.out with ⟨_, e, _⟩ | ⟨q, _, e, _⟩
        · cases e
        · exact ⟨q, e⟩
      obtain ⟨bc, hbc⟩ : ∃ q, ac = some ⟨q, 0, none⟩ := by
        rcases ownS_cases HO6.out with ⟨_, e, _⟩ | ⟨q, _, e, _⟩
        · cases e
        · exact ⟨q, e⟩
      subst hbr hbc
      have hX7 := (Ext.refl w6).alloc (.cells #[.slice (some ⟨br, 0, none⟩) 64 cr, .slice (some ⟨go, 0, none⟩) 64 64, .slice (some ⟨bc, 0, none⟩) 64 cc] 26)
      have hrow7 := Row.new w6 26 (slVs [(br, cr), (go, 64), (bc, cc)])
      have HS7 := Lib.hid (show SecsAt (w6.alloc (.cells #[.slice (some ⟨br, 0, none⟩) 64 cr, .slice (some ⟨go, 0, none⟩) 64 64, .slice (some ⟨bc, 0, none⟩) 64 cc] 26)) w2.heap.size (some ⟨w6.heap.size, 0, none⟩) 3 3 [layed 2 (numsR M.rows), ownersB M, M.used] from by
        refine ⟨rfl, [(br, cr), (go, 64), (bc, cc)], rfl, ownS_of hrow7 (HX23.out.trans HX6.out).size rfl (by decide), fun i hi hi' => ?_⟩
        have z1 := (ownS_lt HO3'.out _ rfl)
        have z2 := (ownS_lt HO6.out _ rfl)
        have z3 := HOB6.out.lt
        dsimp only at z1 z2
        have s2 := H2.out.size
        have s3 := HX23.out.size
        have sX := (HX23.out.trans HX.out).size
        have hOBL : (ownersB M).length = 64 := by unfold ownersB; rw [List.length_append, List.length_replicate, ← HNO.out]; omega
        match i, hi, hi' with
        | 0, _, _ => exact ⟨ownS_ext HO3'.out hX7, H32.out, fun ad e => by cases e; show br ≠ w6.heap.size; omega⟩
        | 1, _, _ => exact ⟨ownS_of (HOB6.out.ext hX7) (by rw [HGO.out]; exact s3) (by rw [ints_length]; exact hOBL) (by decide), hOBL, fun ad e => by cases e; show go ≠ w6.heap.size; omega⟩
        | 2, _, _ => exact ⟨ownS_base (ownS_ext HO6.out hX7) sX, H64.out, fun ad e => by cases e; show bc ≠ w6.heap.size; omega⟩)
      have HX7 := Lib.hid (HX6.out.trans hX7)
      clear hX7 hrow7 HO3' HO6 HOB6
      go_wp2_with fail
      generalize hw7 : w6.alloc (.cells #[.slice (some ⟨br, 0, none⟩) 64 cr, .slice (some ⟨go, 0, none⟩) 64 64, .slice (some ⟨bc, 0, none⟩) 64 cc] 26) = w7 at *
      clear hw7
      have HS0 := Lib.hid (show sectM M = [layed 2 (numsR M.rows), ownersB M, M.used] ++ pairsI M.inodes from rfl)
      have HPL := Lib.hid (pairsI_len nq M.inodes (by rw [← HNI.out]; exact HNQ.out))
      have HNQ2 := Lib.hid (show nq ≤ 32 by have := HNQ.out; omega)
      go_loopw [12, 11] (fun v u w8 => ∃ (q i0 n3 : Nat) (a : Option Addr) (cap : Nat), q ≤ nq ∧ i0 = 2 * q ∧ n3 = 3 + q ∧ v = .int .i64 i0 ∧ u = .slice a n3 cap ∧ SecsAt w8 w2.heap.size a n3 cap ([layed 2 (numsR M.rows), ownersB M, M.used] ++ (pairsI M.inodes).take q) ∧ Ext w2 w8) (fun v _ _ => ni - (intOf v).toNat)
      case atStart => exact ⟨0, 0, 3, _, _, by omega, by omega, by omega, rfl, rfl, by simpa using HS7.out, HX23.out.trans HX7.out⟩
      case round =>
        obtain ⟨q, i0, n3, a, cap, hq, hi0, hn3, rfl, rfl, hS, hX8⟩ := hrel
        have HS := Lib.hid hS
        have HX8 := Lib.hid hX8
        have HI0 := Lib.hid hi0
        have HN3 := Lib.hid hn3
        have HQ := Lib.hid hq
        clear hS hX8 hi0 hn3 hq
        have HBOX8 := Lib.hid (HBOX2.out.ext HX8.out)
        obtain ⟨⟨g0, g1, g2, g3⟩, m0, m1, m2, m3⟩ := HBOX8.out
        rw [← HNI.out] at m3
        have hEx := H2.out.trans HX8.out
        have HEX := Lib.hid hEx
        clear g0 g1 g2 g3 m0 m1 m2
        by_cases hlt : i0 < ni
        · have hqn : q < nq := by have := HI0.out; have := HNQ.out; omega
          have hi1 : i0 + 1 < ni := by have := HI0.out; have := HNQ.out; omega
          have hjL : i0 + 1 < M.inodes.length := by rw [← HNI.out]; exact hi1
          have hfl : (flat inoC M.inodes).length = M.inodes.length * 14 := flat_length inoC_len _
          obtain ⟨bi, oi, hia, hic⟩ := (HIN.out.inodes.ext hEx).at (by omega)
          have hrg : ∀ (x : Nat) (hx : x < M.inodes.length), wr.rangeAt bi (oi + x * 14) (inoC M.inodes[x]) := fun x hx q v hv => by
            have hq : q < 14 := by have := (List.getElem?_eq_some_iff.1 hv).1; rw [inoC_len] at this; exact this
            have := hic (x * 14 + q) (by rw [hfl]; have : (x + 1) * 14 ≤ M.inodes.length * 14 := Nat.mul_le_mul_right 14 hx; omega)
            rw [Nat.add_assoc, this, ← hv, ← flat_at inoC_len M.inodes x hx q hq, List.getElem?_eq_getElem]
          have hr1 := hrg i0 (by omega)
          have hr2 := hrg (i0 + 1) hjL
          have hwn1 := HIN.out.wfi _ (List.getElem_mem (show i0 < M.inodes.length by omega))
          have hwn2 := HIN.out.wfi _ (List.getElem_mem hjL)
          have hrn1 := HRI.out _ (List.getElem_mem (show i0 < M.inodes.length by omega))
          have hrn2 := HRI.out _ (List.getElem_mem hjL)
          have HPQ := Lib.hid (show (pairsI M.inodes).take (q + 1) = (pairsI M.inodes).take q ++ [M.inodes[i0].bytes ++ M.inodes[i0 + 1].bytes] from by
            rw [List.take_succ_eq_append_getElem (by rw [HPL.out]; exact hqn), pairsI_at q _ (by have := HI0.out; omega)]
            simp only [HI0.out])
          have HIA := Lib.hid hia
          rw [hia] at m3 ⊢
          generalize M.inodes[i0 + 1] = n2 at *
          generalize M.inodes[i0]'(by omega) = n1 at *
          clear hrg hic hfl hjL hia hEx
          have HN1 := Lib.hid (show ∀ v : World, Calls Try.prog 27 #[n1.v] v (Gave .u8 5 v (n1.bytes, 0)) from fun v => Ino.layR_yes hrn1 ▸ Lay_ino n1 v hwn1)
          have HN2 := Lib.hid (show ∀ v : World, Calls Try.prog 27 #[n2.v] v (Gave .u8 5 v (n2.bytes, 0)) from fun v => Ino.layR_yes hrn2 ▸ Lay_ino n2 v hwn2)
          have HRG1 := Lib.hid (show wr.rangeAt bi (oi + i0 * 14) [.int .u8 n1.k, .int .u8 n1.r, .int .i64 n1.l, .int .i64 n1.s, .int .i64 n1.d0, .int .i64 n1.d1, .int .i64 n1.d2, .int .i64 n1.d3, .int .i64 n1.d4, .int .i64 n1.d5, .int .i64 n1.d6, .int .i64 n1.d7, .int .i64 n1.i, .int .i64 n1.j] from hr1)
          have HRG2 := Lib.hid (show wr.rangeAt bi (oi + (i0 + 1) * 14) [.int .u8 n2.k, .int .u8 n2.r, .int .i64 n2.l, .int .i64 n2.s, .int .i64 n2.d0, .int .i64 n2.d1, .int .i64 n2.d2, .int .i64 n2.d3, .int .i64 n2.d4, .int .i64 n2.d5, .int .i64 n2.d6, .int .i64 n2.d7, .int .i64 n2.i, .int .i64 n2.j] from hr2)
          clear hr1 hr2 hwn1 hwn2 hrn1 hrn2
          have hcall := HN1.out wr
          go_wp2_with (first
            | (refine wpList_load_mid rfl 48 _ rfl bi (oi + i0 * 14) rfl [.int .u8 n1.k, .int .u8 n1.r, .int .i64 n1.l, .int .i64 n1.s, .int .i64 n1.d0, .int .i64 n1.d1, .int .i64 n1.d2, .int .i64 n1.d3, .int .i64 n1.d4, .int .i64 n1.d5, .int .i64 n1.d6, .int .i64 n1.d7, .int .i64 n1.i, .int .i64 n1.j] _ HRG1.out Try.underlying48 rfl infoIno ?_)
            | fail)
          refine hcall.mono ?_
          rintro e w9 ⟨b1, c1, rfl, ho9, h9⟩
          dsimp only at ho9 ⊢
          rw [Ino.bytes_len] at ho9 ⊢
          have HO9 := Lib.hid ho9
          have HX9 := Lib.hid h9
          have HBOX9 := Lib.hid (HBOX8.out.ext h9)
          have HRG3 := Lib.hid (show w9.rangeAt bi (oi + (i0 + 1) * 14) [.int .u8 n2.k, .int .u8 n2.r, .int .i64 n2.l, .int .i64 n2.s, .int .i64 n2.d0, .int .i64 n2.d1, .int .i64 n2.d2, .int .i64 n2.d3, .int .i64 n2.d4, .int .i64 n2.d5, .int .i64 n2.d6, .int .i64 n2.d7, .int .i64 n2.i, .int .i64 n2.j] from fun q v hv => h9.keep (HRG2.out q v hv))
          clear hcall ho9 h9 m3
          obtain ⟨⟨g0, g1, g2, g3⟩, m0, m1, m2, m3⟩ := HBOX9.out
          rw [← HNI.out] at m3
          have hpia : p.ia = some ⟨bi, oi, none⟩ := HIA.out
          rw [hpia] at m3
          clear g0 g1 g2 g3 m0 m1 m2 hpia
          have hcall := HN2.out w9
          have hwi : IntKind.i64.wrap ((i0 : Int) + 1) = (i0 : Int) + 1 := IntWalk.i64_in _ (by omega)
          have hi1' : (i0 : Int) + 1 < ni := by omega
          have hi0' : (0 : Int) ≤ (i0 : Int) + 1 := by omega
          go_wp2_with (first
            | (refine wpList_load_mid rfl 48 _ rfl bi (oi + (i0 + 1) * 14) rfl [.int .u8 n2.k, .int .u8 n2.r, .int .i64 n2.l, .int .i64 n2.s, .int .i64 n2.d0, .int .i64 n2.d1, .int .i64 n2.d2, .int .i64 n2.d3, .int .i64 n2.d4, .int .i64 n2.d5, .int .i64 n2.d6, .int .i64 n2.d7, .int .i64 n2.i, .int .i64 n2.j] _ HRG3.out Try.underlying48 rfl infoIno ?_)
            | fail)
          refine hcall.mono ?_
          rintro e w10 ⟨b2, c2, rfl, ho10, h10⟩
          dsimp only at ho10 ⊢
          rw [Ino.bytes_len] at ho10 ⊢
          have HO9' := ownS_ext HO9.out h10
          have hb2 : b2 = none → 32 = 0 ∧ c2 = 0 := fun e => by
            subst e
            rcases ownS_cases ho10 with ⟨_, e, _⟩ | ⟨q, _, e, _⟩ <;> cases e
          obtain ⟨b3, c3, w11, hap1, ho11, hg11, _⟩ := run_append_s (P := Try.prog) w10 wr.heap.size 1 (by decide) 26 26 5 _ 1 Try.underlying26 infoBC rfl HO9' (m := 32) c2 (news := ints .u8 n2.bytes) (by rw [ints_length, Ino.bytes_len]) (ownsRow_sl ho10) hb2 (ints_oneCell' _ _) (by omega) (by omega) (HX9.out.trans h10).size
          have h11 : Ext wr w11 := Ext_grown (HX9.out.trans h10) (Nat.le_refl _) (HX9.out.trans h10).size hg11 (fun z hz => by
            cases b1 with
            | none => simp [Value.ownBlock] at hz
            | some a0 =>
              simp [Value.ownBlock] at hz
              subst hz
              exact (ownS_lt HO9' a0 rfl).1)
          rw [show (32 + 32 : Nat) = 64 from rfl] at hap1 ho11
          rw [← ints_append] at ho11
          obtain ⟨bb, hbb⟩ : ∃ z, b3 = some ⟨z, 0, none⟩ := by
            rcases ownS_cases ho11 with ⟨_, e, _⟩ | ⟨z, _, e, _⟩
            · cases e
            · exact ⟨z, e⟩
          subst hbb
          have hIn : InAt w11 w2.heap.size a (bb, c3) (n1.bytes ++ n2.bytes) := ⟨ownS_base ho11 HX8.out.size, by rw [List.length_append, Ino.bytes_len, Ino.bytes_len], fun ad e => by
            have z1 := (ownS_lt ho11 _ rfl).1
            obtain ⟨_, H, _, hoH, _⟩ := HS.out
            have z2 := (ownS_lt hoH ad e).2
            dsimp only at z1 ⊢
            omega⟩
          obtain ⟨a', cap', w12, hap2, hS12, hE12⟩ := (HS.out.ext h11).more (by have := HN3.out; have := HNQ2.out; omega) hIn (HX8.out.trans h11).size rfl
          have HX12 := Lib.hid (hE12 w2 (HX8.out.trans h11) (Nat.le_refl _))
          rw [List.append_assoc, ← HPQ.out] at hS12
          have HS12 := Lib.hid hS12
          clear hIn ho11 h11 HO9' ho10 h10 hcall hS12 hE12 hg11 hb2
          go_wp2_with (first
            | (at_builtin; refine Guard.wpList_append_want _ rfl _ _ _ _ rfl _ _ rfl rfl _ _ hap1 ?_)
            | (at_builtin; refine Guard.wpList_append_want _ rfl _ _ _ _ rfl _ _ rfl rfl _ _ hap2 ?_))
          go_roundw
          case rel => exact ⟨q + 1, i0 + 2, n3 + 1, a', cap', hqn, by have := HI0.out; omega, by have := HN3.out; omega, by go_num, rfl, HS12.out, HX12.out⟩
          case measure => simp [intOf]; omega
        · have hqn : q = nq := by have := HI0.out; have := HNQ.out; have := HQ.out; omega
          have HFIN := Lib.hid (show SecsAt wr w2.heap.size a n3 cap (sectM M) from by
            have := HS.out
            rw [hqn, List.take_of_length_le (by rw [HPL.out]; exact Nat.le_refl _), ← HS0.out] at this
            exact this)
          have HLN := Lib.hid HFIN.out.len
          clear hqn
          go_wp2
          go_ret2
          rw [HV.out]
          dsimp only
          rw [HLN.out]
          exact ⟨a, cap, rfl, HFIN.out.low H2.out.size, HEX.out⟩
end Go.Proofs.Ytnodinancnfoeaa.Mt
