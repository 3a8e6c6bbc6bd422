/- Words on memory that hang on no program: a block that is known whole ('Row'), a change of one block alone ('By'), a slice that reads as a list ('Sl'). -/
import Derived.Test.YtfodpphbdbeciaaWords
import Derived.Laws.CopyOwn
import Derived.Laws.AppendOwn
import Derived.OpenShut
namespace Go.Proofs.Ytfodpphbdbeciaa.Mem
open Go.RowKit Words

/-- Numbers of one kind, as cells. -/
def ints (k : IntKind) (l : List Int) : List Value := l.map (Value.int k)
theorem ints_length (k : IntKind) (l : List Int) : (ints k l).length = l.length := by simp [ints]
theorem ints_getElem (k : IntKind) (l : List Int) (i : Nat) (h : i < (ints k l).length) : (ints k l)[i] = .int k (l[i]'(by simpa [ints] using h)) := by simp [ints]
theorem ints_getElem? (k : IntKind) (l : List Int) (i : Nat) : (ints k l)[i]? = l[i]?.map (Value.int k) := by simp [ints]
theorem ints_append (k : IntKind) (l m : List Int) : ints k (l ++ m) = ints k l ++ ints k m := by simp [ints]
theorem ints_single (k : IntKind) (x : Int) : ints k [x] = [.int k x] := rfl
theorem ints_nil (k : IntKind) : ints k [] = [] := rfl
theorem ints_cons (k : IntKind) (x : Int) (l : List Int) : ints k (x :: l) = .int k x :: ints k l := rfl
theorem ints_take (k : IntKind) (l : List Int) (n : Nat) : (ints k l).take n = ints k (l.take n) := by simp [ints]
theorem ints_drop (k : IntKind) (l : List Int) (n : Nat) : (ints k l).drop n = ints k (l.drop n) := by simp [ints]
theorem ints_replicate (k : IntKind) (x : Int) (n : Nat) : List.replicate n (Value.int k x) = ints k (List.replicate n x) := by simp [ints]
theorem ints_oneCell' (k : IntKind) (l : List Int) : ∀ u ∈ ints k l, u.oneCell' = true := by
  intro u hu
  obtain ⟨_, _, rfl⟩ := List.mem_map.1 hu
  rfl
theorem ints_inj {k : IntKind} {l m : List Int} (h : ints k l = ints k m) : l = m := by
  have := congrArg (List.map (fun v => match v with | .int _ n => n | _ => 0)) h
  simpa [ints, Function.comp_def] using this

/-- Block g is a row of the cells L, none of them frozen. -/
def Row (w : World) (g : Nat) (t : TypeId) (L : List Value) : Prop := w.heap[g]? = some (.cells L.toArray t (0, 0))
/-- Nothing but block g may have changed, and new blocks may be there. -/
def By (g : Nat) (w w' : World) : Prop := w.grownBy w' (some g)
/-- What lies behind address a reads as xs. -/
def Sl (w : World) (a : Option Addr) (xs : List Value) : Prop := ∀ j (h : j < xs.length), ∃ ad, a = some ad ∧ w.cell? (ad.add j) = some xs[j]

section row
variable {w w' : World} {g : Nat} {t : TypeId} {L : List Value}
theorem Row.lt (h : Row w g t L) : g < w.heap.size := (Array.getElem?_eq_some_iff.1 h).1
theorem Row.cell (h : Row w g t L) {j : Nat} (hj : j < L.length) : w.cell? ⟨g, j, none⟩ = some L[j] := by
  rw [cell_of_row w g j _ t _ h]; simp [hj]
theorem Row.cell? (h : Row w g t L) (j : Nat) : w.cell? ⟨g, j, none⟩ = L[j]? := by
  rw [cell_of_row w g j _ t _ h]; simp
theorem Row.frozen (h : Row w g t L) (j : Nat) : w.frozen? ⟨g, j, none⟩ = false := frozen_of_row w g j _ t h
theorem Row.set (h : Row w g t L) (j : Nat) (v : Value) : Row (w.setCell ⟨g, j, none⟩ v) g t (L.set j v) := by
  have := heap_setCell_same w g j _ t v h
  unfold Row; simpa using this
theorem Row.ext (h : Row w g t L) (e : Ext w w') : Row w' g t L := (Below.block e g h.lt).trans h
theorem Row.alloc (h : Row w g t L) (o : Obj) : Row (w.alloc o) g t L := h.ext ((Ext.refl w).alloc o)
theorem Row.drew (h : Row w g t L) : Row w.drew g t L := h
theorem Row.new (w : World) (t : TypeId) (L : List Value) : Row (w.alloc (.cells L.toArray t)) w.heap.size t L := heap_alloc_new w _
theorem Row.by (h : Row w g t L) {g' : Nat} (b : By g' w w') (hne : g ≠ g') : Row w' g t L :=
  (b.block g h.lt (by simpa using hne)).trans h
theorem By.refl (g : Nat) (w : World) : By g w w := ⟨rfl, rfl, rfl, Nat.le_refl _, fun _ _ _ => rfl⟩
theorem By.trans {a b c : World} (h : By g a b) (k : By g b c) : By g a c :=
  ⟨k.os.trans h.os, k.tape.trans h.tape, k.output.trans h.output, Nat.le_trans h.size k.size, fun i hi hn => (k.block i (Nat.lt_of_lt_of_le hi h.size) hn).trans (h.block i hi hn)⟩
theorem By.set (w : World) (g j : Nat) (v : Value) : By g w (w.setCell ⟨g, j, none⟩ v) :=
  ⟨rfl, rfl, rfl, by simp [World.setCell], fun k _ hk => heap_setCell_other w ⟨g, j, none⟩ k v (fun e => hk (by simp [e]))⟩
theorem By.setTo {a : World} (h : By g a w) (j : Nat) (v : Value) : By g a (w.setCell ⟨g, j, none⟩ v) := h.trans (By.set w g j v)
theorem By.alloc {a : World} (h : By g a w) (o : Obj) : By g a (w.alloc o) := h.trans (World.grownBy_alloc w o _)
theorem By.drew {a : World} (h : By g a w) : By g a w.drew := ⟨h.os, h.tape, h.output, h.size, h.block⟩
theorem By.ofExt (g : Nat) (h : Ext w w') : By g w w' := ⟨h.os, h.tape, h.output, h.size, fun k hk _ => h.block k hk⟩
theorem _root_.Go.Proofs.Ytfodpphbdbeciaa.Words.Ext.by {w0 : World} (h : Ext w0 w) (b : By g w w') (hg : w0.heap.size ≤ g) : Ext w0 w' :=
  Below.trans h ⟨b.os, b.tape, b.output, b.size, fun k hk => b.block k (by have := h.size; omega) (by simp; omega)⟩
end row

theorem Row.int {w : World} {g : Nat} {t : TypeId} {k : IntKind} {l : List Int} (h : Row w g t (ints k l)) {j : Nat} (hj : j < l.length) : w.cell? ⟨g, j, none⟩ = some (.int k l[j]) := by
  rw [h.cell (j := j) (by rw [ints_length]; exact hj), ints_getElem]
section sl
variable {w w' : World} {a : Option Addr} {xs : List Value}
theorem Sl.nil (w : World) (a : Option Addr) : Sl w a [] := fun j h => by simp at h
theorem Sl.at (h : Sl w a xs) (hx : 0 < xs.length) : ∃ b off, a = some ⟨b, off, none⟩ ∧ ∀ j (hj : j < xs.length), w.cell? ⟨b, off + j, none⟩ = some xs[j] := by
  obtain ⟨⟨b, off, sp⟩, rfl, hc⟩ := h 0 hx
  have hsp : sp = none := by
    cases sp with
    | none => rfl
    | some s => simp [Addr.add, World.cell?] at hc; split at hc <;> simp at hc
  subst hsp
  refine ⟨b, off, rfl, fun j hj => ?_⟩
  obtain ⟨ad, had, hcj⟩ := h j hj
  cases had
  by_cases h0 : j = 0
  · subst h0; simpa [Addr.add] using hcj
  · simpa [Addr.add, h0] using hcj
/-- A slice of numbers that has an element. -/
theorem Sl.ints {k : IntKind} {l : List Int} (h : Sl w a (ints k l)) (hx : 0 < l.length) : ∃ b off, a = some ⟨b, off, none⟩ ∧ ∀ j (hj : j < l.length), w.cell? ⟨b, off + j, none⟩ = some (.int k l[j]) := by
  obtain ⟨b, off, e, hc⟩ := h.at (by rw [ints_length]; exact hx)
  exact ⟨b, off, e, fun j hj => by rw [hc j (by rw [ints_length]; exact hj), ints_getElem]⟩
theorem Sl.mk {b off : Nat} (h : ∀ j (hj : j < xs.length), w.cell? ⟨b, off + j, none⟩ = some xs[j]) : Sl w (some ⟨b, off, none⟩) xs := by
  intro j hj
  refine ⟨_, rfl, ?_⟩
  by_cases h0 : j = 0
  · subst h0; simpa [Addr.add] using h 0 hj
  · simpa [Addr.add, h0] using h j hj
theorem Sl.lt (h : Sl w a xs) (hx : 0 < xs.length) : ∀ ad, a = some ad → ad.block < w.heap.size := by
  obtain ⟨b, off, rfl, hc⟩ := h.at hx
  intro ad had
  cases had
  exact World.block_lt_of_cell? w _ (hc 0 hx)
theorem Sl.ext (h : Sl w a xs) (e : Ext w w') : Sl w' a xs := by
  intro j hj
  obtain ⟨ad, had, hc⟩ := h j hj
  exact ⟨ad, had, (e.cell (World.block_lt_of_cell? w _ hc)).trans hc⟩
theorem Sl.by {g : Nat} (h : Sl w a xs) (b : By g w w') (hne : ∀ ad, a = some ad → xs ≠ [] → ad.block ≠ g) : Sl w' a xs := by
  intro j hj
  obtain ⟨ad, had, hc⟩ := h j hj
  refine ⟨ad, had, ?_⟩
  have hb : (ad.add j).block = ad.block := by unfold Addr.add; split <;> rfl
  have hn := hne ad had (by intro e; subst e; simp at hj)
  have hl := World.block_lt_of_cell? w _ hc
  rw [World.cell?_of_block (w := w) (b.block (ad.add j).block hl (by rw [hb]; simpa using hn))]
  exact hc
theorem Sl.take (h : Sl w a xs) (n : Nat) : Sl w a (xs.take n) := by
  intro j hj
  have hj' : j < xs.length := by simp at hj; omega
  obtain ⟨ad, had, hc⟩ := h j hj'
  exact ⟨ad, had, by rw [hc]; simp⟩
theorem Sl.drop (h : Sl w a xs) (n : Nat) : Sl w (a.map (·.add n)) (xs.drop n) := by
  intro j hj
  have hj' : n + j < xs.length := by simp at hj; omega
  obtain ⟨ad, had, hc⟩ := h (n + j) hj'
  refine ⟨ad.add n, by simp [had], ?_⟩
  have e : (ad.add n).add j = ad.add (n + j) := by
    unfold Addr.add
    by_cases h1 : n = 0 <;> by_cases h2 : j = 0 <;> simp [h1, h2, Nat.add_assoc]
  rw [e, hc]; simp
/-- The address that 's[lo:hi]' has. -/
theorem Sl.cut (h : Sl w a xs) (c lo : Nat) (hc : c = lo → xs.length ≤ lo) : Sl w (if c = lo then a else a.map (·.add lo)) (xs.drop lo) := by
  by_cases e : c = lo
  · rw [if_pos e, List.drop_eq_nil_of_le (hc e)]; exact Sl.nil _ _
  · rw [if_neg e]; exact h.drop lo
theorem Row.sl {g : Nat} {t : TypeId} {L : List Value} (h : Row w g t L) (off : Nat) {ys : List Value} (hy : ∀ j (hj : j < ys.length), L[off + j]? = some ys[j]) : Sl w (some ⟨g, off, none⟩) ys :=
  Sl.mk fun j hj => by rw [h.cell?]; exact hy j hj
theorem Row.sl0 {g : Nat} {t : TypeId} {L : List Value} (h : Row w g t L) : Sl w (some ⟨g, 0, none⟩) L := h.sl 0 fun j hj => by simp [hj]
theorem Row.slTake {g : Nat} {t : TypeId} {L : List Value} (h : Row w g t L) (n : Nat) : Sl w (some ⟨g, 0, none⟩) (L.take n) := h.sl0.take n
end sl

section owns
variable {w w' : World} {base n cap : Nat} {t : TypeId} {a : Option Addr} {xs : List Value}
theorem ownsRow_sl (h : w.ownsRow base t 1 (.slice a n cap) n xs) : Sl w a xs := by
  rcases h.2 with ⟨hv, hn⟩ | ⟨g, cap', cur, hv, _, hg, hle, _, hcs, htk⟩
  · subst hn
    have : xs = [] := List.eq_nil_of_length_eq_zero (by simpa using h.1)
    subst this; exact Sl.nil _ _
  · cases hv
    have hr : Row w g t cur.toList := by unfold Row; simpa using hg
    rw [← htk]; exact hr.slTake _
theorem ownsRow_len (h : w.ownsRow base t 1 (.slice a n cap) n xs) : xs.length = n := by simpa using h.1
theorem ownsRow_ext (h : w.ownsRow base t 1 (.slice a n cap) n xs) (e : Ext w w') : w'.ownsRow base t 1 (.slice a n cap) n xs := by
  refine h.kept (row := none) ⟨e.os, e.tape, e.output, e.size, fun k hk _ => e.block k hk⟩ ?_
  cases hb : Value.ownBlock (.slice a n cap) <;> simp
theorem ownsRow_base {base' : Nat} (h : w.ownsRow base t 1 (.slice a n cap) n xs) (hb : base' ≤ base) : w.ownsRow base' t 1 (.slice a n cap) n xs := by
  refine ⟨h.1, ?_⟩
  rcases h.2 with hv | ⟨g, cap', cur, hv, hg, r⟩
  · exact .inl hv
  · exact .inr ⟨g, cap', cur, hv, Nat.le_trans hb hg, r⟩
/-- The two shapes of what is owned: nil, or a row. -/
theorem ownsRow_cases (h : w.ownsRow base t 1 (.slice a n cap) n xs) : (a = none ∧ n = 0 ∧ cap = 0 ∧ xs = []) ∨ ∃ g L, a = some ⟨g, 0, none⟩ ∧ base ≤ g ∧ Row w g t L ∧ n ≤ cap ∧ cap ≤ maxLen ∧ L.length = cap ∧ L.take n = xs := by
  rcases h.2 with ⟨hv, hn⟩ | ⟨g, cap', cur, hv, hb, hg, hle, hm, hcs, htk⟩
  · cases hv
    exact .inl ⟨rfl, rfl, rfl, List.eq_nil_of_length_eq_zero (by simpa using h.1)⟩
  · cases hv
    exact .inr ⟨g, cur.toList, rfl, hb, by unfold Row; simpa using hg, hle, hm, by simpa using hcs, by simpa using htk⟩
theorem ownsRow_of {g : Nat} {L : List Value} (hr : Row w g t L) (hb : base ≤ g) (hl : L.length = n) (hm : n ≤ maxLen) : w.ownsRow base t 1 (.slice (some ⟨g, 0, none⟩) n n) n L :=
  ⟨by simpa using hl, .inr ⟨g, n, L.toArray, rfl, hb, hr, Nat.le_refl _, hm, by simpa using hl, by simp [← hl]⟩⟩
theorem ownsRow_nil (w : World) (base : Nat) (t : TypeId) : w.ownsRow base t 1 (.slice none 0 0) 0 [] := World.ownsRow_nil w base t 1
end owns

/-- What the frame of a law tells of a slice of numbers that came in. -/
def RowIn (k : IntKind) (w : World) (a : Option Addr) (len cap : Nat) (zs : List Int) : Prop :=
  (a = none ∧ len = 0 ∧ cap = 0 ∧ zs = []) ∨
  ∃ x, a = some x ∧ len ≤ cap ∧ cap ≤ maxLen ∧ zs.length = cap ∧ (∀ i, i < zs.length → w.cell? (x.add i) = some (.int k (zs.getD i 0))) ∧ ∀ n ∈ zs, (Lit.int k n).wf = true

theorem RowIn.open {k : IntKind} {w : World} {a : Option Addr} {len cap : Nat} {zs : List Int} (h : RowIn k w a len cap zs) :
    Sl w a (ints k (zs.take len)) ∧ (zs.take len).length = len ∧ len ≤ cap ∧ cap ≤ 9223372036854775807 ∧ (a = none → len = 0 ∧ cap = 0) ∧ ∀ n ∈ zs.take len, (Lit.int k n).wf = true := by
  rcases h with ⟨rfl, rfl, rfl, rfl⟩ | ⟨x, rfl, h1, h2, h3, h4, h5⟩
  · exact ⟨Sl.nil _ _, rfl, Nat.le_refl _, by omega, fun _ => ⟨rfl, rfl⟩, by simp⟩
  · refine ⟨?_, by rw [List.length_take]; omega, h1, by unfold maxLen at h2; omega, (fun h => by cases h), fun n hn => h5 n (List.mem_of_mem_take hn)⟩
    intro j hj
    rw [ints_length, List.length_take] at hj
    have hjz : j < zs.length := by omega
    refine ⟨x, rfl, ?_⟩
    rw [h4 j hjz, ints_getElem]
    simp [List.getD, hjz]

theorem splice_set {α : Type} (L : List α) (off : Nat) (cs : List α) (v : α) (h : off + cs.length < L.length) :
    (splice L off cs).set (off + cs.length) v = splice L off (cs ++ [v]) := by
  unfold splice
  have h1 : (L.take off).length = off := by simp; omega
  rw [List.set_append_right _ _ (by omega), h1, Nat.add_sub_cancel_left, List.set_append_right _ _ (Nat.le_refl _), Nat.sub_self]
  have h2 : L.drop (off + cs.length) = L[off + cs.length] :: L.drop (off + cs.length + 1) := List.drop_eq_getElem_cons h
  rw [h2]
  simp [Nat.add_assoc]
theorem splice_nil {α : Type} (L : List α) (off : Nat) : splice L off [] = L := by simp [splice]
end Go.Proofs.Ytfodpphbdbeciaa.Mem
