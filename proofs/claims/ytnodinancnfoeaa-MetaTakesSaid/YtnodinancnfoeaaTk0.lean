/- Words; Mem; Plain; Ops; Field; Gv; LayP; Num; Slices; TakeP; Ptr; FillP; SplP; AtP; InoP -/
import Derived.WalkKit
import Derived.ProofKit
import Derived.Below
import Derived.Carry
import Derived.Deep.Draws
import Derived.Laws.CopyOwn
import Derived.Laws.AppendOwn
import Derived.OpenShut
import Derived.Laws.MakeOwn
import Derived.Laws.CopyRow
import Derived.Laws.BytesString
import Derived.Lib.Hide
import Derived.Test.YtnodinancnfoeaaRows
import Derived.Laws.ShiftsVarLaws
import Derived.Lib.AppendZeros
import Derived.OwnWalk
import Derived.LoopTactic
/- Words of my own that hang on no program: a world that has only grown ('Ext'). -/
namespace Go.Proofs.Ytnodinancnfoeaa.Words
open Go.RowKit

/-- 'w'' is 'w' with new blocks behind it; of what was there nothing has changed. -/
def Ext (w w' : World) : Prop := Below w.heap.size w w'

theorem Ext.refl (w : World) : Ext w w := Below.refl _ _
theorem Ext.trans {a b c : World} (h : Ext a b) (k : Ext b c) : Ext a c := Below.trans h (Below.mono k h.size)
theorem Ext.alloc {a w : World} (h : Ext a w) (o : Obj) : Ext a (w.alloc o) := Below.alloc h h.size o
theorem Ext.drew {a w : World} (h : Ext a w) : Ext a w.drew := Below.drew h
theorem Ext.drewN {a w : World} (h : Ext a w) (n : Nat) : Ext a (w.drewN n) := h.trans ⟨rfl, rfl, rfl, Nat.le_refl _, fun _ _ => rfl⟩
theorem Ext.setCell {a w : World} (h : Ext a w) {p : Addr} (hp : a.heap.size ≤ p.block) (u : Value) : Ext a (w.setCell p u) := Below.setCell h hp u
theorem Ext.size {w w' : World} (h : Ext w w') : w.heap.size ≤ w'.heap.size := Below.size h
theorem Ext.cell {w w' : World} (h : Ext w w') {p : Addr} (hp : p.block < w.heap.size) : w'.cell? p = w.cell? p := Below.cell h hp
theorem Ext.frozen {w w' : World} (h : Ext w w') {p : Addr} (hp : p.block < w.heap.size) : w'.frozen? p = w.frozen? p := Below.frozen h hp
theorem Ext.cells {w w' : World} (h : Ext w w') : ∀ b o, b < w.heap.size → w'.cell? ⟨b, o, none⟩ = w.cell? ⟨b, o, none⟩ := fun b o hb => Below.cell h (p := ⟨b, o, none⟩) hb
theorem Ext.frozens {w w' : World} (h : Ext w w') : ∀ b o, b < w.heap.size → w'.frozen? ⟨b, o, none⟩ = w.frozen? ⟨b, o, none⟩ := fun b o hb => Below.frozen h (p := ⟨b, o, none⟩) hb
theorem Ext.keep {w w' : World} (h : Ext w w') {p : Addr} {v : Value} (hc : w.cell? p = some v) : w'.cell? p = some v := (h.cell (World.block_lt_of_cell? w _ hc)).trans hc
theorem Ext.below {w w' : World} (h : Ext w w') : Below w.heap.size w w' := h
theorem Ext.of {w w' : World} (h : Below w.heap.size w w') : Ext w w' := h

end Go.Proofs.Ytnodinancnfoeaa.Words
/- Words on memory that hang on no program: a block that is known whole ('Row'), a change of one block alone ('By'), a slice that reads as a list ('Sl'). -/
namespace Go.Proofs.Ytnodinancnfoeaa.Mem
open Go.RowKit Words

/-- Numbers of one kind, as cells. -/
def ints (k : IntKind) (l : List Int) : List Value := l.map (Value.int k)
theorem ints_length (k : IntKind) (l : List Int) : (ints k l).length = l.length := by simp [ints]
theorem ints_getElem (k : IntKind) (l : List Int) (i : Nat) (h : i < (ints k l).length) : (ints k l)[i] = .int k (l[i]'(by simpa [ints] using h)) := by simp [ints]
theorem ints_getElem? (k : IntKind) (l : List Int) (i : Nat) : (ints k l)[i]? = l[i]?.map (Value.int k) := by simp [ints]
theorem ints_append (k : IntKind) (l m : List Int) : ints k (l ++ m) = ints k l ++ ints k m := by simp [ints]
theorem ints_single (k : IntKind) (x : Int) : ints k [x] = [.int k x] := rfl
theorem ints_nil (k : IntKind) : ints k [] = [] := rfl
theorem ints_cons (k : IntKind) (x : Int) (l : List Int) : ints k (x :: l) = .int k x :: ints k l := rfl
theorem ints_take (k : IntKind) (l : List Int) (n : Nat) : (ints k l).take n = ints k (l.take n) := by simp [ints]
theorem ints_drop (k : IntKind) (l : List Int) (n : Nat) : (ints k l).drop n = ints k (l.drop n) := by simp [ints]
theorem ints_replicate (k : IntKind) (x : Int) (n : Nat) : List.replicate n (Value.int k x) = ints k (List.replicate n x) := by simp [ints]
theorem ints_oneCell' (k : IntKind) (l : List Int) : ∀ u ∈ ints k l, u.oneCell' = true := by
  intro u hu
  obtain ⟨_, _, rfl⟩ := List.mem_map.1 hu
  rfl
theorem ints_inj {k : IntKind} {l m : List Int} (h : ints k l = ints k m) : l = m := by
  have := congrArg (List.map (fun v => match v with | .int _ n => n | _ => 0)) h
  simpa [ints, Function.comp_def] using this

/-- Block g is a row of the cells L, none of them frozen. -/
def Row (w : World) (g : Nat) (t : TypeId) (L : List Value) : Prop := w.heap[g]? = some (.cells L.toArray t (0, 0))
/-- Nothing but block g may have changed, and new blocks may be there. -/
def By (g : Nat) (w w' : World) : Prop := w.grownBy w' (some g)
/-- What lies behind address a reads as xs. -/
def Sl (w : World) (a : Option Addr) (xs : List Value) : Prop := ∀ j (h : j < xs.length), ∃ ad, a = some ad ∧ w.cell? (ad.add j) = some xs[j]

section row
variable {w w' : World} {g : Nat} {t : TypeId} {L : List Value}
theorem Row.lt (h : Row w g t L) : g < w.heap.size := (Array.getElem?_eq_some_iff.1 h).1
theorem Row.cell (h : Row w g t L) {j : Nat} (hj : j < L.length) : w.cell? ⟨g, j, none⟩ = some L[j] := by
  rw [cell_of_row w g j _ t _ h]; simp [hj]
theorem Row.cell? (h : Row w g t L) (j : Nat) : w.cell? ⟨g, j, none⟩ = L[j]? := by
  rw [cell_of_row w g j _ t _ h]; simp
theorem Row.frozen (h : Row w g t L) (j : Nat) : w.frozen? ⟨g, j, none⟩ = false := frozen_of_row w g j _ t h
theorem Row.set (h : Row w g t L) (j : Nat) (v : Value) : Row (w.setCell ⟨g, j, none⟩ v) g t (L.set j v) := by
  have := heap_setCell_same w g j _ t v h
  unfold Row; simpa using this
theorem Row.ext (h : Row w g t L) (e : Ext w w') : Row w' g t L := (Below.block e g h.lt).trans h
theorem Row.alloc (h : Row w g t L) (o : Obj) : Row (w.alloc o) g t L := h.ext ((Ext.refl w).alloc o)
theorem Row.drew (h : Row w g t L) : Row w.drew g t L := h
theorem Row.new (w : World) (t : TypeId) (L : List Value) : Row (w.alloc (.cells L.toArray t)) w.heap.size t L := heap_alloc_new w _
theorem Row.by (h : Row w g t L) {g' : Nat} (b : By g' w w') (hne : g ≠ g') : Row w' g t L :=
  (b.block g h.lt (by simpa using hne)).trans h
theorem By.refl (g : Nat) (w : World) : By g w w := ⟨rfl, rfl, rfl, Nat.le_refl _, fun _ _ _ => rfl⟩
theorem By.trans {a b c : World} (h : By g a b) (k : By g b c) : By g a c :=
  ⟨k.os.trans h.os, k.tape.trans h.tape, k.output.trans h.output, Nat.le_trans h.size k.size, fun i hi hn => (k.block i (Nat.lt_of_lt_of_le hi h.size) hn).trans (h.block i hi hn)⟩
theorem By.set (w : World) (g j : Nat) (v : Value) : By g w (w.setCell ⟨g, j, none⟩ v) :=
  ⟨rfl, rfl, rfl, by simp [World.setCell], fun k _ hk => heap_setCell_other w ⟨g, j, none⟩ k v (fun e => hk (by simp [e]))⟩
theorem By.setTo {a : World} (h : By g a w) (j : Nat) (v : Value) : By g a (w.setCell ⟨g, j, none⟩ v) := h.trans (By.set w g j v)
theorem By.alloc {a : World} (h : By g a w) (o : Obj) : By g a (w.alloc o) := h.trans (World.grownBy_alloc w o _)
theorem By.drew {a : World} (h : By g a w) : By g a w.drew := ⟨h.os, h.tape, h.output, h.size, h.block⟩
theorem By.ofExt (g : Nat) (h : Ext w w') : By g w w' := ⟨h.os, h.tape, h.output, h.size, fun k hk _ => h.block k hk⟩
theorem _root_.Go.Proofs.Ytnodinancnfoeaa.Words.Ext.by {w0 : World} (h : Ext w0 w) (b : By g w w') (hg : w0.heap.size ≤ g) : Ext w0 w' :=
  Below.trans h ⟨b.os, b.tape, b.output, b.size, fun k hk => b.block k (by have := h.size; omega) (by simp; omega)⟩
end row

theorem Row.int {w : World} {g : Nat} {t : TypeId} {k : IntKind} {l : List Int} (h : Row w g t (ints k l)) {j : Nat} (hj : j < l.length) : w.cell? ⟨g, j, none⟩ = some (.int k l[j]) := by
  rw [h.cell (j := j) (by rw [ints_length]; exact hj), ints_getElem]
section sl
variable {w w' : World} {a : Option Addr} {xs : List Value}
theorem Sl.nil (w : World) (a : Option Addr) : Sl w a [] := fun j h => by simp at h
theorem Sl.at (h : Sl w a xs) (hx : 0 < xs.length) : ∃ b off, a = some ⟨b, off, none⟩ ∧ ∀ j (hj : j < xs.length), w.cell? ⟨b, off + j, none⟩ = some xs[j] := by
  obtain ⟨⟨b, off, sp⟩, rfl, hc⟩ := h 0 hx
  have hsp : sp = none := by
    cases sp with
    | none => rfl
    | some s => simp [Addr.add, World.cell?] at hc; split at hc <;> simp at hc
  subst hsp
  refine ⟨b, off, rfl, fun j hj => ?_⟩
  obtain ⟨ad, had, hcj⟩ := h j hj
  cases had
  by_cases h0 : j = 0
  · subst h0; simpa [Addr.add] using hcj
  · simpa [Addr.add, h0] using hcj
/-- A slice of numbers that has an element. -/
theorem Sl.ints {k : IntKind} {l : List Int} (h : Sl w a (ints k l)) (hx : 0 < l.length) : ∃ b off, a = some ⟨b, off, none⟩ ∧ ∀ j (hj : j < l.length), w.cell? ⟨b, off + j, none⟩ = some (.int k l[j]) := by
  obtain ⟨b, off, e, hc⟩ := h.at (by rw [ints_length]; exact hx)
  exact ⟨b, off, e, fun j hj => by rw [hc j (by rw [ints_length]; exact hj), ints_getElem]⟩
theorem Sl.mk {b off : Nat} (h : ∀ j (hj : j < xs.length), w.cell? ⟨b, off + j, none⟩ = some xs[j]) : Sl w (some ⟨b, off, none⟩) xs := by
  intro j hj
  refine ⟨_, rfl, ?_⟩
  by_cases h0 : j = 0
  · subst h0; simpa [Addr.add] using h 0 hj
  · simpa [Addr.add, h0] using h j hj
theorem Sl.lt (h : Sl w a xs) (hx : 0 < xs.length) : ∀ ad, a = some ad → ad.block < w.heap.size := by
  obtain ⟨b, off, rfl, hc⟩ := h.at hx
  intro ad had
  cases had
  exact World.block_lt_of_cell? w _ (hc 0 hx)
theorem Sl.ext (h : Sl w a xs) (e : Ext w w') : Sl w' a xs := by
  intro j hj
  obtain ⟨ad, had, hc⟩ := h j hj
  exact ⟨ad, had, (e.cell (World.block_lt_of_cell? w _ hc)).trans hc⟩
theorem Sl.by {g : Nat} (h : Sl w a xs) (b : By g w w') (hne : ∀ ad, a = some ad → xs ≠ [] → ad.block ≠ g) : Sl w' a xs := by
  intro j hj
  obtain ⟨ad, had, hc⟩ := h j hj
  refine ⟨ad, had, ?_⟩
  have hb : (ad.add j).block = ad.block := by unfold Addr.add; split <;> rfl
  have hn := hne ad had (by intro e; subst e; simp at hj)
  have hl := World.block_lt_of_cell? w _ hc
  rw [World.cell?_of_block (w := w) (b.block (ad.add j).block hl (by rw [hb]; simpa using hn))]
  exact hc
theorem Sl.take (h : Sl w a xs) (n : Nat) : Sl w a (xs.take n) := by
  intro j hj
  have hj' : j < xs.length := by simp at hj; omega
  obtain ⟨ad, had, hc⟩ := h j hj'
  exact ⟨ad, had, by rw [hc]; simp⟩
theorem Sl.drop (h : Sl w a xs) (n : Nat) : Sl w (a.map (·.add n)) (xs.drop n) := by
  intro j hj
  have hj' : n + j < xs.length := by simp at hj; omega
  obtain ⟨ad, had, hc⟩ := h (n + j) hj'
  refine ⟨ad.add n, by simp [had], ?_⟩
  have e : (ad.add n).add j = ad.add (n + j) := by
    unfold Addr.add
    by_cases h1 : n = 0 <;> by_cases h2 : j = 0 <;> simp [h1, h2, Nat.add_assoc]
  rw [e, hc]; simp
/-- The address that 's[lo:hi]' has. -/
theorem Sl.cut (h : Sl w a xs) (c lo : Nat) (hc : c = lo → xs.length ≤ lo) : Sl w (if c = lo then a else a.map (·.add lo)) (xs.drop lo) := by
  by_cases e : c = lo
  · rw [if_pos e, List.drop_eq_nil_of_le (hc e)]; exact Sl.nil _ _
  · rw [if_neg e]; exact h.drop lo
theorem Row.sl {g : Nat} {t : TypeId} {L : List Value} (h : Row w g t L) (off : Nat) {ys : List Value} (hy : ∀ j (hj : j < ys.length), L[off + j]? = some ys[j]) : Sl w (some ⟨g, off, none⟩) ys :=
  Sl.mk fun j hj => by rw [h.cell?]; exact hy j hj
theorem Row.sl0 {g : Nat} {t : TypeId} {L : List Value} (h : Row w g t L) : Sl w (some ⟨g, 0, none⟩) L := h.sl 0 fun j hj => by simp [hj]
theorem Row.slTake {g : Nat} {t : TypeId} {L : List Value} (h : Row w g t L) (n : Nat) : Sl w (some ⟨g, 0, none⟩) (L.take n) := h.sl0.take n
end sl

section owns
variable {w w' : World} {base n cap : Nat} {t : TypeId} {a : Option Addr} {xs : List Value}
theorem ownsRow_sl (h : w.ownsRow base t 1 (.slice a n cap) n xs) : Sl w a xs := by
  rcases h.2 with ⟨hv, hn⟩ | ⟨g, cap', cur, hv, _, hg, hle, _, hcs, htk⟩
  · subst hn
    have : xs = [] := List.eq_nil_of_length_eq_zero (by simpa using h.1)
    subst this; exact Sl.nil _ _
  · cases hv
    have hr : Row w g t cur.toList := by unfold Row; simpa using hg
    rw [← htk]; exact hr.slTake _
theorem ownsRow_len (h : w.ownsRow base t 1 (.slice a n cap) n xs) : xs.length = n := by simpa using h.1
theorem ownsRow_ext (h : w.ownsRow base t 1 (.slice a n cap) n xs) (e : Ext w w') : w'.ownsRow base t 1 (.slice a n cap) n xs := by
  refine h.kept (row := none) ⟨e.os, e.tape, e.output, e.size, fun k hk _ => e.block k hk⟩ ?_
  cases hb : Value.ownBlock (.slice a n cap) <;> simp
theorem ownsRow_base {base' : Nat} (h : w.ownsRow base t 1 (.slice a n cap) n xs) (hb : base' ≤ base) : w.ownsRow base' t 1 (.slice a n cap) n xs := by
  refine ⟨h.1, ?_⟩
  rcases h.2 with hv | ⟨g, cap', cur, hv, hg, r⟩
  · exact .inl hv
  · exact .inr ⟨g, cap', cur, hv, Nat.le_trans hb hg, r⟩
/-- The two shapes of what is owned: nil, or a row. -/
theorem ownsRow_cases (h : w.ownsRow base t 1 (.slice a n cap) n xs) : (a = none ∧ n = 0 ∧ cap = 0 ∧ xs = []) ∨ ∃ g L, a = some ⟨g, 0, none⟩ ∧ base ≤ g ∧ Row w g t L ∧ n ≤ cap ∧ cap ≤ maxLen ∧ L.length = cap ∧ L.take n = xs := by
  rcases h.2 with ⟨hv, hn⟩ | ⟨g, cap', cur, hv, hb, hg, hle, hm, hcs, htk⟩
  · cases hv
    exact .inl ⟨rfl, rfl, rfl, List.eq_nil_of_length_eq_zero (by simpa using h.1)⟩
  · cases hv
    exact .inr ⟨g, cur.toList, rfl, hb, by unfold Row; simpa using hg, hle, hm, by simpa using hcs, by simpa using htk⟩
theorem ownsRow_of {g : Nat} {L : List Value} (hr : Row w g t L) (hb : base ≤ g) (hl : L.length = n) (hm : n ≤ maxLen) : w.ownsRow base t 1 (.slice (some ⟨g, 0, none⟩) n n) n L :=
  ⟨by simpa using hl, .inr ⟨g, n, L.toArray, rfl, hb, hr, Nat.le_refl _, hm, by simpa using hl, by simp [← hl]⟩⟩
theorem ownsRow_nil (w : World) (base : Nat) (t : TypeId) : w.ownsRow base t 1 (.slice none 0 0) 0 [] := World.ownsRow_nil w base t 1
end owns

/-- What the frame of a law tells of a slice of numbers that came in. -/
def RowIn (k : IntKind) (w : World) (a : Option Addr) (len cap : Nat) (zs : List Int) : Prop :=
  (a = none ∧ len = 0 ∧ cap = 0 ∧ zs = []) ∨
  ∃ x, a = some x ∧ len ≤ cap ∧ cap ≤ maxLen ∧ zs.length = cap ∧ (∀ i, i < zs.length → w.cell? (x.add i) = some (.int k (zs.getD i 0))) ∧ ∀ n ∈ zs, (Lit.int k n).wf = true

theorem RowIn.open {k : IntKind} {w : World} {a : Option Addr} {len cap : Nat} {zs : List Int} (h : RowIn k w a len cap zs) :
    Sl w a (ints k (zs.take len)) ∧ (zs.take len).length = len ∧ len ≤ cap ∧ cap ≤ 9223372036854775807 ∧ (a = none → len = 0 ∧ cap = 0) ∧ ∀ n ∈ zs.take len, (Lit.int k n).wf = true := by
  rcases h with ⟨rfl, rfl, rfl, rfl⟩ | ⟨x, rfl, h1, h2, h3, h4, h5⟩
  · exact ⟨Sl.nil _ _, rfl, Nat.le_refl _, by omega, fun _ => ⟨rfl, rfl⟩, by simp⟩
  · refine ⟨?_, by rw [List.length_take]; omega, h1, by unfold maxLen at h2; omega, (fun h => by cases h), fun n hn => h5 n (List.mem_of_mem_take hn)⟩
    intro j hj
    rw [ints_length, List.length_take] at hj
    have hjz : j < zs.length := by omega
    refine ⟨x, rfl, ?_⟩
    rw [h4 j hjz, ints_getElem]
    simp [List.getD, hjz]

theorem splice_set {α : Type} (L : List α) (off : Nat) (cs : List α) (v : α) (h : off + cs.length < L.length) :
    (splice L off cs).set (off + cs.length) v = splice L off (cs ++ [v]) := by
  unfold splice
  have h1 : (L.take off).length = off := by simp; omega
  rw [List.set_append_right _ _ (by omega), h1, Nat.add_sub_cancel_left, List.set_append_right _ _ (Nat.le_refl _), Nat.sub_self]
  have h2 : L.drop (off + cs.length) = L[off + cs.length] :: L.drop (off + cs.length + 1) := List.drop_eq_getElem_cons h
  rw [h2]
  simp [Nat.add_assoc]
theorem splice_nil {α : Type} (L : List α) (off : Nat) : splice L off [] = L := by simp [splice]
end Go.Proofs.Ytnodinancnfoeaa.Mem
/- Numbers as bytes, least first: plain lemmas with no program in sight. -/
namespace Go.Proofs.Ytnodinancnfoeaa.Plain

def byteAt (n : Int) (i : Nat) : Int := n / 256 ^ i % 256
def bytesOf (s : Nat) (n : Int) : List Int := (List.range s).map (byteAt n)
def numOf : List Int → Int
  | [] => 0
  | x :: xs => x + 256 * numOf xs
def isBytes (l : List Int) : Prop := ∀ x ∈ l, 0 ≤ x ∧ x < 256

theorem byteAt_bd (n : Int) (i : Nat) : 0 ≤ byteAt n i ∧ byteAt n i < 256 := by unfold byteAt; omega
theorem length_bytesOf (s : Nat) (n : Int) : (bytesOf s n).length = s := by simp [bytesOf]
theorem bytesOf_zero (n : Int) : bytesOf 0 n = [] := rfl
theorem bytesOf_succ (s : Nat) (n : Int) : bytesOf (s + 1) n = bytesOf s n ++ [byteAt n s] := by simp [bytesOf, List.range_succ]
theorem getElem_bytesOf (s : Nat) (n : Int) (i : Nat) (h : i < s) : (bytesOf s n)[i]? = some (byteAt n i) := by simp [bytesOf, h]
theorem isBytes_bytesOf (s : Nat) (n : Int) : isBytes (bytesOf s n) := by
  intro x hx
  obtain ⟨i, _, rfl⟩ := List.mem_map.1 hx
  exact byteAt_bd n i
theorem bytesOf_cons (s : Nat) (n : Int) : bytesOf (s + 1) n = n % 256 :: bytesOf s (n / 256) := by
  apply List.ext_getElem?
  intro i
  cases i with
  | zero => rw [getElem_bytesOf _ _ _ (by omega)]; simp [byteAt]
  | succ i =>
    by_cases h : i < s
    · rw [getElem_bytesOf _ _ _ (by omega), List.getElem?_cons_succ, getElem_bytesOf _ _ _ h]
      unfold byteAt
      rw [Int.pow_succ', ← Int.ediv_ediv_of_nonneg (by decide)]
    · rw [List.getElem?_eq_none (by rw [length_bytesOf]; omega), List.getElem?_eq_none (by simp [length_bytesOf]; omega)]

theorem pow_pos (i : Nat) : (0 : Int) < 256 ^ i := Int.pow_pos (by decide)
theorem isBytes_cons {x : Int} {l : List Int} : isBytes (x :: l) ↔ (0 ≤ x ∧ x < 256) ∧ isBytes l := by simp [isBytes]
theorem isBytes_append {l m : List Int} : isBytes (l ++ m) ↔ isBytes l ∧ isBytes m := by
  unfold isBytes; simp only [List.mem_append]
  exact ⟨fun h => ⟨fun x hx => h x (.inl hx), fun x hx => h x (.inr hx)⟩, fun h x hx => hx.elim (h.1 x) (h.2 x)⟩
theorem isBytes_take {l : List Int} (h : isBytes l) (n : Nat) : isBytes (l.take n) := fun x hx => h x (List.mem_of_mem_take hx)
theorem isBytes_drop {l : List Int} (h : isBytes l) (n : Nat) : isBytes (l.drop n) := fun x hx => h x (List.mem_of_mem_drop hx)
theorem isBytes_nil : isBytes [] := by simp [isBytes]

theorem numOf_nonneg {l : List Int} (h : isBytes l) : 0 ≤ numOf l := by
  induction l with
  | nil => simp [numOf]
  | cons x xs ih => rw [isBytes_cons] at h; have := ih h.2; simp only [numOf]; omega
theorem numOf_lt {l : List Int} (h : isBytes l) : numOf l < 256 ^ l.length := by
  induction l with
  | nil => simp [numOf]
  | cons x xs ih => rw [isBytes_cons] at h; have := ih h.2; simp only [numOf, List.length_cons, Int.pow_succ]; omega
theorem numOf_append (l m : List Int) : numOf (l ++ m) = numOf l + 256 ^ l.length * numOf m := by
  induction l with
  | nil => simp [numOf]
  | cons x xs ih => simp only [List.cons_append, numOf, ih, List.length_cons, Int.pow_succ', Int.mul_add, Int.mul_assoc]; omega
theorem numOf_snoc (l : List Int) (x : Int) : numOf (l ++ [x]) = numOf l + 256 ^ l.length * x := by rw [numOf_append]; simp [numOf]

theorem numOf_bytesOf (s : Nat) (n : Int) (h0 : 0 ≤ n) : numOf (bytesOf s n) = n % 256 ^ s := by
  induction s generalizing n with
  | zero => simp [bytesOf, numOf, Int.emod_one]
  | succ s ih =>
    rw [bytesOf_cons]
    simp only [numOf]
    rw [ih _ (by omega), Int.pow_succ']
    have hp := pow_pos s
    have e1 : n % (256 * 256 ^ s) = n - 256 * 256 ^ s * (n / (256 * 256 ^ s)) := Int.emod_def _ _
    have e2 : n / 256 % 256 ^ s = n / 256 - 256 ^ s * (n / 256 / 256 ^ s) := Int.emod_def _ _
    rw [e1, e2, ← Int.ediv_ediv_of_nonneg (by decide), Int.mul_sub, Int.mul_assoc]
    omega
theorem numOf_bytesOf_of (s : Nat) (n : Int) (h0 : 0 ≤ n) (h : n < 256 ^ s) : numOf (bytesOf s n) = n := by
  rw [numOf_bytesOf s n h0, Int.emod_eq_of_lt h0 h]
theorem bytesOf_numOf (l : List Int) (h : isBytes l) : bytesOf l.length (numOf l) = l := by
  induction l with
  | nil => rfl
  | cons x xs ih =>
    rw [isBytes_cons] at h
    rw [List.length_cons, bytesOf_cons]
    simp only [numOf]
    rw [show (x + 256 * numOf xs) % 256 = x by omega, show (x + 256 * numOf xs) / 256 = numOf xs by omega, ih h.2]
theorem numOf_inj {l m : List Int} (hl : isBytes l) (hm : isBytes m) (hlen : l.length = m.length) (h : numOf l = numOf m) : l = m := by
  rw [← bytesOf_numOf l hl, ← bytesOf_numOf m hm, hlen, h]

theorem p1 : (256 : Int) ^ 1 = 256 := by decide
theorem p2 : (256 : Int) ^ 2 = 65536 := by decide
theorem p3 : (256 : Int) ^ 3 = 16777216 := by decide
theorem p4 : (256 : Int) ^ 4 = 4294967296 := by decide
theorem p5 : (256 : Int) ^ 5 = 1099511627776 := by decide
theorem p6 : (256 : Int) ^ 6 = 281474976710656 := by decide
theorem p7 : (256 : Int) ^ 7 = 72057594037927936 := by decide
theorem p8 : (256 : Int) ^ 8 = 18446744073709551616 := by decide
theorem pow_mono {i j : Nat} (h : i ≤ j) : (256 : Int) ^ i ≤ 256 ^ j := by
  obtain ⟨d, rfl⟩ := Nat.exists_eq_add_of_le h
  rw [Int.pow_add]
  have h1 := pow_pos i
  have h2 := pow_pos d
  have h3 : (256 : Int) ^ i * 1 ≤ 256 ^ i * 256 ^ d := Int.mul_le_mul_of_nonneg_left (by omega) (by omega)
  omega
theorem two_pow (i : Nat) : (2 : Int) ^ (8 * i) = 256 ^ i := by rw [Int.pow_mul]; rfl
theorem numOf_lt64 {l : List Int} (h : isBytes l) (hl : l.length ≤ 8) : numOf l < 18446744073709551616 := by
  have h1 := numOf_lt h
  have h2 := pow_mono hl
  have h3 := p8
  omega

theorem div_zero {n d : Int} (h0 : 0 ≤ n) (hd : 0 < d) : n / d = 0 ↔ n < d := by
  constructor
  · intro h
    have h1 := Int.emod_lt_of_pos n hd
    have h2 := Int.mul_ediv_add_emod n d
    rw [h] at h2
    omega
  · exact fun h => Int.ediv_eq_zero_of_lt h0 h
end Go.Proofs.Ytnodinancnfoeaa.Plain
/- What single operations do, in the words of XMem; no program named: make, copy, a string of bytes. -/
namespace Go.Proofs.Ytnodinancnfoeaa.Ops
open Go.RowKit Words Mem Plain
set_option linter.unusedVariables false
section
variable {P : Program}

theorem madeCells_int (k : IntKind) (x : Int) (n : Nat) : madeCells #[.int k x] n = (ints k (List.replicate n x)).toArray := by
  apply Array.toList_inj.1
  rw [toList_madeCells_one, ints_replicate]

theorem run_make_ints (w : World) (t e : TypeId) (k : IntKind) (bts : Nat) (ht : P.underlying t = some (.slice e)) (hi : (P.info? e).map (fun i => (i.zero, i.size, i.bytes)) = some (some (.int k 0), 1, bts))
    (kl kc : IntKind) (N : Int) (n : Nat) (hN : N = n) (hb : bts * n ≤ 281474976710656) (hm : n ≤ 9223372036854775807) :
    (Instr.makeSlice t (.int kl N) (.int kc N)).run P w = .ok (.slice (some ⟨w.heap.size, 0, none⟩) n n) (w.alloc (.cells (ints k (List.replicate n 0)).toArray e)) := by
  obtain ⟨i, h2, h3, h4, h5⟩ := info_parts hi
  subst hN
  have := run_make (P := P) w t e i _ ht h2 h3 kl kc n n (by omega) (by omega) (by rw [h5]; have e := Int.natCast_mul bts n; omega) (by omega)
  rw [this, h4]
  simp only [Value.cells, Nat.mul_one, Int.toNat_natCast, madeCells_int]

theorem setRow_same {w : World} {g : Nat} {t : TypeId} {L : List Value} (h : Row w g t L) : w.setRow g L.toArray = w := by
  have hlt := h.lt
  have hv : w.heap[g] = .cells L.toArray t (0, 0) := (Array.getElem?_eq_some_iff.1 h).2
  have e : (w.setRow g L.toArray).heap = w.heap := by
    apply Array.ext_getElem?
    intro i
    by_cases hi : i = g
    · subst hi; rw [setRow_heap w i _ _ t _ h]; exact h.symm
    · rw [setRow_other w g i _ hi]
  unfold World.setRow at e ⊢
  exact congrArg (fun x => { w with heap := x }) e
theorem setRow_new (w : World) (e : TypeId) (c c' : Array Value) : (w.alloc (.cells c e)).setRow w.heap.size c' = w.alloc (.cells c' e) := by
  have : ((w.alloc (.cells c e)).setRow w.heap.size c').heap = (w.alloc (.cells c' e)).heap := by
    apply Array.ext_getElem?
    intro i
    by_cases hi : i = w.heap.size
    · subst hi
      rw [setRow_heap _ _ c c' e (0, 0) (heap_alloc_new w _), heap_alloc_new]
    · rw [setRow_other _ _ _ _ hi]
      show (w.heap.push _)[i]? = (w.heap.push _)[i]?
      rw [Array.getElem?_push, Array.getElem?_push, if_neg hi, if_neg hi]
  exact congrArg (fun x => { w with heap := x }) this
theorem setCell_row {w : World} {g : Nat} {t : TypeId} {L : List Value} (h : Row w g t L) (j : Nat) (v : Value) : w.setCell ⟨g, j, none⟩ v = w.setRow g (L.set j v).toArray := by
  rw [setCell_eq_setRow w g j L.toArray t (0, 0) v h]; simp

theorem run_copy_sl (w : World) (dT sT ty elem : TypeId) {g o : Nat} (dLen dCap : Nat) {a : Option Addr} (sLen sCap : Nat) {t : TypeId} {L xs : List Value}
    (hu : P.underlying dT = some (.slice elem)) (hs : (P.info? elem).map (·.size) = some 1) (hr : Row w g t L) (hx : Sl w a xs) (hl : xs.length = sLen)
    (hfit : o + min sLen dLen ≤ L.length) (h1 : ∀ v ∈ xs, v.oneCell' = true) :
    (Builtin.copy_ #[dT, sT] ty #[.slice (some ⟨g, o, none⟩) dLen dCap, .slice a sLen sCap]).run P w = .ok (goInt (min sLen dLen : Nat)) (w.setRow g (splice L o (xs.take dLen)).toArray) := by
  have emin : Nat.min sLen dLen = min sLen dLen := rfl
  have hlen : (xs.take dLen).length = Nat.min sLen dLen := by rw [emin, List.length_take, hl]; omega
  by_cases h0 : Nat.min sLen dLen = 0
  · rw [run_copy_none (P := P) w dT sT ty elem _ a dLen dCap sLen sCap hu hs h0]
    have : xs.take dLen = [] := List.eq_nil_of_length_eq_zero (by omega)
    rw [this, splice_nil, setRow_same hr, show min sLen dLen = 0 from h0]; rfl
  · have hpos : 0 < xs.length := by rw [hl]; omega
    obtain ⟨b, off, rfl, hc⟩ := hx.at hpos
    have hx' := hx
    rw [run_copy_row (P := P) w dT sT ty elem g o dLen dCap ⟨b, off, none⟩ sLen sCap L.toArray t (xs.take dLen) hu hs hr hlen ?_ (by rw [hlen, emin]; simpa using hfit) (fun v hv => h1 v (List.mem_of_mem_take hv))]
    · rw [hlen, emin]; simp [splice, hl, Nat.min_comm]
    · intro j v hv
      have hj : j < xs.length := by
        have := (List.getElem?_eq_some_iff.1 hv).1
        simp at this; omega
      obtain ⟨ad, had, hcell⟩ := hx' j hj
      cases had
      rw [hcell]
      rw [List.getElem?_take] at hv
      split at hv
      · rw [← hv]; simp [hj]
      · cases hv

/-- Numbers as the bytes of a string. -/
def strOf (l : List Int) : ByteArray := ⟨(l.map fun x => UInt8.ofNat x.toNat).toArray⟩
theorem strOf_toList (l : List Int) : (strOf l).toList = l.map fun x => UInt8.ofNat x.toNat := by
  rw [ByteArray.toList_eq]; simp [strOf]
theorem strOf_size (l : List Int) : (strOf l).size = l.length := by simp [strOf, ByteArray.size]
theorem strOf_eq {l m : List Int} (hl : isBytes l) (hm : isBytes m) : ((strOf l).toList == (strOf m).toList) = decide (l = m) := by
  rw [strOf_toList, strOf_toList]
  rw [Bool.eq_iff_iff, beq_iff_eq, decide_eq_true_iff]
  refine ⟨fun h => ?_, fun h => by rw [h]⟩
  have h' := congrArg (List.map fun u : UInt8 => (u.toNat : Int)) h
  rw [List.map_map, List.map_map] at h'
  have key : ∀ {l : List Int}, isBytes l → l.map ((fun u : UInt8 => (u.toNat : Int)) ∘ fun x => UInt8.ofNat x.toNat) = l := by
    intro l hl
    conv => rhs; rw [← List.map_id l]
    apply List.map_congr_left
    intro x hx
    have := hl x hx
    simp only [Function.comp]
    rw [UInt8.toNat_ofNat']
    simp
    omega
  rwa [key hl, key hm] at h'
theorem strOf_append (l m : List Int) : strOf (l ++ m) = strOf l ++ strOf m := by
  apply ByteArray.ext
  simp [strOf]

theorem run_string_sl (w : World) {a : Option Addr} {n : Nat} (cap : Nat) {xs : List Int} (h : Sl w a (ints .u8 xs)) (hl : xs.length = n) :
    (Conv.bytesToString (.slice a n cap)).run P w = .ok (.string (strOf xs)) w := by
  have hpush : ∀ (ns : List Int) (s : ByteArray), ns.foldl (fun r n => r.push (UInt8.ofNat n.toNat)) s = s ++ strOf ns := by
    intro ns
    induction ns with
    | nil => intro s; simp [strOf]; apply ByteArray.ext; simp
    | cons x ns ih => intro s; rw [List.foldl_cons, ih]; apply ByteArray.ext; simp [strOf]
  cases a with
  | none =>
    have : xs = [] := by
      cases xs with
      | nil => rfl
      | cons x xs => obtain ⟨ad, had, _⟩ := h 0 (by simp [ints]); cases had
    subst this
    rfl
  | some ad =>
    have hload := run_loadCells_list (P := P) w ad (ints .u8 xs) (by
      intro j v hv
      have hj := (List.getElem?_eq_some_iff.1 hv)
      obtain ⟨hj, e⟩ := hj
      obtain ⟨ad', had, hc⟩ := h j hj
      cases had
      rw [hc, e])
    rw [ints_length, hl] at hload
    rw [run_bytesToString w ad n cap xs (by simpa [ints] using hload), hpush]
    congr 2

/-- 'string(b)'. -/
theorem run_conv_str (w : World) (src dst e : TypeId) (hs : P.underlying src = some (.slice e)) (he : P.underlying e = some (.int .u8)) (hd : P.underlying dst = some .string)
    {a : Option Addr} {n : Nat} (cap : Nat) {xs : List Int} (h : Sl w a (ints .u8 xs)) (hl : xs.length = n) :
    (convert src dst (.slice a n cap)).run P w = .ok (.string (strOf xs)) w := by
  rw [run_convert_bytes_string w src dst e a n cap hs he hd, run_string_sl w cap h hl]

theorem Ext_grown {w0 w w' : World} {base : Nat} {row : Option Nat} (h : Ext w0 w) (hb : w0.heap.size ≤ base) (hbs : base ≤ w.heap.size) (hg : w.grownBy w' row) (hr : ∀ k, row = some k → base ≤ k) : Ext w0 w' :=
  Below.grown h hg (Nat.le_trans hb hbs) fun k hk => Nat.le_trans hb (hr k hk)

/-- append of a slice to what is owned. -/
theorem run_append_sl (w : World) (base : Nat) (t ty e : TypeId) (z : Value) (bts : Nat) (ht : P.underlying t = some (.slice e)) (hi : (P.info? e).map (fun i => (i.zero, i.size, i.bytes)) = some (some z, 1, bts)) (hz1 : z.cells.size = 1)
    {a0 : Option Addr} {n cap0 : Nat} {xs : List Value} (hown : w.ownsRow base e 1 (.slice a0 n cap0) n xs) {a : Option Addr} {m : Nat} (c : Nat) {news : List Value} (hl : news.length = m) (hx : Sl w a news) (hnil : a = none → m = 0 ∧ c = 0) (h1 : ∀ u ∈ news, u.oneCell' = true)
    (hb : (n + m) * bts ≤ 140737488355328) (h63 : n + m ≤ 9223372036854775807) (hbase : base ≤ w.heap.size) :
    ∃ a' cap' w', (Builtin.append_ #[t, t] ty #[.slice a0 n cap0, .slice a m c]).run P w = .ok (.slice a' (n + m) cap') w' ∧ w'.ownsRow base e 1 (.slice a' (n + m) cap') (n + m) (xs ++ news) ∧ ∀ w0, Ext w0 w → w0.heap.size ≤ base → Ext w0 w' := by
  obtain ⟨i, h2, h3, h4, h5⟩ := info_parts hi
  cases a with
  | none =>
    obtain ⟨rfl, rfl⟩ := hnil rfl
    have : news = [] := List.eq_nil_of_length_eq_zero hl
    subst this
    exact ⟨a0, cap0, w, run_append_owned_none (P := P) (w := w) base t ty e i 1 ht h2 _ n xs hown, by simpa using hown, fun w0 h _ => h⟩
  | some ad =>
    obtain ⟨v', w', hrun, hown', hg, _⟩ := run_append_own (P := P) w base t ty e i z 1 bts ht h2 h3 h4 h5 hz1 (by decide) _ n xs hown ad m c news (by simpa using hl) (fun j u hu => by
      obtain ⟨hj, e⟩ := List.getElem?_eq_some_iff.1 hu
      obtain ⟨ad', had, hc⟩ := hx j hj
      cases had; rw [hc, e]) h1 (by unfold maxLen; omega) hb hbase
    have hlt := hown.lt
    have hv : ∃ a' cap', v' = .slice a' (n + m) cap' := by
      rcases hown'.2 with ⟨rfl, hn⟩ | ⟨g, cap', cur, rfl, _⟩
      · exact ⟨none, 0, by rw [hn]⟩
      · exact ⟨_, cap', rfl⟩
    obtain ⟨a', cap', rfl⟩ := hv
    exact ⟨a', cap', w', hrun, hown', fun w0 h hb0 => Ext_grown h hb0 hbase hg (fun k hk => (hlt k hk).1)⟩

/-- append of one number that has just been laid in a block of its own. -/
theorem run_append_one (w : World) (base : Nat) (t ty e : TypeId) (k : IntKind) (bts : Nat) (ht : P.underlying t = some (.slice e)) (hi : (P.info? e).map (fun i => (i.zero, i.size, i.bytes)) = some (some (.int k 0), 1, bts))
    {a0 : Option Addr} {n cap0 : Nat} {xs : List Int} (hown : w.ownsRow base e 1 (.slice a0 n cap0) n (ints k xs)) (x : Int) (hb : (n + 1) * bts ≤ 140737488355328) (h63 : n + 1 ≤ 9223372036854775807) (hbase : base ≤ w.heap.size) :
    ∃ a' cap' w', (Builtin.append_ #[t, t] ty #[.slice a0 n cap0, .slice (some ⟨w.heap.size, 0, none⟩) 1 1]).run P (w.alloc (.cells #[.int k x] e)) = .ok (.slice a' (n + 1) cap') w' ∧ w'.ownsRow base e 1 (.slice a' (n + 1) cap') (n + 1) (ints k (xs ++ [x])) ∧ ∀ w0, Ext w0 w → w0.heap.size ≤ base → Ext w0 w' := by
  obtain ⟨a', cap', w', h1, h2, h3⟩ := run_append_sl (P := P) (w.alloc (.cells #[.int k x] e)) base t ty e (.int k 0) bts ht hi rfl (hown.alloc _) 1 (news := [.int k x]) rfl ((Row.new w e [.int k x]).sl0) (by simp) (by simp [Value.oneCell']) hb h63 (by simp; omega)
  exact ⟨a', cap', w', h1, by rw [ints_append]; exact h2, fun w0 h hb0 => h3 w0 (h.alloc _) hb0⟩
end
end Go.Proofs.Ytnodinancnfoeaa.Ops
/- Contracts of package field: fits, put, get. -/
namespace Go.Proofs.Ytnodinancnfoeaa.Field
open Go.RowKit Words Mem Plain Ops
set_option linter.unusedVariables false


theorem shr_byte (m : Int) (k : Nat) (hk : k < 8) : m / 2 ^ min (8 * (k : Int)).toNat 64 % 256 = byteAt m k := by
  unfold byteAt
  rw [← two_pow, show min (8 * (k : Int)).toNat 64 = 8 * k by omega]

set_option maxHeartbeats 400000 in
theorem put_ok (g off n cap : Nat) (m : Int) (L : List Value) (w : World) (hm0 : 0 ≤ m) (hm : m < 18446744073709551616) (hn : n ≤ 8) (hL : off + n ≤ L.length) (hR : Row w g 5 L) :
    Calls Try.prog 61 #[.slice (some ⟨g, off, none⟩) n cap, .int .u64 m] w fun e w' => e = .returned (.tuple #[]) ∧ Row w' g 5 (splice L off (ints .u8 (bytesOf n m))) ∧ By g w w' := by
  go_enter Try.func61, Try.ntmps61
  go_wp2
  go_loopw [7] (fun v wr => ∃ k : Nat, k ≤ n ∧ v = .int .i64 k ∧ Row wr g 5 (splice L off (ints .u8 (bytesOf k m))) ∧ By g w wr) (fun v _ => n - (intOf v).toNat)
  case atStart => exact ⟨0, by omega, rfl, by simpa [bytesOf, ints_nil, splice_nil] using hR, By.refl _ _⟩
  case round =>
    obtain ⟨k, hk, rfl, hr, hby⟩ := hrel
    by_cases hlt : k < n
    · have hlen : (splice L off (ints .u8 (bytesOf k m))).length = L.length := length_splice _ _ _ (by simp [ints_length, length_bytesOf]; omega)
      have hc := hr.cell (j := off + k) (by rw [hlen]; omega)
      have hf := hr.frozen (off + k)
      generalize (splice L off (ints .u8 (bytesOf k m)))[off + k] = old at hc
      clear hlen
      go_wp2
      go_roundw
      case rel =>
        refine ⟨k + 1, hlt, by go_num, ?_, hby.setTo _ _⟩
        have h1 := hr.set (off + k) (Value.int .u8 (m / 2 ^ (8 * k) % 256))
        have h2 := splice_set L off (ints .u8 (bytesOf k m)) (Value.int .u8 (m / 2 ^ (8 * k) % 256)) (by simp [ints_length, length_bytesOf]; omega)
        simp only [ints_length, length_bytesOf] at h2
        rw [h2] at h1
        rw [bytesOf_succ, ints_append, ints_single]
        unfold byteAt
        rw [← two_pow]
        exact h1
      case measure => simp [intOf]; omega
    · have : k = n := by omega
      subst this
      go_wp2
      go_end0
      exact ⟨rfl, hr, hby⟩

theorem or_join (s x : Int) (k : Nat) (hk : k < 8) (h0 : 0 ≤ s) (h1 : s < 256 ^ k) (hx0 : 0 ≤ x) (hx1 : x < 256) : bits .or .u64 s (IntKind.u64.wrap (x * 2 ^ (8 * k))) = s + 256 ^ k * x := by
  have hp := pow_pos k
  have h8 : (256 : Int) ^ (k + 1) ≤ 256 ^ 8 := pow_mono (by omega)
  rw [p8, Int.pow_succ] at h8
  have hxm : x * 256 ^ k ≤ 255 * 256 ^ k := Int.mul_le_mul_of_nonneg_right (by omega) (by omega)
  have hx00 : 0 ≤ x * 256 ^ k := Int.mul_nonneg hx0 (by omega)
  rw [two_pow, IntKind.wrap_u64, Int.emod_eq_of_lt hx00 (by omega)]
  obtain ⟨a, rfl⟩ := Int.eq_ofNat_of_zero_le h0
  obtain ⟨b, rfl⟩ := Int.eq_ofNat_of_zero_le hx0
  have h2 : (2 : Nat) ^ (8 * k) = 256 ^ k := by rw [Nat.pow_mul]
  have hN : (256 : Int) ^ k = ((256 ^ k : Nat) : Int) := by simp
  rw [hN] at hp h8 h1 hxm hx00 ⊢
  generalize 256 ^ k = N at *
  rw [← Int.natCast_mul, u64_or_nat _ _ (by omega) (by rw [← Int.natCast_mul] at hxm; omega), Nat.or_comm, nat_join (8 * k) _ _ (by rw [h2]; simp) (by omega)]
  rw [Int.natCast_add, Int.natCast_mul, Int.mul_comm, Int.add_comm]

theorem numOf_take_lt {xs : List Int} (h : isBytes xs) (k : Nat) : 0 ≤ numOf (xs.take k) ∧ numOf (xs.take k) < 256 ^ k := by
  refine ⟨numOf_nonneg (isBytes_take h k), ?_⟩
  have h1 := numOf_lt (isBytes_take h k)
  have h2 : (256 : Int) ^ (xs.take k).length ≤ 256 ^ k := pow_mono (by simp; omega)
  omega

set_option maxHeartbeats 400000 in
theorem get_pos (b off n cap : Nat) (xs : List Int) (w : World) (hl : xs.length = n) (hn : n ≤ 8) (hx : isBytes xs) (hc : ∀ j (hj : j < xs.length), w.cell? ⟨b, off + j, none⟩ = some (.int .u8 xs[j])) :
    Calls Try.prog 58 #[.slice (some ⟨b, off, none⟩) n cap] w fun e w' => e = .returned (.int .u64 (numOf xs)) ∧ w = w' := by
  have Hc := Lib.hid hc; clear hc
  go_enter Try.func58, Try.ntmps58
  go_wp2
  go_loop [3, 7] (fun s v => ∃ k : Nat, k ≤ n ∧ v = .int .i64 k ∧ s = .int .u64 (numOf (xs.take k))) (fun _ v => n - (intOf v).toNat)
  case atStart => exact ⟨0, by omega, rfl, by simp [numOf]⟩
  case round =>
    obtain ⟨k, hk, rfl, rfl⟩ := hrel
    by_cases hlt : k < n
    · have hcell := Hc.out k (by omega)
      have hb := hx xs[k] (List.getElem_mem (by omega))
      have hs := numOf_snoc (xs.take k) xs[k]
      have ht := numOf_take_lt hx k
      have hlk : (xs.take k).length = k := by simp; omega
      rw [hlk] at hs
      have HS := Lib.hid hs; clear hs
      generalize numOf (xs.take k) = s at *
      have hj := or_join s xs[k] k (by omega) ht.1 ht.2 hb.1 hb.2
      have HJ := Lib.hid hj; clear hj
      clear ht
      go_wp2
      go_round
      case rel => exact ⟨k + 1, hlt, by go_num, by rw [HJ.out, ← HS.out, List.take_succ_eq_append_getElem (by omega)]⟩
      case measure => simp [intOf]; omega
    · have : k = n := by omega
      subst this
      go_wp2
      go_ret
      rw [List.take_of_length_le (by omega)]
      exact ⟨rfl, rfl⟩

set_option maxHeartbeats 400000 in
theorem get_zero (a : Option Addr) (cap : Nat) (w : World) : Calls Try.prog 58 #[.slice a 0 cap] w fun e w' => e = .returned (.int .u64 0) ∧ w = w' := by
  go_enter Try.func58, Try.ntmps58
  go_wp2
  refine wp_loop_once ?_
  go_wp2
  go_ret
  exact ⟨rfl, rfl⟩

theorem get_ok (a : Option Addr) (n cap : Nat) (xs : List Int) (w : World) (hl : xs.length = n) (hn : n ≤ 8) (hx : isBytes xs) (hs : Sl w a (ints .u8 xs)) :
    Calls Try.prog 58 #[.slice a n cap] w fun e w' => e = .returned (.int .u64 (numOf xs)) ∧ w = w' := by
  by_cases h0 : n = 0
  · subst h0
    have : xs = [] := List.eq_nil_of_length_eq_zero hl
    subst this
    exact get_zero a cap w
  · obtain ⟨b, off, rfl, hc⟩ := hs.ints (by omega)
    exact get_pos b off n cap xs w hl hn hx hc

/-- May a number stand in so many bytes? -/
def fitsB (n : Int) (s : Nat) : Bool := decide (n < 256 ^ s)
theorem fits_ok (n : Int) (s : Nat) (h0 : 0 ≤ n) (h : n < 18446744073709551616) (h1 : 1 ≤ s) (h8 : s ≤ 8) (w : World) :
    Calls Try.prog 60 #[.int .u64 n, .int .i64 s] w fun e w' => e = .returned (.bool (fitsB n s)) ∧ w = w' := by
  by_cases hs : s = 8
  · subst hs
    have : fitsB n 8 = true := by unfold fitsB; rw [p8]; simp; omega
    rw [this]
    go_enter Try.func60, Try.ntmps60
    go_wp2
    go_ret
    exact ⟨rfl, rfl⟩
  · have hq : (n / 2 ^ (8 * s) == 0) = fitsB n s := by
      unfold fitsB
      rw [two_pow]
      have hp := pow_pos s
      rw [Bool.eq_iff_iff]
      simp only [beq_iff_eq, decide_eq_true_eq]
      exact div_zero h0 hp
    have hs' : ((s : Int) == 8) = false := by simp; omega
    rw [← hq]
    clear hq
    go_enter Try.func60, Try.ntmps60
    go_wp2
    go_ret
    exact ⟨rfl, rfl⟩

theorem info8 : (Try.prog.info? 5).map (fun i => (i.zero, i.size, i.bytes)) = some (some (.int .u8 0), 1, 1) := by kernel_rfl
theorem size8 : (Try.prog.info? 5).map (·.size) = some 1 := by kernel_rfl
theorem make8 (w : World) (N : Int) (n : Nat) (hN : N = n) (hm : n ≤ 281474976710656) : (Instr.makeSlice 26 (.int .i64 N) (.int .i64 N)).run Try.prog w = .ok (.slice (some ⟨w.heap.size, 0, none⟩) n n) (w.alloc (.cells (ints .u8 (List.replicate n 0)).toArray 5)) :=
  run_make_ints w 26 5 .u8 1 Try.underlying26 info8 .i64 .i64 N n hN (by omega) (by omega)

/-- Numbers one behind the other, in s bytes each. -/
def layed (s : Nat) (l : List Int) : List Int := l.flatMap (bytesOf s)
theorem length_layed (s : Nat) (l : List Int) : (layed s l).length = s * l.length := by
  induction l with
  | nil => simp [layed]
  | cons x l ih => simp only [layed, List.flatMap_cons, List.length_append, length_bytesOf, List.length_cons] at ih ⊢; rw [ih, Nat.mul_add]; omega
theorem layed_snoc (s : Nat) (l : List Int) (x : Int) : layed s (l ++ [x]) = layed s l ++ bytesOf s x := by simp [layed]
theorem isBytes_layed (s : Nat) (l : List Int) : isBytes (layed s l) := by
  intro x hx
  obtain ⟨y, _, hy⟩ := List.mem_flatMap.1 hx
  exact isBytes_bytesOf s y x hy

/-- The numbers that stand there, up to the one that does not fit. -/
def allFit (s : Nat) (l : List Int) : Bool := l.all (fitsB · s)


theorem Lay_step (s k n : Nat) (l : List Int) (x : Int) (hk : k < n) (hl : l.length = n) (hx : l[k]? = some x) :
    splice (ints .u8 (layed s (l.take k) ++ List.replicate (s * n - s * k) 0)) (s * k) (ints .u8 (bytesOf s x)) = ints .u8 (layed s (l.take (k + 1)) ++ List.replicate (s * n - s * (k + 1)) 0) := by
  obtain ⟨hk', e⟩ := List.getElem?_eq_some_iff.1 hx
  rw [List.take_succ_eq_append_getElem hk', layed_snoc, e]
  have h1 : (layed s (l.take k)).length = s * k := by rw [length_layed, List.length_take]; congr 1; omega
  have h2 : s * (k + 1) = s * k + s := by rw [Nat.mul_add]; omega
  have h3 : s * (k + 1) ≤ s * n := Nat.mul_le_mul_left s hk
  rw [h2] at h3 ⊢
  generalize s * k = p at *
  generalize s * n = q at *
  unfold splice
  simp only [ints_take, ints_drop, ints_length, length_bytesOf, ← ints_append]
  congr 1
  rw [List.take_append_of_le_length (by omega), List.take_of_length_le (by omega), List.drop_append, List.drop_of_length_le (by omega), h1]
  simp only [List.nil_append, List.drop_replicate, List.append_assoc]
  congr 3
  omega

set_option maxHeartbeats 1000000 in
theorem Lay_pos (s b off n cap : Nat) (l : List Int) (w : World) (hs1 : 1 ≤ s) (hs8 : s ≤ 8) (hl : l.length = n) (hc : ∀ j (hj : j < l.length), w.cell? ⟨b, off + j, none⟩ = some (.int .u64 l[j])) (hbw : b < w.heap.size) (hu : ∀ x ∈ l, 0 ≤ x ∧ x < 18446744073709551616) (hn : n ≤ 4096 / s) (hf : ∀ x ∈ l, fitsB x s = true) :
    Calls Try.prog 49 #[.int .i64 s, .slice (some ⟨b, off, none⟩) n cap] w fun e w' => e = .returned (.tuple #[.slice (some ⟨w.heap.size, 0, none⟩) (s * n) (s * n), .int .i64 0]) ∧ Row w' w.heap.size 5 (ints .u8 (layed s l)) ∧ Ext w w' := by
  have hsn : s * n ≤ 4096 := by have := Nat.mul_le_mul_left s hn; have := Nat.mul_div_le 4096 s; omega
  have hmk := make8 w ((s : Int) * n) (s * n) (by simp) (by omega)
  have hn1 : (n : Int) ≤ 4096 / (s : Int) := by rw [show (4096 : Int) / (s : Int) = ((4096 / s : Nat) : Int) by simp]; omega
  have hn2 : n ≤ 4096 := by have := Nat.mul_le_mul_right n hs1; omega
  clear hn
  have HU := Lib.hid hu; clear hu
  have HF := Lib.hid hf; clear hf
  have HC := Lib.hid hc; clear hc
  have HL := Lib.hid hl; clear hl
  go_enter Try.func49, Try.ntmps49
  go_wp2_with fail
  clear hmk hn1
  go_loopw [29] (fun v wr => ∃ k : Nat, k ≤ n ∧ v = .int .i64 k ∧ Row wr w.heap.size 5 (ints .u8 (layed s (l.take k) ++ List.replicate (s * n - s * k) 0)) ∧ Ext w wr) (fun v _ => n - (intOf v).toNat)
  case atStart => exact ⟨0, by omega, rfl, by simpa [layed] using Row.new w 5 (ints .u8 (List.replicate (s * n) 0)), (Ext.refl w).alloc _⟩
  case round =>
    obtain ⟨k, hk, rfl, hr, hX⟩ := hrel
    by_cases hlt : k < n
    · have hlk : k < l.length := by rw [HL.out]; exact hlt
      have hcell := HC.out k hlk
      rw [← hX.cell (p := ⟨b, off + k, none⟩) hbw] at hcell
      have hfx := HF.out l[k] (List.getElem_mem hlk)
      have hux := HU.out l[k] (List.getElem_mem hlk)
      have hstep := Lay_step s k n l l[k] hlt HL.out (by simp)
      generalize l[k] = x at *
      have HS := Lib.hid hstep; clear hstep
      have hy : (layed s (l.take k)).length = s * k := by rw [length_layed, List.length_take]; congr 1; omega
      have HY := Lib.hid hy; clear hy
      clear hlk
      obtain ⟨hu0, hu1⟩ := hux
      have e1 : (k : Int) * s = ((s * k : Nat) : Int) := by simp [Int.mul_comm]
      have e2 : ((k : Int) + 1) * s = ((s * k : Nat) : Int) + s := by rw [Int.add_mul, e1]; simp
      have e3 : s * (k + 1) ≤ s * n := Nat.mul_le_mul_left s hlt
      have e4 : s * (k + 1) = s * k + s := by rw [Nat.mul_add]; omega
      rw [e4] at e3 HS
      clear e4
      have hp : ¬ (s * n = s * k) := by omega
      generalize hq : s * n = q at *
      generalize hpp : s * k = p at *
      have HQ := Lib.hid hq; clear hq
      have HP := Lib.hid hpp; clear hpp
      go_wp2_with fail
      refine (fits_ok x s hu0 hu1 hs1 hs8 _).mono ?_
      rintro e w' ⟨rfl, rfl⟩
      rw [hfx]
      go_wp2_with fail
      refine (put_ok w.heap.size p s (q - p) x _ wr hu0 hu1 hs8 (by rw [ints_length, List.length_append, List.length_replicate, HY.out]; omega) hr).mono ?_
      rintro e w' ⟨rfl, hr', hby⟩
      rw [HS.out] at hr'
      replace hX := hX.by hby (Nat.le_refl _)
      clear hr hby hp e3
      go_wp2
      go_roundw
      case rel => exact ⟨k + 1, hlt, by go_num, by rw [Nat.mul_add, HP.out, Nat.mul_one]; exact hr', hX⟩
      case measure => simp [intOf]; omega
    · have : k = n := by omega
      subst this
      go_wp2
      go_ret2
      refine ⟨rfl, ?_, hX⟩
      rw [List.take_of_length_le (by rw [HL.out]; exact Nat.le_refl _), Nat.sub_self] at hr
      simpa using hr

set_option maxHeartbeats 400000 in
theorem Lay_zero (s : Nat) (a : Option Addr) (cap : Nat) (w : World) (hs1 : 1 ≤ s) (hs8 : s ≤ 8) :
    Calls Try.prog 49 #[.int .i64 s, .slice a 0 cap] w fun e w' => e = .returned (.tuple #[.slice (some ⟨w.heap.size, 0, none⟩) 0 0, .int .i64 0]) ∧ Row w' w.heap.size 5 [] ∧ Ext w w' := by
  have hmk := make8 w 0 0 (by simp) (by omega)
  have hq : (0 : Int) ≤ 4096 / (s : Int) := Int.ediv_nonneg (by decide) (by omega)
  go_enter Try.func49, Try.ntmps49
  go_wp2_with fail
  clear hmk hq
  refine wp_loop_once ?_
  go_wp2
  go_ret2
  exact ⟨rfl, Row.new w 5 [], (Ext.refl w).alloc _⟩

theorem Lay_ok (s : Nat) (a : Option Addr) (n cap : Nat) (l : List Int) (w : World) (hs1 : 1 ≤ s) (hs8 : s ≤ 8) (hl : l.length = n) (hx : Sl w a (ints .u64 l)) (hu : ∀ x ∈ l, 0 ≤ x ∧ x < 18446744073709551616) (hn : n ≤ 4096 / s) (hf : ∀ x ∈ l, fitsB x s = true) :
    Calls Try.prog 49 #[.int .i64 s, .slice a n cap] w fun e w' => e = .returned (.tuple #[.slice (some ⟨w.heap.size, 0, none⟩) (s * n) (s * n), .int .i64 0]) ∧ Row w' w.heap.size 5 (ints .u8 (layed s l)) ∧ Ext w w' := by
  by_cases h0 : n = 0
  · subst h0
    have : l = [] := List.eq_nil_of_length_eq_zero hl
    subst this
    exact Lay_zero s a cap w hs1 hs8
  · obtain ⟨b, off, rfl, hc⟩ := hx.ints (by omega)
    exact Lay_pos s b off n cap l w hs1 hs8 hl hc (hx.lt (by rw [ints_length]; omega) _ rfl) hu hn hf
end Go.Proofs.Ytnodinancnfoeaa.Field
/- A list of the call's own, and a code. -/
namespace Go.Proofs.Ytnodinancnfoeaa.Field
open Go.RowKit Words Mem Plain Ops
set_option linter.unusedVariables false
set_option linter.unusedSimpArgs false

def Gave (k : IntKind) (t : TypeId) (w : World) (r : List Int × Int) (e : Ending) (w' : World) : Prop :=
  ∃ a cap, e = .returned (.tuple #[.slice a r.1.length cap, .int .i64 r.2]) ∧ w'.ownsRow w.heap.size t 1 (.slice a r.1.length cap) r.1.length (ints k r.1) ∧ Ext w w'
theorem Gave.nil {k : IntKind} {t : TypeId} {w w' : World} {e : Ending} {c : Int} (he : e = .returned (.tuple #[.slice none 0 0, .int .i64 c])) (h : Ext w w') : Gave k t w ([], c) e w' :=
  ⟨none, 0, he, ownsRow_nil _ _ _, h⟩
theorem Gave.row {k : IntKind} {t : TypeId} {w w' : World} {e : Ending} {L : List Int} {n : Nat} {c : Int} (he : e = .returned (.tuple #[.slice (some ⟨w.heap.size, 0, none⟩) n n, .int .i64 c])) (hl : L.length = n) (hm : n ≤ maxLen) (hr : Row w' w.heap.size t (ints k L)) (h : Ext w w') : Gave k t w (L, c) e w' := by
  subst hl
  exact ⟨_, _, he, ownsRow_of hr (Nat.le_refl _) (by rw [ints_length]) hm, h⟩
theorem Gave.own {k : IntKind} {t : TypeId} {w w' : World} {e : Ending} {L : List Int} {n cap : Nat} {a : Option Addr} {c : Int} (he : e = .returned (.tuple #[.slice a n cap, .int .i64 c])) (hl : L.length = n) (hr : w'.ownsRow w.heap.size t 1 (.slice a n cap) n (ints k L)) (h : Ext w w') : Gave k t w (L, c) e w' := by
  subst hl
  exact ⟨_, _, he, hr, h⟩
theorem own_cap {w : World} {base : Nat} {t : TypeId} {a : Option Addr} {n cap : Nat} {xs : List Value} (h : w.ownsRow base t 1 (.slice a n cap) n xs) : n ≤ cap ∧ cap ≤ 9223372036854775807 := by
  rcases ownsRow_cases h with ⟨_, h2, h3, _⟩ | ⟨g, M, h1, _, _, h4, h5, _⟩
  · omega
  · unfold maxLen at h5; omega
theorem own_lt {w : World} {base : Nat} {t : TypeId} {a : Option Addr} {n cap : Nat} {xs : List Value} (h : w.ownsRow base t 1 (.slice a n cap) n xs) : ∀ ad, a = some ad → base ≤ ad.block := by
  rcases ownsRow_cases h with ⟨h1, _⟩ | ⟨g, M, h1, h2, _⟩
  · intro ad e; rw [h1] at e; cases e
  · intro ad e; rw [h1] at e; cases e; exact h2
def OwnB0 (w : World) (L : List Int) (e : Ending) (w' : World) : Prop :=
  ∃ a cap, e = .returned (.tuple #[.slice a L.length cap, .int .i64 0]) ∧ w'.ownsRow w.heap.size 5 1 (.slice a L.length cap) L.length (ints .u8 L) ∧ Ext w w'
theorem own_nil {w : World} {base : Nat} {t : TypeId} {a : Option Addr} {n cap : Nat} {xs : List Value} (h : w.ownsRow base t 1 (.slice a n cap) n xs) : a = none → n = 0 ∧ cap = 0 := by
  rcases ownsRow_cases h with ⟨_, h2, h3, _⟩ | ⟨g, M, h1, _⟩
  · exact fun _ => ⟨h2, h3⟩
  · intro e; rw [h1] at e; cases e
def lenOfV : Value → Nat | .slice _ n _ => n | _ => 0
end Go.Proofs.Ytnodinancnfoeaa.Field
/- field.Lay, whatever comes in. -/
namespace Go.Proofs.Ytnodinancnfoeaa.Field
open Go.RowKit Words Mem Plain Ops
set_option linter.unusedVariables false
set_option linter.unusedSimpArgs false

def okLay (s : Nat) (l : List Int) : Bool := decide (s * l.length ≤ 4096) && l.all (fitsB · s)
theorem okLay_true {s : Nat} {l : List Int} (h : okLay s l = true) : s * l.length ≤ 4096 ∧ ∀ x ∈ l, fitsB x s = true := by
  unfold okLay at h; rw [Bool.and_eq_true] at h
  exact ⟨by simpa using h.1, by simpa using h.2⟩
theorem okLay_false {s : Nat} {l : List Int} (h : okLay s l = false) : 4096 < s * l.length ∨ ∃ x ∈ l, fitsB x s = false := by
  unfold okLay at h
  by_cases h1 : s * l.length ≤ 4096
  · right
    rw [decide_eq_true h1, Bool.true_and] at h
    simpa using h
  · left; omega
theorem Lay_arg (a : Option Addr) (n cap : Nat) (s : Int) (w : World) (h : s < 1 ∨ 8 < s) :
    Calls Try.prog 49 #[.int .i64 s, .slice a n cap] w fun e w' => e = .returned (.tuple #[.slice none 0 0, .int .i64 1]) ∧ w = w' := by
  by_cases h1 : s < 1
  · clear h
    go_enter Try.func49, Try.ntmps49
    go_wp2
    go_ret2
    exact ⟨rfl, rfl⟩
  · have h2 : 8 < s := by omega
    clear h
    go_enter Try.func49, Try.ntmps49
    go_wp2
    go_ret2
    exact ⟨rfl, rfl⟩
theorem Lay_long (s : Nat) (a : Option Addr) (n cap : Nat) (w : World) (hs1 : 1 ≤ s) (hs8 : s ≤ 8) (hn : 4096 < s * n) (hm : n ≤ 9223372036854775807) :
    Calls Try.prog 49 #[.int .i64 s, .slice a n cap] w fun e w' => e = .returned (.tuple #[.slice none 0 0, .int .i64 4]) ∧ w = w' := by
  have hq : (4096 : Int) / (s : Int) < n := by
    have h1 : 4096 / s < n := Nat.div_lt_of_lt_mul hn
    have : (4096 : Int) / (s : Int) = ((4096 / s : Nat) : Int) := by simp
    omega
  have hq0 : (0 : Int) ≤ (4096 : Int) / (s : Int) := Int.ediv_nonneg (by decide) (by omega)
  clear hn
  go_enter Try.func49, Try.ntmps49
  go_wp2
  go_ret2
  exact ⟨rfl, rfl⟩
def RowN (w : World) (g : Nat) (t : TypeId) (n : Nat) : Prop := ∃ L, L.length = n ∧ Row w g t L
theorem Lay_unfit (s b off n cap : Nat) (l : List Int) (w : World) (hs1 : 1 ≤ s) (hs8 : s ≤ 8) (hl : l.length = n) (hc : ∀ j (hj : j < l.length), w.cell? ⟨b, off + j, none⟩ = some (.int .u64 l[j])) (hbw : b < w.heap.size) (hu : ∀ x ∈ l, 0 ≤ x ∧ x < 18446744073709551616) (hn : s * n ≤ 4096) (hf : ∃ x ∈ l, fitsB x s = false) :
    Calls Try.prog 49 #[.int .i64 s, .slice (some ⟨b, off, none⟩) n cap] w fun e w' => e = .returned (.tuple #[.slice none 0 0, .int .i64 4]) ∧ Ext w w' := by
  have hmk := make8 w ((s : Int) * n) (s * n) (by simp) (by omega)
  have hn1 : (n : Int) ≤ 4096 / (s : Int) := by
    have h1 : n ≤ 4096 / s := (Nat.le_div_iff_mul_le hs1).2 (by rw [Nat.mul_comm]; exact hn)
    rw [show (4096 : Int) / (s : Int) = ((4096 / s : Nat) : Int) by simp]; omega
  have hn2 : n ≤ 4096 := by have := Nat.mul_le_mul_right n hs1; omega
  have HU := Lib.hid hu; clear hu
  have HF := Lib.hid hf; clear hf
  have HC := Lib.hid hc; clear hc
  have HL := Lib.hid hl; clear hl
  go_enter Try.func49, Try.ntmps49
  go_wp2_with fail
  clear hmk hn1
  go_loopw [29] (fun v wr => ∃ k : Nat, k ≤ n ∧ v = .int .i64 k ∧ RowN wr w.heap.size 5 (s * n) ∧ Ext w wr ∧ Hid (∀ x ∈ l.take k, fitsB x s = true)) (fun v _ => n - (intOf v).toNat)
  case atStart => exact ⟨0, by omega, rfl, ⟨_, by simp [ints_length], Row.new w 5 (ints .u8 (List.replicate (s * n) 0))⟩, (Ext.refl w).alloc _, fun x hx => by simp at hx⟩
  case round =>
    obtain ⟨k, hk, rfl, ⟨M, hML, hr⟩, hX, hfit⟩ := hrel
    by_cases hlt : k < n
    · have hlk : k < l.length := by rw [HL.out]; exact hlt
      have hcell := HC.out k hlk
      rw [← hX.cell (p := ⟨b, off + k, none⟩) hbw] at hcell
      have hux := HU.out l[k] (List.getElem_mem hlk)
      have hts : Hid (l.take (k + 1) = l.take k ++ [l[k]]) := List.take_succ_eq_append_getElem hlk
      generalize l[k] = x at *
      clear hlk
      obtain ⟨hu0, hu1⟩ := hux
      have e1 : (k : Int) * s = ((s * k : Nat) : Int) := by simp [Int.mul_comm]
      have e2 : ((k : Int) + 1) * s = ((s * k : Nat) : Int) + s := by rw [Int.add_mul, e1]; simp
      have e3 : s * (k + 1) ≤ s * n := Nat.mul_le_mul_left s hlt
      have e4 : s * (k + 1) = s * k + s := by rw [Nat.mul_add]; omega
      rw [e4] at e3
      clear e4
      have hp : ¬ (s * n = s * k) := by omega
      generalize hq : s * n = q at *
      generalize hpp : s * k = p at *
      have HQ := Lib.hid hq; clear hq
      have HP := Lib.hid hpp; clear hpp
      have HML := Lib.hid hML; clear hML
      by_cases hfx : fitsB x s = true
      · have HFX := Lib.hid hfx
        go_wp2_with fail
        refine (fits_ok x s hu0 hu1 hs1 hs8 _).mono ?_
        rintro e w' ⟨rfl, rfl⟩
        rw [hfx]
        clear hfx
        go_wp2_with fail
        refine (put_ok w.heap.size p s (q - p) x _ wr hu0 hu1 hs8 (by rw [HML.out]; omega) hr).mono ?_
        rintro e w' ⟨rfl, hr', hby⟩
        replace hX := hX.by hby (Nat.le_refl _)
        have hlen : Hid ((splice M p (ints .u8 (bytesOf s x))).length = q) := by
          have h1 : (splice M p (ints .u8 (bytesOf s x))).length = M.length := length_splice _ _ _ (by rw [ints_length, length_bytesOf, HML.out]; exact e3)
          exact h1.trans HML.out
        generalize splice M p (ints .u8 (bytesOf s x)) = M' at *
        clear hr hby hp e3
        go_wp2
        go_roundw
        case rel => exact ⟨k + 1, hlt, by go_num, ⟨_, hlen.out, hr'⟩, hX, by
          intro y hy
          rw [hts.out] at hy
          rcases List.mem_append.1 hy with h1 | h1
          · exact hfit.out y h1
          · rw [List.mem_singleton] at h1; rw [h1]; exact HFX.out⟩
        case measure => simp [intOf]; omega
      · have hfx' : fitsB x s = false := by simpa using hfx
        clear hfx
        go_wp2_with fail
        refine (fits_ok x s hu0 hu1 hs1 hs8 _).mono ?_
        rintro e w' ⟨rfl, rfl⟩
        rw [hfx']
        clear hfx'
        go_wp2_with fail
        go_ret2
        exact ⟨rfl, hX⟩
    · have : k = n := by omega
      subst this
      exfalso
      obtain ⟨x, hx, hx'⟩ := HF.out
      rw [hfit.out x (by rw [List.take_of_length_le (by rw [HL.out]; exact Nat.le_refl _)]; exact hx)] at hx'
      cases hx'
theorem Lay_no (s : Nat) (a : Option Addr) (n cap : Nat) (l : List Int) (w : World) (hs1 : 1 ≤ s) (hs8 : s ≤ 8) (hl : l.length = n) (hx : Sl w a (ints .u64 l)) (hu : ∀ x ∈ l, 0 ≤ x ∧ x < 18446744073709551616) (hm : n ≤ 9223372036854775807) (h : okLay s l = false) :
    Calls Try.prog 49 #[.int .i64 s, .slice a n cap] w fun e w' => e = .returned (.tuple #[.slice none 0 0, .int .i64 4]) ∧ Ext w w' := by
  by_cases h4 : s * n ≤ 4096
  · rcases okLay_false h with h1 | h1
    · rw [hl] at h1; omega
    · have h1' := h1
      obtain ⟨x, hx1, _⟩ := h1
      have h0 : 0 < l.length := List.length_pos_of_mem hx1
      obtain ⟨b, off, rfl, hc⟩ := hx.ints h0
      exact Lay_unfit s b off n cap l w hs1 hs8 hl hc (hx.lt (by rw [ints_length]; exact h0) _ rfl) hu h4 h1'
  · exact (Lay_long s a n cap w hs1 hs8 (by omega) hm).mono fun e w' ⟨h1, h2⟩ => ⟨h1, by subst h2; exact Ext.refl _⟩
theorem Lay_yes (s : Nat) (a : Option Addr) (n cap : Nat) (l : List Int) (w : World) (hs1 : 1 ≤ s) (hs8 : s ≤ 8) (hl : l.length = n) (hx : Sl w a (ints .u64 l)) (hu : ∀ x ∈ l, 0 ≤ x ∧ x < 18446744073709551616) (h : okLay s l = true) :
    Calls Try.prog 49 #[.int .i64 s, .slice a n cap] w fun e w' => e = .returned (.tuple #[.slice (some ⟨w.heap.size, 0, none⟩) (s * n) (s * n), .int .i64 0]) ∧ Row w' w.heap.size 5 (ints .u8 (layed s l)) ∧ Ext w w' := by
  obtain ⟨h1, h2⟩ := okLay_true h
  rw [hl] at h1
  exact Lay_ok s a n cap l w hs1 hs8 hl hx hu ((Nat.le_div_iff_mul_le hs1).2 (by rw [Nat.mul_comm]; exact h1)) h2
theorem okLay_of {s : Nat} {l : List Int} {n : Nat} (hl : l.length = n) (h1 : s * n ≤ 4096) (h2 : ∀ x ∈ l, fitsB x s = true) : okLay s l = true := by
  unfold okLay
  rw [hl, decide_eq_true h1, Bool.true_and]
  simpa using h2
theorem okLay_not_long {s : Nat} {l : List Int} {n : Nat} (hl : l.length = n) (h1 : 4096 < s * n) : okLay s l = false := by
  unfold okLay
  rw [hl, decide_eq_false (by omega)]; rfl
theorem okLay_not_fit {s : Nat} {l : List Int} {x : Int} (hx : x ∈ l) (h1 : fitsB x s = false) : okLay s l = false := by
  unfold okLay
  have : l.all (fitsB · s) = false := by simp; exact ⟨x, hx, h1⟩
  rw [this, Bool.and_false]
def layR (s : Int) (l : List Int) : List Int × Int :=
  if s < 1 ∨ 8 < s then ([], 1) else if okLay s.toNat l then (layed s.toNat l, 0) else ([], 4)
theorem Lay_gave (a : Option Addr) (n cap : Nat) (xs : List Int) (w : World) (s : Int) (hl : xs.length = n) (hm : n ≤ 9223372036854775807) (hx : Sl w a (ints .u64 xs)) (hu : ∀ x ∈ xs, 0 ≤ x ∧ x < 18446744073709551616) :
    Calls Try.prog 49 #[.int .i64 s, .slice a n cap] w (Gave .u8 5 w (layR s xs)) := by
  unfold layR
  by_cases h : s < 1 ∨ 8 < s
  · rw [if_pos h]
    exact (Lay_arg a n cap s w h).mono fun e w' ⟨h1, h2⟩ => Gave.nil h1 (by subst h2; exact Ext.refl _)
  · rw [if_neg h]
    obtain ⟨q, rfl⟩ : ∃ q : Nat, s = q := ⟨s.toNat, by omega⟩
    rw [Int.toNat_natCast]
    by_cases h4 : okLay q xs = true
    · rw [if_pos h4]
      have hb := (okLay_true h4).1
      refine (Lay_yes q a n cap xs w (by omega) (by omega) hl hx hu h4).mono fun e w' ⟨h1, h2, h3⟩ => Gave.row h1 (by rw [length_layed, hl]) (by unfold maxLen; rw [hl] at hb; omega) h2 h3
    · rw [if_neg h4]
      exact (Lay_no q a n cap xs w (by omega) (by omega) hl hx hu hm (by simpa using h4)).mono fun e w' ⟨h1, h2⟩ => Gave.nil h1 h2
end Go.Proofs.Ytnodinancnfoeaa.Field
/- The contract of the reference's Num. -/
namespace Go.Proofs.Ytnodinancnfoeaa.Field
open Go.RowKit Words Mem Plain Ops
set_option linter.unusedVariables false
set_option linter.unusedSimpArgs false

/-- Bytes of the call's own. -/
def OwnB (w : World) (L : List Int) (e : Ending) (w' : World) : Prop :=
  ∃ a cap, e = .returned (.slice a L.length cap) ∧ w'.ownsRow w.heap.size 5 1 (.slice a L.length cap) L.length (ints .u8 L) ∧ Ext w w'

theorem div_pow_step (x : Int) (k : Nat) : x / 256 ^ k / 256 = x / 256 ^ (k + 1) := by
  rw [Int.pow_succ, ← Int.ediv_ediv_of_nonneg (Int.le_of_lt (Int.pow_pos (by decide)))]

set_option maxHeartbeats 1000000 in
theorem rNum_ok (x : Int) (s : Nat) (w : World) (h0 : 0 ≤ x) (h1 : x < 18446744073709551616) (hs : s ≤ 8) :
    Calls Try.prog 51 #[.int .u64 x, .int .i64 s] w (OwnB w (bytesOf s x)) := by
  go_enter Try.func51, Try.ntmps51
  go_wp2
  go_loopw [0, 5, 6] (fun y u v wr => ∃ (k c : Nat) (ao : Option Addr), k ≤ s ∧ v = .int .i64 k ∧ y = .int .u64 (x / 256 ^ k) ∧ u = .slice ao k c ∧ wr.ownsRow w.heap.size 5 1 (.slice ao k c) k (ints .u8 (bytesOf k x)) ∧ Ext w wr) (fun _ _ v _ => s - (intOf v).toNat)
  case atStart => exact ⟨0, 0, none, by omega, rfl, by simp, rfl, ownsRow_nil _ _ _, Ext.refl _⟩
  case round =>
    obtain ⟨k, c, ao, hk, rfl, rfl, rfl, hown, hX⟩ := hrel
    by_cases hlt : k < s
    · have hst := div_pow_step x k
      have hbs : bytesOf (k + 1) x = bytesOf k x ++ [x / 256 ^ k % 256] := bytesOf_succ k x
      have HS := Lib.hid hst; have HB := Lib.hid hbs; clear hst hbs
      have hp : (0 : Int) < 256 ^ k := Int.pow_pos (by decide)
      have y0 : 0 ≤ x / 256 ^ k := Int.ediv_nonneg h0 (Int.le_of_lt hp)
      have y1 : x / 256 ^ k ≤ x := Int.ediv_le_self _ h0
      clear hp
      generalize x / 256 ^ k = y at *
      obtain ⟨wo, rfl⟩ : ∃ wo : World, wo = wr := ⟨_, rfl⟩
      obtain ⟨a', c', w2, hrun, hown', hext⟩ := run_append_one (P := Try.prog) wo w.heap.size 26 26 5 .u8 1 Try.underlying26 info8 hown (y % 256) (by omega) (by omega) hX.size
      have hX' := hext w hX (Nat.le_refl _)
      clear hext hown
      go_wp2_with (at_builtin; refine Lib.wpList_append_run _ rfl _ _ _ _ rfl _ _ rfl rfl _ _ hrun ?_)
      go_roundw
      case rel => exact ⟨k + 1, c', a', hlt, by go_num, by rw [← HS.out], rfl, by rw [HB.out]; exact hown', hX'⟩
      case measure => simp [intOf]; omega
    · have : k = s := by omega
      subst this
      go_wp2
      go_ret
      exact ⟨ao, c, by rw [length_bytesOf]; rfl, by rw [length_bytesOf]; exact hown, hX⟩
end Go.Proofs.Ytnodinancnfoeaa.Field
/- Slice expressions as run-equations, for elements of one cell; a world that keeps two things alike. -/
namespace Go.Proofs.Ytnodinancnfoeaa.Ops
open Go.RowKit Words Mem Plain
set_option linter.unusedVariables false
set_option linter.unusedSimpArgs false
section
variable {P : Program}
/-- The address of 's[lo:..]'. -/
def cutA (a : Option Addr) (c lo : Nat) : Option Addr := if c = lo then a else a.map (·.add lo)
theorem cutA_none {a : Option Addr} {c lo : Nat} (h : cutA a c lo = none) : a = none := by unfold cutA at h; split at h <;> simpa using h
theorem cutA_ne {a : Option Addr} (h : a ≠ none) (c lo : Nat) : cutA a c lo ≠ none := fun e => h (cutA_none e)
theorem _root_.Go.Proofs.Ytnodinancnfoeaa.Mem.Sl.cutA {w : World} {a : Option Addr} {xs : List Value} (h : Sl w a xs) (c lo : Nat) (hc : c = lo → xs.length ≤ lo) : Sl w (cutA a c lo) (xs.drop lo) := h.cut c lo hc
theorem _root_.Go.Proofs.Ytnodinancnfoeaa.Mem.Sl.mid {w : World} {a : Option Addr} {k : IntKind} {xs : List Int} (h : Sl w a (ints k xs)) (c lo n : Nat) (hc : c = lo → n = 0) : Sl w (Ops.cutA a c lo) (ints k ((xs.drop lo).take n)) := by
  by_cases e : c = lo
  · rw [hc e, List.take_zero]; exact Sl.nil _ _
  · have := (h.drop lo).take n
    rw [ints_drop, ints_take] at this
    unfold Ops.cutA
    rw [if_neg e]
    exact this

theorem run_slice_from (w : World) (t e : TypeId) (ht : P.underlying t = some (.slice e)) (hs : (P.info? e).map (·.size) = some 1) (a : Option Addr) (n c lo : Nat) (k : IntKind) (LO : Int) (hLO : LO = lo) (h1 : lo ≤ n) :
    (Instr.slice t (.slice a n c) (some (.int k LO)) none none).run P w = .ok (.slice (cutA a c lo) (n - lo) (c - lo)) w := by
  subst hLO
  have hsz : (sizeOf e).run P w = .ok 1 w := by
    obtain ⟨i, hi, hi'⟩ := Option.map_eq_some_iff.1 hs
    simp [sizeOf, typeInfo, hi, hi', go_sem]
  unfold cutA
  simp [Instr.slice, run_underlying ht, go_sem, hsz, h1]
theorem run_slice_upto (w : World) (t e : TypeId) (ht : P.underlying t = some (.slice e)) (hs : (P.info? e).map (·.size) = some 1) (a : Option Addr) (n c hi : Nat) (k : IntKind) (HI : Int) (hHI : HI = hi) (h1 : hi ≤ c) :
    (Instr.slice t (.slice a n c) none (some (.int k HI)) none).run P w = .ok (.slice a hi c) w := by
  subst hHI
  have hsz : (sizeOf e).run P w = .ok 1 w := by
    obtain ⟨i, hi, hi'⟩ := Option.map_eq_some_iff.1 hs
    simp [sizeOf, typeInfo, hi, hi', go_sem]
  have ha : a.map (·.add 0) = a := by cases a <;> simp [Addr.add]
  simp [Instr.slice, run_underlying ht, go_sem, hsz, h1, ha]
theorem run_slice_mid (w : World) (t e : TypeId) (ht : P.underlying t = some (.slice e)) (hs : (P.info? e).map (·.size) = some 1) (a : Option Addr) (n c lo hi : Nat) (k k' : IntKind) (LO HI : Int) (hLO : LO = lo) (hHI : HI = hi) (h0 : lo ≤ hi) (h1 : hi ≤ c) :
    (Instr.slice t (.slice a n c) (some (.int k LO)) (some (.int k' HI)) none).run P w = .ok (.slice (cutA a c lo) (hi - lo) (c - lo)) w := by
  subst hLO hHI
  have hsz : (sizeOf e).run P w = .ok 1 w := by
    obtain ⟨i, hi, hi'⟩ := Option.map_eq_some_iff.1 hs
    simp [sizeOf, typeInfo, hi, hi', go_sem]
  unfold cutA
  simp [Instr.slice, run_underlying ht, go_sem, hsz, h0, h1]
end
end Go.Proofs.Ytnodinancnfoeaa.Ops
/- field.Take, whatever comes in. -/
namespace Go.Proofs.Ytnodinancnfoeaa.Field
open Go.RowKit Words Mem Plain Ops
set_option linter.unusedVariables false
set_option linter.unusedSimpArgs false

theorem info64 : (Try.prog.info? 76).map (fun i => (i.zero, i.size, i.bytes)) = some (some (.int .u64 0), 1, 8) := by kernel_rfl
def takenL (s : Nat) (xs : List Int) (q : Nat) : List Int := (List.range q).map fun i => numOf ((xs.drop (s * i)).take s)
theorem takenL_succ (s : Nat) (xs : List Int) (q : Nat) : takenL s xs (q + 1) = takenL s xs q ++ [numOf ((xs.drop (s * q)).take s)] := by simp [takenL, List.range_succ]
theorem length_takenL (s : Nat) (xs : List Int) (q : Nat) : (takenL s xs q).length = q := by simp [takenL]
theorem getElem_takenL (s : Nat) (xs : List Int) (q i : Nat) (h : i < q) : (takenL s xs q)[i]? = some (numOf ((xs.drop (s * i)).take s)) := by simp [takenL, h]
theorem takenL_bd (s : Nat) (xs : List Int) (q : Nat) (hb : isBytes xs) (hs : s ≤ 8) : ∀ x ∈ takenL s xs q, 0 ≤ x ∧ x < 256 ^ s := by
  intro x hx
  obtain ⟨i, _, rfl⟩ := List.mem_map.1 hx
  refine ⟨numOf_nonneg (isBytes_take (isBytes_drop hb _) _), ?_⟩
  have h1 := numOf_lt (isBytes_take (isBytes_drop hb (s * i)) s)
  have h2 : (256 : Int) ^ ((xs.drop (s * i)).take s).length ≤ 256 ^ s := pow_mono (by rw [List.length_take]; omega)
  omega
def OwnU0 (w : World) (L : List Int) (e : Ending) (w' : World) : Prop :=
  ∃ a cap, e = .returned (.tuple #[.slice a L.length cap, .int .i64 0]) ∧ w'.ownsRow w.heap.size 76 1 (.slice a L.length cap) L.length (ints .u64 L) ∧ Ext w w'
theorem Take_yes (a : Option Addr) (n cap s q : Nat) (xs : List Int) (w : World) (hs1 : 1 ≤ s) (hs8 : s ≤ 8) (hl : xs.length = n) (hn : n ≤ 4096) (hq : n = s * q) (hb : isBytes xs) (hs : Sl w a (ints .u8 xs)) (hcap : n ≤ cap) (hcm : cap ≤ 9223372036854775807) :
    Calls Try.prog 44 #[.int .i64 s, .slice a n cap] w (OwnU0 w (takenL s xs q)) := by
  have hmod : (n : Int) % s = 0 := by rw [hq]; simp
  have HQ := Lib.hid hq; have HL := Lib.hid hl
  clear hq hl
  have hS0 := hs
  go_enter Try.func44, Try.ntmps44
  go_wp2
  clear hmod
  go_loopw [6, 7] (fun o r wr => ∃ (k m c co : Nat) (ao ar : Option Addr), k ≤ q ∧ Hid (m + s * k = n) ∧ m ≤ c ∧ c ≤ cap ∧ m ≤ 4096 ∧ r = .slice ar m c ∧ o = .slice ao k co ∧ Sl w ar (ints .u8 (xs.drop (s * k))) ∧ wr.ownsRow w.heap.size 76 1 (.slice ao k co) k (ints .u64 (takenL s xs k)) ∧ Ext w wr) (fun _ r _ => lenOfV r)
  case atStart => exact ⟨0, n, cap, 0, none, a, by omega, by exact Nat.add_zero n, hcap, Nat.le_refl _, hn, rfl, rfl, by simpa using hs, ownsRow_nil _ _ _, Ext.refl _⟩
  case round =>
    obtain ⟨k, m, c, co, ao, ar, hk, hmk, hmc, hcc, hm4, rfl, rfl, hS, hown, hX⟩ := hrel
    by_cases hlt : k < q
    · have hge : s * k + s ≤ s * q := by rw [← Nat.mul_succ]; exact Nat.mul_le_mul_left s hlt
      rw [← HQ.out] at hge
      have hsm : s ≤ m := by have := hmk.out; omega
      have hm0 : 0 < m := by omega
      have hP : ((xs.drop (s * k)).take s).length = s := by rw [List.length_take, List.length_drop, HL.out]; have := hmk.out; omega
      have hPb : isBytes ((xs.drop (s * k)).take s) := isBytes_take (isBytes_drop hb _) _
      have hts := takenL_succ s xs k
      have hSt := hS.take s
      rw [ints_take] at hSt
      have hSd := hS.cutA c s (by intro e; rw [ints_length, List.length_drop, HL.out]; have := hmk.out; omega)
      rw [ints_drop, List.drop_drop] at hSd
      have hmk' : Hid (m - s + s * (k + 1) = n) := by have := hmk.out; rw [Nat.mul_succ]; show _ = _; omega
      have hbd := numOf_nonneg hPb
      have hbd2 := numOf_lt64 hPb (by omega)
      have hsl1 : ∀ v : World, (Instr.slice 26 (.slice ar m c) none (some (.int .i64 s)) none).run Try.prog v = .ok (.slice ar s c) v := fun v => run_slice_upto v _ _ Try.underlying26 size8 ar m c s _ _ rfl (by omega)
      have hsl2 : ∀ v : World, (Instr.slice 26 (.slice ar m c) (some (.int .i64 s)) none none).run Try.prog v = .ok (.slice (cutA ar c s) (m - s) (c - s)) v := fun v => run_slice_from v _ _ Try.underlying26 size8 ar m c s _ _ rfl hsm
      generalize (xs.drop (s * k)).take s = P at *
      have HT := Lib.hid hts; have HPL := Lib.hid hP
      have HSD := Lib.hid hSd
      clear hts hP hS hge hmk hSd
      obtain ⟨wo, rfl⟩ : ∃ wo : World, wo = wr := ⟨_, rfl⟩
      obtain ⟨a', c', w2, hrun, hown', hext⟩ := run_append_one (P := Try.prog) wo w.heap.size 73 73 76 .u64 8 Try.underlying73 info64 hown (numOf P) (by have : k ≤ 4096 := by { have h1 := HQ.out; have h2 : 1 * q ≤ s * q := Nat.mul_le_mul_right q hs1; omega }; omega) (by have : k ≤ 4096 := by { have h1 := HQ.out; have h2 : 1 * q ≤ s * q := Nat.mul_le_mul_right q hs1; omega }; omega) hX.size
      have hX' := hext w hX (Nat.le_refl _)
      clear hext hown
      have hm0' : (0 : Int) < m := by omega
      go_wp2_with fail
      refine (get_ok ar s c P _ HPL.out hs8 hPb (hSt.ext hX)).mono ?_
      rintro e w' ⟨rfl, rfl⟩
      go_wp2_with (at_builtin; refine Lib.wpList_append_run _ rfl _ _ _ _ rfl _ _ rfl rfl _ _ hrun ?_)
      go_roundw
      case rel => exact ⟨k + 1, m - s, c - s, c', a', cutA ar c s, hlt, hmk', by omega, by omega, by omega, rfl, rfl, HSD.out, by rw [HT.out]; exact hown', hX'⟩
      case measure => simp [lenOfV]; omega
    · have : k = q := by omega
      subst this
      have hm : m = 0 := by have h1 := hmk.out; have h2 := HQ.out; omega
      subst hm
      go_wp2
      go_ret2
      exact ⟨ao, co, by rw [length_takenL]; rfl, by rw [length_takenL]; exact hown, hX⟩
theorem Take_arg (a : Option Addr) (n cap : Nat) (s : Int) (w : World) (hn : n ≤ 9223372036854775807) (h : s < 1 ∨ 8 < s ∨ (n : Int) % s ≠ 0) :
    Calls Try.prog 44 #[.int .i64 s, .slice a n cap] w fun e w' => e = .returned (.tuple #[.slice none 0 0, .int .i64 1]) ∧ w = w' := by
  by_cases h1 : s < 1
  · clear h
    go_enter Try.func44, Try.ntmps44
    go_wp2
    go_ret2
    exact ⟨rfl, rfl⟩
  · by_cases h2 : 8 < s
    · clear h
      go_enter Try.func44, Try.ntmps44
      go_wp2
      go_ret2
      exact ⟨rfl, rfl⟩
    · have h3 : ((n : Int) % s != 0) = true := by simp; omega
      have h4 : 1 ≤ s := by omega
      have h5 : s ≤ 8 := by omega
      clear h
      go_enter Try.func44, Try.ntmps44
      go_wp2
      go_ret2
      exact ⟨rfl, rfl⟩
theorem Take_long (a : Option Addr) (n cap : Nat) (s : Int) (w : World) (hn : n ≤ 9223372036854775807) (h1 : 1 ≤ s) (h2 : s ≤ 8) (h3 : (n : Int) % s = 0) (h4 : 4096 < n) :
    Calls Try.prog 44 #[.int .i64 s, .slice a n cap] w fun e w' => e = .returned (.tuple #[.slice none 0 0, .int .i64 4]) ∧ w = w' := by
  go_enter Try.func44, Try.ntmps44
  go_wp2
  go_ret2
  exact ⟨rfl, rfl⟩
def takeR (s : Int) (xs : List Int) : List Int × Int :=
  if s < 1 ∨ 8 < s ∨ (xs.length : Int) % s ≠ 0 then ([], 1) else if 4096 < xs.length then ([], 4) else (takenL s.toNat xs (xs.length / s.toNat), 0)
theorem Take_gave (a : Option Addr) (n cap : Nat) (xs : List Int) (w : World) (s : Int) (hl : xs.length = n) (hn : n ≤ 9223372036854775807) (hb : isBytes xs) (hs : Sl w a (ints .u8 xs)) (hcap : n ≤ cap) (hcm : cap ≤ 9223372036854775807) :
    Calls Try.prog 44 #[.int .i64 s, .slice a n cap] w (Gave .u64 76 w (takeR s xs)) := by
  unfold takeR
  rw [hl]
  by_cases h : s < 1 ∨ 8 < s ∨ (n : Int) % s ≠ 0
  · rw [if_pos h]
    exact (Take_arg a n cap s w hn h).mono fun e w' ⟨h1, h2⟩ => Gave.nil h1 (by subst h2; exact Ext.refl _)
  · rw [if_neg h]
    have h1 : 1 ≤ s := by omega
    have h2 : s ≤ 8 := by omega
    have h3 : (n : Int) % s = 0 := by omega
    by_cases h4 : 4096 < n
    · rw [if_pos h4]
      exact (Take_long a n cap s w hn h1 h2 h3 h4).mono fun e w' ⟨h1, h2⟩ => Gave.nil h1 (by subst h2; exact Ext.refl _)
    · rw [if_neg h4]
      obtain ⟨q, rfl⟩ : ∃ q : Nat, s = q := ⟨s.toNat, by omega⟩
      rw [Int.toNat_natCast]
      have hd : n % q = 0 := by exact_mod_cast h3
      exact (Take_yes a n cap q (n / q) xs w (by omega) (by omega) hl (by omega) (by rw [Nat.mul_div_cancel' (Nat.dvd_of_mod_eq_zero hd)]) hb hs hcap hcm)
end Go.Proofs.Ytnodinancnfoeaa.Field
/- Contracts: inode.pointer, moatref11.pointer, moatref11.two (cut from set 11). -/
namespace Go.Proofs.Ytnodinancnfoeaa.Ino
open Go.RowKit Words Mem Plain Ops
open Go.Proofs.Ytnodinancnfoeaa.Field
set_option linter.ambiguousOpen false
set_option linter.unusedVariables false
set_option linter.unusedSimpArgs false

def ptrB (x : Int) : Bool := decide (0 ≤ x) && decide (x ≤ 512)
theorem ptrB_true {x : Int} (h : ptrB x = true) : 0 ≤ x ∧ x ≤ 512 := by simpa [ptrB] using h
theorem ptrB_false {x : Int} (h : ptrB x = false) : x < 0 ∨ 512 < x := by
  simp only [ptrB, Bool.and_eq_false_iff, decide_eq_false_iff_not] at h; omega
theorem pointer_ok (x : Int) (w : World) : Calls Try.prog 53 #[.int .i64 x] w fun e w' => e = .returned (.bool (ptrB x)) ∧ w = w' := by
  unfold ptrB
  by_cases h : 0 ≤ x
  · go_enter Try.func53, Try.ntmps53
    go_wp2
    go_ret
    exact ⟨by simp [h], rfl⟩
  · go_enter Try.func53, Try.ntmps53
    go_wp2
    go_ret
    exact ⟨by simp; omega, rfl⟩
theorem rpointer_ok (x : Int) (w : World) : Calls Try.prog 56 #[.int .i64 x] w fun e w' => e = .returned (.bool (ptrB x)) ∧ w = w' := by
  unfold ptrB
  by_cases h : 0 ≤ x
  · go_enter Try.func56, Try.ntmps56
    go_wp2
    go_ret
    exact ⟨by simp [h], rfl⟩
  · go_enter Try.func56, Try.ntmps56
    go_wp2
    go_ret
    exact ⟨by simp; omega, rfl⟩

theorem fits2 {x : Int} (h : 0 ≤ x) (h' : x < 65536) : fitsB x 2 = true := by unfold fitsB; rw [p2]; simpa using h'

/-- Numbers of two bytes each, by the reference. -/
theorem two_ok (a : Option Addr) (n cap : Nat) (l : List Int) (w : World) (hl : l.length = n) (hn : n ≤ 1000000) (hs : Sl w a (ints .i64 l)) (hu : ∀ x ∈ l, 0 ≤ x ∧ x ≤ 9223372036854775807) :
    Calls Try.prog 52 #[.slice a n cap] w (OwnB w (layed 2 l)) := by
  have hs0 := hs
  have HS := Lib.hid hs; have HL := Lib.hid hl; have HU := Lib.hid hu
  clear hs hl hu hs0
  go_enter Try.func52, Try.ntmps52
  go_wp2_with fail
  go_loopw [3, 4] (fun u v wr => ∃ (k m c : Nat) (ao : Option Addr), k ≤ n ∧ m = 2 * k ∧ v = .int .i64 k ∧ u = .slice ao m c ∧ wr.ownsRow w.heap.size 5 1 (.slice ao m c) m (ints .u8 (layed 2 (l.take k))) ∧ Ext w wr) (fun _ v _ => n - (intOf v).toNat)
  case atStart => exact ⟨0, 0, 0, none, by omega, rfl, rfl, rfl, ownsRow_nil _ _ _, Ext.refl _⟩
  case round =>
    obtain ⟨k, m, c, ao, hk, hm, rfl, rfl, hown, hX⟩ := hrel
    have HM := Lib.hid hm; have hm2 : m ≤ 2 * k := by omega
    clear hm
    by_cases hlt : k < n
    · have hlk : k < l.length := by rw [HL.out]; exact hlt
      obtain ⟨bb, oo, rfl, hc⟩ := (HS.out.ext hX).ints (by omega)
      have hcell := hc k hlk
      have hts : Hid (l.take (k + 1) = l.take k ++ [l[k]]) := List.take_succ_eq_append_getElem hlk
      obtain ⟨x0, x1⟩ := HU.out l[k] (List.getElem_mem hlk)
      generalize l[k] = x at *
      clear hlk hc
      go_wp2_with fail
      have k0 : Calls Try.prog 51 #[.int .u64 x, .int .i64 2] wr _ := rNum_ok x 2 wr x0 (by omega) (by decide)
      refine k0.mono ?_
      clear k0
      rintro e w3 ⟨a3, c3, rfl, hown3, hX3⟩
      rw [length_bytesOf] at hown3
      rw [length_bytesOf]
      have hown2' := ownsRow_ext hown hX3
      have X3 := hX.trans hX3
      obtain ⟨a4, c4, w4, hrun4, hown4, hext4⟩ := run_append_sl (P := Try.prog) w3 w.heap.size 26 26 5 (.int .u8 0) 1 Try.underlying26 info8 rfl hown2' (m := 2) c3 (by rw [ints_length, length_bytesOf]) (ownsRow_sl hown3) (own_nil hown3) (ints_oneCell' _ _) (by omega) (by omega) X3.size
      have X4 := hext4 w X3 (Nat.le_refl _)
      rw [← ints_append, ← layed_snoc, ← hts.out] at hown4
      clear hext4 hown3 hown hown2'
      go_wp2_with (at_builtin; refine Lib.wpList_append_run _ rfl _ _ _ _ rfl _ _ rfl rfl _ _ hrun4 ?_)
      go_roundw
      case rel => exact ⟨k + 1, m + 2, c4, a4, hlt, by have := HM.out; omega, by go_num, rfl, hown4, X4⟩
      case measure => simp [intOf]; omega
    · have : k = n := by omega
      subst this
      have htk : Hid (l.take k = l) := List.take_of_length_le (by rw [HL.out]; exact Nat.le_refl _)
      rw [htk.out] at hown
      have hlen : Hid ((layed 2 l).length = m) := by show (layed 2 l).length = m; rw [length_layed, HL.out, HM.out]
      go_wp2_with fail
      go_ret
      exact ⟨ao, c, by rw [hlen.out]; rfl, by rw [hlen.out]; exact hown, hX⟩
end Go.Proofs.Ytnodinancnfoeaa.Ino
/- field.Fill, whatever comes in. -/
namespace Go.Proofs.Ytnodinancnfoeaa.Field
open Go.RowKit Words Mem Plain Ops
set_option linter.unusedVariables false
set_option linter.unusedSimpArgs false

def filled (xs : List Int) (s : Nat) : List Int := xs ++ List.replicate (s - xs.length) 0
theorem splice_zeros (xs : List Int) (s : Nat) (h : xs.length ≤ s) : splice (ints .u8 (List.replicate s 0)) 0 ((ints .u8 xs).take s) = ints .u8 (filled xs s) := by
  unfold splice filled
  rw [show (ints .u8 xs).take s = ints .u8 xs from List.take_of_length_le (by rw [ints_length]; exact h), ints_append, ints_length, ints_drop]
  simp
theorem Fill_ok (a : Option Addr) (n cap s : Nat) (xs : List Int) (w : World) (hl : xs.length = n) (hx : Sl w a (ints .u8 xs)) (hns : n ≤ s) (hs : s ≤ 4096) :
    Calls Try.prog 50 #[.slice a n cap, .int .i64 s] w fun e w' => e = .returned (.tuple #[.slice (some ⟨w.heap.size, 0, none⟩) s s, .int .i64 0]) ∧ w' = w.alloc (.cells (ints .u8 (filled xs s)).toArray 5) := by
  have hmk := make8 w s s rfl (by omega)
  have hr := Row.new w 5 (ints .u8 (List.replicate s 0))
  have hcp := run_copy_sl (P := Try.prog) (w.alloc (.cells (ints .u8 (List.replicate s 0)).toArray 5)) 26 26 3 5 (o := 0) s s n cap Try.underlying26 size8 hr (hx.ext ((Ext.refl w).alloc _)) (by rw [ints_length]; exact hl) (by simp [ints_length]; omega) (ints_oneCell' _ _)
  rw [splice_zeros _ _ (by omega), setRow_new] at hcp
  clear hr
  go_enter Try.func50, Try.ntmps50
  go_wp2
  go_ret2
  exact ⟨rfl, rfl⟩
theorem Fill_no (a : Option Addr) (n cap : Nat) (s : Int) (w : World) (b0 : -9223372036854775808 ≤ s) (b1 : s ≤ 9223372036854775807) (h : s < 0 ∨ 4096 < s ∨ s < n) (hm : n ≤ maxLen) :
    Calls Try.prog 50 #[.slice a n cap, .int .i64 s] w fun e w' => e = .returned (.tuple #[.slice none 0 0, .int .i64 (if s < 0 then 1 else 4)]) ∧ w = w' := by
  unfold maxLen at hm
  by_cases h0 : s < 0
  · rw [if_pos h0]
    clear h
    go_enter Try.func50, Try.ntmps50
    go_wp2
    go_ret2
    exact ⟨rfl, rfl⟩
  · rw [if_neg h0]
    by_cases h1 : 4096 < s
    · clear h
      go_enter Try.func50, Try.ntmps50
      go_wp2
      go_ret2
      exact ⟨rfl, rfl⟩
    · have h2 : s < n := by omega
      clear h
      go_enter Try.func50, Try.ntmps50
      go_wp2
      go_ret2
      exact ⟨rfl, rfl⟩
theorem filled_more (xs : List Int) (k : Nat) (h : xs.length ≤ k) : filled xs k ++ [0] = filled xs (k + 1) := by
  unfold filled
  rw [List.append_assoc]
  congr 1
  rw [show k + 1 - xs.length = (k - xs.length) + 1 by omega, List.replicate_succ']
theorem length_filled (xs : List Int) (s : Nat) (h : xs.length ≤ s) : (filled xs s).length = s := by unfold filled; rw [List.length_append, List.length_replicate]; omega
theorem isBytes_filled (xs : List Int) (s : Nat) (h : isBytes xs) : isBytes (filled xs s) := by
  unfold filled
  refine isBytes_append.2 ⟨h, fun x hx => ?_⟩
  rw [List.eq_of_mem_replicate hx]; omega
theorem filled_self (xs : List Int) (n : Nat) (h : xs.length = n) : filled xs n = xs := by unfold filled; rw [h]; simp
def fillR (xs : List Int) (s : Int) : List Int × Int :=
  if s < 0 then ([], 1) else if 4096 < s ∨ s < xs.length then ([], 4) else (filled xs s.toNat, 0)
theorem Fill_gave (a : Option Addr) (n cap : Nat) (xs : List Int) (w : World) (s : Int) (b0 : -9223372036854775808 ≤ s) (b1 : s ≤ 9223372036854775807) (hl : xs.length = n) (hn : n ≤ 9223372036854775807) (hs : Sl w a (ints .u8 xs)) :
    Calls Try.prog 50 #[.slice a n cap, .int .i64 s] w (Gave .u8 5 w (fillR xs s)) := by
  unfold fillR
  rw [hl]
  by_cases h : s < 0 ∨ 4096 < s ∨ s < n
  · refine (Fill_no a n cap s w b0 b1 h (by unfold maxLen; omega)).mono fun e w' ⟨h1, h2⟩ => ?_
    by_cases h0 : s < 0
    · rw [if_pos h0] at h1 ⊢
      exact Gave.nil h1 (by subst h2; exact Ext.refl _)
    · rw [if_neg h0] at h1 ⊢
      rw [if_pos (by omega)]
      exact Gave.nil h1 (by subst h2; exact Ext.refl _)
  · rw [if_neg (by omega), if_neg (by omega)]
    obtain ⟨q, rfl⟩ : ∃ q : Nat, s = q := ⟨s.toNat, by omega⟩
    rw [Int.toNat_natCast]
    refine (Fill_ok a n cap q xs w hl hs (by omega) (by omega)).mono fun e w' ⟨h1, h2⟩ => ?_
    subst h2
    exact Gave.row h1 (length_filled _ _ (by omega)) (by unfold maxLen; omega) (Row.new w 5 (ints .u8 (filled xs q))) ((Ext.refl w).alloc _)
end Go.Proofs.Ytnodinancnfoeaa.Field
/- What was laid is taken: plain laws. -/
namespace Go.Proofs.Ytnodinancnfoeaa.Field
open Go.RowKit Words Mem Plain Ops
set_option linter.unusedVariables false
set_option linter.unusedSimpArgs false

theorem fitsB_of {x : Int} {s : Nat} (h : x < 256 ^ s) : fitsB x s = true := by unfold fitsB; simpa using h
theorem fitsB_lt {x : Int} {s : Nat} (h : fitsB x s = true) : x < 256 ^ s := by unfold fitsB at h; simpa using h
theorem drop_layed (s : Nat) (l : List Int) (i : Nat) (h : i < l.length) : ((layed s l).drop (s * i)).take s = bytesOf s l[i] := by
  have e : l = l.take i ++ l[i] :: l.drop (i + 1) := by rw [← List.drop_eq_getElem_cons h, List.take_append_drop]
  have hl : (layed s (l.take i)).length = s * i := by rw [length_layed, List.length_take]; congr 1; omega
  have e2 : layed s l = layed s (l.take i) ++ (bytesOf s l[i] ++ layed s (l.drop (i + 1))) := by
    exact (congrArg (layed s) e).trans (by unfold layed; rw [List.flatMap_append, List.flatMap_cons])
  rw [e2, ← hl, List.drop_left, List.take_append_of_le_length (by rw [length_bytesOf]; exact Nat.le_refl _), List.take_of_length_le (by rw [length_bytesOf]; exact Nat.le_refl _)]
theorem takenL_layed (s : Nat) (l : List Int) (hu : ∀ x ∈ l, 0 ≤ x) (hf : ∀ x ∈ l, fitsB x s = true) : takenL s (layed s l) l.length = l := by
  apply List.ext_getElem?
  intro i
  by_cases h : i < l.length
  · rw [getElem_takenL _ _ _ _ h, drop_layed s l i h, numOf_bytesOf_of s _ (hu _ (List.getElem_mem h)) (fitsB_lt (hf _ (List.getElem_mem h))), List.getElem?_eq_getElem h]
  · rw [List.getElem?_eq_none (by rw [length_takenL]; omega), List.getElem?_eq_none (by omega)]
theorem takeR_layed (s : Nat) (l : List Int) (h1 : 1 ≤ s) (h8 : s ≤ 8) (hu : ∀ x ∈ l, 0 ≤ x) (h : okLay s l = true) : takeR s (layed s l) = (l, 0) := by
  obtain ⟨h2, h3⟩ := okLay_true h
  unfold takeR
  rw [length_layed, if_neg (by simp; omega), if_neg (by omega), Int.toNat_natCast, Nat.mul_div_cancel_left _ (by omega), takenL_layed s l hu h3]
end Go.Proofs.Ytnodinancnfoeaa.Field
/- The reference's At. -/
namespace Go.Proofs.Ytnodinancnfoeaa.Field
open Go.RowKit Words Mem Plain Ops
set_option linter.unusedVariables false
set_option linter.unusedSimpArgs false

def standsB (m a s : Int) : Bool := decide (1 ≤ s) && (decide (s ≤ 8) && (decide (0 ≤ a) && (decide (a ≤ m) && decide (s ≤ m - a))))
theorem standsB_true {m a s : Int} (h : standsB m a s = true) : 1 ≤ s ∧ s ≤ 8 ∧ 0 ≤ a ∧ a ≤ m ∧ s ≤ m - a := by
  simpa [standsB] using h
theorem numOf_drop (P : List Int) (i : Nat) (h : i < P.length) : numOf (P.drop i) = numOf (P.drop (i + 1)) * 256 + P[i] := by
  rw [List.drop_eq_getElem_cons h]; simp only [numOf]; omega
theorem At_ok (a : Option Addr) (n cap : Nat) (xs : List Int) (k s : Nat) (w : World) (hl : xs.length = n) (hn : n ≤ 9223372036854775807) (hb : isBytes xs) (hs : Sl w a (ints .u8 xs)) (h : standsB n k s = true) :
    Calls Try.prog 59 #[.slice a n cap, .int .i64 k, .int .i64 s] w fun e w' => e = .returned (.int .u64 (numOf ((xs.drop k).take s))) ∧ w = w' := by
  obtain ⟨h1, h2, h3, h4, h5⟩ := standsB_true h
  have hds := (hs.take (k + s)).drop k
  rw [ints_take, ints_drop, List.drop_take, Nat.add_sub_cancel_left] at hds
  have hdb : isBytes ((xs.drop k).take s) := isBytes_take (isBytes_drop hb _) _
  have hdl : ((xs.drop k).take s).length = s := by rw [List.length_take, List.length_drop]; omega
  obtain ⟨bb, oo, rfl, hc⟩ := hs.ints (by omega)
  have hc' : ∀ j (hj : j < ((xs.drop k).take s).length), w.cell? ⟨bb, oo + (k + j), none⟩ = some (.int .u8 ((xs.drop k).take s)[j]) := by
    intro j hj
    rw [hdl] at hj
    rw [hc (k + j) (by omega)]
    simp
  generalize (xs.drop k).take s = P at *
  have HC := Lib.hid hc'; have HL := Lib.hid hdl; have HB := Lib.hid hdb
  clear hc hc' hds hs hl hb h hdl hdb
  go_enter Try.func59, Try.ntmps59
  go_wp2
  go_loop [7, 8] (fun y v => ∃ i : Nat, i ≤ s ∧ v = .int .i64 ((i : Int) - 1) ∧ y = .int .u64 (numOf (P.drop i))) (fun _ v => (intOf v + 1).toNat)
  case atStart => exact ⟨s, by omega, rfl, by rw [List.drop_of_length_le (by rw [HL.out]; exact Nat.le_refl _)]; rfl⟩
  case round =>
    obtain ⟨i, hi, rfl, rfl⟩ := hrel
    by_cases hlt : 1 ≤ i
    · obtain ⟨j, rfl⟩ : ∃ j, i = j + 1 := ⟨i - 1, by omega⟩
      have hjl : j < P.length := by rw [HL.out]; omega
      have hcell := HC.out j hjl
      have hst := numOf_drop P j hjl
      have hbd := HB.out P[j] (List.getElem_mem hjl)
      have n0 := numOf_nonneg (isBytes_drop HB.out (j + 1))
      have n1 := numOf_lt (isBytes_drop HB.out j)
      have n2 : (256 : Int) ^ (P.drop j).length ≤ 256 ^ 8 := pow_mono (by rw [List.length_drop, HL.out]; omega)
      rw [p8] at n2
      rw [hst] at n1
      have HS := Lib.hid hst; clear hst
      have e1 : ((j + 1 : Nat) : Int) - 1 = j := by omega
      rw [e1]
      generalize P[j] = x at *
      generalize numOf (P.drop (j + 1)) = y at *
      have n3 : y * 256 + x < 18446744073709551616 := by omega
      clear n1 n2 e1 hjl
      obtain ⟨b0, b1⟩ := hbd
      have k0 : 0 ≤ (k : Int) + j := by omega
      go_wp2
      go_round
      case rel => exact ⟨j, by omega, rfl, by rw [HS.out]⟩
      case measure => simp [intOf]
    · have : i = 0 := by omega
      subst this
      go_wp2
      go_ret
      exact ⟨rfl, rfl⟩
theorem standsB_of {m k s : Int} (h1 : 1 ≤ s) (h2 : s ≤ 8) (h3 : 0 ≤ k) (h4 : k ≤ m) (h5 : s ≤ m - k) : standsB m k s = true := by
  unfold standsB
  rw [decide_eq_true h1, decide_eq_true h2, decide_eq_true h3, decide_eq_true h4, decide_eq_true h5]; rfl
end Go.Proofs.Ytnodinancnfoeaa.Field
/- Inodes as numbers and bytes: plain laws. -/
namespace Go.Proofs.Ytnodinancnfoeaa.Ino
open Go.RowKit Words Mem Plain Ops
open Go.Proofs.Ytnodinancnfoeaa.Field
set_option linter.ambiguousOpen false
set_option linter.unusedVariables false
set_option linter.unusedSimpArgs false

structure Ino where
  k : Int
  r : Int
  l : Int
  s : Int
  d0 : Int
  d1 : Int
  d2 : Int
  d3 : Int
  d4 : Int
  d5 : Int
  d6 : Int
  d7 : Int
  i : Int
  j : Int

def Ino.D (n : Ino) : List Int := [n.d0, n.d1, n.d2, n.d3, n.d4, n.d5, n.d6, n.d7]
abbrev Ino.cs (n : Ino) : Array Value := #[.int .u8 n.k, .int .u8 n.r, .int .i64 n.l, .int .i64 n.s, .int .i64 n.d0, .int .i64 n.d1, .int .i64 n.d2, .int .i64 n.d3, .int .i64 n.d4, .int .i64 n.d5, .int .i64 n.d6, .int .i64 n.d7, .int .i64 n.i, .int .i64 n.j]
abbrev Ino.v (n : Ino) : Value := .agg n.cs
def Ino.zero : Ino := ⟨0, 0, 0, 0, 0, 0, 0, 0, 0, 0, 0, 0, 0, 0⟩
/-- What its kinds let in. -/
def Ino.wf (n : Ino) : Prop := (0 ≤ n.k ∧ n.k < 256) ∧ (0 ≤ n.r ∧ n.r < 256)
/-- Are both the same? -/
def Ino.eqB (a b : Ino) : Bool := a.k == b.k && (a.r == b.r && (a.l == b.l && (a.s == b.s && (a.d0 == b.d0 && (a.d1 == b.d1 && (a.d2 == b.d2 && (a.d3 == b.d3 && (a.d4 == b.d4 && (a.d5 == b.d5 && (a.d6 == b.d6 && (a.d7 == b.d7 && (a.i == b.i && a.j == b.j))))))))))))
theorem Ino.eqB_iff (a b : Ino) : Ino.eqB a b = true ↔ a = b := by
  obtain ⟨⟩ := a
  obtain ⟨⟩ := b
  simp only [Ino.eqB, Bool.and_eq_true, beq_iff_eq, Ino.mk.injEq]
theorem Ino.eqB_self (a : Ino) : Ino.eqB a a = true := (Ino.eqB_iff a a).2 rfl

/-- Which inodes may be. -/
def Ino.RightP (n : Ino) : Prop := n.k ≤ 2 ∧ (n.k = 0 → Ino.eqB n Ino.zero = true) ∧ n.r < 16 ∧ 0 ≤ n.l ∧ n.l ≤ 65535 ∧ 0 ≤ n.s ∧ n.s ≤ 3840 ∧ (∀ x ∈ n.D, ptrB x = true) ∧ ptrB n.i = true ∧ ptrB n.j = true
def Ino.rightB (n : Ino) : Bool := decide (n.k ≤ 2) && ((!(n.k == 0) || Ino.eqB n Ino.zero) && (decide (n.r < 16) && (decide (0 ≤ n.l) && (decide (n.l ≤ 65535) && (decide (0 ≤ n.s) && (decide (n.s ≤ 3840) && (n.D.all ptrB && (ptrB n.i && ptrB n.j))))))))
theorem Ino.rightB_iff (n : Ino) : n.rightB = true ↔ n.RightP := by
  unfold Ino.rightB Ino.RightP
  simp only [Bool.and_eq_true, decide_eq_true_eq, Bool.or_eq_true, Bool.not_eq_true', beq_eq_false_iff_ne, List.all_eq_true]
  have : (n.k ≠ 0 ∨ Ino.eqB n Ino.zero = true) ↔ (n.k = 0 → Ino.eqB n Ino.zero = true) := by
    by_cases h : n.k = 0 <;> simp [h]
  rw [this]
theorem Ino.rightB_yes {n : Ino} (h : n.RightP) : n.rightB = true := (Ino.rightB_iff n).2 h
theorem Ino.rightB_no {n : Ino} (h : ¬ n.RightP) : n.rightB = false := by
  cases e : n.rightB
  · rfl
  · exact absurd ((Ino.rightB_iff n).1 e) h
theorem Ino.right_of {n : Ino} (h : n.rightB = true) : n.RightP := (Ino.rightB_iff n).1 h
theorem Ino.right_not {n : Ino} (h : n.rightB = false) : ¬ n.RightP := fun e => by rw [Ino.rightB_yes e] at h; cases h

/-- Its numbers, of two bytes each. -/
def Ino.nums (n : Ino) : List Int := [n.k + 256 * n.r, n.l, n.s, n.d0, n.d1, n.d2, n.d3, n.d4, n.d5, n.d6, n.d7, n.i, n.j]
def Ino.bytes (n : Ino) : List Int := filled (layed 2 n.nums) 32
/-- What Lay answers. -/
def Ino.layR (n : Ino) : List Int × Int := if n.rightB = true then (n.bytes, 0) else ([], 1)

theorem Ino.nums_bd {n : Ino} (hw : n.wf) (h : n.RightP) : ∀ x ∈ n.nums, 0 ≤ x ∧ x < 65536 := by
  obtain ⟨h1, h2, h3, h4, h5, h6, h7, h8, h9, h10⟩ := h
  have q : ∀ x ∈ n.D, 0 ≤ x ∧ x < 65536 := fun x hx => by have := ptrB_true (h8 x hx); omega
  have qi := ptrB_true h9
  have qj := ptrB_true h10
  obtain ⟨⟨k0, k1⟩, r0, r1⟩ := hw
  intro x hx
  have e : n.nums = [n.k + 256 * n.r, n.l, n.s] ++ n.D ++ [n.i, n.j] := rfl
  rw [e] at hx
  simp only [List.mem_append, List.mem_cons, List.not_mem_nil, or_false] at hx
  rcases hx with ((rfl | rfl | rfl) | hx) | (rfl | rfl)
  · omega
  · omega
  · omega
  · exact q x hx
  · omega
  · omega

/-- The inode that numbers of two bytes tell. -/
def Ino.ofNums (N : List Int) : Ino := ⟨N.getD 0 0 % 256, N.getD 0 0 / 256, N.getD 1 0, N.getD 2 0, N.getD 3 0, N.getD 4 0, N.getD 5 0, N.getD 6 0, N.getD 7 0, N.getD 8 0, N.getD 9 0, N.getD 10 0, N.getD 11 0, N.getD 12 0⟩
/-- What Take answers. -/
def Ino.takeP (xs : List Int) : Prop := xs.length = 32 ∧ (Ino.ofNums (takenL 2 xs 16)).RightP ∧ (∀ x ∈ (takenL 2 xs 16).drop 13, x = 0)
open Classical in
noncomputable def Ino.takeR (xs : List Int) : Ino × Int := if Ino.takeP xs then (Ino.ofNums (takenL 2 xs 16), 0) else (Ino.zero, 110)

theorem layed_append (s : Nat) (A B : List Int) : layed s (A ++ B) = layed s A ++ layed s B := by simp [layed]
theorem layed_zeros (s m : Nat) : layed s (List.replicate m 0) = List.replicate (s * m) 0 := by
  have hz : bytesOf s 0 = List.replicate s 0 := by
    apply List.ext_getElem?
    intro i
    by_cases h : i < s
    · rw [getElem_bytesOf _ _ _ h]; simp [byteAt, h]
    · rw [List.getElem?_eq_none (by rw [length_bytesOf]; omega), List.getElem?_eq_none (by simp; omega)]
  induction m with
  | zero => simp [layed]
  | succ m ih =>
    rw [List.replicate_succ, Nat.mul_succ]
    have : layed s (0 :: List.replicate m 0) = bytesOf s 0 ++ layed s (List.replicate m 0) := by simp [layed]
    rw [this, ih, hz, List.replicate_append_replicate, Nat.add_comm]

/-- Bytes are what their numbers lay. -/
theorem layed_takenL (s q : Nat) (xs : List Int) (hb : isBytes xs) (h : xs.length = s * q) : layed s (takenL s xs q) = xs := by
  have key : ∀ m, m ≤ q → layed s (takenL s xs m) = xs.take (s * m) := by
    intro m
    induction m with
    | zero => intro _; simp [takenL, layed]
    | succ m ih =>
      intro hm
      have hle : s * m + s ≤ s * q := by rw [← Nat.mul_succ]; exact Nat.mul_le_mul_left s hm
      rw [takenL_succ, layed_snoc, ih (by omega), Nat.mul_succ, List.take_add]
      congr 1
      have hl : ((xs.drop (s * m)).take s).length = s := by rw [List.length_take, List.length_drop]; omega
      have := bytesOf_numOf ((xs.drop (s * m)).take s) (isBytes_take (isBytes_drop hb _) _)
      rwa [hl] at this
  rw [key q (Nat.le_refl _), ← h, List.take_length]

theorem layed_inj (s : Nat) (A B : List Int) (hl : A.length = B.length) (hA : ∀ x ∈ A, 0 ≤ x ∧ x < 256 ^ s) (hB : ∀ x ∈ B, 0 ≤ x ∧ x < 256 ^ s) (h : layed s A = layed s B) : A = B := by
  have h1 := takenL_layed s A (fun x hx => (hA x hx).1) (fun x hx => fitsB_of (hA x hx).2)
  have h2 := takenL_layed s B (fun x hx => (hB x hx).1) (fun x hx => fitsB_of (hB x hx).2)
  rw [← h1, ← h2, h, hl]

theorem Ino.bytes_layed (n : Ino) : n.bytes = layed 2 (n.nums ++ [0, 0, 0]) := by
  have h1 : (layed 2 n.nums).length = 26 := by rw [length_layed]; rfl
  unfold Ino.bytes filled
  rw [h1, layed_append]
  congr 1
theorem Ino.bytes_len (n : Ino) : n.bytes.length = 32 := by rw [Ino.bytes_layed, length_layed]; rfl
theorem Ino.bytes_isBytes (n : Ino) : isBytes n.bytes := by rw [Ino.bytes_layed]; exact isBytes_layed _ _

theorem sixteen (N : List Int) (h : N.length = 16) : N = [N.getD 0 0, N.getD 1 0, N.getD 2 0, N.getD 3 0, N.getD 4 0, N.getD 5 0, N.getD 6 0, N.getD 7 0, N.getD 8 0, N.getD 9 0, N.getD 10 0, N.getD 11 0, N.getD 12 0, N.getD 13 0, N.getD 14 0, N.getD 15 0] := by
  rcases N with _ | ⟨a0, _ | ⟨a1, _ | ⟨a2, _ | ⟨a3, _ | ⟨a4, _ | ⟨a5, _ | ⟨a6, _ | ⟨a7, _ | ⟨a8, _ | ⟨a9, _ | ⟨a10, _ | ⟨a11, _ | ⟨a12, _ | ⟨a13, _ | ⟨a14, _ | ⟨a15, N⟩⟩⟩⟩⟩⟩⟩⟩⟩⟩⟩⟩⟩⟩⟩⟩ <;> simp_all

theorem Ino.nums_ofNums (N : List Int) (h : N.length = 16) : (Ino.ofNums N).nums ++ N.drop 13 = N := by
  have e := sixteen N h
  rw [e]
  simp [Ino.ofNums, Ino.nums]
  omega
theorem Ino.ofNums_nums {n : Ino} (hw : n.wf) (T : List Int) : Ino.ofNums (n.nums ++ T) = n := by
  obtain ⟨⟨k0, k1⟩, r0, r1⟩ := hw
  obtain ⟨⟩ := n
  simp only [Ino.ofNums, Ino.nums, Ino.mk.injEq] at *
  simp
  omega
theorem Ino.takenL_bytes {n : Ino} (hw : n.wf) (h : n.RightP) : takenL 2 n.bytes 16 = n.nums ++ [0, 0, 0] := by
  have hb : ∀ x ∈ n.nums ++ [0, 0, 0], 0 ≤ x ∧ x < 65536 := by
    intro x hx
    rcases List.mem_append.1 hx with h1 | h1
    · exact Ino.nums_bd hw h x h1
    · simp at h1; omega
  have := takenL_layed 2 (n.nums ++ [0, 0, 0]) (fun x hx => (hb x hx).1) (fun x hx => fitsB_of (by rw [p2]; exact (hb x hx).2))
  rw [Ino.bytes_layed]
  exact this

/-- What was laid is taken. -/
theorem Ino.take_bytes {n : Ino} (hw : n.wf) (h : n.RightP) : Ino.takeR n.bytes = (n, 0) := by
  have h1 := Ino.takenL_bytes hw h
  have h2 : Ino.ofNums (takenL 2 n.bytes 16) = n := by rw [h1]; exact Ino.ofNums_nums hw _
  have h3 : (takenL 2 n.bytes 16).drop 13 = [0, 0, 0] := by rw [h1]; rfl
  unfold Ino.takeR
  rw [if_pos ⟨Ino.bytes_len n, by rw [h2]; exact h, by rw [h3]; intro x hx; simpa using hx⟩, h2]
/-- What is taken is laid so. -/
theorem Ino.bytes_take {xs : List Int} (hb : isBytes xs) (h : Ino.takeP xs) : (Ino.ofNums (takenL 2 xs 16)).bytes = xs := by
  obtain ⟨h1, h2, h3⟩ := h
  have h4 := Ino.nums_ofNums (takenL 2 xs 16) (length_takenL _ _ _)
  have h5 : (takenL 2 xs 16).drop 13 = [0, 0, 0] := by
    have hl : ((takenL 2 xs 16).drop 13).length = 3 := by rw [List.length_drop, length_takenL]
    generalize (takenL 2 xs 16).drop 13 = T at *
    rcases T with _ | ⟨a, _ | ⟨b, _ | ⟨c, _ | ⟨d, T⟩⟩⟩⟩ <;> simp at hl
    simp at h3
    rw [h3.1, h3.2.1, h3.2.2]
  rw [h5] at h4
  rw [Ino.bytes_layed, h4]
  exact layed_takenL 2 16 xs hb h1
/-- What the reference asks: the bytes that the inode lays are the bytes. -/
theorem Ino.take_iff {xs : List Int} (hb : isBytes xs) (hl : xs.length = 32) (hr : (Ino.ofNums (takenL 2 xs 16)).RightP) : (Ino.ofNums (takenL 2 xs 16)).bytes = xs ↔ Ino.takeP xs := by
  refine ⟨fun h => ⟨hl, hr, ?_⟩, Ino.bytes_take hb⟩
  have hq := takenL_bd 2 xs 16 hb (by decide)
  rw [p2] at hq
  have hw : (Ino.ofNums (takenL 2 xs 16)).wf := by
    have h0 : 0 ≤ (takenL 2 xs 16).getD 0 0 ∧ (takenL 2 xs 16).getD 0 0 < 65536 := by
      have hl : 0 < (takenL 2 xs 16).length := by rw [length_takenL]; decide
      have := hq (takenL 2 xs 16)[0] (List.getElem_mem hl)
      simpa [List.getD, hl] using this
    unfold Ino.wf Ino.ofNums
    dsimp only
    omega
  have h1 := Ino.takenL_bytes hw hr
  rw [h] at h1
  rw [h1]
  intro x hx
  have : (((Ino.ofNums (takenL 2 xs 16)).nums ++ [0, 0, 0]).drop 13) = [0, 0, 0] := rfl
  rw [this] at hx
  simpa using hx
theorem Ino.ofNums_wf {xs : List Int} (hb : isBytes xs) (h : xs.length = 32) : (Ino.ofNums (takenL 2 xs 16)).wf := by
  have hq := takenL_bd 2 xs 16 hb (by decide)
  rw [p2] at hq
  have h0 : 0 ≤ (takenL 2 xs 16).getD 0 0 ∧ (takenL 2 xs 16).getD 0 0 < 65536 := by
    have hl : 0 < (takenL 2 xs 16).length := by rw [length_takenL]; decide
    have := hq (takenL 2 xs 16)[0] (List.getElem_mem hl)
    simpa [List.getD, hl] using this
  unfold Ino.wf Ino.ofNums
  dsimp only
  omega
end Go.Proofs.Ytnodinancnfoeaa.Ino
