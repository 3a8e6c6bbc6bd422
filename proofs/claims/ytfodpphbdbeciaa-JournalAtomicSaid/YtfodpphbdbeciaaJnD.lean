/- The disk beside what else lies there (turned from 05's DkM, DkS). -/
import Derived.Test.YtfodpphbdbeciaaJnA
namespace Go.Proofs.Ytfodpphbdbeciaa.Jn
open Go.RowKit Words Mem Plain Ops Agg OwnS Dk
set_option maxRecDepth 100000
set_option linter.ambiguousOpen false
set_option linter.unusedVariables false
set_option linter.unusedSimpArgs false

/-- A law's disk, and blocks that lie apart from it. -/
def AtM (w0 : World) (g gs sc : Nat) (D : Dsk) (X : Nat → Prop) (w : World) : Prop := Ext w0 w ∧ ∃ wa wc, DiskAt w w0.heap.size g (some ⟨gs, 0, none⟩) sc wa wc D ∧ ∀ k, X k → k < w.heap.size ∧ w0.heap.size ≤ k ∧ ¬ foot g (some ⟨gs, 0, none⟩) wa k
/-- What lies apart is as it was. -/
def Same (X : Nat → Prop) (w w' : World) : Prop := w.heap.size ≤ w'.heap.size ∧ ∀ k, X k → w'.heap[k]? = w.heap[k]?
theorem Same.refl (X : Nat → Prop) (w : World) : Same X w w := ⟨Nat.le_refl _, fun _ _ => rfl⟩
theorem Same.trans {X : Nat → Prop} {a b c : World} (h : Same X a b) (k : Same X b c) : Same X a c := ⟨Nat.le_trans h.1 k.1, fun q hq => (k.2 q hq).trans (h.2 q hq)⟩
theorem Same.sub {X Y : Nat → Prop} {a b : World} (h : Same X a b) (hy : ∀ k, Y k → X k) : Same Y a b := ⟨h.1, fun q hq => h.2 q (hy q hq)⟩
theorem Same.row {X : Nat → Prop} {a b : World} (h : Same X a b) {g : Nat} {t : TypeId} {L : List Value} (hr : Row a g t L) (hx : X g) : Row b g t L := (h.2 g hx).trans hr
theorem Same.cell {X : Nat → Prop} {a b : World} (h : Same X a b) {p : Addr} {v : Value} (hc : a.cell? p = some v) (hx : X p.block) : b.cell? p = some v := by
  rw [World.cell?_of_block (w := a) (h.2 p.block hx)]; exact hc
section
variable {w0 w w' : World} {g gs sc : Nat} {D : Dsk} {X : Nat → Prop}
theorem AtM.ext (h : AtM w0 g gs sc D X w) (e : Ext w w') : AtM w0 g gs sc D X w' := by
  obtain ⟨h1, wa, wc, h2, h3⟩ := h
  exact ⟨h1.trans e, wa, wc, h2.ext e, fun k hk => ⟨Nat.lt_of_lt_of_le (h3 k hk).1 e.size, (h3 k hk).2⟩⟩
theorem AtM.guest (h : AtM w0 g gs sc D X w) (c : Chg X w w') : AtM w0 g gs sc D X w' := by
  obtain ⟨h1, wa, wc, h2, h3⟩ := h
  exact ⟨Chg.ext h1 c (fun i hi => (h3 i hi).2.1), wa, wc, h2.chg c (fun k hk e => (h3 k e).2.2 hk), fun k hk => ⟨Nat.lt_of_lt_of_le (h3 k hk).1 c.size, (h3 k hk).2⟩⟩
theorem AtM.sub (h : AtM w0 g gs sc D X w) {Y : Nat → Prop} (hy : ∀ k, Y k → X k) : AtM w0 g gs sc D Y w := by
  obtain ⟨h1, wa, wc, h2, h3⟩ := h
  exact ⟨h1, wa, wc, h2, fun k hk => h3 k (hy k hk)⟩
/-- What is new lies apart. -/
theorem AtM.add (h : AtM w0 g gs sc D X w) (e : Ext w w') {Y : Nat → Prop} (hy : ∀ k, Y k → X k ∨ (w.heap.size ≤ k ∧ k < w'.heap.size)) : AtM w0 g gs sc D Y w' := by
  obtain ⟨h1, wa, wc, h2, h3⟩ := h
  refine ⟨h1.trans e, wa, wc, h2.ext e, fun k hk => ?_⟩
  rcases hy k hk with hx | ⟨g1, g2⟩
  · exact ⟨Nat.lt_of_lt_of_le (h3 k hx).1 e.size, (h3 k hx).2⟩
  · exact ⟨g2, Nat.le_trans h1.size g1, fun hf => by have := (h2.foot_ge _ hf).2; omega⟩
theorem AtM.lt (h : AtM w0 g gs sc D X w) {k : Nat} (hk : X k) : k < w.heap.size ∧ w0.heap.size ≤ k := by
  obtain ⟨_, _, _, _, h3⟩ := h
  exact ⟨(h3 k hk).1, (h3 k hk).2.1⟩
end
theorem Same.ofExt {w0 w w' : World} {g gs sc : Nat} {D : Dsk} {X : Nat → Prop} (h : AtM w0 g gs sc D X w) (e : Ext w w') : Same X w w' := ⟨e.size, fun k hk => e.block k (h.lt hk).1⟩

/-- A patch's bytes lie in a guest's block. -/
theorem Write_atM {w0 u : World} {g gs sc : Nat} {X : Nat → Prop} {D : Dsk} {b : Nat} (h : AtM w0 g gs sc D X u) (hwf : D.Wf b) (hb : b ≤ 100000000) (i : Int) (a : Option Addr) (nb cb : Nat) (bs : List Int) (tag : Int) (hl : bs.length = nb) (hnb : nb ≤ 9223372036854775807) (hs : Sl u a (ints .u8 bs)) (hX : ∀ ad, a = some ad → X ad.block) :
    Calls Try.prog 43 #[.pointer (some ⟨g, 0, none⟩), .agg #[.int .i64 i, .slice a nb cb, .int .u16 tag]] u fun e w' => e = .returned (.int .i64 (writeR D i bs tag).2) ∧ AtM w0 g gs sc (writeR D i bs tag).1 X w' ∧ Same X u w' := by
  obtain ⟨h1, wa, wc, h2, hg⟩ := h
  have hw := Write_ok h2 ⟨hwf.done.1, by have := hwf.done.2; omega⟩ hwf.fuse i a nb cb bs tag hl hnb hs (fun ad e hf => (hg _ (hX ad e)).2.2 hf) hwf.few (by have := hwf.many; omega) h1.size
  refine hw.mono ?_
  rintro e w' ⟨he, wa', wc', hD, hC, hwa⟩
  refine ⟨he, ⟨Chg.ext h1 hC (fun k hk => (h2.foot_ge k hk).1), wa', wc', hD, fun k hk => ?_⟩, hC.size, fun k hk => ?_⟩
  · obtain ⟨hg1, hg2, hg3⟩ := hg k hk
    refine ⟨Nat.lt_of_lt_of_le hg1 hC.size, hg2, ?_⟩
    rcases hwa with rfl | hwa
    · exact hg3
    · rintro (e | e | ⟨ad, e, rfl⟩)
      · exact hg3 (.inl e)
      · exact hg3 (.inr (.inl e))
      · have := hwa ad e; omega
  · obtain ⟨hg1, hg2, hg3⟩ := hg k hk
    exact hC.block k hg1 hg3
theorem Flush_atM {w0 u : World} {g gs sc : Nat} {X : Nat → Prop} {D : Dsk} {b : Nat} (h : AtM w0 g gs sc D X u) (hwf : D.Wf b) (hb : b ≤ 100000000) :
    Calls Try.prog 44 #[.pointer (some ⟨g, 0, none⟩)] u fun e w' => e = .returned (.int .i64 (flushR D).2) ∧ AtM w0 g gs sc (flushR D).1 X w' ∧ Same X u w' := by
  obtain ⟨h1, wa, wc, h2, hg⟩ := h
  refine (Flush_ok h2 ⟨hwf.done.1, by have := hwf.done.2; omega⟩ hwf.fuse).mono ?_
  rintro e w' ⟨he, ⟨wa', wc', hD, hwa⟩, hB⟩
  refine ⟨he, ⟨h1.by hB h2.hb, wa', wc', hD, fun k hk => ?_⟩, hB.size, fun k hk => ?_⟩
  · obtain ⟨hg1, hg2, hg3⟩ := hg k hk
    refine ⟨Nat.lt_of_lt_of_le hg1 hB.size, hg2, ?_⟩
    rintro (e | e | ⟨ad, e, rfl⟩)
    · exact hg3 (.inl e)
    · exact hg3 (.inr (.inl e))
    · rcases hwa with hwa | hwa
      · rw [hwa] at e; exact hg3 (.inr (.inr ⟨ad, e, rfl⟩))
      · rw [hwa] at e; cases e
  · obtain ⟨hg1, hg2, hg3⟩ := hg k hk
    have hne : k ≠ g := fun e => hg3 (.inl e)
    exact hB.block k hg1 (by simpa using hne)
theorem Read_atM {w0 u : World} {g gs sc : Nat} {X : Nat → Prop} {D : Dsk} (h : AtM w0 g gs sc D X u) (i : Int) :
    Calls Try.prog 26 #[.pointer (some ⟨g, 0, none⟩), .int .i64 i] u (Field.Gave .u8 5 u (readR D i)) := by
  obtain ⟨h1, wa, wc, h2, _⟩ := h
  exact Read_ok h2 i
theorem Len_atM {w0 u : World} {g gs sc : Nat} {X : Nat → Prop} {D : Dsk} (h : AtM w0 g gs sc D X u) :
    Calls Try.prog 27 #[.pointer (some ⟨g, 0, none⟩)] u fun e w' => e = .returned (.int .i64 D.secs.length) ∧ u = w' := by
  obtain ⟨h1, wa, wc, h2, _⟩ := h
  exact (Len_ok h2).mono fun e w' ⟨h3, h4⟩ => ⟨h3, h4.symm⟩
theorem Done_atM {w0 u : World} {g gs sc : Nat} {X : Nat → Prop} {D : Dsk} (h : AtM w0 g gs sc D X u) :
    Calls Try.prog 22 #[.pointer (some ⟨g, 0, none⟩)] u fun e w' => e = .returned (.int .i64 D.done) ∧ u = w' := by
  obtain ⟨h1, wa, wc, h2, _⟩ := h
  exact (Done_ok h2).mono fun e w' ⟨h3, h4⟩ => ⟨h3, h4.symm⟩
theorem New_atM (n : Nat) (w : World) (hn : n ≤ 4096) :
    Calls Try.prog 12 #[.int .i64 n] w fun e w' => ∃ g gs sc, e = .returned (.tuple #[.pointer (some ⟨g, 0, none⟩), .int .i64 0]) ∧ AtM w g gs sc (newD n) (fun _ => False) w' := by
  refine (New_ok n w hn).mono ?_
  rintro e w' ⟨g, gs, sc, he, hD, hX⟩
  exact ⟨g, gs, sc, he, hX, none, 0, hD, fun k hk => hk.elim⟩
end Go.Proofs.Ytfodpphbdbeciaa.Jn
