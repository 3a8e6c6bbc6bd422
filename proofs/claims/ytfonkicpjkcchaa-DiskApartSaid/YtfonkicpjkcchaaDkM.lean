/- A law's disk beside a guest: a slice of bytes that is appended to and cut. -/
import Derived.Test.YtfonkicpjkcchaaDkQ
import Derived.Test.YtfonkicpjkcchaaSlices
import Derived.ArgAppend
namespace Go.Proofs.Ytfonkicpjkcchaa.Dk
open Go.RowKit Words Mem Plain Ops Agg OwnS
set_option linter.ambiguousOpen false
set_option linter.unusedVariables false
set_option linter.unusedSimpArgs false

/-- A law's disk, and blocks that lie apart from it. -/
def AtM (w0 : World) (g gs sc : Nat) (D : Dsk) (X : Nat → Prop) (w : World) : Prop := Ext w0 w ∧ ∃ wa wc, DiskAt w w0.heap.size g (some ⟨gs, 0, none⟩) sc wa wc D ∧ ∀ k, X k → k < w.heap.size ∧ w0.heap.size ≤ k ∧ ¬ foot g (some ⟨gs, 0, none⟩) wa k
/-- What lies apart is as it was. -/
def Same (X : Nat → Prop) (w w' : World) : Prop := ∀ k, X k → w'.heap[k]? = w.heap[k]?
section
variable {w0 w w' : World} {g gs sc : Nat} {D : Dsk} {X : Nat → Prop}
theorem AtM.at_ (h : AtM w0 g gs sc D X w) : At w0 g gs sc D w := by
  obtain ⟨h1, wa, wc, h2, _⟩ := h
  exact ⟨h1, wa, wc, h2⟩
theorem AtM.ext (h : AtM w0 g gs sc D X w) (e : Ext w w') : AtM w0 g gs sc D X w' := by
  obtain ⟨h1, wa, wc, h2, h3⟩ := h
  exact ⟨h1.trans e, wa, wc, h2.ext e, fun k hk => ⟨Nat.lt_of_lt_of_le (h3 k hk).1 e.size, (h3 k hk).2⟩⟩
theorem AtM.guest (h : AtM w0 g gs sc D X w) (c : Chg X w w') : AtM w0 g gs sc D X w' := by
  obtain ⟨h1, wa, wc, h2, h3⟩ := h
  exact ⟨Chg.ext h1 c (fun i hi => (h3 i hi).2.1), wa, wc, h2.chg c (fun k hk e => (h3 k e).2.2 hk), fun k hk => ⟨Nat.lt_of_lt_of_le (h3 k hk).1 c.size, (h3 k hk).2⟩⟩
theorem AtM.sub (h : AtM w0 g gs sc D X w) {Y : Nat → Prop} (hy : ∀ k, Y k → X k) : AtM w0 g gs sc D Y w := by
  obtain ⟨h1, wa, wc, h2, h3⟩ := h
  exact ⟨h1, wa, wc, h2, fun k hk => h3 k (hy k hk)⟩
/-- What is new lies apart. -/
theorem AtM.add (h : AtM w0 g gs sc D X w) (e : Ext w w') {Y : Nat → Prop} (hy : ∀ k, Y k → X k ∨ (w.heap.size ≤ k ∧ k < w'.heap.size)) : AtM w0 g gs sc D Y w' := by
  obtain ⟨h1, wa, wc, h2, h3⟩ := h
  refine ⟨h1.trans e, wa, wc, h2.ext e, fun k hk => ?_⟩
  rcases hy k hk with hx | ⟨g1, g2⟩
  · exact ⟨Nat.lt_of_lt_of_le (h3 k hx).1 e.size, (h3 k hx).2⟩
  · exact ⟨g2, Nat.le_trans h1.size g1, fun hf => by have := (h2.foot_ge _ hf).2; omega⟩
theorem At.fresh (h : At w0 g gs sc D w) (e : Ext w w') {Y : Nat → Prop} (hy : ∀ k, Y k → w.heap.size ≤ k ∧ k < w'.heap.size) : AtM w0 g gs sc D Y w' := by
  obtain ⟨h1, wa, wc, h2⟩ := h
  exact ⟨h1.trans e, wa, wc, h2.ext e, fun k hk => ⟨(hy k hk).2, Nat.le_trans h1.size (hy k hk).1, fun hf => by have := (h2.foot_ge _ hf).2; have := (hy k hk).1; omega⟩⟩
end

theorem Write_atM {w0 u u' : World} {g gs sc : Nat} {X : Nat → Prop} {D : Dsk} {b : Nat} (h : AtM w0 g gs sc D X u) (hwf : D.Wf b) (hb : b ≤ 100000000) (hx : Ext u u') {a' : Nat} (ha : u.heap.size ≤ a') {c : Int} (hr : Row u' a' 5 (ints .u8 (allB c))) (i : Int) :
    Calls Try.prog 11 #[.pointer (some ⟨g, 0, none⟩), .agg #[.int .i64 i, .slice (some ⟨a', 0, none⟩) 64 64, .int .u16 c]] u' fun e w' => e = .returned (.int .i64 (writeR D i (allB c) c).2) ∧ AtM w0 g gs sc (writeR D i (allB c) c).1 X w' ∧ Same X u w' := by
  obtain ⟨h1, wa, wc, h2, hg⟩ := h
  have h3 := h2.ext hx
  have hw := Write_ok h3 ⟨hwf.done.1, by have := hwf.done.2; omega⟩ hwf.fuse i (some ⟨a', 0, none⟩) 64 64 (allB c) c (allB_len c) (by decide) hr.sl0 (fun ad e hf => by
    cases e
    have := (h2.foot_ge a' hf).2
    dsimp only at hf
    omega) hwf.few (by have := hwf.many; omega) (h1.trans hx).size
  refine hw.mono ?_
  rintro e w' ⟨he, wa', wc', hD, hC, hwa⟩
  refine ⟨he, ⟨Chg.ext (h1.trans hx) hC (fun k hk => (h3.foot_ge k hk).1), wa', wc', hD, fun k hk => ?_⟩, fun k hk => ?_⟩
  · obtain ⟨hg1, hg2, hg3⟩ := hg k hk
    have hgu : k < u'.heap.size := Nat.lt_of_lt_of_le hg1 hx.size
    refine ⟨Nat.lt_of_lt_of_le hgu hC.size, hg2, ?_⟩
    rcases hwa with rfl | hwa
    · exact hg3
    · rintro (e | e | ⟨ad, e, rfl⟩)
      · exact hg3 (.inl e)
      · exact hg3 (.inr (.inl e))
      · have := hwa ad e; omega
  · obtain ⟨hg1, hg2, hg3⟩ := hg k hk
    exact (hC.block k (Nat.lt_of_lt_of_le hg1 hx.size) hg3).trans (hx.block k hg1)
theorem Flush_atM {w0 u : World} {g gs sc : Nat} {X : Nat → Prop} {D : Dsk} {b : Nat} (h : AtM w0 g gs sc D X u) (hwf : D.Wf b) (hb : b ≤ 100000000) :
    Calls Try.prog 13 #[.pointer (some ⟨g, 0, none⟩)] u fun e w' => e = .returned (.int .i64 (flushR D).2) ∧ AtM w0 g gs sc (flushR D).1 X w' ∧ Same X u w' := by
  obtain ⟨h1, wa, wc, h2, hg⟩ := h
  refine (Flush_ok h2 ⟨hwf.done.1, by have := hwf.done.2; omega⟩ hwf.fuse).mono ?_
  rintro e w' ⟨he, ⟨wa', wc', hD, hwa⟩, hB⟩
  refine ⟨he, ⟨h1.by hB h2.hb, wa', wc', hD, fun k hk => ?_⟩, fun k hk => ?_⟩
  · obtain ⟨hg1, hg2, hg3⟩ := hg k hk
    refine ⟨Nat.lt_of_lt_of_le hg1 hB.size, hg2, ?_⟩
    rintro (e | e | ⟨ad, e, rfl⟩)
    · exact hg3 (.inl e)
    · exact hg3 (.inr (.inl e))
    · rcases hwa with hwa | hwa
      · rw [hwa] at e; exact hg3 (.inr (.inr ⟨ad, e, rfl⟩))
      · rw [hwa] at e; cases e
  · obtain ⟨hg1, hg2, hg3⟩ := hg k hk
    have hne : k ≠ g := fun e => hg3 (.inl e)
    exact hB.block k hg1 (by simpa using hne)
theorem Cut_atM {w0 u : World} {g gs sc : Nat} {X : Nat → Prop} {D : Dsk} (h : AtM w0 g gs sc D X u) (n : Int) :
    Calls Try.prog 14 #[.pointer (some ⟨g, 0, none⟩), .int .i64 n] u fun e w' => e = .returned (.tuple #[]) ∧ AtM w0 g gs sc (cutR D n) X w' ∧ Same X u w' := by
  obtain ⟨h1, wa, wc, h2, hg⟩ := h
  refine (Cut_ok h2 n).mono ?_
  rintro e w' ⟨he, hD, hB⟩
  refine ⟨he, ⟨h1.by hB h2.hb, wa, wc, hD, fun k hk => ⟨Nat.lt_of_lt_of_le (hg k hk).1 hB.size, (hg k hk).2⟩⟩, fun k hk => ?_⟩
  obtain ⟨hg1, hg2, hg3⟩ := hg k hk
  have hne : k ≠ g := fun e => hg3 (.inl e)
  exact hB.block k hg1 (by simpa using hne)
theorem Crash_atM {w0 u : World} {g gs sc : Nat} {X : Nat → Prop} {D : Dsk} {b : Nat} (h : AtM w0 g gs sc D X u) (hwf : D.Wf b) (hb : b ≤ 100000000) (there : Int) :
    Calls Try.prog 15 #[.pointer (some ⟨g, 0, none⟩), .int .u64 there] u fun e w' => e = .returned (.tuple #[]) ∧ At w0 g gs sc (crashR D there) w' ∧ Same X u w' := by
  obtain ⟨h1, wa, wc, h2, hg⟩ := h
  refine (Crash_walk h2 (by have := hwf.many; omega) hwf.few (fun x hx => (hwf.waits x hx).1) there).mono ?_
  rintro e w' ⟨he, hD, hC⟩
  exact ⟨he, ⟨Chg.ext h1 hC (fun k hk => (h2.foot_ge k hk).1), none, 0, hD⟩, fun k hk => hC.block k (hg k hk).1 (hg k hk).2.2⟩

/-- A slice of bytes that lies somewhere in a block. -/
structure Win (w : World) (gm off n cap : Nat) (xs : List Int) : Prop where
  len : xs.length = n
  le : n ≤ cap
  row : ∃ M : List Value, Row w gm 5 M ∧ M.length = off + cap ∧ ∀ j (hj : j < xs.length), M[off + j]? = some (.int .u8 xs[j])
section
variable {w w' : World} {gm off n cap : Nat} {xs : List Int}
theorem Win.kept (h : Win w gm off n cap xs) (e : w'.heap[gm]? = w.heap[gm]?) : Win w' gm off n cap xs := by
  obtain ⟨h1, h2, M, h3, h4⟩ := h
  exact ⟨h1, h2, M, e.trans h3, h4⟩
theorem Win.lt (h : Win w gm off n cap xs) : gm < w.heap.size := by
  obtain ⟨h1, h2, M, h3, h4⟩ := h
  exact h3.lt
theorem Win.ext (h : Win w gm off n cap xs) (e : Ext w w') : Win w' gm off n cap xs := h.kept (e.block gm h.lt)
theorem Win.cell (h : Win w gm off n cap xs) {j : Nat} (hj : j < xs.length) : w.cell? ⟨gm, off + j, none⟩ = some (.int .u8 xs[j]) := by
  obtain ⟨h1, h2, M, h3, _, h4⟩ := h
  rw [h3.cell?]; exact h4 j hj
/-- The last ones of it. -/
theorem Win.last (h : Win w gm off n cap xs) {k : Nat} (hk : k ≤ n) : Win w gm (off + k) (n - k) (cap - k) (xs.drop k) := by
  obtain ⟨h1, h2, M, h3, h4, h5⟩ := h
  refine ⟨by simp [h1], by omega, M, h3, by omega, fun j hj => ?_⟩
  rw [List.length_drop] at hj
  rw [List.getElem_drop, Nat.add_assoc]
  exact h5 (k + j) (by omega)
theorem infoB8 : (Try.prog.info? 5).map (fun i => (i.zero, i.size, i.bytes)) = some (some (.int .u8 0), 1, 1) := by kernel_rfl
/-- One more. -/
theorem Win.more (h : Win w gm off n cap xs) (hn : n ≤ 1000000) (x : Int) {V : World} (hV : V = w.alloc (.cells #[.int .u8 x] 5)) :
    ∃ gm' off' cap' w', (Builtin.append_ #[29, 29] 29 #[.slice (some ⟨gm, off, none⟩) n cap, .slice (some ⟨w.heap.size, 0, none⟩) 1 1]).run Try.prog V = .ok (.slice (some ⟨gm', off', none⟩) (n + 1) cap') w' ∧
      Win w' gm' off' (n + 1) cap' (xs ++ [x]) ∧ ((gm' = gm ∧ Chg (fun k => k = gm) w w') ∨ (w.heap.size ≤ gm' ∧ Ext w w')) := by
  have hX := (Ext.refl w).alloc (.cells #[.int .u8 x] 5)
  have hrow := Row.new w 5 [.int .u8 x]
  rw [← hV] at hX
  have hrow : Row V w.heap.size 5 [.int .u8 x] := by rw [hV]; exact hrow
  have hgm := h.lt
  obtain ⟨h1, h2, M, h3, h4, h5⟩ := h.ext hX
  obtain ⟨i, i2, i3, i4, i5⟩ := info_parts infoB8
  have hnews : ∀ j u, [Value.int .u8 x][j]? = some u → V.cell? ((⟨w.heap.size, 0, none⟩ : Addr).add j) = some u := fun j u hu => by
    obtain ⟨hj, e⟩ := List.getElem?_eq_some_iff.1 hu
    obtain ⟨ad, had, hc⟩ := hrow.sl0 j hj
    cases had
    rw [hc, e]
  by_cases hroom : n + 1 ≤ cap
  · have hr := run_append_room_cells (P := Try.prog) V 29 29 5 i Try.underlying29 i2 gm off n cap ⟨w.heap.size, 0, none⟩ 1 1 [.int .u8 x] (by rw [i4]; rfl) hnews (by simp [Value.oneCell']) hroom
      (fun j hj => by
        have : j = 0 := by simpa using hj
        subst this
        rw [i4, h3.cell?, Nat.mul_one, List.getElem?_eq_getElem (by omega)]; rfl)
      (fun j hj => h3.frozen _)
    rw [i4, Nat.mul_one] at hr
    have hrow2 := Row.setCells (w := V) [.int .u8 x] M V (off + n) h3
    have hb := gb_setCells gm [.int .u8 x] V (off + n)
    refine ⟨gm, off, cap, _, hr, ⟨by simp [h1], hroom, _, hrow2, by rw [setL_length, h4], fun j hj => ?_⟩, .inl ⟨rfl, (Chg.ofExt _ hX).trans ⟨hb.os, hb.tape, hb.output, hb.size, fun k hk hne => hb.block k hk (by simpa using hne)⟩⟩⟩
    rw [setL_eq _ _ _ (by simp; omega)]
    simp only [List.length_append, List.length_cons, List.length_nil] at hj
    by_cases hjn : j < n
    · rw [List.append_assoc, List.getElem?_append_left (by rw [List.length_take]; omega), List.getElem?_take, if_pos (by omega), h5 j (by omega)]
      simp only [List.getElem_append_left (show j < xs.length by omega)]
    · obtain rfl : j = n := by omega
      rw [List.getElem?_append_left (by simp; omega), List.getElem?_append_right (by rw [List.length_take]; omega)]
      have : off + j - (M.take (off + j)).length = 0 := by rw [List.length_take]; omega
      rw [this]
      simp [h1]
  · obtain ⟨v', w', hr, ho, hg⟩ := run_append_arg_grows (P := Try.prog) V 29 29 5 i (.int .u8 0) 1 1 Try.underlying29 i2 i3 i4 i5 rfl (by decide)
      ⟨gm, off, none⟩ n cap (ints .u8 xs) (by rw [ints_length, h1, Nat.mul_one]) (fun j u hu => by
        obtain ⟨hj, e⟩ := List.getElem?_eq_some_iff.1 hu
        rw [ints_length] at hj
        rw [Addr.add_lit, h3.cell?, h5 j hj, ← e, ints_getElem]) ⟨w.heap.size, 0, none⟩ 1 1 [.int .u8 x] rfl hnews (by omega) (by unfold maxLen; omega) (by omega)
    have hX2 : Ext w w' := hX.trans ⟨hg.os, hg.tape, hg.output, hg.size, fun k hk => hg.block k hk (by simp)⟩
    have hv : ∃ a' cap', v' = .slice a' (n + 1) cap' := by
      rcases ho.2 with ⟨_, hn⟩ | ⟨g, cap', cur, rfl, _⟩
      · omega
      · exact ⟨_, cap', rfl⟩
    obtain ⟨a', cap', rfl⟩ := hv
    rcases ownS_cases ho with ⟨_, e, _⟩ | ⟨g, M', rfl, g1, g2, g3, g4, g5, g6⟩
    · omega
    · refine ⟨g, 0, cap', w', hr, ⟨by simp [h1], g3, M', g2, by omega, fun j hj => ?_⟩, .inr ⟨Nat.le_trans hX.size g1, hX2⟩⟩
      have hj' : j < n + 1 := by simp [h1] at hj; exact hj
      have : (M'.take ((n + 1) * 1))[j]? = (ints .u8 (xs ++ [x]))[j]? := by rw [g6, ints_append]; rfl
      rw [List.getElem?_take, if_pos (by omega), ints_getElem?] at this
      rw [Nat.zero_add, this, List.getElem?_eq_getElem hj]
      rfl
end
end Go.Proofs.Ytfonkicpjkcchaa.Dk
