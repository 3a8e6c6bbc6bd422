/- What stays when parts of one's own memory are written over. -/
import Derived.Test.YtnodinancnfoeaaMtIn
namespace Go.Proofs.Ytnodinancnfoeaa.Mt
open Go.RowKit Words Mem Plain Ops Agg OwnS Intern Ino
set_option linter.ambiguousOpen false
set_option linter.unusedVariables false
set_option linter.unusedSimpArgs false

/-- Nothing but what F tells of may have turned. -/
structure Chg (F : Nat → Prop) (w w' : World) : Prop where
  os : w'.os = w.os
  tape : w'.tape = w.tape
  output : w'.output = w.output
  size : w.heap.size ≤ w'.heap.size
  block : ∀ k, k < w.heap.size → ¬ F k → w'.heap[k]? = w.heap[k]?
theorem Chg.refl (F : Nat → Prop) (w : World) : Chg F w w := ⟨rfl, rfl, rfl, Nat.le_refl _, fun _ _ _ => rfl⟩
theorem Chg.trans {F : Nat → Prop} {a b c : World} (h : Chg F a b) (k : Chg F b c) : Chg F a c :=
  ⟨k.os.trans h.os, k.tape.trans h.tape, k.output.trans h.output, Nat.le_trans h.size k.size, fun i hi hn => (k.block i (Nat.lt_of_lt_of_le hi h.size) hn).trans (h.block i hi hn)⟩
theorem Chg.mono {F G : Nat → Prop} {a b : World} (h : Chg F a b) (hk : ∀ k, F k → G k) : Chg G a b :=
  ⟨h.os, h.tape, h.output, h.size, fun k hk' hn => h.block k hk' (fun hf => hn (hk k hf))⟩
theorem Chg.ofExt (F : Nat → Prop) {a b : World} (h : Ext a b) : Chg F a b := ⟨h.os, h.tape, h.output, h.size, fun k hk _ => h.block k hk⟩
theorem Chg.ofBy {F : Nat → Prop} {a b : World} {g : Nat} (h : By g a b) (hF : F g) : Chg F a b := ⟨h.os, h.tape, h.output, h.size, fun k hk hn => h.block k hk (fun e => hn (by cases e; exact hF))⟩
theorem Chg.set {F : Nat → Prop} {a w : World} (h : Chg F a w) {b : Nat} (hF : F b) (q : Nat) (v : Value) : Chg F a (w.setCell ⟨b, q, none⟩ v) := h.trans (Chg.ofBy (By.set w b q v) hF)
theorem Chg.ext {F : Nat → Prop} {w0 a b : World} (h : Ext w0 a) (k : Chg F a b) (hF : ∀ i, F i → w0.heap.size ≤ i) : Ext w0 b :=
  Below.trans h ⟨k.os, k.tape, k.output, k.size, fun i hi => k.block i (by have := h.size; omega) (fun hf => by have := hF i hf; omega)⟩
theorem Chg.cell {F : Nat → Prop} {a b : World} (h : Chg F a b) {p : Addr} {v : Value} (hc : a.cell? p = some v) (hn : ¬ F p.block) : b.cell? p = some v := by
  have hl := World.block_lt_of_cell? a p hc
  rw [World.cell?_of_block (w := a) (h.block p.block hl hn)]
  exact hc
theorem MetaAt.via {w w' : World} {lo : Nat} {p : Pl} {M : MetaT} (h : MetaAt w lo p M) (hk : ∀ k, lo ≤ k → k < w.heap.size → w'.heap[k]? = w.heap[k]?) : MetaAt w' lo p M :=
  ⟨ownS_block h.rows (fun ad e => hk _ (ownS_lt h.rows ad e).1 (ownS_lt h.rows ad e).2), ownS_block h.owners (fun ad e => hk _ (ownS_lt h.owners ad e).1 (ownS_lt h.owners ad e).2),
   ownS_block h.used (fun ad e => hk _ (ownS_lt h.used ad e).1 (ownS_lt h.used ad e).2), ownS_block h.inodes (fun ad e => hk _ (ownS_lt h.inodes ad e).1 (ownS_lt h.inodes ad e).2), h.wfr, h.bu, h.wfi, h.few, h.sep⟩
theorem SecsAt.via {w w' : World} {lo : Nat} {a : Option Addr} {n cap : Nat} {L : List (List Int)} (h : SecsAt w lo a n cap L) (hk : ∀ k, lo ≤ k → k < w.heap.size → w'.heap[k]? = w.heap[k]?) : SecsAt w' lo a n cap L := by
  obtain ⟨h1, H, h2, h3, h4⟩ := h
  exact ⟨h1, H, h2, ownS_block h3 (fun ad e => hk _ (ownS_lt h3 ad e).1 (ownS_lt h3 ad e).2), fun i hi hi' => ⟨ownS_block (h4 i hi hi').own (fun ad e => hk _ (ownS_lt (h4 i hi hi').own ad e).1 (ownS_lt (h4 i hi hi').own ad e).2), (h4 i hi hi').len, (h4 i hi hi').ne⟩⟩

theorem Row.same {w w' : World} {b : Nat} {t : TypeId} {L : List Value} (h : Row w b t L) (e : w'.heap[b]? = w.heap[b]?) : Row w' b t L := e.trans h
theorem Row.far {w : World} {b b' : Nat} {t : TypeId} {L : List Value} (h : Row w b t L) (hne : b ≠ b') (q : Nat) (v : Value) : Row (w.setCell ⟨b', q, none⟩ v) b t L :=
  Row.same h ((By.set w b' q v).block b h.lt (by simpa using hne))
theorem Row.type {w : World} {b : Nat} {t t' : TypeId} {L L' : List Value} (h : Row w b t L) (h' : Row w b t' L') : t = t' := by
  unfold Row at h h'
  rw [h] at h'
  injection h' with h1
  injection h1
/-- Some cells are there. -/
def HR (w : World) (lo hi : Nat) (t : TypeId) (a : Option Addr) (m : Nat) : Prop := ∃ b M, a = some ⟨b, 0, none⟩ ∧ (lo ≤ b ∧ b < hi) ∧ Row w b t M ∧ m ≤ M.length
/-- .. and are bytes. -/
def HU (w : World) (lo hi : Nat) (a : Option Addr) (m : Nat) : Prop := ∃ b M, a = some ⟨b, 0, none⟩ ∧ (lo ≤ b ∧ b < hi) ∧ Row w b 5 M ∧ ∀ q, q < m → ∃ y, M[q]? = some (.int .u8 y)
theorem HR.set {w : World} {lo hi : Nat} {t : TypeId} {a : Option Addr} {m : Nat} (h : HR w lo hi t a m) (b' q : Nat) (v : Value) : HR (w.setCell ⟨b', q, none⟩ v) lo hi t a m := by
  obtain ⟨b, M, h1, h2, h3, h4⟩ := h
  by_cases e : b = b'
  · subst e
    exact ⟨b, _, h1, h2, Row.set h3 q v, by rw [List.length_set]; exact h4⟩
  · exact ⟨b, M, h1, h2, Row.far h3 e q v, h4⟩
theorem HR.ext {w w' : World} {lo hi : Nat} {t : TypeId} {a : Option Addr} {m : Nat} (h : HR w lo hi t a m) (e : Ext w w') : HR w' lo hi t a m := by
  obtain ⟨b, M, h1, h2, h3, h4⟩ := h
  exact ⟨b, M, h1, h2, h3.ext e, h4⟩
theorem HU.ext {w w' : World} {lo hi : Nat} {a : Option Addr} {m : Nat} (h : HU w lo hi a m) (e : Ext w w') : HU w' lo hi a m := by
  obtain ⟨b, M, h1, h2, h3, h4⟩ := h
  exact ⟨b, M, h1, h2, h3.ext e, h4⟩
theorem HU.far {w : World} {lo hi : Nat} {a : Option Addr} {m : Nat} (h : HU w lo hi a m) {b' : Nat} {t : TypeId} {M' : List Value} (hr : Row w b' t M') (ht : t ≠ 5) (q : Nat) (v : Value) : HU (w.setCell ⟨b', q, none⟩ v) lo hi a m := by
  obtain ⟨b, M, h1, h2, h3, h4⟩ := h
  have e : b ≠ b' := fun e => by subst e; exact ht (Row.type hr h3)
  exact ⟨b, M, h1, h2, Row.far h3 e q v, h4⟩
theorem HU.set {w : World} {lo hi : Nat} {a : Option Addr} {m : Nat} (h : HU w lo hi a m) (b' q : Nat) (y : Int) : HU (w.setCell ⟨b', q, none⟩ (.int .u8 y)) lo hi a m := by
  obtain ⟨b, M, h1, h2, h3, h4⟩ := h
  by_cases e : b = b'
  · subst e
    refine ⟨b, _, h1, h2, Row.set h3 q _, fun j hj => ?_⟩
    rw [List.getElem?_set]
    obtain ⟨z, hz⟩ := h4 j hj
    have hl := (List.getElem?_eq_some_iff.1 hz).1
    by_cases e : q = j
    · subst e; rw [if_pos rfl, if_pos hl]; exact ⟨y, rfl⟩
    · rw [if_neg e]; exact ⟨z, hz⟩
  · exact ⟨b, M, h1, h2, Row.far h3 e q _, h4⟩
theorem ownS_HR {w : World} {base n s cap : Nat} {t : TypeId} {a : Option Addr} {xs : List Value} (h : w.ownsRow base t s (.slice a n cap) n xs) (h0 : 0 < n) : HR w base w.heap.size t a (n * s) := by
  rcases ownS_cases h with ⟨_, e, _⟩ | ⟨g, M, e1, h2, h3, h4, h5, h6, h7⟩
  · omega
  · exact ⟨g, M, e1, ⟨h2, h3.lt⟩, h3, by rw [h6]; exact Nat.mul_le_mul_right s h4⟩
theorem ownS_HU {w : World} {base n cap : Nat} {a : Option Addr} {xs : List Int} (h : w.ownsRow base 5 1 (.slice a n cap) n (ints .u8 xs)) (h0 : 0 < n) : HU w base w.heap.size a n := by
  have hl := h.1
  rcases ownS_cases h with ⟨_, e, _⟩ | ⟨g, M, e1, h2, h3, h4, h5, h6, h7⟩
  · omega
  · refine ⟨g, M, e1, ⟨h2, h3.lt⟩, h3, fun q hq => ?_⟩
    have : (M.take (n * 1))[q]? = (ints .u8 xs)[q]? := by rw [h7]
    rw [List.getElem?_take, if_pos (by omega), List.getElem?_eq_getElem (l := ints .u8 xs) (by omega), ints_getElem] at this
    exact ⟨_, this⟩
/-- Sectors that may be written over. -/
def WL (w : World) (lo hi : Nat) (a : Option Addr) (n : Nat) : Prop := ∀ i, i < n → ∃ ao b c, a = some ⟨ao, 0, none⟩ ∧ w.cell? ⟨ao, i, none⟩ = some (.slice (some ⟨b, 0, none⟩) 64 c) ∧ b ≠ ao ∧ HU w lo hi (some ⟨b, 0, none⟩) 64
theorem WL.ext {w w' : World} {lo hi : Nat} {a : Option Addr} {n : Nat} (h : WL w lo hi a n) (e : Ext w w') : WL w' lo hi a n := fun i hi' => by
  obtain ⟨ao, b, c, h1, h2, h3, h4⟩ := h i hi'
  exact ⟨ao, b, c, h1, e.keep h2, h3, h4.ext e⟩
theorem WL.set {w : World} {lo hi : Nat} {a : Option Addr} {n : Nat} (h : WL w lo hi a n) {b' : Nat} (hne : ∀ ao, a = some ⟨ao, 0, none⟩ → b' ≠ ao) (q : Nat) (y : Int) : WL (w.setCell ⟨b', q, none⟩ (.int .u8 y)) lo hi a n := fun i hi' => by
  obtain ⟨ao, b, c, h1, h2, h3, h4⟩ := h i hi'
  refine ⟨ao, b, c, h1, ?_, h3, h4.set b' q y⟩
  have hl := World.block_lt_of_cell? w _ h2
  rw [World.cell?_of_block (w := w) ((By.set w b' q (.int .u8 y)).block ao hl (by simpa using (hne ao h1).symm))]
  exact h2
theorem SecsAt.wl {w : World} {lo : Nat} {a : Option Addr} {n cap : Nat} {L : List (List Int)} (h : SecsAt w lo a n cap L) : WL w lo w.heap.size a n := fun i hi => by
  obtain ⟨h1, H, h2, h3, h4⟩ := h
  have hHl : (slVs H).length = n := by simp [slVs, h2]
  rcases ownS_cases h3 with ⟨_, e, _⟩ | ⟨g, M, e1, g2, g3, g4, g5, g6, g7⟩
  · omega
  · have hin := h4 i (by omega) (by omega)
    refine ⟨g, H[i].1, H[i].2, e1, ?_, hin.ne _ e1, ownS_HU hin.own (by decide)⟩
    have hc := ownsRow_sl h3
    obtain ⟨b, off, ha, hcc⟩ := hc.at (by omega)
    rw [e1] at ha
    cases ha
    have hc1 := hcc i (by omega)
    have e : (slVs H)[i]'(by omega) = slV H[i] := by simp [slVs]
    rw [e, Nat.zero_add] at hc1
    exact hc1
/-- What is known that may be written over. -/
structure CW (w : World) (lo hi : Nat) (p : Pl) (M : MetaT) : Prop where
  rows : 0 < M.rows.length → HR w lo hi 45 p.ra (M.rows.length * 2)
  owners : 0 < M.owners.length → HR w lo hi 3 p.oa (M.owners.length * 1)
  used : 0 < M.used.length → HU w lo hi p.ua M.used.length
  inodes : 0 < M.inodes.length → HR w lo hi 48 p.ia (M.inodes.length * 14)
theorem MetaAt.cw {w : World} {lo : Nat} {p : Pl} {M : MetaT} (h : MetaAt w lo p M) : CW w lo w.heap.size p M :=
  ⟨fun h0 => ownS_HR h.rows h0, fun h0 => ownS_HR h.owners h0, fun h0 => ownS_HU h.used h0, fun h0 => ownS_HR h.inodes h0⟩
theorem CW.ext {w w' : World} {lo hi : Nat} {p : Pl} {M : MetaT} (h : CW w lo hi p M) (e : Ext w w') : CW w' lo hi p M :=
  ⟨fun h0 => (h.rows h0).ext e, fun h0 => (h.owners h0).ext e, fun h0 => (h.used h0).ext e, fun h0 => (h.inodes h0).ext e⟩
theorem CW.far {w : World} {lo hi : Nat} {p : Pl} {M : MetaT} (h : CW w lo hi p M) {b' : Nat} {t : TypeId} {M' : List Value} (hr : Row w b' t M') (ht : t ≠ 5) (q : Nat) (v : Value) : CW (w.setCell ⟨b', q, none⟩ v) lo hi p M :=
  ⟨fun h0 => (h.rows h0).set b' q v, fun h0 => (h.owners h0).set b' q v, fun h0 => (h.used h0).far hr ht q v, fun h0 => (h.inodes h0).set b' q v⟩
theorem CW.set8 {w : World} {lo hi : Nat} {p : Pl} {M : MetaT} (h : CW w lo hi p M) (b' q : Nat) (y : Int) : CW (w.setCell ⟨b', q, none⟩ (.int .u8 y)) lo hi p M :=
  ⟨fun h0 => (h.rows h0).set b' q _, fun h0 => (h.owners h0).set b' q _, fun h0 => (h.used h0).set b' q y, fun h0 => (h.inodes h0).set b' q _⟩
theorem CW.chg {w w' : World} {lo hi : Nat} {p : Pl} {M : MetaT} (h : CW w lo hi p M) (e : ∀ k, lo ≤ k → k < hi → w'.heap[k]? = w.heap[k]?) : CW w' lo hi p M := by
  refine ⟨fun h0 => ?_, fun h0 => ?_, fun h0 => ?_, fun h0 => ?_⟩
  · obtain ⟨b, M', h1, h2, h3, h4⟩ := h.rows h0
    exact ⟨b, M', h1, h2, Row.same h3 (e b h2.1 h2.2), h4⟩
  · obtain ⟨b, M', h1, h2, h3, h4⟩ := h.owners h0
    exact ⟨b, M', h1, h2, Row.same h3 (e b h2.1 h2.2), h4⟩
  · obtain ⟨b, M', h1, h2, h3, h4⟩ := h.used h0
    exact ⟨b, M', h1, h2, Row.same h3 (e b h2.1 h2.2), h4⟩
  · obtain ⟨b, M', h1, h2, h3, h4⟩ := h.inodes h0
    exact ⟨b, M', h1, h2, Row.same h3 (e b h2.1 h2.2), h4⟩
end Go.Proofs.Ytnodinancnfoeaa.Mt
