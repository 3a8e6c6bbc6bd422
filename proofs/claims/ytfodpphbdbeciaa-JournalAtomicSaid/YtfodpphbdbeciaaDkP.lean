/- A disk: plain, and how it lies. -/
import Derived.Test.YtfodpphbdbeciaaRows
import Derived.Test.YtfodpphbdbeciaaOwnS
import Derived.OwnWalk
import Derived.BigQuiet
import Derived.Deep.QuietTactic
import Derived.Deep.RegionHeld3
import Derived.WalkSpells
import Derived.IntWalk
import Derived.Lib.Hide
namespace Go.Proofs.Ytfodpphbdbeciaa.Dk
open Go.RowKit Words Mem Plain Ops Agg OwnS
set_option maxRecDepth 100000
set_option linter.ambiguousOpen false
set_option linter.unusedVariables false
set_option linter.unusedSimpArgs false

structure Sec where
  bs : List Int
  tag : Int
def pad64 (l : List Int) : List Int := (l ++ List.replicate 64 0).take 64
theorem pad64_len (l : List Int) : (pad64 l).length = 64 := by simp [pad64]
theorem pad64_of {l : List Int} (h : l.length = 64) : pad64 l = l := by
  unfold pad64
  rw [← h, List.take_left]
def secC (s : Sec) : List Value := ints .u8 (pad64 s.bs) ++ [.int .u16 s.tag]
theorem secC_len (s : Sec) : (secC s).length = 65 := by simp [secC, ints_length, pad64_len]
structure Wt where
  pos : Int
  was : Sec
  now : Sec
def wtC (x : Wt) : List Value := .int .i64 x.pos :: (secC x.was ++ secC x.now)
theorem wtC_len (x : Wt) : (wtC x).length = 131 := by simp [wtC, secC_len]
theorem secC_one (s : Sec) : ∀ u ∈ secC s, u.oneCell' = true := by
  intro u hu
  rcases List.mem_append.1 hu with h | h
  · exact ints_oneCell' _ _ u h
  · simp at h; subst h; rfl
theorem wtC_one (x : Wt) : ∀ u ∈ wtC x, u.oneCell' = true := by
  intro u hu
  rcases List.mem_cons.1 hu with rfl | h
  · rfl
  · rcases List.mem_append.1 h with h | h <;> exact secC_one _ u h
structure Dsk where
  secs : List Sec
  waits : List Wt
  dead : Bool
  fuse : Int
  done : Int
def Sec.wf (s : Sec) : Prop := s.bs.length = 64 ∧ isBytes s.bs ∧ 0 ≤ s.tag ∧ s.tag ≤ 65535
structure Dsk.Wf (D : Dsk) (b : Nat) : Prop where
  secs : ∀ s ∈ D.secs, s.wf
  waits : ∀ x ∈ D.waits, (0 ≤ x.pos ∧ x.pos < D.secs.length) ∧ x.was.wf ∧ x.now.wf
  few : D.secs.length ≤ 4096
  fuse : -1 ≤ D.fuse ∧ D.fuse ≤ 9223372036854775807
  done : 0 ≤ D.done ∧ D.done ≤ b
  many : D.waits.length ≤ b
def zeroS : Sec := ⟨List.replicate 64 0, 0⟩
theorem zeroS_wf : zeroS.wf := ⟨by rfl, by intro x hx; obtain rfl := List.eq_of_mem_replicate hx; decide, by decide, by decide⟩
def newD (n : Nat) : Dsk := ⟨List.replicate n zeroS, [], false, -1, 0⟩
def powerR (D : Dsk) : Dsk × Int :=
  if D.dead = true then (D, 6)
  else if D.fuse = 0 then ({ D with dead := true }, 6)
  else ({ D with fuse := if 0 < D.fuse then D.fuse - 1 else D.fuse, done := D.done + 1 }, 0)
theorem power_secs (D : Dsk) : (powerR D).1.secs = D.secs ∧ (powerR D).1.waits = D.waits := by
  unfold powerR
  split
  · exact ⟨rfl, rfl⟩
  · split <;> exact ⟨rfl, rfl⟩
theorem power_wf {D : Dsk} {b : Nat} (h : D.Wf b) : (powerR D).1.Wf (b + 1) := by
  obtain ⟨h1, h2, h3, h4, h5, h6⟩ := h
  unfold powerR
  split
  · exact ⟨h1, h2, h3, h4, by dsimp only; omega, by dsimp only; omega⟩
  · split
    · exact ⟨h1, h2, h3, h4, by dsimp only; omega, by dsimp only; omega⟩
    · refine ⟨h1, h2, h3, ?_, by dsimp only; omega, by dsimp only; omega⟩
      dsimp only
      split <;> omega

/-- Nothing but what F tells of may have turned. -/
structure Chg (F : Nat → Prop) (w w' : World) : Prop where
  os : w'.os = w.os
  tape : w'.tape = w.tape
  output : w'.output = w.output
  size : w.heap.size ≤ w'.heap.size
  block : ∀ k, k < w.heap.size → ¬ F k → w'.heap[k]? = w.heap[k]?
theorem Chg.refl (F : Nat → Prop) (w : World) : Chg F w w := ⟨rfl, rfl, rfl, Nat.le_refl _, fun _ _ _ => rfl⟩
theorem Chg.trans {F : Nat → Prop} {a b c : World} (h : Chg F a b) (k : Chg F b c) : Chg F a c :=
  ⟨k.os.trans h.os, k.tape.trans h.tape, k.output.trans h.output, Nat.le_trans h.size k.size, fun i hi hn => (k.block i (Nat.lt_of_lt_of_le hi h.size) hn).trans (h.block i hi hn)⟩
theorem Chg.mono {F G : Nat → Prop} {a b : World} (h : Chg F a b) (hk : ∀ k, k < a.heap.size → F k → G k) : Chg G a b :=
  ⟨h.os, h.tape, h.output, h.size, fun k hk' hn => h.block k hk' (fun hf => hn (hk k hk' hf))⟩
theorem Chg.ofExt (F : Nat → Prop) {a b : World} (h : Ext a b) : Chg F a b := ⟨h.os, h.tape, h.output, h.size, fun k hk _ => h.block k hk⟩
theorem Chg.ofBy {F : Nat → Prop} {a b : World} {g : Nat} (h : By g a b) (hF : F g) : Chg F a b := ⟨h.os, h.tape, h.output, h.size, fun k hk hn => h.block k hk (fun e => hn (by cases e; exact hF))⟩
theorem Chg.ofGrown {F : Nat → Prop} {a b : World} {r : Option Nat} (h : a.grownBy b r) (hF : ∀ k, r = some k → F k) : Chg F a b := ⟨h.os, h.tape, h.output, h.size, fun k hk hn => h.block k hk (fun e => hn (hF k e.symm))⟩
theorem Chg.ext {F : Nat → Prop} {w0 a b : World} (h : Ext w0 a) (k : Chg F a b) (hF : ∀ i, F i → w0.heap.size ≤ i) : Ext w0 b :=
  Below.trans h ⟨k.os, k.tape, k.output, k.size, fun i hi => k.block i (by have := h.size; omega) (fun hf => by have := hF i hf; omega)⟩
theorem Chg.cell {F : Nat → Prop} {a b : World} (h : Chg F a b) {p : Addr} {v : Value} (hc : a.cell? p = some v) (hn : ¬ F p.block) : b.cell? p = some v := by
  have hl := World.block_lt_of_cell? a p hc
  rw [World.cell?_of_block (w := a) (h.block p.block hl hn)]
  exact hc

def foot (g : Nat) (sa wa : Option Addr) (k : Nat) : Prop := k = g ∨ (∃ ad, sa = some ad ∧ k = ad.block) ∨ (∃ ad, wa = some ad ∧ k = ad.block)
abbrev dRow (sa : Option Addr) (sc : Nat) (wa : Option Addr) (wc : Nat) (D : Dsk) : List Value := [.slice sa D.secs.length sc, .slice wa D.waits.length wc, .bool D.dead, .int .i64 D.fuse, .int .i64 D.done]
structure DiskAt (w : World) (base g : Nat) (sa : Option Addr) (sc : Nat) (wa : Option Addr) (wc : Nat) (D : Dsk) : Prop where
  row : Row w g 65 (dRow sa sc wa wc D)
  secs : w.ownsRow base 79 65 (.slice sa D.secs.length sc) D.secs.length (flat secC D.secs)
  waits : w.ownsRow base 83 131 (.slice wa D.waits.length wc) D.waits.length (flat wtC D.waits)
  hb : base ≤ g
  sg : ∀ ad, sa = some ad → ad.block ≠ g
  wg : ∀ ad, wa = some ad → ad.block ≠ g
  sw : ∀ ad ad', sa = some ad → wa = some ad' → ad.block ≠ ad'.block
section
variable {w w' : World} {base g : Nat} {sa : Option Addr} {sc : Nat} {wa : Option Addr} {wc : Nat} {D : Dsk}
theorem DiskAt.cells (h : DiskAt w base g sa sc wa wc D) : w.cell? ⟨g, 0, none⟩ = some (.slice sa D.secs.length sc) ∧ w.cell? ⟨g, 1, none⟩ = some (.slice wa D.waits.length wc) ∧ w.cell? ⟨g, 2, none⟩ = some (.bool D.dead) ∧ w.cell? ⟨g, 3, none⟩ = some (.int .i64 D.fuse) ∧ w.cell? ⟨g, 4, none⟩ = some (.int .i64 D.done) :=
  ⟨(h.row.cell? 0).trans rfl, (h.row.cell? 1).trans rfl, (h.row.cell? 2).trans rfl, (h.row.cell? 3).trans rfl, (h.row.cell? 4).trans rfl⟩
theorem DiskAt.chg (h : DiskAt w base g sa sc wa wc D) {F : Nat → Prop} (c : Chg F w w') (hF : ∀ k, foot g sa wa k → ¬ F k) : DiskAt w' base g sa sc wa wc D :=
  ⟨(c.block g h.row.lt (hF g (.inl rfl))).trans h.row, ownS_block h.secs (fun ad e => c.block _ (ownS_lt h.secs ad e).2 (hF _ (.inr (.inl ⟨ad, e, rfl⟩)))), ownS_block h.waits (fun ad e => c.block _ (ownS_lt h.waits ad e).2 (hF _ (.inr (.inr ⟨ad, e, rfl⟩)))), h.hb, h.sg, h.wg, h.sw⟩
theorem DiskAt.ext (h : DiskAt w base g sa sc wa wc D) (e : Ext w w') : DiskAt w' base g sa sc wa wc D := h.chg (Chg.ofExt (fun _ => False) e) (fun _ _ => id)
theorem DiskAt.low (h : DiskAt w base g sa sc wa wc D) {base' : Nat} (hb : base' ≤ base) : DiskAt w base' g sa sc wa wc D :=
  ⟨h.row, ownS_base h.secs hb, ownS_base h.waits hb, Nat.le_trans hb h.hb, h.sg, h.wg, h.sw⟩
theorem DiskAt.foot_ge (h : DiskAt w base g sa sc wa wc D) : ∀ k, foot g sa wa k → base ≤ k ∧ k < w.heap.size := by
  rintro k (rfl | ⟨ad, e, rfl⟩ | ⟨ad, e, rfl⟩)
  · exact ⟨h.hb, h.row.lt⟩
  · exact ownS_lt h.secs ad e
  · exact ownS_lt h.waits ad e
/-- Numbers of the disk's own row turn. -/
theorem DiskAt.turn (h : DiskAt w base g sa sc wa wc D) {D' : Dsk} (hb : By g w w') (hr : Row w' g 65 (dRow sa sc wa wc D')) (e1 : D'.secs = D.secs) (e2 : D'.waits = D.waits) : DiskAt w' base g sa sc wa wc D' := by
  refine ⟨hr, ?_, ?_, h.hb, h.sg, h.wg, h.sw⟩
  · rw [e1]; exact ownS_block h.secs (fun ad e => hb.block _ (ownS_lt h.secs ad e).2 (by simp; exact h.sg ad e))
  · rw [e2]; exact ownS_block h.waits (fun ad e => hb.block _ (ownS_lt h.waits ad e).2 (by simp; exact h.wg ad e))
end

/-! power. -/
theorem power_nil (w : World) : Calls Try.prog 51 #[.pointer none] w fun e w' => e = .returned (.int .i64 2) ∧ w' = w := by
  go_enter Try.func51, Try.ntmps51
  go_wp2
  go_ret
  exact ⟨rfl, rfl⟩
theorem power_ok {base g : Nat} {sa : Option Addr} {sc : Nat} {wa : Option Addr} {wc : Nat} {D : Dsk} {w : World} (h : DiskAt w base g sa sc wa wc D) (hd : 0 ≤ D.done ∧ D.done ≤ 1000000000000) (hf : -1 ≤ D.fuse ∧ D.fuse ≤ 9223372036854775807) :
    Calls Try.prog 51 #[.pointer (some ⟨g, 0, none⟩)] w fun e w' => e = .returned (.int .i64 (powerR D).2) ∧ DiskAt w' base g sa sc wa wc (powerR D).1 ∧ By g w w' := by
  obtain ⟨c0, c1, c2, c3, c4⟩ := h.cells
  have f2 := h.row.frozen 2
  have f3 := h.row.frozen 3
  have f4 := h.row.frozen 4
  have HD := Lib.hid h
  obtain ⟨S, W, dead, fuse, done⟩ := D
  dsimp only at *
  obtain ⟨hd0, hd1⟩ := hd
  obtain ⟨hf0, hf1⟩ := hf
  have hadd : IntKind.i64.wrap (done + 1) = done + 1 := IntWalk.i64_in _ (by omega)
  have hsub : IntKind.i64.wrap (fuse - 1) = fuse - 1 := IntWalk.i64_in _ (by omega)
  cases dead
  · by_cases h0 : fuse = 0
    · subst h0
      have HR := Lib.hid (show powerR ⟨S, W, false, 0, done⟩ = (⟨S, W, true, 0, done⟩, 6) from rfl)
      have HB := Lib.hid (By.set w g 2 (.bool true))
      have HN := Lib.hid (h.turn (D' := ⟨S, W, true, 0, done⟩) (By.set w g 2 (.bool true)) (h.row.set 2 (.bool true)) rfl rfl)
      clear h
      go_enter Try.func51, Try.ntmps51
      go_wp2
      go_ret
      rw [HR.out]
      exact ⟨rfl, HN.out, HB.out⟩
    · by_cases h1 : 0 < fuse
      · have HR := Lib.hid (show powerR ⟨S, W, false, fuse, done⟩ = (⟨S, W, false, fuse - 1, done + 1⟩, 0) by simp [powerR, h0, h1])
        have hb1 := By.set w g 3 (.int .i64 (fuse - 1))
        have hb2 := hb1.trans (By.set _ g 4 (.int .i64 (done + 1)))
        have HB := Lib.hid hb2
        have HN := Lib.hid (h.turn (D' := ⟨S, W, false, fuse - 1, done + 1⟩) hb2 (Row.set (Row.set h.row 3 (.int .i64 (fuse - 1))) 4 (.int .i64 (done + 1))) rfl rfl)
        clear h hb1 hb2
        go_enter Try.func51, Try.ntmps51
        go_wp2
        go_ret
        rw [HR.out]
        exact ⟨rfl, HN.out, HB.out⟩
      · have HR := Lib.hid (show powerR ⟨S, W, false, fuse, done⟩ = (⟨S, W, false, fuse, done + 1⟩, 0) by simp [powerR, h0, h1])
        have hb2 := By.set w g 4 (.int .i64 (done + 1))
        have HB := Lib.hid hb2
        have HN := Lib.hid (h.turn (D' := ⟨S, W, false, fuse, done + 1⟩) hb2 (Row.set h.row 4 (.int .i64 (done + 1))) rfl rfl)
        clear h hb2
        go_enter Try.func51, Try.ntmps51
        go_wp2
        go_ret
        rw [HR.out]
        exact ⟨rfl, HN.out, HB.out⟩
  · have HR := Lib.hid (show powerR ⟨S, W, true, fuse, done⟩ = (⟨S, W, true, fuse, done⟩, 6) from rfl)
    clear h
    go_enter Try.func51, Try.ntmps51
    go_wp2
    go_ret
    rw [HR.out]
    exact ⟨rfl, HD.out, By.refl _ _⟩
end Go.Proofs.Ytfodpphbdbeciaa.Dk
