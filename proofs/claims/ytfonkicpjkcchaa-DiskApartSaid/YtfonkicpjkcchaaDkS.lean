/- moatlaw05.shown. -/
import Derived.Test.YtfonkicpjkcchaaDkL
namespace Go.Proofs.Ytfonkicpjkcchaa.Dk
open Go.RowKit Words Mem Plain Ops Agg OwnS
set_option linter.ambiguousOpen false
set_option linter.unusedVariables false
set_option linter.unusedSimpArgs false

/-- A law's disk: it lies apart from all that was there at 'base'. -/
def At (w0 : World) (g gs sc : Nat) (D : Dsk) (w : World) : Prop := Ext w0 w ∧ ∃ wa wc, DiskAt w w0.heap.size g (some ⟨gs, 0, none⟩) sc wa wc D
theorem At.ext {w0 w w' : World} {g gs sc : Nat} {D : Dsk} (h : At w0 g gs sc D w) (e : Ext w w') : At w0 g gs sc D w' := by
  obtain ⟨h1, wa, wc, h2⟩ := h
  exact ⟨h1.trans e, wa, wc, h2.ext e⟩
theorem allB_len (c : Int) : (allB c).length = 64 := by simp [allB]
theorem Write_at {w0 u u' : World} {g gs sc : Nat} {D : Dsk} {b : Nat} (h : At w0 g gs sc D u) (hwf : D.Wf b) (hb : b ≤ 100000000) (hx : Ext u u') {a' : Nat} (ha : u.heap.size ≤ a') {c : Int} (hr : Row u' a' 5 (ints .u8 (allB c))) (i : Int) :
    Calls Try.prog 11 #[.pointer (some ⟨g, 0, none⟩), .agg #[.int .i64 i, .slice (some ⟨a', 0, none⟩) 64 64, .int .u16 c]] u' fun e w' => e = .returned (.int .i64 (writeR D i (allB c) c).2) ∧ At w0 g gs sc (writeR D i (allB c) c).1 w' := by
  obtain ⟨h1, wa, wc, h2⟩ := h
  have h3 := h2.ext hx
  have hw := Write_ok h3 ⟨hwf.done.1, by have := hwf.done.2; omega⟩ hwf.fuse i (some ⟨a', 0, none⟩) 64 64 (allB c) c (allB_len c) (by decide) hr.sl0 (fun ad e hf => by
    cases e
    have := (h2.foot_ge a' hf).2
    dsimp only at hf
    omega) hwf.few (by have := hwf.many; omega) (h1.trans hx).size
  refine hw.mono ?_
  rintro e w' ⟨he, wa', wc', hD, hC, _⟩
  exact ⟨he, Chg.ext (h1.trans hx) hC (fun k hk => (h3.foot_ge k hk).1), wa', wc', hD⟩
theorem Flush_at {w0 u : World} {g gs sc : Nat} {D : Dsk} {b : Nat} (h : At w0 g gs sc D u) (hwf : D.Wf b) (hb : b ≤ 100000000) :
    Calls Try.prog 13 #[.pointer (some ⟨g, 0, none⟩)] u fun e w' => e = .returned (.int .i64 (flushR D).2) ∧ At w0 g gs sc (flushR D).1 w' := by
  obtain ⟨h1, wa, wc, h2⟩ := h
  refine (Flush_ok h2 ⟨hwf.done.1, by have := hwf.done.2; omega⟩ hwf.fuse).mono ?_
  rintro e w' ⟨he, ⟨wa', wc', hD, _⟩, hB⟩
  exact ⟨he, h1.by hB h2.hb, wa', wc', hD⟩
theorem Cut_at {w0 u : World} {g gs sc : Nat} {D : Dsk} (h : At w0 g gs sc D u) (n : Int) :
    Calls Try.prog 14 #[.pointer (some ⟨g, 0, none⟩), .int .i64 n] u fun e w' => e = .returned (.tuple #[]) ∧ At w0 g gs sc (cutR D n) w' := by
  obtain ⟨h1, wa, wc, h2⟩ := h
  refine (Cut_ok h2 n).mono ?_
  rintro e w' ⟨he, hD, hB⟩
  exact ⟨he, h1.by hB h2.hb, wa, wc, hD⟩
theorem Crash_at {w0 u : World} {g gs sc : Nat} {D : Dsk} {b : Nat} (h : At w0 g gs sc D u) (hwf : D.Wf b) (hb : b ≤ 100000000) (there : Int) :
    Calls Try.prog 15 #[.pointer (some ⟨g, 0, none⟩), .int .u64 there] u fun e w' => e = .returned (.tuple #[]) ∧ At w0 g gs sc (crashR D there) w' := by
  obtain ⟨h1, wa, wc, h2⟩ := h
  refine (Crash_walk h2 (by have := hwf.many; omega) hwf.few (fun x hx => (hwf.waits x hx).1) there).mono ?_
  rintro e w' ⟨he, hD, hC⟩
  exact ⟨he, Chg.ext h1 hC (fun k hk => (h2.foot_ge k hk).1), none, 0, hD⟩
theorem Read_at {w0 u : World} {g gs sc : Nat} {D : Dsk} (h : At w0 g gs sc D u) (i : Int) :
    Calls Try.prog 16 #[.pointer (some ⟨g, 0, none⟩), .int .i64 i] u (Field.Gave .u8 5 u (readR D i)) := by
  obtain ⟨h1, wa, wc, h2⟩ := h
  exact Read_ok h2 i
theorem Tag_at {w0 u : World} {g gs sc : Nat} {D : Dsk} (h : At w0 g gs sc D u) (i : Int) :
    Calls Try.prog 17 #[.pointer (some ⟨g, 0, none⟩), .int .i64 i] u fun e w' => e = .returned (.tuple #[.int .u16 (getR D i).1.tag, .int .i64 (getR D i).2]) ∧ Ext u w' := by
  obtain ⟨h1, wa, wc, h2⟩ := h
  exact Tag_ok h2 i
theorem New_at (n : Nat) (w : World) (hn : n ≤ 4096) :
    Calls Try.prog 9 #[.int .i64 n] w fun e w' => ∃ g gs sc, e = .returned (.tuple #[.pointer (some ⟨g, 0, none⟩), .int .i64 0]) ∧ At w g gs sc (newD n) w' := by
  refine (New_ok n w hn).mono ?_
  rintro e w' ⟨g, gs, sc, he, hD, hX⟩
  exact ⟨g, gs, sc, he, hX, none, 0, hD⟩

/-! What stays well-formed. -/
theorem sg_wf {D : Dsk} {b : Nat} (h : D.Wf b) (k : Nat) : (sg D.secs k).wf := by
  unfold sg
  by_cases hk : k < D.secs.length
  · have : D.secs.getD k zeroS = D.secs[k] := by simp [hk]
    rw [this]; exact h.secs _ (List.getElem_mem hk)
  · have : D.secs.getD k zeroS = zeroS := by simp [hk]
    rw [this]; exact zeroS_wf
theorem allB_wf {c : Int} (hc : 0 ≤ c ∧ c ≤ 255) : Sec.wf ⟨allB c, c⟩ := ⟨allB_len c, fun x hx => by obtain rfl := List.eq_of_mem_replicate hx; omega, by dsimp only; omega, by dsimp only; omega⟩
theorem write_wf {D : Dsk} {b : Nat} (h : D.Wf b) (i : Int) {c : Int} (hc : 0 ≤ c ∧ c ≤ 255) : (writeR D i (allB c) c).1.Wf (b + 1) := by
  have hp := power_wf h
  have hm : D.Wf (b + 1) := ⟨h.secs, h.waits, h.few, h.fuse, by have := h.done; omega, by have := h.many; omega⟩
  by_cases hok : 0 ≤ i ∧ i < D.secs.length ∧ (allB c).length = 64
  · by_cases h0 : (powerR D).2 = 0
    · unfold writeR
      rw [if_neg (fun e => e hok), if_pos h0]
      refine ⟨fun s hs => ?_, fun x hx => ?_, by dsimp only; rw [List.length_set]; exact h.few, hp.fuse, hp.done, by have := h.many; simp; omega⟩
      · rcases List.mem_or_eq_of_mem_set hs with hs | rfl
        · exact h.secs s hs
        · exact allB_wf hc
      · dsimp only at hx ⊢
        rw [List.length_set]
        rcases List.mem_append.1 hx with hx | hx
        · exact h.waits x hx
        · simp at hx
          subst hx
          exact ⟨⟨hok.1, hok.2.1⟩, sg_wf h _, allB_wf hc⟩
    · rw [write_dead hok h0]; exact hp
  · rw [write_no hok]; exact hm
end Go.Proofs.Ytfonkicpjkcchaa.Dk
