/- Slice expressions as run-equations, for elements of one cell; a world that keeps two things alike. -/
import Derived.Test.YtfodpphbdbeciaaOps
namespace Go.Proofs.Ytfodpphbdbeciaa.Ops
open Go.RowKit Words Mem Plain
set_option maxRecDepth 100000
set_option linter.unusedVariables false
set_option linter.unusedSimpArgs false
section
variable {P : Program}
/-- The address of 's[lo:..]'. -/
def cutA (a : Option Addr) (c lo : Nat) : Option Addr := if c = lo then a else a.map (·.add lo)
theorem cutA_none {a : Option Addr} {c lo : Nat} (h : cutA a c lo = none) : a = none := by unfold cutA at h; split at h <;> simpa using h
theorem cutA_ne {a : Option Addr} (h : a ≠ none) (c lo : Nat) : cutA a c lo ≠ none := fun e => h (cutA_none e)
theorem _root_.Go.Proofs.Ytfodpphbdbeciaa.Mem.Sl.cutA {w : World} {a : Option Addr} {xs : List Value} (h : Sl w a xs) (c lo : Nat) (hc : c = lo → xs.length ≤ lo) : Sl w (cutA a c lo) (xs.drop lo) := h.cut c lo hc
theorem _root_.Go.Proofs.Ytfodpphbdbeciaa.Mem.Sl.mid {w : World} {a : Option Addr} {k : IntKind} {xs : List Int} (h : Sl w a (ints k xs)) (c lo n : Nat) (hc : c = lo → n = 0) : Sl w (Ops.cutA a c lo) (ints k ((xs.drop lo).take n)) := by
  by_cases e : c = lo
  · rw [hc e, List.take_zero]; exact Sl.nil _ _
  · have := (h.drop lo).take n
    rw [ints_drop, ints_take] at this
    unfold Ops.cutA
    rw [if_neg e]
    exact this

theorem run_slice_from (w : World) (t e : TypeId) (ht : P.underlying t = some (.slice e)) (hs : (P.info? e).map (·.size) = some 1) (a : Option Addr) (n c lo : Nat) (k : IntKind) (LO : Int) (hLO : LO = lo) (h1 : lo ≤ n) :
    (Instr.slice t (.slice a n c) (some (.int k LO)) none none).run P w = .ok (.slice (cutA a c lo) (n - lo) (c - lo)) w := by
  subst hLO
  have hsz : (sizeOf e).run P w = .ok 1 w := by
    obtain ⟨i, hi, hi'⟩ := Option.map_eq_some_iff.1 hs
    simp [sizeOf, typeInfo, hi, hi', go_sem]
  unfold cutA
  simp [Instr.slice, run_underlying ht, go_sem, hsz, h1]
theorem run_slice_upto (w : World) (t e : TypeId) (ht : P.underlying t = some (.slice e)) (hs : (P.info? e).map (·.size) = some 1) (a : Option Addr) (n c hi : Nat) (k : IntKind) (HI : Int) (hHI : HI = hi) (h1 : hi ≤ c) :
    (Instr.slice t (.slice a n c) none (some (.int k HI)) none).run P w = .ok (.slice a hi c) w := by
  subst hHI
  have hsz : (sizeOf e).run P w = .ok 1 w := by
    obtain ⟨i, hi, hi'⟩ := Option.map_eq_some_iff.1 hs
    simp [sizeOf, typeInfo, hi, hi', go_sem]
  have ha : a.map (·.add 0) = a := by cases a <;> simp [Addr.add]
  simp [Instr.slice, run_underlying ht, go_sem, hsz, h1, ha]
theorem run_slice_mid (w : World) (t e : TypeId) (ht : P.underlying t = some (.slice e)) (hs : (P.info? e).map (·.size) = some 1) (a : Option Addr) (n c lo hi : Nat) (k k' : IntKind) (LO HI : Int) (hLO : LO = lo) (hHI : HI = hi) (h0 : lo ≤ hi) (h1 : hi ≤ c) :
    (Instr.slice t (.slice a n c) (some (.int k LO)) (some (.int k' HI)) none).run P w = .ok (.slice (cutA a c lo) (hi - lo) (c - lo)) w := by
  subst hLO hHI
  have hsz : (sizeOf e).run P w = .ok 1 w := by
    obtain ⟨i, hi, hi'⟩ := Option.map_eq_some_iff.1 hs
    simp [sizeOf, typeInfo, hi, hi', go_sem]
  unfold cutA
  simp [Instr.slice, run_underlying ht, go_sem, hsz, h0, h1]
end
end Go.Proofs.Ytfodpphbdbeciaa.Ops
