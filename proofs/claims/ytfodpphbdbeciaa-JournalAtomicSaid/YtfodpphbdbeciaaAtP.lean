/- The reference's At. -/
import Derived.Test.YtfodpphbdbeciaaField
namespace Go.Proofs.Ytfodpphbdbeciaa.Field
open Go.RowKit Words Mem Plain Ops
set_option maxRecDepth 100000
set_option linter.unusedVariables false
set_option linter.unusedSimpArgs false

def standsB (m a s : Int) : Bool := decide (1 ≤ s) && (decide (s ≤ 8) && (decide (0 ≤ a) && (decide (a ≤ m) && decide (s ≤ m - a))))
theorem standsB_true {m a s : Int} (h : standsB m a s = true) : 1 ≤ s ∧ s ≤ 8 ∧ 0 ≤ a ∧ a ≤ m ∧ s ≤ m - a := by
  simpa [standsB] using h
theorem numOf_drop (P : List Int) (i : Nat) (h : i < P.length) : numOf (P.drop i) = numOf (P.drop (i + 1)) * 256 + P[i] := by
  rw [List.drop_eq_getElem_cons h]; simp only [numOf]; omega
theorem standsB_of {m k s : Int} (h1 : 1 ≤ s) (h2 : s ≤ 8) (h3 : 0 ≤ k) (h4 : k ≤ m) (h5 : s ≤ m - k) : standsB m k s = true := by
  unfold standsB
  rw [decide_eq_true h1, decide_eq_true h2, decide_eq_true h3, decide_eq_true h4, decide_eq_true h5]; rfl
end Go.Proofs.Ytfodpphbdbeciaa.Field
