/- What was laid is taken: plain laws. -/
import Derived.Test.YtfodpphbdbeciaaLayP
import Derived.Test.YtfodpphbdbeciaaTakeP
namespace Go.Proofs.Ytfodpphbdbeciaa.Field
open Go.RowKit Words Mem Plain Ops
set_option maxRecDepth 100000
set_option linter.unusedVariables false
set_option linter.unusedSimpArgs false

theorem fitsB_of {x : Int} {s : Nat} (h : x < 256 ^ s) : fitsB x s = true := by unfold fitsB; simpa using h
theorem fitsB_lt {x : Int} {s : Nat} (h : fitsB x s = true) : x < 256 ^ s := by unfold fitsB at h; simpa using h
theorem drop_layed (s : Nat) (l : List Int) (i : Nat) (h : i < l.length) : ((layed s l).drop (s * i)).take s = bytesOf s l[i] := by
  have e : l = l.take i ++ l[i] :: l.drop (i + 1) := by rw [← List.drop_eq_getElem_cons h, List.take_append_drop]
  have hl : (layed s (l.take i)).length = s * i := by rw [length_layed, List.length_take]; congr 1; omega
  have e2 : layed s l = layed s (l.take i) ++ (bytesOf s l[i] ++ layed s (l.drop (i + 1))) := by
    exact (congrArg (layed s) e).trans (by unfold layed; rw [List.flatMap_append, List.flatMap_cons])
  rw [e2, ← hl, List.drop_left, List.take_append_of_le_length (by rw [length_bytesOf]; exact Nat.le_refl _), List.take_of_length_le (by rw [length_bytesOf]; exact Nat.le_refl _)]
theorem takenL_layed (s : Nat) (l : List Int) (hu : ∀ x ∈ l, 0 ≤ x) (hf : ∀ x ∈ l, fitsB x s = true) : takenL s (layed s l) l.length = l := by
  apply List.ext_getElem?
  intro i
  by_cases h : i < l.length
  · rw [getElem_takenL _ _ _ _ h, drop_layed s l i h, numOf_bytesOf_of s _ (hu _ (List.getElem_mem h)) (fitsB_lt (hf _ (List.getElem_mem h))), List.getElem?_eq_getElem h]
  · rw [List.getElem?_eq_none (by rw [length_takenL]; omega), List.getElem?_eq_none (by omega)]
theorem takeR_layed (s : Nat) (l : List Int) (h1 : 1 ≤ s) (h8 : s ≤ 8) (hu : ∀ x ∈ l, 0 ≤ x) (h : okLay s l = true) : takeR s (layed s l) = (l, 0) := by
  obtain ⟨h2, h3⟩ := okLay_true h
  unfold takeR
  rw [length_layed, if_neg (by simp; omega), if_neg (by omega), Int.toNat_natCast, Nat.mul_div_cancel_left _ (by omega), takenL_layed s l hu h3]
end Go.Proofs.Ytfodpphbdbeciaa.Field
