/- intern.Take. -/
import Derived.Test.YtnodinancnfoeaaRwLay
import Derived.Test.YtnodinancnfoeaaTakeP
import Derived.Deep.AppendLies
namespace Go.Proofs.Ytnodinancnfoeaa.Intern
open Go.RowKit Words Mem Plain Ops Agg
open Go.Proofs.Ytnodinancnfoeaa.Field
set_option linter.ambiguousOpen false
set_option linter.unusedVariables false
set_option linter.unusedSimpArgs false

def numAt (xs : List Int) (j : Nat) : Int := numOf ((xs.drop (2 * j)).take 2)
def rowsQ (xs : List Int) (k : Nat) : List RowT := (List.range k).map fun i => (numAt xs (2 * i), numAt xs (2 * i + 1))
theorem rowsQ_succ (xs : List Int) (k : Nat) : rowsQ xs (k + 1) = rowsQ xs k ++ [(numAt xs (2 * k), numAt xs (2 * k + 1))] := by simp [rowsQ, List.range_succ]
theorem rowsQ_length (xs : List Int) (k : Nat) : (rowsQ xs k).length = k := by simp [rowsQ]
theorem numAt_bd {xs : List Int} (hb : isBytes xs) (j : Nat) : 0 ≤ numAt xs j ∧ numAt xs j ≤ 65535 := by
  have := takenL_bd 2 xs (j + 1) hb (by decide) (numAt xs j) (by
    rw [takenL_succ]; exact List.mem_append_right _ (by simp [numAt]))
  have e : (256 : Int) ^ 2 = 65536 := by decide
  rw [e] at this
  omega
theorem rowsQ_wf {xs : List Int} (hb : isBytes xs) (k : Nat) : wfR (rowsQ xs k) := by
  intro r hr
  obtain ⟨i, _, rfl⟩ := List.mem_map.1 hr
  have h1 := numAt_bd hb (2 * i)
  have h2 := numAt_bd hb (2 * i + 1)
  dsimp only
  omega
/-- Take. -/
def rowsTake (xs : List Int) : List RowT × Int := if xs.length = 64 ∧ rightB (rowsQ xs 16) = true then (rowsQ xs 16, 0) else ([], 100)
theorem rowsTake_yes {xs : List Int} (h : xs.length = 64) (hr : rightB (rowsQ xs 16) = true) : rowsTake xs = (rowsQ xs 16, 0) := by unfold rowsTake; rw [if_pos ⟨h, hr⟩]
theorem rowsTake_len {xs : List Int} (h : xs.length ≠ 64) : rowsTake xs = ([], 100) := by unfold rowsTake; rw [if_neg (fun e => h e.1)]
theorem rowsTake_no {xs : List Int} (hr : rightB (rowsQ xs 16) = false) : rowsTake xs = ([], 100) := by unfold rowsTake; rw [if_neg (fun e => by rw [hr] at e; cases e.2)]
theorem takeR_64 {xs : List Int} (h : xs.length = 64) : takeR 2 xs = (takenL 2 xs 32, 0) := by
  unfold takeR
  rw [h]
  rfl
theorem takeR_other {xs : List Int} (h : xs.length ≠ 64) : (takeR 2 xs).2 ≠ 0 ∨ ((takeR 2 xs).2 = 0 ∧ (takeR 2 xs).1.length ≠ 32) := by
  unfold takeR
  by_cases h1 : (2 : Int) < 1 ∨ 8 < (2 : Int) ∨ (xs.length : Int) % 2 ≠ 0
  · rw [if_pos h1]; exact .inl (by decide)
  · rw [if_neg h1]
    by_cases h2 : 4096 < xs.length
    · simp [h2]
    · simp [h2, length_takenL]
      omega
end Go.Proofs.Ytnodinancnfoeaa.Intern
