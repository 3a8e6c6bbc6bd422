/- How many blocks of a disk are in each group: a map that is filled block by block. Plain laws. -/
import Derived.Maps.OwnSet
import Derived.Maps.Views
import Derived.Maps.RangeWalk
namespace Go.Proofs.Ythhkkjnahiimbaa.Parts
open Go.RowKit Go.Maps
set_option linter.unusedVariables false

abbrev U := Unit
/-- The map behind k blocks. -/
def Dm (P : Int) : Nat → DataW U
  | 0 => .map []
  | k + 1 => (Dm P k).put (.int .i64 ((k : Int) / P)) (.lit (.int .i64 ((k : Int) % P + 1)))
/-- How many of k blocks are in group i. -/
def cnt (P : Int) (k : Nat) (i : Int) : Int := if i < 0 ∨ (k : Int) ≤ i * P then 0 else if (i + 1) * P ≤ k then P else k - i * P

theorem key_int (i : Int) : WideAt.IsKeyLit (.int .i64 i) := trivial
theorem tidy (P : Int) (k : Nat) : Tidy (Dm P k) := by
  induction k with
  | zero => exact tidy_empty
  | succ k ih => exact ih.put (key_int _) _

theorem at_cnt (P : Int) (hP : 1 ≤ P) (k : Nat) (i : Int) : (Dm P k).atKey (.int .i64 i) (.lit (.int .i64 0)) = .lit (.int .i64 (cnt P k i)) := by
  induction k with
  | zero =>
    have : cnt P 0 i = 0 := by
      unfold cnt
      by_cases h : i < 0
      · rw [if_pos (.inl h)]
      · have := Int.mul_nonneg (show 0 ≤ i by omega) (show 0 ≤ P by omega)
        rw [if_pos (.inr (by simpa using this))]
    rw [this]; rfl
  | succ k ih =>
    have hmod := Int.emod_nonneg (k : Int) (show P ≠ 0 by omega)
    have hlt := Int.emod_lt_of_pos (k : Int) (show 0 < P by omega)
    have hdm := Int.mul_ediv_add_emod (k : Int) P
    have hd0 : 0 ≤ (k : Int) / P := Int.ediv_nonneg (by omega) (by omega)
    unfold Dm
    by_cases h : i = (k : Int) / P
    · rw [h, atKey_put_same (tidy P k).isMap (key_int _)]
      congr 2
      unfold cnt
      generalize (k : Int) / P = q at *
      generalize (k : Int) % P = r at *
      have e1 : q * P = P * q := Int.mul_comm _ _
      have e2 : (q + 1) * P = P * q + P := by rw [Int.add_mul, e1]; omega
      rw [if_neg (by rw [e1]; push_cast; omega)]
      by_cases h1 : (q + 1) * P ≤ ((k + 1 : Nat) : Int)
      · rw [if_pos h1]; rw [e2] at h1; push_cast at h1; omega
      · rw [if_neg h1]; rw [e1]; push_cast; omega
    · rw [atKey_put_other (by intro e; cases e; exact h rfl), ih]
      congr 2
      unfold cnt
      by_cases hi : i < 0
      · rw [if_pos (.inl hi), if_pos (.inl hi)]
      · rcases Int.lt_or_gt_of_ne h with h1 | h1
        · have h2 : (i + 1) * P ≤ (k : Int) / P * P := Int.mul_le_mul_of_nonneg_right (by omega) (by omega)
          have h3 : (i + 1) * P = i * P + P := by rw [Int.add_mul]; omega
          have h4 : (k : Int) / P * P = P * ((k : Int) / P) := Int.mul_comm _ _
          rw [if_neg (by omega), if_pos (by omega), if_neg (by push_cast; omega), if_pos (by push_cast; omega)]
        · have h2 : ((k : Int) / P + 1) * P ≤ i * P := Int.mul_le_mul_of_nonneg_right (by omega) (by omega)
          have h3 : ((k : Int) / P + 1) * P = P * ((k : Int) / P) + P := by rw [Int.add_mul, Int.mul_comm]; omega
          rw [if_pos (.inr (by omega)), if_pos (.inr (by push_cast; omega))]

theorem has_iff (P : Int) (hP : 1 ≤ P) (k : Nat) (i : Int) : has (Dm P k) (.int .i64 i) = decide (0 ≤ i ∧ i * P < k) := by
  induction k with
  | zero =>
    symm
    rw [show has (Dm P 0) (.int .i64 i) = false from rfl, decide_eq_false_iff_not]
    rintro ⟨h1, h2⟩
    have := Int.mul_nonneg h1 (show 0 ≤ P by omega)
    simp at h2
    omega
  | succ k ih =>
    have hmod := Int.emod_nonneg (k : Int) (show P ≠ 0 by omega)
    have hlt := Int.emod_lt_of_pos (k : Int) (show 0 < P by omega)
    have hdm := Int.mul_ediv_add_emod (k : Int) P
    have hd0 : 0 ≤ (k : Int) / P := Int.ediv_nonneg (by omega) (by omega)
    unfold Dm
    by_cases h : i = (k : Int) / P
    · rw [h, has_put_same (tidy P k).isMap (key_int _)]
      symm
      rw [decide_eq_true_iff]
      have e1 : (k : Int) / P * P = P * ((k : Int) / P) := Int.mul_comm _ _
      exact ⟨hd0, by rw [e1]; push_cast; omega⟩
    · rw [has_put_other (by intro e; cases e; exact h rfl), ih]
      congr 1
      apply propext
      rcases Int.lt_or_gt_of_ne h with h1 | h1
      · have h2 : (i + 1) * P ≤ (k : Int) / P * P := Int.mul_le_mul_of_nonneg_right (by omega) (by omega)
        have h3 : (i + 1) * P = i * P + P := by rw [Int.add_mul]; omega
        have h4 : (k : Int) / P * P = P * ((k : Int) / P) := Int.mul_comm _ _
        push_cast
        constructor
        · rintro ⟨a, b⟩; exact ⟨a, by omega⟩
        · rintro ⟨a, b⟩; exact ⟨a, by omega⟩
      · have h2 : ((k : Int) / P + 1) * P ≤ i * P := Int.mul_le_mul_of_nonneg_right (by omega) (by omega)
        have h3 : ((k : Int) / P + 1) * P = P * ((k : Int) / P) + P := by rw [Int.add_mul, Int.mul_comm]; omega
        push_cast
        constructor
        · rintro ⟨a, b⟩; omega
        · rintro ⟨a, b⟩; omega

theorem size_is (P : Int) (hP : 1 ≤ P) (k : Nat) : (size (Dm P k) : Int) = ((k : Int) + P - 1) / P := by
  induction k with
  | zero => 
    have : ((0 : Nat) : Int) + P - 1 = P - 1 := by omega
    rw [this, Int.ediv_eq_zero_of_lt (by omega) (by omega)]; rfl
  | succ k ih =>
    have hmod := Int.emod_nonneg (k : Int) (show P ≠ 0 by omega)
    have hlt := Int.emod_lt_of_pos (k : Int) (show 0 < P by omega)
    have hdm := Int.mul_ediv_add_emod (k : Int) P
    have hd0 : 0 ≤ (k : Int) / P := Int.ediv_nonneg (by omega) (by omega)
    have e1 : (k : Int) / P * P = P * ((k : Int) / P) := Int.mul_comm _ _
    have hnext : (((k + 1 : Nat) : Int) + P - 1) / P = (k : Int) / P + 1 := by
      rw [show ((k + 1 : Nat) : Int) + P - 1 = (k : Int) + 1 * P by push_cast; omega, Int.add_mul_ediv_right _ _ (by omega)]
    unfold Dm
    rw [size_put (tidy P k), hnext]
    by_cases h : has (Dm P k) (.int .i64 ((k : Int) / P)) = true
    · rw [if_pos h]
      rw [has_iff P hP, decide_eq_true_iff] at h
      rw [ih]
      have : (k : Int) + P - 1 = ((k : Int) % P - 1) + ((k : Int) / P + 1) * P := by rw [Int.add_mul, e1]; omega
      rw [this, Int.add_mul_ediv_right _ _ (by omega), Int.ediv_eq_zero_of_lt (by omega) (by omega)]; omega
    · rw [if_neg h]
      rw [has_iff P hP, decide_eq_true_iff] at h
      have hm0 : (k : Int) % P = 0 := by omega
      push_cast
      rw [ih]
      have : (k : Int) + P - 1 = (P - 1) + ((k : Int) / P) * P := by rw [e1]; omega
      rw [this, Int.add_mul_ediv_right _ _ (by omega), Int.ediv_eq_zero_of_lt (by omega) (by omega)]; omega
theorem cnt_now (P : Int) (hP : 1 ≤ P) (k : Nat) : cnt P k ((k : Int) / P) = (k : Int) % P := by
  have hmod := Int.emod_nonneg (k : Int) (show P ≠ 0 by omega)
  have hlt := Int.emod_lt_of_pos (k : Int) (show 0 < P by omega)
  have hdm := Int.mul_ediv_add_emod (k : Int) P
  have hd0 : 0 ≤ (k : Int) / P := Int.ediv_nonneg (by omega) (by omega)
  unfold cnt
  generalize (k : Int) / P = q at *
  generalize (k : Int) % P = r at *
  have e1 : q * P = P * q := Int.mul_comm _ _
  have e2 : (q + 1) * P = P * q + P := by rw [Int.add_mul, e1]; omega
  by_cases h : r = 0
  · rw [if_pos (.inr (by rw [e1]; omega)), h]
  · rw [if_neg (by rw [e1]; omega), if_neg (by rw [e2]; omega), e1]; omega
theorem cnt_end (P G : Int) (hP : 1 ≤ P) (k : Nat) (hk : (k : Int) = G * P) (i : Int) (h0 : 0 ≤ i) (h1 : i < G) : cnt P k i = P := by
  have h2 : (i + 1) * P ≤ G * P := Int.mul_le_mul_of_nonneg_right (by omega) (by omega)
  have h3 : (i + 1) * P = i * P + P := by rw [Int.add_mul]; omega
  unfold cnt
  rw [if_neg (by omega), if_pos (by omega)]
theorem size_end (P G : Int) (hP : 1 ≤ P) (k : Nat) (hk : (k : Int) = G * P) : (size (Dm P k) : Int) = G := by
  rw [size_is P hP, hk, show G * P + P - 1 = (P - 1) + G * P by omega, Int.add_mul_ediv_right _ _ (by omega), Int.ediv_eq_zero_of_lt (by omega) (by omega)]; omega
/-- A key that is there is a group's number. -/
theorem key_bd (P G : Int) (hP : 1 ≤ P) (k : Nat) (hk : (k : Int) = G * P) (i c : Int) (h : ∀ zd, (Dm P k).atKey (.int .i64 i) zd = .lit (.int .i64 c)) : 0 ≤ i ∧ i < G := by
  have hh := has_true_of_atKey h
  rw [has_iff P hP, decide_eq_true_iff] at hh
  refine ⟨hh.1, ?_⟩
  rcases Int.lt_or_le i G with h1 | h1
  · exact h1
  · have := Int.mul_le_mul_of_nonneg_right h1 (show 0 ≤ P by omega)
    omega
end Go.Proofs.Ythhkkjnahiimbaa.Parts
