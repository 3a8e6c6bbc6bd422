/- Plain laws: with one byte another one, or two neighbours changed about, what was sealed is not opened. -/
import Derived.Test.YtafkpjgkghnipaaSeals
namespace Go.Proofs.Ytafkpjgkghnipaa.Sum
open Go.RowKit Words Mem Plain Ops
open Go.Proofs.Ytafkpjgkghnipaa.Field
set_option linter.ambiguousOpen false
set_option linter.unusedVariables false
set_option linter.unusedSimpArgs false

theorem raw_shift (L : List Int) (p : Int × Int) (d e : Int) : raw (p.1 + d, p.2 + e) L = ((raw p L).1 + d, (raw p L).2 + e + L.length * d) := by
  induction L generalizing p e with
  | nil => simp [raw_nil]
  | cons c L ih =>
    rw [raw_cons, raw_cons]
    have h1 : stepS (p.1 + d, p.2 + e) c = ((stepS p c).1 + d, (stepS p c).2 + (e + d)) := by
      unfold stepS; simp only [Prod.mk.injEq]; omega
    rw [h1, ih (stepS p c) (e + d), List.length_cons]
    simp only [Prod.mk.injEq, true_and]
    push_cast
    rw [Int.add_mul]
    omega
theorem out_fst {p q : Int × Int} (h : outS p = outS q) : p.1 % 65521 = q.1 % 65521 := by unfold outS at h; omega
theorem out_snd {p q : Int × Int} (h : outS p = outS q) : p.2 % 65521 = q.2 % 65521 := by unfold outS at h; omega

theorem more_one (s : Int) (A B : List Int) (x c : Int) (hx : 0 ≤ x ∧ x < 256) (hc : 0 ≤ c ∧ c < 256) (h : moreN s (A ++ x :: B) = moreN s (A ++ c :: B)) : x = c := by
  unfold moreN at h
  rw [raw_append, raw_append, raw_cons, raw_cons] at h
  generalize raw (startS s) A = q at h
  have h1 : stepS q c = ((stepS q x).1 + (c - x), (stepS q x).2 + (c - x)) := by
    unfold stepS; simp only [Prod.mk.injEq]; omega
  rw [h1, raw_shift] at h
  have := out_fst h
  simp only at this
  omega
theorem more_swap (s : Int) (A B : List Int) (x y : Int) (hx : 0 ≤ x ∧ x < 256) (hy : 0 ≤ y ∧ y < 256) (h : moreN s (A ++ x :: y :: B) = moreN s (A ++ y :: x :: B)) : x = y := by
  unfold moreN at h
  rw [raw_append, raw_append, raw_cons, raw_cons, raw_cons, raw_cons] at h
  generalize raw (startS s) A = q at h
  have h1 : stepS (stepS q y) x = ((stepS (stepS q x) y).1 + 0, (stepS (stepS q x) y).2 + (y - x)) := by
    unfold stepS; simp only [Prod.mk.injEq]; omega
  rw [h1, raw_shift] at h
  have := out_snd h
  simp only at this
  omega

theorem openR_code (Q : List Int) (n : Nat) (hl : Q.length = n + 4) : (openR Q).2 = 0 ↔ sealN (Q.take n) = Q := by
  unfold openR
  rw [hl, Nat.add_sub_cancel]
  by_cases h : sealN (Q.take n) = Q
  · rw [if_pos ⟨by omega, h⟩]; simp [h]
  · rw [if_neg (fun hh => h hh.2)]; simp [h]
theorem seal_inj {X Y : List Int} (hl : X.length = Y.length) (h : X ++ bytesOf 4 (moreN 1 Y) = sealN X) : moreN 1 Y = moreN 1 X := by
  unfold sealN at h
  have h1 := List.append_cancel_left h
  have h2 := congrArg numOf h1
  have b1 := more_bd 1 Y
  have b2 := more_bd 1 X
  rw [numOf_bytesOf_of 4 _ b1.1 (by omega), numOf_bytesOf_of 4 _ b2.1 (by omega)] at h2
  exact h2

theorem seal_get (X : List Int) (k : Nat) (h : k < (sealN X).length) (hk : k < X.length) : (sealN X)[k] = X[k] := List.getElem_append_left hk
/-- With one byte another one. -/
theorem tells_one (X : List Int) (n k : Nat) (c : Int) (hl : X.length = n) (hb : isBytes X) (hc : 0 ≤ c ∧ c < 256) (hk : k < (sealN X).length) : (openR ((sealN X).set k c)).2 = 0 ↔ (sealN X)[k] = c := by
  have hlen : ((sealN X).set k c).length = n + 4 := by rw [List.length_set, length_seal, hl]
  rw [openR_code _ n hlen]
  have hk4 : k < n + 4 := by rw [length_seal, hl] at hk; exact hk
  constructor
  · intro h
    by_cases hkn : k < n
    · have e1 : (sealN X).set k c = X.set k c ++ bytesOf 4 (moreN 1 X) := by
        unfold sealN; rw [List.set_append_left _ _ (by omega)]
      have e2 : ((sealN X).set k c).take n = X.set k c := by
        rw [e1, List.take_append_of_le_length (by rw [List.length_set]; omega), List.take_of_length_le (by rw [List.length_set]; omega)]
      rw [e2, e1] at h
      have h3 := seal_inj (X := X.set k c) (Y := X) (by rw [List.length_set]) h.symm
      have hkX : k < X.length := by omega
      have e3 : X = X.take k ++ X[k] :: X.drop (k + 1) := by rw [← List.drop_eq_getElem_cons hkX, List.take_append_drop]
      have e4 : X.set k c = X.take k ++ c :: X.drop (k + 1) := List.set_eq_take_append_cons_drop.trans (by rw [if_pos hkX])
      have h4 : moreN 1 (X.take k ++ X[k] :: X.drop (k + 1)) = moreN 1 (X.take k ++ c :: X.drop (k + 1)) := by rw [← e3, ← e4]; exact h3
      have h5 := more_one 1 _ _ X[k] c (hb _ (List.getElem_mem hkX)) hc h4
      rw [seal_get X k hk hkX]
      exact h5
    · have e2 : ((sealN X).set k c).take n = X := by
        rw [List.take_set, ← hl, take_seal, List.set_eq_of_length_le (by omega)]
      rw [e2] at h
      have h6 : (sealN X)[k] = ((sealN X).set k c)[k]'(by rw [List.length_set]; exact hk) := by
        congr 1
      rw [h6]; simp
  · intro h
    subst h
    rw [List.set_getElem_self, ← hl, take_seal]

/-- With two neighbours changed about. -/
theorem tells_two (X : List Int) (n k : Nat) (hl : X.length = n) (hb : isBytes X) (hk : k + 1 < n) (h1 : k < (sealN X).length) (h2 : k + 1 < (sealN X).length) :
    (openR (((sealN X).set k (sealN X)[k + 1]).set (k + 1) (sealN X)[k])).2 = 0 ↔ (sealN X)[k] = (sealN X)[k + 1] := by
  have hlen : (((sealN X).set k (sealN X)[k + 1]).set (k + 1) (sealN X)[k]).length = n + 4 := by rw [List.length_set, List.length_set, length_seal, hl]
  rw [openR_code _ n hlen]
  have k1 : k < X.length := by omega
  have k2 : k + 1 < X.length := by omega
  have g1 : (sealN X)[k] = X[k] := seal_get X k h1 k1
  have g2 : (sealN X)[k + 1] = X[k + 1] := seal_get X (k + 1) h2 k2
  rw [g1, g2]
  have e1 : ((sealN X).set k X[k + 1]).set (k + 1) X[k] = (X.set k X[k + 1]).set (k + 1) X[k] ++ bytesOf 4 (moreN 1 X) := by
    unfold sealN; rw [List.set_append_left _ _ (by omega), List.set_append_left _ _ (by rw [List.length_set]; omega)]
  have hl2 : ((X.set k X[k + 1]).set (k + 1) X[k]).length = n := by rw [List.length_set, List.length_set, hl]
  have e2 : (((sealN X).set k X[k + 1]).set (k + 1) X[k]).take n = (X.set k X[k + 1]).set (k + 1) X[k] := by
    rw [e1, List.take_append_of_le_length (by omega), List.take_of_length_le (by omega)]
  rw [e2, e1]
  have e3 : X = X.take k ++ X[k] :: X[k + 1] :: X.drop (k + 2) := by
    rw [← List.drop_eq_getElem_cons k2, ← List.drop_eq_getElem_cons k1, List.take_append_drop]
  have e4 : (X.set k X[k + 1]).set (k + 1) X[k] = X.take k ++ X[k + 1] :: X[k] :: X.drop (k + 2) := by
    have htk : (X.take k).length = k := by rw [List.length_take]; omega
    conv => lhs; arg 1; arg 1; rw [e3]
    rw [List.set_append_right _ _ (by omega), htk, Nat.sub_self, List.set_cons_zero, List.set_append_right _ _ (by omega), htk, Nat.add_sub_cancel_left, List.set_cons_succ, List.set_cons_zero]
  constructor
  · intro h
    have h3 := seal_inj (by rw [hl2, hl]) h.symm
    rw [e4] at h3
    have h4 : moreN 1 (X.take k ++ X[k] :: X[k + 1] :: X.drop (k + 2)) = moreN 1 (X.take k ++ X[k + 1] :: X[k] :: X.drop (k + 2)) := by rw [← e3]; exact h3
    exact more_swap 1 _ _ _ _ (hb _ (List.getElem_mem k1)) (hb _ (List.getElem_mem k2)) h4
  · intro h
    have e5 : (X.set k X[k + 1]).set (k + 1) X[k] = X := by rw [e4, ← h]; conv => rhs; rw [e3, ← h]
    rw [e5]; rfl
/-- Both, said of a sealed list that is a letter. -/
theorem tells (X : List Int) (n : Nat) (hl : X.length = n) (hb : isBytes X) : ∃ Q, sealN X = Q ∧ Q.length = n + 4 ∧ isBytes Q ∧
    (∀ (k : Nat) (x c : Int), 0 ≤ c ∧ c < 256 → Q[k]? = some x → ((openR (Q.set k c)).2 = 0 ↔ x = c)) ∧
    (∀ (k : Nat) (x y : Int), k + 1 < n → Q[k]? = some x → Q[k + 1]? = some y → ((openR ((Q.set k y).set (k + 1) x)).2 = 0 ↔ x = y)) ∧
    (∀ (k : Nat) (x c : Int), Q[k]? = some x → (Q.set k c).set k x = Q) := by
  refine ⟨sealN X, rfl, by rw [length_seal, hl], isBytes_seal hb, fun k x c hc hx => ?_, fun k x y hk hx hy => ?_, fun k x c hx => ?_⟩
  · obtain ⟨h, rfl⟩ := List.getElem?_eq_some_iff.1 hx
    exact tells_one X n k c hl hb hc h
  · obtain ⟨h, rfl⟩ := List.getElem?_eq_some_iff.1 hx
    obtain ⟨h', rfl⟩ := List.getElem?_eq_some_iff.1 hy
    exact tells_two X n k hl hb hk h h'
  · obtain ⟨h, rfl⟩ := List.getElem?_eq_some_iff.1 hx
    rw [List.set_set]; exact List.set_getElem_self h
end Go.Proofs.Ytafkpjgkghnipaa.Sum
