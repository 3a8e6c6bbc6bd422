/- A journal that is never cut: plain. -/
import Derived.Test.YtfodpphbdbeciaaJnV
import Derived.Test.YtfodpphbdbeciaaJnP
namespace Go.Proofs.Ytfodpphbdbeciaa.Jn
open Go.RowKit Words Mem Plain Ops Agg OwnS Dk
open Go.Proofs.Ytfodpphbdbeciaa.Field Go.Proofs.Ytfodpphbdbeciaa.Sum
set_option maxRecDepth 100000
set_option linter.ambiguousOpen false
set_option linter.unusedVariables false
set_option linter.unusedSimpArgs false

/-- The laws' disk: 60 sectors, the journal from 12 on, with nothing to be done again; its number. -/
structure Calm (D : Dsk) (s : Int) : Prop where
  live : Live D
  len : D.secs.length = 60
  head : ∃ B, ((B = List.replicate 64 0 ∧ s = 0) ∨ B = headB s 0) ∧ readR D 12 = (B, 0)
theorem runR_wf : ∀ (R : List (List PT)) {D : Dsk} {b : Nat}, D.Wf b → (∀ P ∈ R, P.length ≤ 100 ∧ ∀ p ∈ P, p.wf) → (runR D R).1.Wf (b + R.length * 101)
  | [], D, b, h, _ => by simpa [runR] using h
  | P :: R, D, b, h, hp => by
    obtain ⟨h1, h2⟩ := hp P List.mem_cons_self
    have hw := writesR_wf P h h2
    unfold runR
    split
    · exact Wf.mono (runR_wf R hw (fun Q hQ => hp Q (List.mem_cons_of_mem _ hQ))) (by simp; omega)
    · exact Wf.mono hw (by simp; omega)
theorem readR_live {D : Dsk} (h : Live D) (k : Nat) (hk : k < D.secs.length) : readR D k = (pad64 (sg D.secs k).bs, 0) := by
  unfold readR
  rw [getR_yes hk h.1]
  rfl
theorem calm_new : Calm (newD 60) 0 := by
  refine ⟨⟨rfl, rfl⟩, by simp [newD], List.replicate 64 0, .inl ⟨rfl, rfl⟩, ?_⟩
  decide +kernel
/-- A commit, and what comes of it. -/
theorem calm_commit {D : Dsk} {s : Int} {b : Nat} (h : Calm D s) (hs : 0 ≤ s ∧ s ≤ 1000000) (hwf : D.Wf b) {L : List PT} (hL : ∀ p ∈ L, p.wf) (h60 : L.length ≤ 60) :
    Calm (commitR D 12 (47 + 1 : Nat) s L).1 (commitR D 12 (47 + 1 : Nat) s L).2.1 ∧ (commitR D 12 (47 + 1 : Nat) s L).1.Wf (b + 500) ∧
      (commitR D 12 (47 + 1 : Nat) s L).2.1 = (if (commitR D 12 (47 + 1 : Nat) s L).2.2 = 0 ∧ 0 < L.length then s + 1 else s) := by
  by_cases h1 : L = []
  · have e : commitR D 12 (47 + 1 : Nat) s L = (D, s, 0) := by unfold commitR; rw [if_pos h1]
    rw [e]
    exact ⟨h, Wf.mono hwf (by omega), by rw [h1]; simp⟩
  by_cases h2 : roomN (47 + 1 : Nat) < L.length
  · have e : commitR D 12 (47 + 1 : Nat) s L = (D, s, 4) := by unfold commitR; rw [if_neg h1, if_pos h2]
    rw [e]
    exact ⟨h, Wf.mono hwf (by omega), by simp⟩
  by_cases h3 : L.all (goodP D.secs.length 12 (47 + 1 : Nat)) = false
  · have e : commitR D 12 (47 + 1 : Nat) s L = (D, s, 1) := by unfold commitR; rw [if_neg h1, if_neg h2, if_pos h3]
    rw [e]
    exact ⟨h, Wf.mono hwf (by omega), by simp⟩
  have h3' : L.all (goodP D.secs.length 12 (47 + 1 : Nat)) = true := by simpa using h3
  have hmax : s ≠ 18446744073709551615 := by omega
  obtain ⟨k1, k2, k3⟩ := commit_live h.live (f := 12) (n := (47 + 1 : Nat)) (s := s) h1 (by decide) (by decide) (by rw [h.len]; decide) (Int.not_lt.1 h2) h3' hmax
  have hl : (commitR D 12 (47 + 1 : Nat) s L).1.secs.length = 60 := by
    rw [k3]
    simp only [partsP, List.foldl_cons, List.foldl_nil, setS_len, fold_len]
    exact h.len
  have hw : (commitR D 12 (47 + 1 : Nat) s L).1.Wf (b + 500) := by
    have e : (commitR D 12 (47 + 1 : Nat) s L).1 = (runR D (partsP 12 s L)).1 := by
      unfold commitR
      rw [if_neg h1, if_neg h2, if_neg h3, if_neg hmax]
      split <;> rfl
    rw [e]
    refine Wf.mono (runR_wf (partsP 12 s L) hwf (fun P hP => ?_)) (by simp [partsP])
    simp only [partsP, List.mem_cons, List.not_mem_nil, or_false] at hP
    rcases hP with rfl | rfl | rfl | rfl
    · exact ⟨by rw [layP_length]; omega, layP_wf hL⟩
    · exact ⟨by simp, fun p hp => by simp at hp; subst hp; exact headP_wf _ _ _⟩
    · exact ⟨by omega, hL⟩
    · exact ⟨by simp, fun p hp => by simp at hp; subst hp; exact headP_wf _ _ _⟩
  have h12 : readR (commitR D 12 (47 + 1 : Nat) s L).1 ((12 : Nat) : Int) = (headB (s + 1) 0, 0) := by
    rw [readR_live k2 12 (by rw [hl]; decide)]
    have e : sg (commitR D 12 (47 + 1 : Nat) s L).1.secs 12 = ⟨headB (s + 1) 0, 0⟩ := by
      rw [sg_eq _ _ (by rw [hl]; decide)]
      have e2 : (commitR D 12 (47 + 1 : Nat) s L).1.secs[12]? = some ⟨headB (s + 1) 0, 0⟩ := by
        rw [k3]
        simp only [partsP, List.foldl_cons, List.foldl_nil]
        have hlen : ∀ S : List Sec, S.length = 60 → (setS S (headP 12 (s + 1) 0))[12]? = some ⟨headB (s + 1) 0, 0⟩ := fun S hS => by
          show (S.set (12 : Int).toNat _)[12]? = _
          rw [List.getElem?_set]
          rw [if_pos (by decide), if_pos (by rw [hS]; decide)]
          rfl
        exact hlen _ (by simp only [setS_len, fold_len]; exact h.len)
      rw [List.getElem?_eq_getElem (by rw [hl]; decide)] at e2
      exact Option.some.inj e2
    rw [e, pad64_of (headB_len _ _)]
  rw [k1]
  exact ⟨⟨k2, hl, headB (s + 1) 0, .inr rfl, h12⟩, hw, by rw [if_pos ⟨rfl, List.length_pos_iff.2 h1⟩]⟩
end Go.Proofs.Ytfodpphbdbeciaa.Jn
