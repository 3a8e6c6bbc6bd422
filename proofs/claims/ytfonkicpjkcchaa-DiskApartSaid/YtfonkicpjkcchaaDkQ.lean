/- What a play does to a disk: plain. -/
import Derived.Test.YtfonkicpjkcchaaDkS
namespace Go.Proofs.Ytfonkicpjkcchaa.Dk
open Go.RowKit Words Mem Plain Ops Agg OwnS
set_option linter.ambiguousOpen false
set_option linter.unusedVariables false
set_option linter.unusedSimpArgs false

theorem sg_set {L : List Sec} {k : Nat} (hk : k < L.length) (s : Sec) (j : Nat) : sg (L.set k s) j = if j = k then s else sg L j := by
  unfold sg
  rw [List.getD_eq_getElem?_getD, List.getD_eq_getElem?_getD, List.getElem?_set]
  by_cases h : k = j
  · subst h; rw [if_pos rfl, if_pos hk, if_pos rfl]; rfl
  · rw [if_neg h, if_neg (fun e => h e.symm)]
theorem set_sg {L : List Sec} {k : Nat} (hk : k < L.length) : L.set k (sg L k) = L := by
  have : sg L k = L[k] := by simp [sg, hk]
  rw [this, List.set_getElem_self]
theorem undo_write {L : List Sec} {W : List Wt} {i : Int} (hk : i.toNat < L.length) (s : Sec) : undoS (L.set i.toNat s) (W ++ [⟨i, sg L i.toNat, s⟩]) = undoS L W := by
  unfold undoS
  rw [List.foldr_append]
  show W.foldr _ ((L.set i.toNat s).set i.toNat (sg L i.toNat)) = _
  rw [List.set_set, set_sg hk]
theorem sg_undo {L : List Sec} {at' : Nat} (ha : at' < L.length) : ∀ {W : List Wt}, (∀ x ∈ W, 0 ≤ x.pos ∧ x.pos < L.length) → (∀ x ∈ W, x.pos ≠ at') → sg (undoS L W) at' = sg L at'
  | [], _, _ => rfl
  | x :: W, hp, h => by
    show sg ((undoS L W).set x.pos.toNat x.was) at' = _
    have h1 := hp x (List.mem_cons_self ..)
    have h2 := h x (List.mem_cons_self ..)
    rw [sg_set (by rw [undoS_len]; omega), if_neg (by omega)]
    exact sg_undo ha (fun y hy => hp y (List.mem_cons_of_mem _ hy)) (fun y hy => h y (List.mem_cons_of_mem _ hy))
theorem sg_redo (there : Int) {L : List Sec} {at' : Nat} {W : List Wt} (hp : ∀ x ∈ W, 0 ≤ x.pos ∧ x.pos < L.length) : ∀ j, j ≤ W.length → sg (redoN there L W j) at' = sg L at' ∨ ∃ x ∈ W, x.pos = at' ∧ sg (redoN there L W j) at' = x.now
  | 0, _ => .inl rfl
  | j + 1, hj => by
    have ih := sg_redo there (at' := at') hp j (by omega)
    have hm : W[j] ∈ W := List.getElem_mem _
    have h1 := hp _ hm
    by_cases hb : bitB there j = true
    · rw [redoN_yes (by omega) hb, sg_set (by rw [redoN_len]; omega)]
      by_cases he : at' = W[j].pos.toNat
      · rw [if_pos he]; exact .inr ⟨_, hm, by omega, rfl⟩
      · rw [if_neg he]; exact ih
    · rw [redoN_no (by omega) (by simpa using hb)]; exact ih
theorem undo_mem {L : List Sec} {p : Sec → Prop} (hL : ∀ s ∈ L, p s) : ∀ {W : List Wt}, (∀ x ∈ W, p x.was) → ∀ s ∈ undoS L W, p s
  | [], _ => hL
  | x :: W, h => fun s hs => by
    rcases List.mem_or_eq_of_mem_set (show s ∈ (undoS L W).set _ _ from hs) with hs | rfl
    · exact undo_mem hL (fun y hy => h y (List.mem_cons_of_mem _ hy)) s hs
    · exact h x (List.mem_cons_self ..)
theorem redo_mem (there : Int) {L : List Sec} {p : Sec → Prop} (hL : ∀ s ∈ L, p s) {W : List Wt} (h : ∀ x ∈ W, p x.now) : ∀ j, j ≤ W.length → ∀ s ∈ redoN there L W j, p s
  | 0, _ => hL
  | j + 1, hj => fun s hs => by
    by_cases hb : bitB there j = true
    · rw [redoN_yes (by omega) hb] at hs
      rcases List.mem_or_eq_of_mem_set hs with hs | rfl
      · exact redo_mem there hL h j (by omega) s hs
      · exact h _ (List.getElem_mem _)
    · rw [redoN_no (by omega) (by simpa using hb)] at hs
      exact redo_mem there hL h j (by omega) s hs
theorem crash_wf {D : Dsk} {b : Nat} (h : D.Wf b) (there : Int) : (crashR D there).Wf b :=
  ⟨redo_mem there (undo_mem h.secs (fun x hx => (h.waits x hx).2.1)) (fun x hx => (h.waits x hx).2.2) _ (Nat.le_refl _), fun x hx => (by cases hx), by
    show (redoN ..).length ≤ _; rw [redoN_len, undoS_len]; exact h.few, ⟨(by decide : (-1 : Int) ≤ -1), (by decide : (-1 : Int) ≤ 9223372036854775807)⟩, h.done, Nat.zero_le _⟩
theorem crash_len (D : Dsk) (there : Int) : (crashR D there).secs.length = D.secs.length := by show (redoN ..).length = _; rw [redoN_len, undoS_len]
theorem cut_same (D : Dsk) (n : Int) : (cutR D n).secs = D.secs ∧ (cutR D n).waits = D.waits := by
  unfold cutR; split <;> exact ⟨rfl, rfl⟩
theorem flush_cases (D : Dsk) : (flushR D).1.secs = D.secs ∧ (((flushR D).2 = 0 ∧ (flushR D).1.waits = []) ∨ ((flushR D).2 = 6 ∧ (flushR D).1.waits = D.waits)) := by
  have hp := power_secs D
  unfold flushR
  rcases power_code D with h | h
  · rw [if_pos h]; exact ⟨hp.1, .inl ⟨rfl, rfl⟩⟩
  · rw [if_neg (by rw [h]; decide)]; exact ⟨hp.1, .inr ⟨h, hp.2⟩⟩
/-- A sector that is all one byte, whose tag is that, too. -/
def sC (c : Int) : Sec := ⟨allB c, c⟩
theorem write_cases (D : Dsk) (i c : Int) : ((writeR D i (allB c) c).2 ≠ 0 ∧ (writeR D i (allB c) c).1.secs = D.secs ∧ (writeR D i (allB c) c).1.waits = D.waits) ∨
    ((writeR D i (allB c) c).2 = 0 ∧ (0 ≤ i ∧ i < D.secs.length) ∧ (writeR D i (allB c) c).1.secs = D.secs.set i.toNat (sC c) ∧ (writeR D i (allB c) c).1.waits = D.waits ++ [⟨i, sg D.secs i.toNat, sC c⟩]) := by
  have hp := power_secs D
  by_cases hok : 0 ≤ i ∧ i < D.secs.length ∧ (allB c).length = 64
  · by_cases h0 : (powerR D).2 = 0
    · right
      unfold writeR
      rw [if_neg (fun e => e hok), if_pos h0]
      exact ⟨rfl, ⟨hok.1, hok.2.1⟩, rfl, rfl⟩
    · left
      rw [write_dead hok h0]
      exact ⟨h0, hp.1, hp.2⟩
  · left
    rw [write_no hok]
    exact ⟨(by decide : (1 : Int) ≠ 0), rfl, rfl⟩
theorem write_len (D : Dsk) (i c : Int) : (writeR D i (allB c) c).1.secs.length = D.secs.length := by
  rcases write_cases D i c with ⟨_, h, _⟩ | ⟨_, _, h, _⟩ <;> rw [h]
  exact List.length_set ..

/-! What was safe is there. -/
structure Still (at' : Nat) (s : Sec) (D : Dsk) : Prop where
  lt : at' < D.secs.length
  no : ∀ x ∈ D.waits, x.pos ≠ at'
  is : sg D.secs at' = s
section
variable {at' : Nat} {s : Sec} {D : Dsk} {b : Nat}
theorem Still.write (h : Still at' s D) {i : Int} (hi : i ≠ at') (c : Int) : Still at' s (writeR D i (allB c) c).1 := by
  rcases write_cases D i c with ⟨_, h1, h2⟩ | ⟨_, h0, h1, h2⟩
  · exact ⟨h1 ▸ h.lt, h2 ▸ h.no, h1 ▸ h.is⟩
  · refine ⟨by rw [h1, List.length_set]; exact h.lt, fun x hx => ?_, ?_⟩
    · rw [h2] at hx
      rcases List.mem_append.1 hx with hx | hx
      · exact h.no x hx
      · simp at hx; subst hx; exact hi
    · rw [h1, sg_set (by omega), if_neg (by omega)]; exact h.is
theorem Still.flush (h : Still at' s D) : Still at' s (flushR D).1 := by
  obtain ⟨h1, ⟨_, h2⟩ | ⟨_, h2⟩⟩ := flush_cases D
  · exact ⟨h1 ▸ h.lt, by rw [h2]; simp, h1 ▸ h.is⟩
  · exact ⟨h1 ▸ h.lt, h2 ▸ h.no, h1 ▸ h.is⟩
theorem Still.cut (h : Still at' s D) (n : Int) : Still at' s (cutR D n) := by
  obtain ⟨h1, h2⟩ := cut_same D n
  exact ⟨h1 ▸ h.lt, h2 ▸ h.no, h1 ▸ h.is⟩
theorem Still.crash (h : Still at' s D) (hw : D.Wf b) (there : Int) : Still at' s (crashR D there) := by
  refine ⟨by rw [crash_len]; exact h.lt, fun x hx => (by cases hx), ?_⟩
  have hp := fun x hx => (hw.waits x hx).1
  show sg (redoN there (undoS D.secs D.waits) D.waits D.waits.length) at' = s
  rcases sg_redo there (L := undoS D.secs D.waits) (at' := at') (W := D.waits) (by rw [undoS_len]; exact hp) _ (Nat.le_refl _) with e | ⟨x, hx, e, _⟩
  · rw [e, sg_undo h.lt hp h.no, h.is]
  · exact absurd e (h.no x hx)
end

/-! One of the writes is there. -/
structure May (at' : Nat) (M : List Int) (D : Dsk) : Prop where
  lt : at' < D.secs.length
  first : ∃ c ∈ M, sg (undoS D.secs D.waits) at' = sC c
  now : ∀ x ∈ D.waits, x.pos = at' → ∃ c ∈ M, x.now = sC c
  last : ∃ c, M.getLast? = some c ∧ sg D.secs at' = sC c
section
variable {at' : Nat} {M : List Int} {D : Dsk} {b : Nat}
theorem May.same (h : May at' M D) {D' : Dsk} (h1 : D'.secs = D.secs) (h2 : D'.waits = D.waits) : May at' M D' :=
  ⟨h1 ▸ h.lt, h1 ▸ h2 ▸ h.first, h2 ▸ h.now, h1 ▸ h.last⟩
theorem May.write_no (h : May at' M D) {i c : Int} (hi : (writeR D i (allB c) c).2 ≠ 0 ∨ i ≠ at') : May at' M (writeR D i (allB c) c).1 := by
  rcases write_cases D i c with ⟨_, h1, h2⟩ | ⟨h00, h0, h1, h2⟩
  · exact h.same h1 h2
  · have hi : i ≠ at' := hi.resolve_left (fun e => e h00)
    refine ⟨by rw [h1, List.length_set]; exact h.lt, ?_, fun x hx hp => ?_, ?_⟩
    · rw [h1, h2, undo_write (by omega)]; exact h.first
    · rw [h2] at hx
      rcases List.mem_append.1 hx with hx | hx
      · exact h.now x hx hp
      · simp at hx; subst hx; exact absurd hp hi
    · rw [h1, sg_set (by omega), if_neg (by omega)]; exact h.last
theorem May.write (h : May at' M D) {c : Int} (h00 : (writeR D at' (allB c) c).2 = 0) : May at' (M ++ [c]) (writeR D at' (allB c) c).1 := by
  rcases write_cases D at' c with ⟨hn, _⟩ | ⟨_, h0, h1, h2⟩
  · exact absurd h00 hn
  · refine ⟨by rw [h1, List.length_set]; exact h.lt, ?_, fun x hx hp => ?_, ⟨c, by simp, ?_⟩⟩
    · rw [h1, h2, undo_write (by omega)]
      obtain ⟨d, hd, e⟩ := h.first
      exact ⟨d, List.mem_append_left _ hd, e⟩
    · rw [h2] at hx
      rcases List.mem_append.1 hx with hx | hx
      · obtain ⟨d, hd, e⟩ := h.now x hx hp
        exact ⟨d, List.mem_append_left _ hd, e⟩
      · simp at hx; subst hx; exact ⟨c, by simp, rfl⟩
    · rw [h1, sg_set (by omega), if_pos (by omega)]
theorem May.flush_no (h : May at' M D) (h0 : (flushR D).2 ≠ 0) : May at' M (flushR D).1 := by
  obtain ⟨h1, ⟨e, h2⟩ | ⟨_, h2⟩⟩ := flush_cases D
  · exact absurd e h0
  · exact h.same h1 h2
theorem May.flush (h : May at' M D) (h0 : (flushR D).2 = 0) {c : Int} (hc : M.getLast? = some c) : May at' [c] (flushR D).1 := by
  obtain ⟨h1, ⟨_, h2⟩ | ⟨e, _⟩⟩ := flush_cases D
  · obtain ⟨d, hd, e⟩ := h.last
    obtain rfl : c = d := by rw [hc] at hd; simpa using hd
    refine ⟨h1 ▸ h.lt, ⟨c, by simp, ?_⟩, fun x hx => ?_, ⟨c, rfl, h1 ▸ e⟩⟩
    · rw [h1, h2]; exact e
    · rw [h2] at hx; cases hx
  · rw [h0] at e; cases e
theorem May.cut (h : May at' M D) (n : Int) : May at' M (cutR D n) := h.same (cut_same D n).1 (cut_same D n).2
theorem May.crash (h : May at' M D) (hw : D.Wf b) (there : Int) : ∃ c ∈ M, sg (crashR D there).secs at' = sC c := by
  have hp := fun x hx => (hw.waits x hx).1
  show ∃ c ∈ M, sg (redoN there (undoS D.secs D.waits) D.waits D.waits.length) at' = _
  rcases sg_redo there (L := undoS D.secs D.waits) (at' := at') (W := D.waits) (by rw [undoS_len]; exact hp) _ (Nat.le_refl _) with e | ⟨x, hx, e, e2⟩
  · rw [e]; exact h.first
  · rw [e2]; exact h.now x hx e
end
theorem may_new {n at' : Nat} (h : at' < n) : May at' [0] (newD n) := by
  have e : sg (newD n).secs at' = sC 0 := by
    show (List.replicate n zeroS).getD at' zeroS = _
    simp [List.getD_eq_getElem?_getD, List.getElem?_replicate, h]
    rfl
  exact ⟨by show _ < (List.replicate n zeroS).length; rw [List.length_replicate]; exact h, ⟨0, by simp, e⟩, fun x hx => (by cases hx), ⟨0, rfl, e⟩⟩
end Go.Proofs.Ytfonkicpjkcchaa.Dk
