/- One owner, bit or inode that is another one: plain, and in memory. -/
import Derived.Test.YtnodinancnfoeaaMtOwn
namespace Go.Proofs.Ytnodinancnfoeaa.Mt
open Go.RowKit Words Mem Plain Ops Agg OwnS Intern Ino
open Go.Proofs.Ytnodinancnfoeaa.Field
set_option linter.ambiguousOpen false
set_option linter.unusedVariables false
set_option linter.unusedSimpArgs false

theorem own_set {w : World} {base g n s cap : Nat} {t : TypeId} {xs : List Value} (h : w.ownsRow base t s (.slice (some ⟨g, 0, none⟩) n cap) n xs) (k : Nat) (v : Value) : (w.setCell ⟨g, k, none⟩ v).ownsRow base t s (.slice (some ⟨g, 0, none⟩) n cap) n (xs.set k v) := by
  have hl := h.1
  rcases ownS_cases h with ⟨e, _⟩ | ⟨g', M, e, h2, h3, h4, h5, h6, h7⟩
  · cases e
  · cases e
    have hle : n * s ≤ cap * s := Nat.mul_le_mul_right s h4
    exact ⟨by rw [List.length_set]; exact hl, .inr ⟨g, cap, (M.set k v).toArray, rfl, h2, Row.set h3 k v, h4, h5, by simpa using h6, by simp only [List.toList_toArray]; rw [List.take_set, h7]⟩⟩
theorem own_far {w : World} {base n s cap b' : Nat} {t : TypeId} {a : Option Addr} {xs : List Value} (h : w.ownsRow base t s (.slice a n cap) n xs) (hne : ∀ ad, a = some ad → ad.block ≠ b') (q : Nat) (v : Value) : (w.setCell ⟨b', q, none⟩ v).ownsRow base t s (.slice a n cap) n xs :=
  ownS_block h (fun ad e => (By.set w b' q v).block _ (ownS_lt h ad e).2 (by simpa using hne ad e))
theorem ints_set (k : IntKind) (L : List Int) (i : Nat) (x : Int) : (ints k L).set i (.int k x) = ints k (L.set i x) := by
  unfold ints; rw [List.map_set]
/-- Another owner. -/
theorem MetaAt.owner {w : World} {lo : Nat} {p : Pl} {M : MetaT} (h : MetaAt w lo p M) {b : Nat} (hb : p.oa = some ⟨b, 0, none⟩) (k : Nat) (x : Int) : MetaAt (w.setCell ⟨b, k, none⟩ (.int .i64 x)) lo p { M with owners := M.owners.set k x } := by
  obtain ⟨⟨s1, s2, s3⟩, ⟨s4, s5⟩, s6⟩ := h.sep
  have ho := h.owners
  rw [hb] at ho
  refine ⟨own_far h.rows (fun ad e => s1 ad _ e hb) k _, ?_, own_far h.used (fun ad e => (s4 _ ad hb e).symm) k _, own_far h.inodes (fun ad e => (s5 _ ad hb e).symm) k _, h.wfr, h.bu, h.wfi, by have := h.few; dsimp only; rw [List.length_set]; exact this, h.sep⟩
  have := own_set ho k (.int .i64 x)
  rw [ints_set] at this
  dsimp only
  rw [hb, List.length_set]
  exact this
/-- Another byte. -/
theorem MetaAt.byte {w : World} {lo : Nat} {p : Pl} {M : MetaT} (h : MetaAt w lo p M) {b : Nat} (hb : p.ua = some ⟨b, 0, none⟩) (k : Nat) {x : Int} (hx : 0 ≤ x ∧ x < 256) : MetaAt (w.setCell ⟨b, k, none⟩ (.int .u8 x)) lo p { M with used := M.used.set k x } := by
  obtain ⟨⟨s1, s2, s3⟩, ⟨s4, s5⟩, s6⟩ := h.sep
  have ho := h.used
  rw [hb] at ho
  refine ⟨own_far h.rows (fun ad e => s2 ad _ e hb) k _, own_far h.owners (fun ad e => s4 ad _ e hb) k _, ?_, own_far h.inodes (fun ad e => (s6 _ ad hb e).symm) k _, h.wfr, fun y hy => ?_, h.wfi, by have := h.few; dsimp only; rw [List.length_set]; exact this, h.sep⟩
  · have := own_set ho k (.int .u8 x)
    rw [ints_set] at this
    dsimp only
    rw [hb, List.length_set]
    exact this
  · rcases List.mem_or_eq_of_mem_set hy with hy | rfl
    · exact h.bu y hy
    · exact hx
/-- Another inode. -/
theorem MetaAt.inode {w : World} {lo : Nat} {p : Pl} {M : MetaT} (h : MetaAt w lo p M) {b : Nat} (hb : p.ia = some ⟨b, 0, none⟩) {k : Nat} (hk : k < M.inodes.length) {n : Ino} (hn : n.wf) : MetaAt (w.setCells b (k * 14) (inoC n)) lo p { M with inodes := M.inodes.set k n } := by
  obtain ⟨⟨s1, s2, s3⟩, ⟨s4, s5⟩, s6⟩ := h.sep
  have ho := h.inodes
  rw [hb] at ho
  have hB := gb_setCells b (inoC n) w (k * 14)
  have far : ∀ {t : TypeId} {s m c : Nat} {a : Option Addr} {xs : List Value}, w.ownsRow lo t s (.slice a m c) m xs → (∀ ad, a = some ad → ad.block ≠ b) → (w.setCells b (k * 14) (inoC n)).ownsRow lo t s (.slice a m c) m xs := fun h hne => ownS_block h (fun ad e => hB.block _ (ownS_lt h ad e).2 (by simpa using hne ad e))
  refine ⟨far h.rows (fun ad e => s3 ad _ e hb), far h.owners (fun ad e => s5 ad _ e hb), far h.used (fun ad e => s6 ad _ e hb), ?_, h.wfr, h.bu, fun y hy => ?_, by have := h.few; dsimp only; rw [List.length_set]; exact this, h.sep⟩
  · have := ownS_set inoC_len ho rfl hk n
    dsimp only
    rw [hb, List.length_set]
    exact this
  · rcases List.mem_or_eq_of_mem_set hy with hy | rfl
    · exact h.wfi y hy
    · exact hn

/-! One sector is another one. -/
/-- What is laid of the one, and of the other one. -/
def OneOff (L K : List (List Int)) : Prop := ∃ j ys, j < L.length ∧ K = L.set j ys ∧ ∀ h : j < L.length, L[j] ≠ ys
theorem one_owner {J I G P : Int} {M : MetaT} (h : rightM J I G P M = true) {k : Nat} (hk : k < M.owners.length) :
    rightM J I G P { M with owners := M.owners.set k ((M.owners[k] + 1) % 17) } = true ∧ OneOff (sectM M) (sectM { M with owners := M.owners.set k ((M.owners[k] + 1) % 17) }) := by
  obtain ⟨r1, r2, r3, r4, r5, r6, r7, r8⟩ := rightM_out h
  have ho := r6 _ (List.getElem_mem hk)
  have hbd := Super.right_bd r1
  refine ⟨?_, 1, ownersB { M with owners := M.owners.set k ((M.owners[k] + 1) % 17) }, by simp [sectM], by simp [sectM], fun _ => ?_⟩
  · rw [rightM_of (M := { M with owners := M.owners.set k ((M.owners[k] + 1) % 17) }) r1 r2 (by simp only [List.length_set]; exact r3) (by show (M.used.length : Int) = 64; omega) r5]
    simp only [Bool.and_eq_true, List.all_eq_true, decide_eq_true_eq]
    refine ⟨fun o hm => ?_, r7, r8⟩
    rcases List.mem_or_eq_of_mem_set hm with hm | rfl
    · have := r6 o hm; simp [ownB]; omega
    · simp [ownB]; omega
  · show ownersB M ≠ _
    unfold ownersB
    dsimp only
    rw [List.length_set]
    intro e
    have e1 := List.append_cancel_right e
    have e2 := congrArg (fun l => l[k]?) e1
    rw [List.getElem?_eq_getElem hk, List.getElem?_set, if_pos rfl, if_pos hk] at e2
    injection e2 with e3
    omega
theorem one_byte {J I G P : Int} {M : MetaT} (h : rightM J I G P M = true) (hb : isBytes M.used) (hk : 0 < M.used.length) {x : Int} (hx : x = if M.used[0] % 2 = 0 then M.used[0] + 1 else M.used[0] - 1) :
    rightM J I G P { M with used := M.used.set 0 x } = true ∧ OneOff (sectM M) (sectM { M with used := M.used.set 0 x }) := by
  obtain ⟨r1, r2, r3, r4, r5, r6, r7, r8⟩ := rightM_out h
  have hbd := Super.right_bd r1
  refine ⟨?_, 2, M.used.set 0 x, by simp [sectM], by simp [sectM, ownersB], fun _ => ?_⟩
  · rw [rightM_of (M := { M with used := M.used.set 0 x }) r1 r2 r3 (by simp only [List.length_set]; omega) r5]
    simp only [Bool.and_eq_true, List.all_eq_true, decide_eq_true_eq]
    refine ⟨fun o hm => by have := r6 o hm; simp [ownB]; omega, r7, ?_⟩
    have e : ∀ q, 1 ≤ q → Bit.bitN (M.used.set 0 x) q = Bit.bitN M.used q := fun q hq => by
      unfold Bit.bitN
      by_cases h8 : q / 8 = 0
      · rw [h8]
        have e1 : (M.used.set 0 x).getD 0 0 = x := by simp [List.getD_eq_getElem?_getD, hk]
        have e2 : M.used.getD 0 0 = M.used[0] := by simp [List.getD_eq_getElem?_getD, hk]
        rw [e1, e2]
        obtain ⟨z, hz⟩ : ∃ z, q % 8 = z + 1 := ⟨q % 8 - 1, by omega⟩
        rw [hz, Int.pow_succ, Int.mul_comm, ← Int.ediv_ediv_of_nonneg (by decide), ← Int.ediv_ediv_of_nonneg (by decide)]
        have : (x / 2 : Int) = (M.used[0] / 2 : Int) := by rw [hx]; split <;> omega
        rw [this]
      · have : (M.used.set 0 x).getD (q / 8) 0 = M.used.getD (q / 8) 0 := by
          rw [List.getD_eq_getElem?_getD, List.getD_eq_getElem?_getD, List.getElem?_set, if_neg (by omega)]
        rw [this]
    have e2 : Bit.countN (M.used.set 0 x) (G * P) 512 = Bit.countN M.used (G * P) 512 := by
      unfold Bit.countN Bit.countTo
      rw [List.length_set]
      refine congrArg List.length (List.filter_congr ?_)
      intro q _
      unfold Bit.inR
      by_cases hq : 1 ≤ q
      · rw [e q hq]
      · have hf : decide (G * P ≤ (q : Int)) = false := decide_eq_false (by omega)
        rw [hf, Bool.false_and, Bool.false_and]
    exact e2.trans r8
  · show M.used ≠ _
    intro e
    have e2 := congrArg (fun l => l[0]?) e
    rw [List.getElem?_eq_getElem hk, List.getElem?_set, if_pos rfl, if_pos hk] at e2
    injection e2 with e3
    rw [hx] at e3
    split at e3 <;> omega
theorem pairs_set : ∀ (L : List Ino) (k : Nat) (n : Ino) (q : Nat), L.length = 2 * q → k < L.length → pairsI (L.set k n) = (pairsI L).set (k / 2) (if k % 2 = 0 then n.bytes ++ (L.getD (k + 1) Ino.zero).bytes else (L.getD (k - 1) Ino.zero).bytes ++ n.bytes)
  | a :: b :: L, 0, n, q, h, hk => by simp [pairsI]
  | a :: b :: L, 1, n, q, h, hk => by simp [pairsI]
  | a :: b :: L, k + 2, n, q, h, hk => by
    have ih := pairs_set L k n (q - 1) (by simp at h; omega) (by simp at hk; omega)
    show (a.bytes ++ b.bytes) :: pairsI (L.set k n) = ((a.bytes ++ b.bytes) :: pairsI L).set ((k + 2) / 2) _
    rw [ih, show (k + 2) / 2 = k / 2 + 1 by omega, List.set_cons_succ, show (k + 2) % 2 = k % 2 by omega]
    congr 2
    by_cases hm : k % 2 = 0
    · rw [if_pos hm, if_pos hm]; rfl
    · rw [if_neg hm, if_neg hm]
      obtain ⟨z, rfl⟩ : ∃ z, k = z + 1 := ⟨k - 1, by omega⟩
      rfl
  | [], k, n, q, h, hk => by simp at hk
  | [a], k, n, q, h, hk => by simp at h; omega
theorem one_inode {J I G P : Int} {M : MetaT} (h : rightM J I G P M = true) (hwf : ∀ n ∈ M.inodes, n.wf) {k : Nat} (hk : k < M.inodes.length) {n : Ino} (hn : n = { M.inodes[k] with k := 1, s := (M.inodes[k].s + 1) % 3840 }) :
    rightM J I G P { M with inodes := M.inodes.set k n } = true ∧ n.wf ∧ OneOff (sectM M) (sectM { M with inodes := M.inodes.set k n }) := by
  obtain ⟨r1, r2, r3, r4, r5, r6, r7, r8⟩ := rightM_out h
  have hbd := Super.right_bd r1
  have hr := Ino.right_of (r7 _ (List.getElem_mem hk))
  have hw := hwf _ (List.getElem_mem hk)
  have hnr : n.RightP := by
    obtain ⟨p1, p2, p3, p4, p5, p6, p7, p8, p9, p10⟩ := hr
    rw [hn]
    exact ⟨(by decide : (1 : Int) ≤ 2), fun e => absurd e (by decide : ¬ (1 : Int) = 0), p3, p4, p5, by dsimp only; omega, by dsimp only; omega, p8, p9, p10⟩
  have hnw : n.wf := by rw [hn]; exact ⟨⟨(by decide : (0 : Int) ≤ 1), (by decide : (1 : Int) < 256)⟩, hw.2⟩
  have hne : M.inodes[k].bytes ≠ n.bytes := fun e => by
    have t1 := Ino.take_bytes hw hr
    have t2 := Ino.take_bytes hnw hnr
    rw [e, t2] at t1
    have : n = M.inodes[k] := congrArg Prod.fst t1
    have hs := congrArg Ino.s this
    rw [hn] at hs
    dsimp only at hs
    have := hr.2.2.2.2.2.1
    have := hr.2.2.2.2.2.2.1
    omega
  obtain ⟨q, hq⟩ : ∃ q, M.inodes.length = 2 * q := ⟨M.inodes.length / 2, by omega⟩
  have hpl := pairsI_len q _ hq
  have hps := pairs_set M.inodes k n q hq hk
  refine ⟨?_, hnw, 3 + k / 2, (if k % 2 = 0 then n.bytes ++ (M.inodes.getD (k + 1) Ino.zero).bytes else (M.inodes.getD (k - 1) Ino.zero).bytes ++ n.bytes), ?_, ?_, fun hlt => ?_⟩
  · rw [rightM_of (M := { M with inodes := M.inodes.set k n }) r1 r2 r3 (by show (M.used.length : Int) = 64; omega) (by simp only [List.length_set]; exact r5)]
    simp only [Bool.and_eq_true, List.all_eq_true, decide_eq_true_eq]
    refine ⟨fun o hm => by have := r6 o hm; simp [ownB]; omega, fun m hm => ?_, r8⟩
    rcases List.mem_or_eq_of_mem_set hm with hm | rfl
    · exact r7 m hm
    · exact Ino.rightB_yes hnr
  · simp [sectM, hpl]; omega
  · unfold sectM
    dsimp only
    rw [hps, show 3 + k / 2 = k / 2 + 1 + 1 + 1 by omega, List.set_cons_succ, List.set_cons_succ, List.set_cons_succ]
    rfl
  · have e0 : (sectM M)[3 + k / 2] = (pairsI M.inodes)[k / 2]'(by rw [hpl]; omega) := by
      simp only [sectM, show 3 + k / 2 = k / 2 + 1 + 1 + 1 by omega, List.getElem_cons_succ]
    rw [e0, pairsI_at (k / 2) M.inodes (by omega) (by rw [hpl]; omega)]
    have hl : ∀ (A B C D : List Int), A.length = C.length → A ++ B = C ++ D → A = C ∧ B = D := fun A B C D hl e => List.append_inj e hl
    by_cases hm : k % 2 = 0
    · rw [if_pos hm]
      intro e
      have := (hl _ _ _ _ (by rw [Ino.bytes_len, Ino.bytes_len]) e).1
      have e2 : M.inodes[2 * (k / 2)]'(by omega) = M.inodes[k] := by congr 1; omega
      rw [e2] at this
      exact hne this
    · rw [if_neg hm]
      intro e
      have := (hl _ _ _ _ (by rw [Ino.bytes_len, Ino.bytes_len]) e).2
      have e2 : M.inodes[2 * (k / 2) + 1]'(by omega) = M.inodes[k] := by congr 1; omega
      rw [e2] at this
      exact hne this
theorem xor_one (y : Int) (h0 : 0 ≤ y) (h1 : y < 256) : bits .xor .u8 y 1 = if y % 2 = 0 then y + 1 else y - 1 := by
  obtain ⟨n, rfl⟩ : ∃ n : Nat, y = n := ⟨y.toNat, by omega⟩
  have : n < 256 := by omega
  clear h0 h1
  revert n
  decide +kernel
end Go.Proofs.Ytnodinancnfoeaa.Mt
