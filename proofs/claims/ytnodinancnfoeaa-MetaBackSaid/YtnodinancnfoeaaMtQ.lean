/- Rows: what was laid is taken, and what is taken is laid so (a cut copy of RwBack's head); inodes; all of a disk. -/
import Derived.Test.YtnodinancnfoeaaMtT
namespace Go.Proofs.Ytnodinancnfoeaa.Mt
open Go.RowKit Words Mem Plain Ops Agg OwnS Intern Ino
open Go.Proofs.Ytnodinancnfoeaa.Field
set_option linter.ambiguousOpen false
set_option linter.unusedVariables false
set_option linter.unusedSimpArgs false

theorem layed_takenL (s q : Nat) (xs : List Int) (hb : isBytes xs) (h : xs.length = s * q) : layed s (takenL s xs q) = xs := by
  have key : ∀ m, m ≤ q → layed s (takenL s xs m) = xs.take (s * m) := by
    intro m
    induction m with
    | zero => intro _; simp [takenL, layed]
    | succ m ih =>
      intro hm
      have hle : s * m + s ≤ s * q := by rw [← Nat.mul_succ]; exact Nat.mul_le_mul_left s hm
      rw [takenL_succ, layed_snoc, ih (by omega), Nat.mul_succ, List.take_add]
      congr 1
      have hl : ((xs.drop (s * m)).take s).length = s := by rw [List.length_take, List.length_drop]; omega
      have := bytesOf_numOf ((xs.drop (s * m)).take s) (isBytes_take (isBytes_drop hb _) _)
      rwa [hl] at this
  rw [key q (Nat.le_refl _), ← h, List.take_length]
theorem nums_rowsQ (xs : List Int) (k : Nat) : numsR (rowsQ xs k) = takenL 2 xs (2 * k) := by
  induction k with
  | zero => rfl
  | succ k ih =>
    rw [rowsQ_succ, numsR_snoc, ih, show 2 * (k + 1) = 2 * k + 1 + 1 by omega, takenL_succ, takenL_succ, List.append_assoc]
    rfl
theorem rowsQ_rg (xs : List Int) {n k : Nat} (h : k < n) : rg (rowsQ xs n) k = (numAt xs (2 * k), numAt xs (2 * k + 1)) := by
  unfold rg rowsQ
  simp [h]
theorem numsR_at : ∀ (L : List RowT) (k : Nat), k < L.length → (numsR L)[2 * k]? = some (rg L k).1 ∧ (numsR L)[2 * k + 1]? = some (rg L k).2
  | [], k, h => by simp at h
  | r :: L, 0, h => ⟨rfl, rfl⟩
  | r :: L, k + 1, h => by
    have := numsR_at L k (by simpa using h)
    have e : numsR (r :: L) = r.1 :: r.2 :: numsR L := rfl
    rw [e, show 2 * (k + 1) = 2 * k + 1 + 1 by omega]
    simpa [rg] using this
theorem rows_take_lay {X : List RowT} (hr : rightB X = true) (hw : wfR X) : rowsTake (layed 2 (numsR X)) = (X, 0) := by
  have hok := (right_iff X).1 hr
  have hl : (layed 2 (numsR X)).length = 64 := by rw [length_layed, numsR_length, hok.1]
  have hat : ∀ j (hj : j < (numsR X).length), numAt (layed 2 (numsR X)) j = (numsR X)[j] := fun j hj => by
    unfold numAt
    rw [drop_layed 2 _ j hj]
    have := numsR_bd hok hw _ (List.getElem_mem hj)
    exact numOf_bytesOf_of 2 _ this.1 (by have e : (256 : Int) ^ 2 = 65536 := by decide
                                          rw [e]; exact this.2)
  have hnl : (numsR X).length = 32 := by rw [numsR_length, hok.1]
  have hX : rowsQ (layed 2 (numsR X)) 16 = X := by
    apply rg_ext (by rw [rowsQ_length, hok.1])
    intro k hk
    rw [rowsQ_length] at hk
    rw [rowsQ_rg _ hk, hat _ (by omega), hat _ (by omega)]
    obtain ⟨h1, h2⟩ := numsR_at X k (by rw [hok.1]; exact hk)
    rw [List.getElem?_eq_getElem (by omega)] at h1 h2
    injection h1 with h1
    injection h2 with h2
    rw [h1, h2]
  rw [rowsTake_yes hl (by rw [hX]; exact hr), hX]
theorem rows_lay_take {xs : List Int} (hb : isBytes xs) (h : (rowsTake xs).2 = 0) : xs.length = 64 ∧ Intern.rightB (rowsTake xs).1 = true ∧ layed 2 (numsR (rowsTake xs).1) = xs := by
  by_cases hl : xs.length = 64
  · cases hr : Intern.rightB (rowsQ xs 16)
    · rw [rowsTake_no hr] at h; cases h
    · rw [rowsTake_yes hl hr]
      exact ⟨hl, hr, by rw [nums_rowsQ, layed_takenL 2 32 xs hb hl]⟩
  · rw [rowsTake_len hl] at h; cases h
theorem ino_lay_take {xs : List Int} (hb : isBytes xs) (h : (Ino.takeR xs).2 = 0) : (Ino.takeR xs).1.bytes = xs ∧ (Ino.takeR xs).1.rightB = true := by
  by_cases hp : Ino.takeP xs
  · rw [takeR_yes hp]; exact ⟨Ino.bytes_take hb hp, Ino.rightB_yes hp.2.1⟩
  · rw [takeR_no hp] at h; cases h
theorem chunk_pairs {q : Nat} {N : List Ino} (hN : N.length = 2 * q) {m : Nat} (hm : m < N.length) : chunk (pairsI N) m = N[m].bytes := by
  have hq : m / 2 < (pairsI N).length := by rw [pairsI_len q N hN]; omega
  unfold chunk
  rw [List.getD_eq_getElem?_getD, List.getElem?_eq_getElem hq]
  show (((pairsI N)[m / 2]).drop _).take 32 = _
  rw [pairsI_at (m / 2) N (by omega) hq]
  rcases Nat.mod_two_eq_zero_or_one m with h | h
  · have e : N[2 * (m / 2)]'(by omega) = N[m] := by congr 1; omega
    rw [h, e, Nat.mul_zero, List.drop_zero, List.take_left' (Ino.bytes_len _)]
  · have e : N[2 * (m / 2) + 1]'(by omega) = N[m] := by congr 1; omega
    rw [h, e, Nat.mul_one, List.drop_left' (Ino.bytes_len _), List.take_of_length_le (Nat.le_of_eq (Ino.bytes_len _))]
theorem inoAt_pairs {q : Nat} {N : List Ino} (hN : N.length = 2 * q) (hw : ∀ n ∈ N, n.wf) (hr : ∀ n ∈ N, n.rightB = true) {m : Nat} (hm : m < N.length) : inoAt (pairsI N) m = (N[m], 0) := by
  unfold inoAt
  rw [chunk_pairs hN hm]
  exact Ino.take_bytes (hw _ (List.getElem_mem hm)) (Ino.right_of (hr _ (List.getElem_mem hm)))
theorem inosN_pairs {q : Nat} {N : List Ino} (hN : N.length = 2 * q) (hw : ∀ n ∈ N, n.wf) (hr : ∀ n ∈ N, n.rightB = true) : inosN (pairsI N) (2 * q) = N := by
  refine List.ext_getElem (by rw [inosN_len, hN]) (fun i h1 h2 => ?_)
  have e : (inosN (pairsI N) (2 * q))[i] = (inoAt (pairsI N) i).1 := by simp [inosN]
  rw [e, inoAt_pairs hN hw hr h2]
theorem ownersB_len (M : MetaT) (h : M.owners.length ≤ 64) : (ownersB M).length = 64 := by unfold ownersB; simp; omega
theorem bytes_sect {J I G P : Int} {M : MetaT} (hr : rightM J I G P M = true) (hb : isBytes M.used) : ∀ xs ∈ sectM M, isBytes xs := by
  obtain ⟨h1, h2, h3, h4, h5, h6, h7, h8⟩ := rightM_out hr
  intro xs hx
  simp only [sectM, List.mem_cons] at hx
  rcases hx with rfl | rfl | rfl | hx
  · exact isBytes_layed _ _
  · intro x hx
    rcases List.mem_append.1 hx with hx | hx
    · have := h6 x hx; omega
    · obtain rfl := List.eq_of_mem_replicate hx; decide
  · exact hb
  · have key : ∀ (N : List Ino), xs ∈ pairsI N → isBytes xs := fun N => by
      induction N using pairsI.induct with
      | case1 a b L ih =>
        intro h
        rcases List.mem_cons.1 h with rfl | h
        · intro y hy
          rcases List.mem_append.1 hy with hy | hy
          · exact a.bytes_isBytes y hy
          · exact b.bytes_isBytes y hy
        · exact ih h
      | case2 L h0 =>
        intro h
        unfold pairsI at h
        split at h
        · exact absurd rfl (h0 _ _ _)
        · cases h
    exact key _ hx
theorem s64_sect {J I G P : Int} {M : MetaT} (hr : rightM J I G P M = true) : ∀ xs ∈ sectM M, xs.length = 64 := by
  obtain ⟨h1, h2, h3, h4, h5, h6, h7, h8⟩ := rightM_out hr
  have hbd := Super.right_bd h1
  intro xs hx
  simp only [sectM, List.mem_cons] at hx
  rcases hx with rfl | rfl | rfl | hx
  · rw [length_layed, numsR_length, ((right_iff M.rows).1 h2).1]
  · exact ownersB_len M (by omega)
  · exact h4
  · obtain ⟨i, hi, rfl⟩ := List.getElem_of_mem hx
    have hq := pairsI_len (M.inodes.length / 2) M.inodes (by omega)
    rw [pairsI_at i M.inodes (by omega) hi, List.length_append, Ino.bytes_len, Ino.bytes_len]
theorem take_sect {J I G P : Int} {M : MetaT} (hr : rightM J I G P M = true) (hw : wfR M.rows) (hwi : ∀ n ∈ M.inodes, n.wf) : takeM J I G P (sectM M) = (M, 0) := by
  obtain ⟨h1, h2, h3, h4, h5, h6, h7, h8⟩ := rightM_out hr
  have hbd := Super.right_bd h1
  obtain ⟨q, hq⟩ : ∃ q, M.inodes.length = 2 * q := ⟨M.inodes.length / 2, by omega⟩
  have hpl := pairsI_len q M.inodes hq
  have hl : (sectM M).length = 3 + q := by show (pairsI M.inodes).length + 1 + 1 + 1 = _; rw [hpl]; omega
  have hG : G.toNat = M.owners.length := by omega
  have hrt := rows_take_lay h2 hw
  have hgot : gotM G.toNat (2 * ((sectM M).length - 3)) (sectM M) = M := by
    unfold gotM
    rw [hl, show 3 + q - 3 = q by omega]
    show MetaT.mk (rowsTake (layed 2 (numsR M.rows))).1 ((ownersB M).take G.toNat) M.used (inosN (pairsI M.inodes) (2 * q)) = M
    rw [hrt, inosN_pairs hq hwi h7, hG]
    unfold ownersB
    rw [List.take_left' rfl]
  have hok : okT J I G P (sectM M) := ⟨h1, by rw [hl]; omega, s64_sect hr, by
    show (rowsTake (layed 2 (numsR M.rows))).2 = 0
    rw [hrt], fun m hm => by
    rw [hl] at hm
    show (inoAt (pairsI M.inodes) m).2 = 0
    rw [inoAt_pairs hq hwi h7 (by omega)], fun k h1 h2 => by
    show (ownersB M).getD k 0 = 0
    unfold ownersB
    rw [List.getD_eq_getElem?_getD, List.getElem?_append_right (by omega), List.getElem?_replicate]
    split <;> rfl, by rw [hgot]; exact hr⟩
  rw [takeM_yes hok, hgot]
theorem three {α : Type} (d : α) : ∀ (L : List α), 3 ≤ L.length → L = L.getD 0 d :: L.getD 1 d :: L.getD 2 d :: L.drop 3
  | a :: b :: c :: L, _ => rfl
theorem half2 {xs : List Int} (h : xs.length = 64) : (xs.drop (32 * 0)).take 32 ++ (xs.drop (32 * 1)).take 32 = xs := by
  rw [Nat.mul_zero, List.drop_zero, Nat.mul_one]
  rw [List.take_of_length_le (l := xs.drop 32) (by simp [h]), List.take_append_drop]
theorem pairs_inos {D : List (List Int)} (h64 : ∀ xs ∈ D, xs.length = 64) (hb : ∀ xs ∈ D, isBytes xs) (hok : ∀ m, m < 2 * D.length → (inoAt D m).2 = 0) : pairsI (inosN D (2 * D.length)) = D := by
  have hl := pairsI_len D.length (inosN D (2 * D.length)) (inosN_len _ _)
  refine List.ext_getElem hl (fun i h1 h2 => ?_)
  rw [pairsI_at i _ (by rw [inosN_len]; omega) h1]
  have e : ∀ j (hj : j < (inosN D (2 * D.length)).length), (inosN D (2 * D.length))[j].bytes = chunk D j := fun j hj => by
    rw [inosN_len] at hj
    have e : (inosN D (2 * D.length))[j]'(by rw [inosN_len]; exact hj) = (inoAt D j).1 := by simp [inosN]
    rw [e]
    exact (ino_lay_take (chunk_bytes hb j) (hok j hj)).1
  rw [e, e]
  unfold chunk
  rw [show 2 * i / 2 = i by omega, show (2 * i + 1) / 2 = i by omega, show 2 * i % 2 = 0 by omega, show (2 * i + 1) % 2 = 1 by omega]
  have e2 : D.getD i [] = D[i] := by simp [h2]
  rw [e2]
  exact half2 (h64 _ (List.getElem_mem h2))
theorem owners_back {xs : List Int} {g : Nat} (hl : xs.length = 64) (hg : g ≤ 64) (ht : ∀ k, g ≤ k → k < 64 → xs.getD k 0 = 0) : xs.take g ++ List.replicate (64 - (xs.take g).length) 0 = xs := by
  refine List.ext_getElem (by simp; omega) (fun i h1 h2 => ?_)
  rw [List.getElem_append]
  split
  · simp
  · rename_i hh
    rw [List.length_take] at hh
    have := ht i (by omega) (by omega)
    rw [List.getD_eq_getElem?_getD, List.getElem?_eq_getElem h2] at this
    rw [List.getElem_replicate]
    exact this.symm
/-- What must be right before the inodes and rows count. -/
structure preT (J I G P : Int) (L : List (List Int)) : Prop where
  right : Super.rightB J I G P = true
  len : (L.length : Int) = 3 + I / 2
  s64 : ∀ xs ∈ L, xs.length = 64
  rows : (rowsTake (L.getD 0 [])).2 = 0
  inos : ∀ m, m < 2 * (L.length - 3) → (inoAt (L.drop 3) m).2 = 0
theorem sect_got {J I G P : Int} {L : List (List Int)} (hb : ∀ xs ∈ L, isBytes xs) (h : preT J I G P L) (ht : ∀ k, G.toNat ≤ k → k < 64 → (L.getD 1 []).getD k 0 = 0) : sectM (gotM G.toNat (2 * (L.length - 3)) L) = L := by
  have hbd := Super.right_bd h.right
  have h3 := three [] L (by have := h.len; omega)
  have hm : ∀ i, i < L.length → L.getD i [] ∈ L := fun i hi => by rw [List.getD_eq_getElem?_getD, List.getElem?_eq_getElem hi]; exact List.getElem_mem hi
  have hm1 := hm 1 (by have := h.len; omega)
  have e0 := (rows_lay_take (hb _ (hm 0 (by have := h.len; omega))) h.rows).2.2
  have e1 := owners_back (h.s64 _ hm1) (by omega : G.toNat ≤ 64) ht
  have e3 : pairsI (inosN (L.drop 3) (2 * (L.length - 3))) = L.drop 3 := by
    have hld : (L.drop 3).length = L.length - 3 := by simp
    have := pairs_inos (D := L.drop 3) (fun xs hx => h.s64 xs (List.mem_of_mem_drop hx)) (fun xs hx => hb xs (List.mem_of_mem_drop hx)) (by rw [hld]; exact h.inos)
    rw [hld] at this
    exact this
  unfold sectM gotM ownersB
  dsimp only
  rw [e0, e1, e3]
  exact h3.symm
theorem okT.pre {J I G P : Int} {L : List (List Int)} (h : okT J I G P L) : preT J I G P L := ⟨h.right, h.len, h.s64, h.rows, h.inos⟩
theorem okT.sect {J I G P : Int} {L : List (List Int)} (hb : ∀ xs ∈ L, isBytes xs) (h : okT J I G P L) : sectM (gotM G.toNat (2 * (L.length - 3)) L) = L := sect_got hb h.pre h.tail
/-- What is taken: what is laid so. -/
theorem okT_iff {J I G P : Int} {L : List (List Int)} (hb : ∀ xs ∈ L, isBytes xs) (h : preT J I G P L) : okT J I G P L ↔ rightM J I G P (gotM G.toNat (2 * (L.length - 3)) L) = true ∧ sectM (gotM G.toNat (2 * (L.length - 3)) L) = L := by
  refine ⟨fun k => ⟨k.all, k.sect hb⟩, fun ⟨k1, k2⟩ => ⟨h.right, h.len, h.s64, h.rows, h.inos, fun k hk1 hk2 => ?_, k1⟩⟩
  obtain ⟨h1, h2, h3, h4, h5, h6, h7, h8⟩ := rightM_out k1
  have e : L.getD 1 [] = ownersB (gotM G.toNat (2 * (L.length - 3)) L) := by
    have := congrArg (fun z => z.getD 1 []) k2
    exact this.symm
  rw [e]
  unfold ownersB
  rw [List.getD_eq_getElem?_getD, List.getElem?_append_right (by omega), List.getElem?_replicate]
  split <;> rfl
theorem got_lay {J I G P : Int} {L : List (List Int)} (hb : ∀ xs ∈ L, isBytes xs) (h : okT J I G P L) : layM J I G P (gotM G.toNat (2 * (L.length - 3)) L) = (L, 0) := by
  unfold layM
  rw [if_pos h.all, h.sect hb]
end Go.Proofs.Ytnodinancnfoeaa.Mt
