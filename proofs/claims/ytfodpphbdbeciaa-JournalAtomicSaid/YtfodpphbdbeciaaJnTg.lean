/- JnCC; JnTg -/
import Derived.Test.YtfodpphbdbeciaaJnS
import Derived.Test.YtfodpphbdbeciaaJnK
/- Commit, on the laws' disk. -/
namespace Go.Proofs.Ytfodpphbdbeciaa.Jn
open Go.RowKit Words Mem Plain Ops Agg OwnS Dk
set_option maxRecDepth 100000
set_option linter.ambiguousOpen false
set_option linter.unusedVariables false
set_option linter.unusedSimpArgs false

theorem commit_calm_ok {w0 u : World} {g gs sc gj nn b : Nat} {X : Nat → Prop} {D : Dsk} (hA : AtM w0 g gs sc D X u) (hwf : D.Wf b) (hj : Row u gj 67 (jRow g 12 48 nn)) (hX : X gj) (hc : Calm D nn) (hnn : nn ≤ 100000) (a : Option Addr) (m cap : Nat) (L : List PT) (hL : PatsIn X u a m L) (hm : m ≤ 60) (hcap : m ≤ cap) (hcm : cap ≤ 9223372036854775807) (hb : b ≤ 1000000) :
    Calls Try.prog 15 #[.pointer (some ⟨gj, 0, none⟩), .slice a m cap] u fun e w' => ∃ (D6 : Dsk) (s6 : Nat) (c6 : Int), e = .returned (.int .i64 c6) ∧ s6 = (if c6 = 0 ∧ 0 < m then nn + 1 else nn) ∧ AtM w0 g gs sc D6 X w' ∧ Row w' gj 67 (jRow g 12 48 s6) ∧ Calm D6 s6 ∧ D6.Wf (b + 500) ∧ Same (fun q => X q ∧ q ≠ gj) u w' := by
  have hcc := calm_commit hc (by omega) hwf hL.2.1 (by rw [hL.1]; exact hm)
  rw [hL.1] at hcc
  refine (Commit_ok (b := b) (nk := 47) hA hwf hj hX (by decide) (by decide) (by omega) a m cap L hL (by omega) hcap hcm hb).mono ?_
  rintro e w' ⟨h1, h2, h3, h4⟩
  generalize commitR D 12 (47 + 1 : Nat) nn L = CR at *
  obtain ⟨D6, s6, c6⟩ := CR
  dsimp only at *
  obtain ⟨k1, k2, k3⟩ := hcc
  by_cases h : c6 = 0 ∧ 0 < m
  · rw [if_pos h] at k3
    refine ⟨D6, nn + 1, c6, h1, by rw [if_pos h], h2, ?_, ?_, k2, h4⟩
    · rw [k3] at h3; exact h3
    · rw [k3] at k1; exact k1
  · rw [if_neg h] at k3
    refine ⟨D6, nn, c6, h1, by rw [if_neg h], h2, ?_, ?_, k2, h4⟩
    · rw [k3] at h3; exact h3
    · rw [k3] at k1; exact k1
end Go.Proofs.Ytfodpphbdbeciaa.Jn
/- The sectors' tags: plain; and Commit with them. -/
namespace Go.Proofs.Ytfodpphbdbeciaa.Jn
open Go.RowKit Words Mem Plain Ops Agg OwnS Dk
set_option maxRecDepth 100000
set_option linter.ambiguousOpen false
set_option linter.unusedVariables false
set_option linter.unusedSimpArgs false

theorem sg_set (S : List Sec) (i k : Nat) (x : Sec) : sg (S.set i x) k = if k = i ∧ i < S.length then x else sg S k := by
  unfold sg
  rw [List.getD_eq_getElem?_getD, List.getD_eq_getElem?_getD, List.getElem?_set]
  by_cases h : i = k
  · subst h
    by_cases h2 : i < S.length
    · simp [h2]
    · simp [h2]
  · rw [if_neg h, if_neg (fun e => h e.1.symm)]
theorem setS_tag_mem {S : List Sec} {K : List Int} {p : PT} (h : ∀ k, (sg S k).tag ∈ K) (hp : p.tag ∈ K) : ∀ k, (sg (setS S p) k).tag ∈ K := fun k => by
  unfold setS
  rw [sg_set]
  split
  · exact hp
  · exact h k
theorem fold_tag_mem {K : List Int} : ∀ (L : List PT) {S : List Sec}, (∀ k, (sg S k).tag ∈ K) → (∀ p ∈ L, p.tag ∈ K) → ∀ k, (sg (L.foldl setS S) k).tag ∈ K
  | [], S, h, _ => h
  | p :: L, S, h, hp => fold_tag_mem L (setS_tag_mem h (hp p List.mem_cons_self)) (fun q hq => hp q (List.mem_cons_of_mem _ hq))
theorem fold_far {k : Nat} : ∀ (L : List PT) (S : List Sec), (∀ p ∈ L, p.sec.toNat ≠ k) → sg (L.foldl setS S) k = sg S k
  | [], S, _ => rfl
  | p :: L, S, h => by
    rw [List.foldl_cons, fold_far L _ (fun q hq => h q (List.mem_cons_of_mem _ hq))]
    unfold setS
    rw [sg_set, if_neg (fun e => h p List.mem_cons_self e.1.symm)]
def setL (Lt : List Int) (s : Int × Int) : List Int := Lt.set s.1.toNat s.2
theorem setL_len (Lt : List Int) (s : Int × Int) : (setL Lt s).length = Lt.length := by simp [setL]
theorem foldL_len : ∀ (S : List (Int × Int)) (Lt : List Int), (S.foldl setL Lt).length = Lt.length
  | [], _ => rfl
  | s :: S, Lt => by rw [List.foldl_cons, foldL_len S, setL_len]
theorem getD_set (L : List Int) (i k : Nat) (x : Int) : (L.set i x).getD k 0 = if k = i ∧ i < L.length then x else L.getD k 0 := by
  rw [List.getD_eq_getElem?_getD, List.getD_eq_getElem?_getD, List.getElem?_set]
  by_cases h : i = k
  · subst h
    by_cases h2 : i < L.length
    · simp [h2]
    · simp [h2]
  · rw [if_neg h, if_neg (fun e => h e.1.symm)]
theorem fold_last : ∀ (S : List (Int × Int)) {Z : List Sec} {Lt : List Int}, Z.length = 60 → Lt.length = 12 → (∀ s ∈ S, 0 ≤ s.1 ∧ s.1 ≤ 11) → (∀ k, k < 12 → (sg Z k).tag = Lt.getD k 0) → ∀ k, k < 12 → (sg ((patchesP S).foldl setS Z) k).tag = (S.foldl setL Lt).getD k 0
  | [], Z, Lt, _, _, _, h => h
  | s :: S, Z, Lt, hz, hl, hs, h => by
    have h1 := hs s List.mem_cons_self
    refine fold_last S (Z := setS Z ⟨s.1, allB s.2, s.2⟩) (Lt := setL Lt s) (by rw [setS_len]; exact hz) (by rw [setL_len]; exact hl) (fun t ht => hs t (List.mem_cons_of_mem _ ht)) (fun k hk => ?_)
    unfold setS setL
    rw [sg_set, getD_set]
    by_cases e : k = s.1.toNat
    · have e1 : s.1.toNat < Z.length := by omega
      have e2 : s.1.toNat < Lt.length := by omega
      rw [if_pos ⟨e, e1⟩, if_pos ⟨e, e2⟩]
    · rw [if_neg (fun h => e h.1), if_neg (fun h => e h.1)]
      exact h k hk
/-- What the law knows of the tags. -/
structure Tags (D : Dsk) (Lt K : List Int) : Prop where
  live : Live D
  len : D.secs.length = 60
  lt : Lt.length = 12
  zero : (0 : Int) ∈ K
  first : ∀ k, k < 12 → (sg D.secs k).tag = Lt.getD k 0
  all : ∀ k, (sg D.secs k).tag ∈ K
theorem tags_new : Tags (newD 60) (List.replicate 12 0) [0] := by
  have e : ∀ k, (sg (newD 60).secs k).tag = 0 := fun k => by
    unfold sg newD
    simp only [List.getD_eq_getElem?_getD, List.getElem?_replicate]
    split <;> rfl
  refine ⟨⟨rfl, rfl⟩, by simp [newD], by simp, by simp, fun k hk => ?_, fun k => by rw [e]; simp⟩
  rw [e, List.getD_eq_getElem?_getD, List.getElem?_replicate]
  simp [hk]
theorem Tags.more {D : Dsk} {Lt K J : List Int} (h : Tags D Lt K) (hJ : ∀ c ∈ K, c ∈ J) : Tags D Lt J := ⟨h.live, h.len, h.lt, hJ _ h.zero, h.first, fun k => hJ _ (h.all k)⟩
theorem layP_tag {f : Int} {L : List PT} : ∀ p ∈ layP f L, p.tag = 0 ∨ ∃ q ∈ L, p.tag = q.tag := fun p hp => by
  obtain ⟨i, hi, q, hq, rfl⟩ : ∃ i, i < (layP f L).length ∧ ∃ q, q ∈ chunksP L ((L.length + 14) / 15) ∧ p = atP f i q := by
    unfold layP at hp ⊢
    obtain ⟨i, h, e⟩ := List.mem_mapIdx.1 hp
    exact ⟨i, by simpa using h, _, List.getElem_mem h, e.symm⟩
  obtain ⟨j, _, hj⟩ := List.mem_flatMap.1 hq
  rcases List.mem_cons.1 hj with hj | hj
  · left; rw [hj]; rfl
  · exact .inr ⟨q, List.mem_of_mem_drop (List.mem_of_mem_take hj), rfl⟩
/-- Commit's code, and what comes of the tags. -/
theorem tags_commit {D : Dsk} {Lt K : List Int} (h : Tags D Lt K) {s : Int} (hs : 0 ≤ s ∧ s ≤ 1000000) (S : List (Int × Int)) (h60 : S.length ≤ 60) :
    ((commitR D 12 (47 + 1 : Nat) s (patchesP S)).2.2 ≠ 0 ∧ ((commitR D 12 (47 + 1 : Nat) s (patchesP S)).2.2 = 1 ∨ (commitR D 12 (47 + 1 : Nat) s (patchesP S)).2.2 = 4) ∧ Tags (commitR D 12 (47 + 1 : Nat) s (patchesP S)).1 Lt K) ∨
    ((commitR D 12 (47 + 1 : Nat) s (patchesP S)).2.2 = 0 ∧ (∀ t ∈ S, 0 ≤ t.1 ∧ t.1 ≤ 11) ∧ Tags (commitR D 12 (47 + 1 : Nat) s (patchesP S)).1 (S.foldl setL Lt) (S.map (·.2) ++ K)) := by
  obtain ⟨L, hL⟩ : ∃ L, L = patchesP S := ⟨_, rfl⟩
  rw [← hL]
  by_cases h1 : L = []
  · have e : commitR D 12 (47 + 1 : Nat) s L = (D, s, 0) := by unfold commitR; rw [if_pos h1]
    rw [e]
    have hS : S = [] := by
      rw [h1] at hL
      unfold patchesP at hL
      exact List.map_eq_nil_iff.1 hL.symm
    subst hS
    exact .inr ⟨rfl, (fun t ht => by cases ht), h⟩
  by_cases h2 : roomN (47 + 1 : Nat) < L.length
  · have e : commitR D 12 (47 + 1 : Nat) s L = (D, s, 4) := by unfold commitR; rw [if_neg h1, if_pos h2]
    rw [e]
    exact .inl ⟨by simp, .inr rfl, h⟩
  by_cases h3 : L.all (goodP D.secs.length 12 (47 + 1 : Nat)) = false
  · have e : commitR D 12 (47 + 1 : Nat) s L = (D, s, 1) := by unfold commitR; rw [if_neg h1, if_neg h2, if_pos h3]
    rw [e]
    exact .inl ⟨by simp, .inl rfl, h⟩
  have h3' : L.all (goodP D.secs.length 12 (47 + 1 : Nat)) = true := by simpa using h3
  have hmax : s ≠ 18446744073709551615 := by omega
  obtain ⟨k1, k2, k3⟩ := commit_live h.live (f := 12) (n := (47 + 1 : Nat)) (s := s) h1 (by decide) (by decide) (by rw [h.len]; decide) (Int.not_lt.1 h2) h3' hmax
  have hgood : ∀ p ∈ L, 0 ≤ p.sec ∧ p.sec ≤ 11 ∧ p.bs.length = 64 := fun p hp => by
    have := List.all_eq_true.1 h3' p hp
    unfold goodP at this
    simp only [Bool.and_eq_true, decide_eq_true_eq] at this
    have ho := outB_iff.1 this.1
    rw [h.len] at ho
    exact ⟨ho.1, by omega, this.2⟩
  have hin : ∀ t ∈ S, 0 ≤ t.1 ∧ t.1 ≤ 11 := fun t ht => by
    have := hgood ⟨t.1, allB t.2, t.2⟩ (by rw [hL]; exact List.mem_map.2 ⟨t, ht, rfl⟩)
    exact ⟨this.1, this.2.1⟩
  right
  have hcode : (commitR D 12 (47 + 1 : Nat) s L).2.2 = 0 := by rw [k1]
  refine ⟨hcode, hin, ?_⟩
  have hlay := layP_in (f := 12) (n := (47 + 1 : Nat)) (N := 60) (L := L) (by decide) (by decide) (Int.not_lt.1 h2) (by decide) (fun p hp => (hgood p hp).2.2)
  have hfar : ∀ k, k < 12 → ∀ c, (headP 12 (s + 1) c).sec.toNat ≠ k := fun k hk c => by
    show (12 : Int).toNat ≠ k
    have : (12 : Int).toNat = 12 := rfl
    omega
  obtain ⟨Z, hZ⟩ : ∃ Z, Z = (layP 12 L).foldl setS D.secs := ⟨_, rfl⟩
  have hZl : Z.length = 60 := by rw [hZ, fold_len]; exact h.len
  have e3 : (commitR D 12 (47 + 1 : Nat) s L).1.secs = setS (L.foldl setS (setS Z (headP 12 (s + 1) L.length))) (headP 12 (s + 1) 0) := by rw [k3, hZ]; rfl
  have hZt : ∀ k, k < 12 → sg Z k = sg D.secs k := fun k hk => by
    rw [hZ]
    exact fold_far _ _ (fun p hp => by have := (hlay p hp).2; omega)
  have hm0 : ∀ c ∈ K, c ∈ S.map (·.2) ++ K := fun c hc => List.mem_append_right _ hc
  have hmL : ∀ p ∈ L, p.tag ∈ S.map (·.2) ++ K := fun p hp => by
    rw [hL] at hp
    obtain ⟨t, ht, rfl⟩ := List.mem_map.1 hp
    exact List.mem_append_left _ (List.mem_map.2 ⟨t, ht, rfl⟩)
  refine ⟨k2, by rw [e3, setS_len, fold_len, setS_len]; exact hZl, by rw [foldL_len]; exact h.lt, hm0 _ h.zero, fun k hk => ?_, ?_⟩
  · rw [e3]
    have a1 : sg (setS (L.foldl setS (setS Z (headP 12 (s + 1) L.length))) (headP 12 (s + 1) 0)) k = sg (L.foldl setS (setS Z (headP 12 (s + 1) L.length))) k := by
      unfold setS
      rw [sg_set, if_neg (fun e => hfar k hk 0 e.1.symm)]
    rw [a1, hL]
    refine fold_last S (by rw [setS_len]; exact hZl) h.lt hin (fun j hj => ?_) k hk
    have a2 : sg (setS Z (headP 12 (s + 1) (patchesP S).length)) j = sg Z j := by
      unfold setS
      rw [sg_set, if_neg (fun e => hfar j hj _ e.1.symm)]
    rw [a2, hZt j hj]
    exact h.first j hj
  · rw [e3]
    have hz : ∀ c, (headP 12 (s + 1) c).tag ∈ S.map (·.2) ++ K := fun c => hm0 _ h.zero
    refine setS_tag_mem (fold_tag_mem L (setS_tag_mem ?_ (hz _)) hmL) (hz _)
    rw [hZ]
    refine fold_tag_mem _ (fun k => hm0 _ (h.all k)) (fun p hp => ?_)
    rcases layP_tag p hp with e | ⟨q, hq, e⟩
    · rw [e]; exact hm0 _ h.zero
    · rw [e]; exact hmL q hq
/-- Commit on the law's disk, with the tags. -/
theorem commit_tags_ok {w0 u : World} {g gs sc gj nn b : Nat} {X : Nat → Prop} {D : Dsk} {Lt K : List Int} (hA : AtM w0 g gs sc D X u) (hwf : D.Wf b) (hj : Row u gj 67 (jRow g 12 48 nn)) (hX : X gj) (hc : Calm D nn) (ht : Tags D Lt K) (hnn : nn ≤ 100000) (a : Option Addr) (m cap : Nat) (S : List (Int × Int)) (hL : PatsIn X u a m (patchesP S)) (hm : m ≤ 60) (hcap : m ≤ cap) (hcm : cap ≤ 9223372036854775807) (hb : b ≤ 1000000) :
    Calls Try.prog 15 #[.pointer (some ⟨gj, 0, none⟩), .slice a m cap] u fun e w' => ∃ (D6 : Dsk) (s6 : Nat) (c6 : Int), e = .returned (.int .i64 c6) ∧ s6 ≤ nn + 1 ∧ AtM w0 g gs sc D6 X w' ∧ Row w' gj 67 (jRow g 12 48 s6) ∧ Calm D6 s6 ∧ D6.Wf (b + 500) ∧ Same (fun q => X q ∧ q ≠ gj) u w' ∧
      ((c6 ≠ 0 ∧ (c6 = 1 ∨ c6 = 4) ∧ Tags D6 Lt K) ∨ (c6 = 0 ∧ (∀ t ∈ S, 0 ≤ t.1 ∧ t.1 ≤ 11) ∧ Tags D6 (S.foldl setL Lt) (S.map (·.2) ++ K))) := by
  have hSl : S.length ≤ 60 := by
    have := hL.1
    unfold patchesP at this
    rw [List.length_map] at this
    omega
  have hcc := calm_commit hc (by omega) hwf hL.2.1 (by rw [hL.1]; exact hm)
  have htt := tags_commit ht (s := (nn : Int)) (by omega) S hSl
  rw [hL.1] at hcc
  refine (Commit_ok (b := b) (nk := 47) hA hwf hj hX (by decide) (by decide) (by omega) a m cap (patchesP S) hL (by omega) hcap hcm hb).mono ?_
  rintro e w' ⟨h1, h2, h3, h4⟩
  generalize commitR D 12 (47 + 1 : Nat) nn (patchesP S) = CR at *
  obtain ⟨D6, s6, c6⟩ := CR
  dsimp only at *
  obtain ⟨k1, k2, k3⟩ := hcc
  by_cases h : c6 = 0 ∧ 0 < m
  · rw [if_pos h] at k3
    refine ⟨D6, nn + 1, c6, h1, by omega, h2, ?_, ?_, k2, h4, htt⟩
    · rw [k3] at h3; exact h3
    · rw [k3] at k1; exact k1
  · rw [if_neg h] at k3
    refine ⟨D6, nn, c6, h1, by omega, h2, ?_, ?_, k2, h4, htt⟩
    · rw [k3] at h3; exact h3
    · rw [k3] at k1; exact k1
end Go.Proofs.Ytfodpphbdbeciaa.Jn
