/- A disk that is on, and stays on: plain. -/
import Derived.Test.YtfodpphbdbeciaaJnC
namespace Go.Proofs.Ytfodpphbdbeciaa.Jn
open Go.RowKit Words Mem Plain Ops Agg OwnS Dk
open Go.Proofs.Ytfodpphbdbeciaa.Field Go.Proofs.Ytfodpphbdbeciaa.Sum
set_option maxRecDepth 100000
set_option linter.ambiguousOpen false
set_option linter.unusedVariables false
set_option linter.unusedSimpArgs false

def Live (D : Dsk) : Prop := D.dead = false ∧ D.fuse = -1
theorem power_live {D : Dsk} (h : Live D) : powerR D = ({ D with fuse := -1, done := D.done + 1 }, 0) := by
  unfold powerR
  rw [h.1, h.2]
  simp
def setS (S : List Sec) (p : PT) : List Sec := S.set p.sec.toNat ⟨p.bs, p.tag⟩
theorem setS_len (S : List Sec) (p : PT) : (setS S p).length = S.length := by simp [setS]
theorem fold_len : ∀ (L : List PT) (S : List Sec), (L.foldl setS S).length = S.length
  | [], S => rfl
  | p :: L, S => by rw [List.foldl_cons, fold_len L, setS_len]
def inP (N : Nat) (p : PT) : Prop := 0 ≤ p.sec ∧ p.sec < N ∧ p.bs.length = 64
theorem write_live {D : Dsk} (h : Live D) {p : PT} (hp : inP D.secs.length p) : (writeR D p.sec p.bs p.tag).2 = 0 ∧ Live (writeR D p.sec p.bs p.tag).1 ∧ (writeR D p.sec p.bs p.tag).1.secs = setS D.secs p := by
  have e : writeR D p.sec p.bs p.tag = ({ (powerR D).1 with waits := D.waits ++ [⟨p.sec, sg D.secs p.sec.toNat, ⟨p.bs, p.tag⟩⟩], secs := D.secs.set p.sec.toNat ⟨p.bs, p.tag⟩ }, 0) := by
    unfold writeR
    rw [if_neg (fun k => k hp), if_pos (by rw [power_live h])]
  rw [e, power_live h]
  exact ⟨rfl, ⟨h.1, rfl⟩, rfl⟩
theorem flush_live {D : Dsk} (h : Live D) : (flushR D).2 = 0 ∧ Live (flushR D).1 ∧ (flushR D).1.secs = D.secs := by
  have e : flushR D = ({ (powerR D).1 with waits := [] }, 0) := by
    unfold flushR
    rw [if_pos (by rw [power_live h])]
  rw [e, power_live h]
  exact ⟨rfl, ⟨h.1, rfl⟩, rfl⟩
theorem writes_live : ∀ (L : List PT) {D : Dsk}, Live D → (∀ p ∈ L, inP D.secs.length p) → (writesR D L).2 = 0 ∧ Live (writesR D L).1 ∧ (writesR D L).1.secs = L.foldl setS D.secs
  | [], D, h, _ => flush_live h
  | p :: L, D, h, hp => by
    obtain ⟨h1, h2, h3⟩ := write_live h (hp p List.mem_cons_self)
    unfold writesR
    rw [if_pos h1]
    have hl : (writeR D p.sec p.bs p.tag).1.secs.length = D.secs.length := writeR_len _ _ _ _
    obtain ⟨k1, k2, k3⟩ := writes_live L h2 (fun q hq => by rw [hl]; exact hp q (List.mem_cons_of_mem _ hq))
    exact ⟨k1, k2, by rw [k3, h3]; rfl⟩
theorem run_live : ∀ (R : List (List PT)) {D : Dsk}, Live D → (∀ L ∈ R, ∀ p ∈ L, inP D.secs.length p) → (runR D R).2 = 0 ∧ Live (runR D R).1 ∧ (runR D R).1.secs = R.foldl (fun S L => L.foldl setS S) D.secs
  | [], D, h, _ => ⟨rfl, h, rfl⟩
  | L :: R, D, h, hp => by
    obtain ⟨h1, h2, h3⟩ := writes_live L h (hp L List.mem_cons_self)
    unfold runR
    rw [if_pos h1]
    obtain ⟨k1, k2, k3⟩ := run_live R h2 (fun M hM => by rw [writesR_len]; exact hp M (List.mem_cons_of_mem _ hM))
    exact ⟨k1, k2, by rw [k3, h3]; rfl⟩
theorem chunksP_length (L : List PT) : ∀ q, (chunksP L q).length = q + min (15 * q) L.length
  | 0 => by simp [chunksP]
  | q + 1 => by
    rw [chunksP_succ, List.length_append, List.length_cons, chunksP_length L q]
    have : (chunkP L q).length = min 15 (L.length - 15 * q) := by unfold chunkP; rw [List.length_take, List.length_drop]
    rw [this]
    omega
theorem layP_length (f : Int) (L : List PT) : (layP f L).length = (L.length + 14) / 15 + L.length := by
  unfold layP
  rw [List.length_mapIdx, chunksP_length]
  omega
theorem layP_in {f n : Int} {N : Nat} {L : List PT} (hf : 0 ≤ f) (hN : f + n ≤ N) (hroom : (L.length : Int) ≤ roomN n) (hn : 1 ≤ n) (h64 : ∀ p ∈ L, p.bs.length = 64) : ∀ p ∈ layP f L, inP N p ∧ f < p.sec ∧ p.sec < f + n := fun p hp => by
  have hl := layP_length f L
  obtain ⟨i, hi, q, hq, rfl⟩ : ∃ i, i < (layP f L).length ∧ ∃ q, q ∈ chunksP L ((L.length + 14) / 15) ∧ p = atP f i q := by
    unfold layP at hp ⊢
    obtain ⟨i, h, e⟩ := List.mem_mapIdx.1 hp
    exact ⟨i, by simpa using h, _, List.getElem_mem h, e.symm⟩
  have hb : (i : Int) + 1 < n := by unfold roomN at hroom; omega
  have e : (atP f i q).sec = f + 1 + i := rfl
  have e2 : (atP f i q).bs.length = 64 := by
    show q.bs.length = 64
    obtain ⟨j, _, hj⟩ := List.mem_flatMap.1 hq
    rcases List.mem_cons.1 hj with hj | hj
    · rw [hj]
      have hc : (chunkP L j).length ≤ 15 := by unfold chunkP; rw [List.length_take]; omega
      exact length_filled _ _ (by rw [length_layed, numsP_len]; omega)
    · exact h64 _ (List.mem_of_mem_drop (List.mem_of_mem_take hj))
  unfold inP
  omega
/-- A commit on a disk that stays on. -/
theorem commit_live {D : Dsk} (h : Live D) {f n s : Int} {L : List PT} (hL : L ≠ []) (hf : 0 ≤ f) (hn : 3 ≤ n) (hN : f + n ≤ D.secs.length) (hroom : (L.length : Int) ≤ roomN n) (hg : L.all (goodP D.secs.length f n) = true) (hs : s ≠ 18446744073709551615) :
    (commitR D f n s L).2 = (s + 1, 0) ∧ Live (commitR D f n s L).1 ∧ (commitR D f n s L).1.secs = (partsP f s L).foldl (fun S L => L.foldl setS S) D.secs := by
  have hgood : ∀ p ∈ L, outB D.secs.length f n p.sec = true ∧ p.bs.length = 64 := fun p hp => by
    have := List.all_eq_true.1 hg p hp
    unfold goodP at this
    simpa using this
  have hin : ∀ M ∈ partsP f s L, ∀ p ∈ M, inP D.secs.length p := fun M hM p hp => by
    simp only [partsP, List.mem_cons, List.not_mem_nil, or_false] at hM
    have hh : ∀ c, inP D.secs.length (headP f (s + 1) c) := fun c => ⟨hf, by show f < _; omega, headB_len _ _⟩
    rcases hM with rfl | rfl | rfl | rfl
    · exact (layP_in hf hN hroom (by omega) (fun p hp => (hgood p hp).2) p hp).1
    · simp at hp; subst hp; exact hh _
    · obtain ⟨h1, h2⟩ := hgood p hp
      have := outB_iff.1 h1
      exact ⟨this.1, this.2.1, h2⟩
    · simp at hp; subst hp; exact hh _
  obtain ⟨k1, k2, k3⟩ := run_live (partsP f s L) h hin
  have e : commitR D f n s L = ((runR D (partsP f s L)).1, s + 1, 0) := by
    unfold commitR
    rw [if_neg hL, if_neg (by omega), if_neg (by rw [hg]; simp), if_neg hs, if_pos k1]
  rw [e]
  exact ⟨rfl, k2, k3⟩
end Go.Proofs.Ytfodpphbdbeciaa.Jn
