/- InternCounts: a step, plain; what came in. -/
import Derived.Test.YtiknmifbhhfblaaCntP
import Derived.Test.YtiknmifbhhfblaaRwIn
namespace Go.Proofs.Ytiknmifbhhfblaa.Intern
open Go.RowKit Go.Maps Words Mem Plain Ops
open Go.ChangeShapes Go.WideShapes Go.Deep
set_option linter.ambiguousOpen false
set_option linter.unusedVariables false
set_option linter.unusedSimpArgs false

theorem ok_clear {L : List RowT} (h : okP L) {k : Nat} (hk : k < L.length) : okP (L.set k (0, 0)) := by
  refine ⟨by rw [List.length_set]; exact h.1, fun i hi => ?_⟩
  rw [List.length_set] at hi
  have e := fun i => rg_set L k (0, 0) i hk
  unfold goodAt
  rw [e i]
  obtain ⟨g0, g1, g2, _⟩ := h.2 i hi
  by_cases hik : i = k
  · rw [if_pos hik]
    exact ⟨by decide, by decide, fun _ => rfl, fun e => absurd e (by decide)⟩
  · rw [if_neg hik]
    refine ⟨g0, g1, g2, fun hi0 j hj => ?_⟩
    rw [e j]
    by_cases hjk : j = k
    · rw [if_pos hjk]; exact fun e => absurd e (by decide)
    · rw [if_neg hjk]
      exact fun hj0 => ok_apart h (by omega) hi (by omega) hj0 hi0
/-- The rows of the play behind b acts. -/
structure Play (R : List RowT) (D : DataW U) (b : Nat) : Prop where
  ok : okP R
  wf : wfR R
  tells : Tells R D
  few : ∀ k, k < R.length → (rg R k).2 ≤ b
theorem play_free : Play freeL (.map []) 0 := by
  have hr : rightB freeL = true := by kernel_rfl
  refine ⟨(right_iff _).1 hr, w0, tells_free, fun k hk => ?_⟩
  have : rg freeL k = (0, 0) := by
    rw [rg_eq _ _ hk]; exact List.eq_of_mem_replicate (List.getElem_mem hk)
  rw [this]; exact Int.le_refl _
theorem Play.more {R : List RowT} {D : DataW U} {b : Nat} (p : Play R D b) : Play R D (b + 1) := ⟨p.ok, p.wf, p.tells, fun k hk => by have := p.few k hk; omega⟩
theorem few_set {R : List RowT} {b : Nat} (h : ∀ k, k < R.length → (rg R k).2 ≤ b) {k : Nat} (hk : k < R.length) {r : RowT} {b' : Nat} (hb : b ≤ b') (hr : r.2 ≤ b') : ∀ j, j < (R.set k r).length → (rg (R.set k r) j).2 ≤ b' := by
  intro j hj
  rw [List.length_set] at hj
  rw [rg_set _ _ _ _ hk]
  by_cases e : j = k
  · rw [if_pos e]; exact hr
  · rw [if_neg e]; have := h j hj; omega

theorem ret_step {R : List RowT} {D : DataW U} {b : Nat} (p : Play R D b) (hb : b < 65535) {x : Int} (hx : 0 ≤ x ∧ x ≤ 65535) :
    (retR R x = ([], 0, 5) ∧ findR R x = (0, false) ∧ manyR R = 16 ∧ cntR R x = 0) ∨
    ∃ k, k < 16 ∧ retR R x = (R.set k (x, cntR R x + 1), (k : Int), 0) ∧ (0 ≤ cntR R x ∧ cntR R x ≤ 65534) ∧ Play (R.set k (x, cntR R x + 1)) (D.put (.int .u16 x) (.lit (.int .i64 (cntR R x + 1)))) (b + 1) ∧ ((findR R x = ((k : Int), true) ∧ 0 < cntR R x) ∨ (findR R x = (0, false) ∧ cntR R x = 0)) := by
  have h16 := p.ok.1
  have hr := (right_iff R).2 p.ok
  rcases ret_cases R x with ⟨h, _⟩ | ⟨_, ⟨k, hk, ho, hp, hl, he, hf, h⟩ | ⟨k, hk, ho, hp, hl, he, hf, h⟩ | ⟨ho, hf, k, hk, hf', h0, hfirst, h⟩ | ⟨ho, hf, _, hall, h⟩⟩
  · rw [hr] at h; cases h
  · have := p.few k hk
    omega
  · have hc := cnt_at p.ok hk hp hl
    have hY : okP (R.set k (x, (rg R k).2 + 1)) := ok_set p.ok hk (by omega) (by omega) (fun j hj hne hj0 => by
      have := ok_apart p.ok hj hk hne hj0 hp
      rw [hl] at this; exact this)
    have hfew := p.few k hk
    refine .inr ⟨k, by omega, by rw [hc]; exact h, by rw [hc]; omega, ?_, .inl ⟨hf, by rw [hc]; exact hp⟩⟩
    rw [hc]
    exact ⟨hY, p.wf.set _ _ hx (by dsimp only; omega), p.tells.put p.ok hk hY (fun _ => hl) (by omega) (.inl hp), few_set p.few hk (by omega) (by dsimp only; omega)⟩
  · have hno : ∀ j, j < R.length → isL x (rg R j) = false := by
      rcases idxI_cases (isL x) R with ⟨_, h⟩ | ⟨k', hk', h, _⟩
      · exact h
      · have : ofI R x = (k' : Nat) := h
        omega
    have hn : ∀ j, j < R.length → 0 < (rg R j).2 → (rg R j).1 ≠ x := fun j hj hj0 e => by
      have := hno j hj
      simp [isL, hj0, e] at this
    have hc := cnt_none hn
    have hY : okP (R.set k (x, 1)) := ok_set p.ok hk (by decide) (by decide) (fun j hj hne hj0 => hn j hj hj0)
    refine .inr ⟨k, by omega, by rw [hc]; exact h, by rw [hc]; omega, ?_, .inr ⟨hf, hc⟩⟩
    rw [hc]
    exact ⟨hY, p.wf.set _ _ hx (by dsimp only; omega), p.tells.put p.ok hk hY (fun e => by omega) (by decide) (.inr hc), few_set p.few hk (by omega) (by dsimp only; omega)⟩
  · refine .inl ⟨h, hf, ?_, ?_⟩
    · rw [many_all (fun k hk => ?_), h16]
      have := hall k hk
      have := (p.ok.2 k hk).1
      omega
    · unfold cntR; rw [ho, if_pos (by decide)]
theorem rel_step {R : List RowT} {D : DataW U} {b : Nat} (p : Play R D b) (hb : b < 65535) {x : Int} (hx : 0 ≤ x ∧ x ≤ 65535) {k : Nat} (hk : k < R.length) (h0 : 0 < (rg R k).2) (hl : (rg R k).1 = x) :
    ∃ R', relR R k = (R', 0) ∧ R'.length = 16 ∧ cntR R x = (rg R k).2 ∧ (((rg R k).2 = 1 ∧ Play R' ((D.put (.int .u16 x) (.lit (.int .i64 0))).del (.int .u16 x)) (b + 1)) ∨ (1 < (rg R k).2 ∧ (rg R k).2 ≤ 65535 ∧ Play R' (D.put (.int .u16 x) (.lit (.int .i64 ((rg R k).2 - 1)))) (b + 1))) := by
  have h16 := p.ok.1
  have hr := (right_iff R).2 p.ok
  have hc := cnt_at p.ok hk h0 hl
  have hfew := p.few k hk
  rcases rel_cases R k with ⟨hno, _⟩ | ⟨k', hkk, hk', _, hcs⟩
  · rw [hr] at hno
    rcases hno with e | e | e
    · cases e
    · omega
    · omega
  · obtain rfl : k = k' := by omega
    rcases hcs with ⟨h1, _⟩ | ⟨h1, h⟩ | ⟨h1, h2, h⟩
    · omega
    · have hY := ok_clear p.ok hk
      exact ⟨_, h, by rw [List.length_set, h16], hc, .inl ⟨h1, hY, p.wf.set _ _ (by dsimp only; omega) (by dsimp only; omega), p.tells.gone p.ok hk hY h0 hl _, few_set p.few hk (by omega) (by dsimp only; omega)⟩⟩
    · rw [hl] at h
      have hY : okP (R.set k (x, (rg R k).2 - 1)) := ok_set p.ok hk (by omega) (by omega) (fun j hj hne hj0 => by
        have := ok_apart p.ok hj hk hne hj0 h0
        rw [hl] at this; exact this)
      exact ⟨_, h, by rw [List.length_set, h16], hc, .inr ⟨h1, h2, hY, p.wf.set _ _ hx (by dsimp only; omega), p.tells.put p.ok hk hY (fun _ => hl) (by omega) (.inl h0), few_set p.few hk (by omega) (by dsimp only; omega)⟩⟩

theorem cellsBool : Try.prog.cellsOf 4 = 1 := by kernel_rfl
theorem cellsAct : Try.prog.cellsOf 43 = 2 := by kernel_rfl
/-- Acts as they lie. -/
def ActsAt (w : World) (a : Option Addr) (n : Nat) : Prop := 0 < n → ∃ b off, a = some ⟨b, off, none⟩ ∧ ∀ k, k < n → ∃ (g : Bool) (x : Int), w.cell? ⟨b, off + k * 2, none⟩ = some (.bool g) ∧ w.cell? ⟨b, off + k * 2 + 1, none⟩ = some (.int .u16 x) ∧ 0 ≤ x ∧ x ≤ 65535
theorem acts_in {H : Type} {enc : TypeId × Value → H} {base : Nat} {d : DataW H} {p : List MemPlace} {v : Value} {w : World} (ho : Value.okWide Try.prog w .any base 39 v) (h : DataW.Trod enc Try.prog w 0 (fun _ => true) true 39 v d p) :
    ∃ a n cap, v = .slice a n cap ∧ n ≤ cap ∧ cap ≤ 9223372036854775807 ∧ ActsAt w a n := by
  obtain ⟨a, n, cap, rfl⟩ := okWide_slice Try.underlying39 ho
  obtain ⟨fuel, hf⟩ := h
  rcases open_slice_pairs Try.underlying39 Try.underlying43 cellsAct rfl rfl cellsBool cellsLab hf with ⟨hc, hx⟩ | ⟨a, len, cap, m, k, V0, V1, D0, D1, P0, P1, hc, _, hl, hm, hmm, hx, hall⟩
  · simp [Value.cells] at hc
    obtain ⟨rfl, rfl, rfl⟩ := hc
    exact ⟨none, 0, 0, rfl, Nat.le_refl _, by omega, fun h => absurd h (by omega)⟩
  · simp [Value.cells] at hc
    obtain ⟨rfl, rfl, rfl⟩ := hc
    simp only [if_true] at hmm
    subst hmm
    refine ⟨some a, n, m, rfl, hl, by unfold maxLen at hm; omega, fun h0 => ?_⟩
    obtain ⟨b, off, sp⟩ := a
    have hsp : sp = none := by
      cases sp with
      | none => rfl
      | some s =>
        have := (hall 0 (by omega)).1
        simp [Addr.add, World.cell?] at this
        split at this <;> simp at this
    subst hsp
    refine ⟨b, off, rfl, fun i hi => ?_⟩
    obtain ⟨c0, c1, t0, t1⟩ := hall i (by omega)
    obtain ⟨g, h1, _⟩ := DataW.trod_bool Try.underlying4 t0
    obtain ⟨x, g1, _, g3⟩ := DataW.trod_int Try.underlying24 t1
    simp only [List.cons.injEq, and_true] at h1 g1
    rw [h1, Addr.add_lit] at c0
    rw [g1, Addr.add_lit] at c1
    exact ⟨g, x, c0, by rw [Nat.add_assoc]; exact c1, bd_u16 g3⟩
end Go.Proofs.Ytiknmifbhhfblaa.Intern
