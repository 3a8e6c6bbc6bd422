/- Rows: plain law, and how they lie. -/
import Derived.Test.YtnodinancnfoeaaOps
namespace Go.Proofs.Ytnodinancnfoeaa.Intern
open Go.RowKit Words Mem Plain Ops
set_option linter.unusedVariables false
set_option linter.unusedSimpArgs false

abbrev RowT := Int × Int
abbrev rc (r : RowT) : List Value := [.int .u16 r.1, .int .i64 r.2]
def rowsC (L : List RowT) : List Value := L.flatMap rc
def rg (L : List RowT) (k : Nat) : RowT := L.getD k (0, 0)
theorem rowsC_nil : rowsC [] = [] := rfl
theorem rowsC_cons (r : RowT) (L : List RowT) : rowsC (r :: L) = .int .u16 r.1 :: .int .i64 r.2 :: rowsC L := rfl
theorem rowsC_append (L M : List RowT) : rowsC (L ++ M) = rowsC L ++ rowsC M := by simp [rowsC]
theorem rowsC_length (L : List RowT) : (rowsC L).length = 2 * L.length := by
  induction L with
  | nil => rfl
  | cons r L ih => rw [rowsC_cons]; simp; omega
theorem rowsC_at (L : List RowT) : ∀ k, k < L.length → (rowsC L)[2 * k]? = some (.int .u16 (rg L k).1) ∧ (rowsC L)[2 * k + 1]? = some (.int .i64 (rg L k).2) := by
  induction L with
  | nil => intro k h; simp at h
  | cons r L ih =>
    intro k h
    rw [rowsC_cons]
    cases k with
    | zero => exact ⟨rfl, rfl⟩
    | succ k =>
      have := ih k (by simpa using h)
      rw [show 2 * (k + 1) = 2 * k + 1 + 1 by omega]
      simpa [rg] using this
theorem rowsC_one (L : List RowT) : ∀ u ∈ rowsC L, u.oneCell' = true := by
  intro u hu
  obtain ⟨r, _, hr⟩ := List.mem_flatMap.1 hu
  simp [rc] at hr
  rcases hr with rfl | rfl <;> rfl
theorem rowsC_take (L : List RowT) : ∀ n, (rowsC L).take (2 * n) = rowsC (L.take n) := by
  induction L with
  | nil => intro n; simp [rowsC]
  | cons r L ih =>
    intro n
    cases n with
    | zero => rfl
    | succ n => rw [show 2 * (n + 1) = 2 * n + 1 + 1 by omega, rowsC_cons, List.take_succ_cons, List.take_succ_cons, ih, List.take_succ_cons, rowsC_cons]
theorem rowsC_set0 (L : List RowT) : ∀ (k : Nat) (x : Int), (rowsC L).set (2 * k) (.int .u16 x) = rowsC (L.set k (x, (rg L k).2)) := by
  induction L with
  | nil => intro k x; simp [rowsC]
  | cons r L ih =>
    intro k x
    cases k with
    | zero => rfl
    | succ k => rw [show 2 * (k + 1) = 2 * k + 1 + 1 by omega, rowsC_cons, List.set_cons_succ, List.set_cons_succ, ih, List.set_cons_succ, rowsC_cons]; rfl
theorem rowsC_set1 (L : List RowT) : ∀ (k : Nat) (x : Int), (rowsC L).set (2 * k + 1) (.int .i64 x) = rowsC (L.set k ((rg L k).1, x)) := by
  induction L with
  | nil => intro k x; simp [rowsC]
  | cons r L ih =>
    intro k x
    cases k with
    | zero => rfl
    | succ k => rw [show 2 * (k + 1) + 1 = 2 * k + 1 + 1 + 1 by omega, rowsC_cons, List.set_cons_succ, List.set_cons_succ, ih, List.set_cons_succ, rowsC_cons]; rfl
theorem rowsC_inj : ∀ {L M : List RowT}, rowsC L = rowsC M → L = M
  | [], [], _ => rfl
  | [], _ :: _, h => by simp [rowsC] at h
  | _ :: _, [], h => by simp [rowsC] at h
  | r :: L, s :: M, h => by
    rw [rowsC_cons, rowsC_cons] at h
    injection h with h1 h2
    injection h2 with h2 h3
    injection h1 with _ h1
    injection h2 with _ h2
    rw [rowsC_inj h3, Prod.ext h1 h2]

theorem rg_eq (L : List RowT) (k : Nat) (h : k < L.length) : rg L k = L[k] := by simp [rg, h]
theorem rg_set (L : List RowT) (i : Nat) (r : RowT) (k : Nat) (hi : i < L.length) : rg (L.set i r) k = if k = i then r else rg L k := by
  unfold rg
  simp only [List.getD_eq_getElem?_getD, List.getElem?_set]
  by_cases e : i = k
  · subst e; simp [hi]
  · rw [if_neg e, if_neg (fun h => e h.symm)]
theorem rg_take (L : List RowT) (n k : Nat) (h : k < n) : rg (L.take n) k = rg L k := by
  unfold rg
  simp [List.getElem?_take, h]
theorem rg_mem {L : List RowT} {k : Nat} (h : k < L.length) : rg L k ∈ L := by rw [rg_eq L k h]; exact List.getElem_mem h
theorem rg_ext {L M : List RowT} (h : L.length = M.length) (hk : ∀ k, k < L.length → rg L k = rg M k) : L = M := by
  apply List.ext_getElem h
  intro k h1 h2
  rw [← rg_eq L k h1, ← rg_eq M k h2]
  exact hk k h1

/-- What a row's numbers may be in the language. -/
def wfR (L : List RowT) : Prop := ∀ r ∈ L, (0 ≤ r.1 ∧ r.1 ≤ 65535) ∧ (-9223372036854775808 ≤ r.2 ∧ r.2 ≤ 9223372036854775807)
theorem wfR.at {L : List RowT} (h : wfR L) {k : Nat} (hk : k < L.length) : (0 ≤ (rg L k).1 ∧ (rg L k).1 ≤ 65535) ∧ (-9223372036854775808 ≤ (rg L k).2 ∧ (rg L k).2 ≤ 9223372036854775807) := h _ (rg_mem hk)
theorem wfR.set {L : List RowT} (h : wfR L) (i : Nat) (r : RowT) (h1 : 0 ≤ r.1 ∧ r.1 ≤ 65535) (h2 : -9223372036854775808 ≤ r.2 ∧ r.2 ≤ 9223372036854775807) : wfR (L.set i r) := by
  intro x hx
  rcases List.mem_or_eq_of_mem_set hx with hx | rfl
  · exact h x hx
  · exact ⟨h1, h2⟩
theorem wfR.take {L : List RowT} (h : wfR L) (n : Nat) : wfR (L.take n) := fun x hx => h x (List.mem_of_mem_take hx)

/-- Row k may stand behind those ahead of it. -/
def goodAt (L : List RowT) (k : Nat) : Prop := 0 ≤ (rg L k).2 ∧ (rg L k).2 ≤ 65535 ∧ ((rg L k).2 = 0 → (rg L k).1 = 0) ∧ (0 < (rg L k).2 → ∀ j, j < k → 0 < (rg L j).2 → (rg L j).1 ≠ (rg L k).1)
instance (L : List RowT) (k : Nat) : Decidable (goodAt L k) := by unfold goodAt; infer_instance
def okP (L : List RowT) : Prop := L.length = 16 ∧ ∀ k, k < L.length → goodAt L k
instance (L : List RowT) : Decidable (okP L) := by unfold okP; infer_instance
def rightB (L : List RowT) : Bool := decide (okP L)
theorem right_iff (L : List RowT) : rightB L = true ↔ okP L := by simp [rightB]
theorem right_no {L : List RowT} {k : Nat} (hk : k < L.length) (h : ¬ goodAt L k) : rightB L = false := by
  cases e : rightB L
  · rfl
  · exact absurd (((right_iff L).1 e).2 k hk) h
theorem right_len {L : List RowT} (h : L.length ≠ 16) : rightB L = false := by
  cases e : rightB L
  · rfl
  · exact absurd ((right_iff L).1 e).1 h
theorem right_yes {L : List RowT} (h1 : L.length = 16) (h2 : ∀ k, k < L.length → goodAt L k) : rightB L = true := (right_iff L).2 ⟨h1, h2⟩

/-- The first row that is as p tells; -1: none. -/
def idxI (p : RowT → Bool) (L : List RowT) : Int := match L.findIdx? p with | some i => i | none => -1
theorem idxI_at {p : RowT → Bool} {L : List RowT} {k : Nat} (hk : k < L.length) (h : p (rg L k) = true) (hn : ∀ j, j < k → p (rg L j) = false) : idxI p L = k := by
  have : L.findIdx? p = some k := by
    rw [List.findIdx?_eq_some_iff_getElem]
    refine ⟨hk, by rw [← rg_eq L k hk]; exact h, fun j hj => ?_⟩
    rw [← rg_eq L j (by omega), hn j hj]; simp
  simp [idxI, this]
theorem idxI_none {p : RowT → Bool} {L : List RowT} (hn : ∀ j, j < L.length → p (rg L j) = false) : idxI p L = -1 := by
  have : L.findIdx? p = none := by
    rw [List.findIdx?_eq_none_iff]
    intro x hx
    obtain ⟨j, hj, rfl⟩ := List.getElem_of_mem hx
    rw [← rg_eq L j hj]; exact hn j hj
  simp [idxI, this]
theorem idxI_cases (p : RowT → Bool) (L : List RowT) : (idxI p L = -1 ∧ ∀ j, j < L.length → p (rg L j) = false) ∨ ∃ k, k < L.length ∧ idxI p L = (k : Nat) ∧ p (rg L k) = true ∧ ∀ j, j < k → p (rg L j) = false := by
  cases e : L.findIdx? p with
  | none =>
    refine .inl ⟨by simp [idxI, e], fun j hj => ?_⟩
    rw [List.findIdx?_eq_none_iff] at e
    exact e _ (rg_mem hj)
  | some k =>
    have e' := e
    rw [List.findIdx?_eq_some_iff_getElem] at e'
    obtain ⟨hk, h1, h2⟩ := e'
    refine .inr ⟨k, hk, by simp [idxI, e], by rw [rg_eq L k hk]; exact h1, fun j hj => ?_⟩
    rw [rg_eq L j (by omega)]
    have := h2 j hj
    simpa using this

def isL (a : Int) (r : RowT) : Bool := decide (0 < r.2) && decide (r.1 = a)
def isF (r : RowT) : Bool := decide (r.2 = 0)
def ofI (L : List RowT) (a : Int) : Int := idxI (isL a) L
def freeI (L : List RowT) : Int := idxI isF L
/-- Find. -/
def findR (L : List RowT) (a : Int) : Int × Bool := if ofI L a < 0 ∨ rightB L = false then (0, false) else (ofI L a, true)
/-- Retain. -/
def retR (L : List RowT) (a : Int) : List RowT × Int × Int :=
  if rightB L = false then ([], 0, 1)
  else if 0 ≤ ofI L a then (if (rg L (ofI L a).toNat).2 = 65535 then ([], 0, 4) else (L.set (ofI L a).toNat (a, (rg L (ofI L a).toNat).2 + 1), ofI L a, 0))
  else if 0 ≤ freeI L then (L.set (freeI L).toNat (a, 1), freeI L, 0)
  else ([], 0, 5)
/-- Release. -/
def relR (L : List RowT) (i : Int) : List RowT × Int :=
  if rightB L = false ∨ i < 0 ∨ (L.length : Int) ≤ i then ([], 1)
  else if (rg L i.toNat).2 = 0 then ([], 2)
  else if (rg L i.toNat).2 = 1 then (L.set i.toNat (0, 0), 0)
  else (L.set i.toNat ((rg L i.toNat).1, (rg L i.toNat).2 - 1), 0)

/-- The shapes of Retain. -/
theorem ret_cases (L : List RowT) (a : Int) :
    (rightB L = false ∧ retR L a = ([], 0, 1)) ∨
    (rightB L = true ∧ ((∃ k, k < L.length ∧ ofI L a = (k : Nat) ∧ 0 < (rg L k).2 ∧ (rg L k).1 = a ∧ (rg L k).2 = 65535 ∧ findR L a = ((k : Int), true) ∧ retR L a = ([], 0, 4)) ∨
      (∃ k, k < L.length ∧ ofI L a = (k : Nat) ∧ 0 < (rg L k).2 ∧ (rg L k).1 = a ∧ (rg L k).2 < 65535 ∧ findR L a = ((k : Int), true) ∧ retR L a = (L.set k (a, (rg L k).2 + 1), (k : Int), 0)) ∨
      (ofI L a = -1 ∧ findR L a = (0, false) ∧ ∃ k, k < L.length ∧ freeI L = (k : Nat) ∧ (rg L k).2 = 0 ∧ (∀ j, j < k → (rg L j).2 ≠ 0) ∧ retR L a = (L.set k (a, 1), (k : Int), 0)) ∨
      (ofI L a = -1 ∧ findR L a = (0, false) ∧ freeI L = -1 ∧ (∀ j, j < L.length → (rg L j).2 ≠ 0) ∧ retR L a = ([], 0, 5)))) := by
  cases hr : rightB L
  · exact .inl ⟨rfl, by simp [retR, hr]⟩
  · refine .inr ⟨rfl, ?_⟩
    have hok := (right_iff L).1 hr
    rcases idxI_cases (isL a) L with ⟨h1, _⟩ | ⟨k, hk, h1, h2, _⟩
    · have h1 : ofI L a = -1 := h1
      have hf : findR L a = (0, false) := by simp [findR, h1]
      rcases idxI_cases isF L with ⟨h3, h4⟩ | ⟨k, hk, h3, h4, h5⟩
      · have h3 : freeI L = -1 := h3
        exact .inr (.inr (.inr ⟨h1, hf, h3, fun j hj => by simpa [isF] using h4 j hj, by simp [retR, hr, h1, h3]⟩))
      · have h3 : freeI L = (k : Nat) := h3
        exact .inr (.inr (.inl ⟨h1, hf, k, hk, h3, by simpa [isF] using h4, fun j hj => by simpa [isF] using h5 j hj, by simp [retR, hr, h1, h3]⟩))
    · have h1 : ofI L a = (k : Nat) := h1
      have hn : ¬ ((k : Int) < 0) := by omega
      have hf : findR L a = ((k : Int), true) := by simp [findR, h1, hr, hn]
      have h2' : 0 < (rg L k).2 ∧ (rg L k).1 = a := by simpa [isL] using h2
      by_cases e : (rg L k).2 = 65535
      · exact .inl ⟨k, hk, h1, h2'.1, h2'.2, e, hf, by simp [retR, hr, h1, e]⟩
      · have := (hok.2 k hk).2.1
        exact .inr (.inl ⟨k, hk, h1, h2'.1, h2'.2, by omega, hf, by simp [retR, hr, h1, e]⟩)
theorem find_cases (L : List RowT) (a : Int) : (findR L a = (0, false) ∧ (rightB L = false ∨ ∀ j, j < L.length → isL a (rg L j) = false)) ∨ ∃ k, k < L.length ∧ rightB L = true ∧ findR L a = ((k : Int), true) ∧ isL a (rg L k) = true ∧ ∀ j, j < k → isL a (rg L j) = false := by
  cases hr : rightB L
  · exact .inl ⟨by simp [findR, hr], .inl rfl⟩
  · rcases idxI_cases (isL a) L with ⟨h1, h2⟩ | ⟨k, hk, h1, h2, h3⟩
    · have h1 : ofI L a = -1 := h1
      exact .inl ⟨by simp [findR, h1], .inr h2⟩
    · have h1 : ofI L a = (k : Nat) := h1
      have hn : ¬ ((k : Int) < 0) := by omega
      exact .inr ⟨k, hk, rfl, by simp [findR, h1, hr, hn], h2, h3⟩
theorem rel_cases (L : List RowT) (i : Int) :
    ((rightB L = false ∨ i < 0 ∨ (L.length : Int) ≤ i) ∧ relR L i = ([], 1)) ∨
    ∃ k : Nat, i = k ∧ k < L.length ∧ rightB L = true ∧ (((rg L k).2 = 0 ∧ relR L i = ([], 2)) ∨ ((rg L k).2 = 1 ∧ relR L i = (L.set k (0, 0), 0)) ∨ (1 < (rg L k).2 ∧ (rg L k).2 ≤ 65535 ∧ relR L i = (L.set k ((rg L k).1, (rg L k).2 - 1), 0))) := by
  by_cases h : rightB L = false ∨ i < 0 ∨ (L.length : Int) ≤ i
  · exact .inl ⟨h, by unfold relR; rw [if_pos h]⟩
  · have hr : rightB L = true := by
      cases e : rightB L
      · exact absurd (.inl e) h
      · rfl
    obtain ⟨h1, h2⟩ : 0 ≤ i ∧ i < L.length := by omega
    obtain ⟨k, rfl⟩ : ∃ k : Nat, i = k := ⟨i.toNat, by omega⟩
    have hk : k < L.length := by omega
    have hg := ((right_iff L).1 hr).2 k hk
    refine .inr ⟨k, rfl, hk, hr, ?_⟩
    unfold relR
    rw [if_neg h]
    simp only [Int.toNat_natCast]
    by_cases e0 : (rg L k).2 = 0
    · exact .inl ⟨e0, by rw [if_pos e0]⟩
    · rw [if_neg e0]
      by_cases e1 : (rg L k).2 = 1
      · exact .inr (.inl ⟨e1, by rw [if_pos e1]⟩)
      · rw [if_neg e1]
        have h0 := hg.1
        exact .inr (.inr ⟨by omega, hg.2.1, rfl⟩)
def freeL : List RowT := List.replicate 16 (0, 0)

/-! How rows lie. -/
theorem rows_at {w : World} {a : Option Addr} {L : List RowT} (h : Sl w a (rowsC L)) (h0 : 0 < L.length) : ∃ b off, a = some ⟨b, off, none⟩ ∧ ∀ k, k < L.length → w.cell? ⟨b, off + k * 2, none⟩ = some (.int .u16 (rg L k).1) ∧ w.cell? ⟨b, off + k * 2 + 1, none⟩ = some (.int .i64 (rg L k).2) := by
  obtain ⟨b, off, e, hc⟩ := h.at (by rw [rowsC_length]; omega)
  refine ⟨b, off, e, fun k hk => ?_⟩
  have hl := rowsC_length L
  obtain ⟨h1, h2⟩ := rowsC_at L k hk
  rw [Nat.mul_comm]
  refine ⟨?_, ?_⟩
  · rw [hc (2 * k) (by omega), ← h1, List.getElem?_eq_getElem (by omega)]
  · rw [show off + 2 * k + 1 = off + (2 * k + 1) by omega, hc (2 * k + 1) (by omega), ← h2, List.getElem?_eq_getElem (by omega)]
end Go.Proofs.Ytnodinancnfoeaa.Intern
