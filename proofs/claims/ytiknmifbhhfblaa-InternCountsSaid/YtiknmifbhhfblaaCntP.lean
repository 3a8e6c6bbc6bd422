/- What the law InternCounts counts: plain. -/
import Derived.Test.YtiknmifbhhfblaaUndo
import Derived.Maps.OwnSet
namespace Go.Proofs.Ytiknmifbhhfblaa.Intern
open Go.RowKit Go.Maps Words Mem Plain Ops
open Go.ChangeShapes Go.WideShapes
set_option linter.ambiguousOpen false
set_option linter.unusedVariables false
set_option linter.unusedSimpArgs false

def cntR (R : List RowT) (x : Int) : Int := if ofI R x < 0 then 0 else (rg R (ofI R x).toNat).2
def posB (r : RowT) : Bool := decide (0 < r.2)
def manyR (R : List RowT) : Nat := R.countP posB
theorem cnt_at {R : List RowT} (h : okP R) {k : Nat} (hk : k < R.length) {x : Int} (h0 : 0 < (rg R k).2) (hx : (rg R k).1 = x) : cntR R x = (rg R k).2 := by
  have h1 : ofI R x = (k : Nat) := idxI_at hk (by simp [isL, h0, hx]) (fun j hj => by
    by_cases hj0 : 0 < (rg R j).2
    · have := ok_apart h (by omega) hk (by omega) hj0 h0
      rw [hx] at this
      simp [isL, this]
    · simp [isL, hj0])
  unfold cntR
  rw [h1, if_neg (by omega), Int.toNat_natCast]
theorem cnt_none {R : List RowT} {x : Int} (h : ∀ k, k < R.length → 0 < (rg R k).2 → (rg R k).1 ≠ x) : cntR R x = 0 := by
  have h1 : ofI R x = -1 := idxI_none (fun k hk => by
    by_cases h0 : 0 < (rg R k).2
    · simp [isL, h k hk h0]
    · simp [isL, h0])
  unfold cntR
  rw [h1, if_pos (by decide)]
theorem cnt_cases {R : List RowT} (h : okP R) (x : Int) : (cntR R x = 0 ∧ findR R x = (0, false) ∧ ∀ k, k < R.length → 0 < (rg R k).2 → (rg R k).1 ≠ x) ∨ ∃ k, k < R.length ∧ 0 < (rg R k).2 ∧ (rg R k).1 = x ∧ cntR R x = (rg R k).2 ∧ findR R x = ((k : Int), true) := by
  by_cases he : ∃ k, k < R.length ∧ 0 < (rg R k).2 ∧ (rg R k).1 = x
  · obtain ⟨k, hk, h0, hx⟩ := he
    exact .inr ⟨k, hk, h0, hx, cnt_at h hk h0 hx, find_at h hk h0 hx⟩
  · have hn : ∀ k, k < R.length → 0 < (rg R k).2 → (rg R k).1 ≠ x := fun k hk h0 e => he ⟨k, hk, h0, e⟩
    refine .inl ⟨cnt_none hn, ?_, hn⟩
    have h1 : ofI R x = -1 := idxI_none (fun k hk => by
      by_cases h0 : 0 < (rg R k).2
      · simp [isL, hn k hk h0]
      · simp [isL, h0])
    unfold findR
    rw [h1, if_pos (.inl (by decide))]
theorem cnt_set {R : List RowT} (h : okP R) {k : Nat} (hk : k < R.length) {a r x : Int} (h' : okP (R.set k (a, r))) (h1 : 0 < (rg R k).2 → (rg R k).1 = x) (h2 : 0 < r → a = x) {y : Int} (hy : y ≠ x) : cntR (R.set k (a, r)) y = cntR R y := by
  have e := fun i => rg_set R k (a, r) i hk
  have hl : (R.set k (a, r)).length = R.length := List.length_set ..
  rcases cnt_cases h y with ⟨c, _, hn⟩ | ⟨j, hj, h0, hx, c, _⟩
  · rw [c]
    apply cnt_none
    intro i hi hi0
    rw [hl] at hi
    rw [e i] at hi0 ⊢
    by_cases hik : i = k
    · rw [if_pos hik] at hi0 ⊢
      rw [h2 hi0]
      exact fun e => hy e.symm
    · rw [if_neg hik] at hi0 ⊢
      exact hn i hi hi0
  · have hjk : j ≠ k := fun ejk => by
      subst ejk
      exact hy (hx.symm.trans (h1 h0))
    have := cnt_at h' (k := j) (by rw [hl]; exact hj) (x := y) (by rw [e j, if_neg hjk]; exact h0) (by rw [e j, if_neg hjk]; exact hx)
    rw [this, e j, if_neg hjk, c]
theorem many_set {R : List RowT} {k : Nat} (hk : k < R.length) (r : RowT) : manyR (R.set k r) + (if 0 < (rg R k).2 then 1 else 0) = manyR R + (if 0 < r.2 then 1 else 0) := by
  have e : R = R.take k ++ rg R k :: R.drop (k + 1) := by
    rw [rg_eq R k hk, ← List.drop_eq_getElem_cons hk, List.take_append_drop]
  have e2 : R.set k r = R.take k ++ r :: R.drop (k + 1) := by
    rw [List.set_eq_take_append_cons_drop, if_pos hk]
  have e3 : manyR R = manyR (R.take k) + (manyR (R.drop (k + 1)) + if posB (rg R k) then 1 else 0) := by
    have := congrArg manyR e
    rw [this]
    unfold manyR
    rw [List.countP_append, List.countP_cons]
  rw [e2, e3]
  unfold manyR
  rw [List.countP_append, List.countP_cons]
  unfold posB
  simp only [decide_eq_true_eq]
  omega
theorem many_all {R : List RowT} (h : ∀ k, k < R.length → 0 < (rg R k).2) : manyR R = R.length := by
  unfold manyR
  rw [List.countP_eq_length]
  intro r hr
  obtain ⟨k, hk, rfl⟩ := List.getElem_of_mem hr
  have := h k hk
  rw [rg_eq R k hk] at this
  simp [posB, this]
theorem many_take {R : List RowT} {k : Nat} (hk : k < R.length) : manyR (R.take (k + 1)) = manyR (R.take k) + (if 0 < (rg R k).2 then 1 else 0) := by
  rw [List.take_succ_eq_append_getElem hk, ← rg_eq R k hk]
  unfold manyR posB
  rw [List.countP_append, List.countP_cons, List.countP_nil]
  simp

/-- The map tells of the rows what they are. -/
structure Tells (R : List RowT) (D : DataW U) : Prop where
  tidy : Tidy D
  at_ : ∀ x : Int, D.atKey (.int .u16 x) (.lit (.int .i64 0)) = .lit (.int .i64 (cntR R x))
  has_ : ∀ x : Int, has D (.int .u16 x) = decide (0 < cntR R x)
  size_ : size D = manyR R

theorem tells_free : Tells freeL (.map []) := by
  have hz : ∀ x, cntR freeL x = 0 := fun x => cnt_none (fun k hk h0 => by
    have : rg freeL k = (0, 0) := by
      rw [rg_eq _ _ hk]; exact List.eq_of_mem_replicate (List.getElem_mem hk)
    rw [this] at h0
    exact absurd h0 (by decide))
  refine ⟨tidy_empty, fun x => by rw [hz]; rfl, fun x => by rw [hz]; rfl, by kernel_rfl⟩

/-- One more, or one less (and still there). -/
theorem Tells.put {R : List RowT} {D : DataW U} (t : Tells R D) (h : okP R) {k : Nat} (hk : k < R.length) {x r : Int} (h' : okP (R.set k (x, r))) (h1 : 0 < (rg R k).2 → (rg R k).1 = x) (hr : 0 < r) (hc : 0 < (rg R k).2 ∨ cntR R x = 0) :
    Tells (R.set k (x, r)) (D.put (.int .u16 x) (.lit (.int .i64 r))) := by
  have e := fun i => rg_set R k (x, r) i hk
  have hl : (R.set k (x, r)).length = R.length := List.length_set ..
  have hself : cntR (R.set k (x, r)) x = r := by
    have := cnt_at h' (k := k) (by rw [hl]; exact hk) (x := x) (by rw [e k, if_pos rfl]; exact hr) (by rw [e k, if_pos rfl])
    rw [this, e k, if_pos rfl]
  have hoth : ∀ y, y ≠ x → cntR (R.set k (x, r)) y = cntR R y := fun y hy => cnt_set h hk h' h1 (fun _ => rfl) hy
  refine ⟨t.tidy.put (key_int _) _, fun y => ?_, fun y => ?_, ?_⟩
  · by_cases hy : y = x
    · subst hy; rw [atKey_put_same t.tidy.isMap (key_int _), hself]
    · rw [atKey_put_other (by intro e; cases e; exact hy rfl), t.at_, hoth y hy]
  · by_cases hy : y = x
    · subst hy; rw [has_put_same t.tidy.isMap (key_int _), hself]; simp [hr]
    · rw [has_put_other (by intro e; cases e; exact hy rfl), t.has_, hoth y hy]
  · rw [size_put t.tidy, t.has_, t.size_]
    have hm := many_set hk (x, r)
    rw [if_pos hr] at hm
    rcases hc with hc | hc
    · have : 0 < cntR R x := by rw [cnt_at h hk hc (h1 hc)]; exact hc
      rw [if_pos hc] at hm
      simp only [this, decide_true, if_true]
      omega
    · have hz : ¬ 0 < (rg R k).2 := fun h0 => by
        have := cnt_at h hk h0 (h1 h0)
        omega
      rw [if_neg hz] at hm
      simp [hc]
      omega
/-- The last one goes. -/
theorem Tells.gone {R : List RowT} {D : DataW U} (t : Tells R D) (h : okP R) {k : Nat} (hk : k < R.length) {x : Int} (h' : okP (R.set k (0, 0))) (h0 : 0 < (rg R k).2) (hx : (rg R k).1 = x) (d : DataW U) :
    Tells (R.set k (0, 0)) ((D.put (.int .u16 x) d).del (.int .u16 x)) := by
  have e := fun i => rg_set R k (0, 0) i hk
  have hl : (R.set k (0, 0)).length = R.length := List.length_set ..
  have hself : cntR (R.set k (0, 0)) x = 0 := cnt_none (fun i hi hi0 => by
    rw [hl] at hi
    rw [e i] at hi0 ⊢
    by_cases hik : i = k
    · rw [if_pos hik] at hi0; exact absurd hi0 (by decide)
    · rw [if_neg hik] at hi0 ⊢
      rw [← hx]
      exact ok_apart h hi hk hik hi0 h0)
  have hoth : ∀ y, y ≠ x → cntR (R.set k (0, 0)) y = cntR R y := fun y hy => cnt_set h hk h' (fun _ => hx) (fun e => absurd e (by decide)) hy
  have tp := t.tidy.put (key_int x) d
  refine ⟨tp.del _, fun y => ?_, fun y => ?_, ?_⟩
  · by_cases hy : y = x
    · subst hy; rw [atKey_del_same, hself]
    · rw [atKey_del_other (by intro e; cases e; exact hy rfl), atKey_put_other (by intro e; cases e; exact hy rfl), t.at_, hoth y hy]
  · by_cases hy : y = x
    · subst hy; rw [has_del_same, hself]; rfl
    · rw [has_del_other (by intro e; cases e; exact hy rfl), has_put_other (by intro e; cases e; exact hy rfl), t.has_, hoth y hy]
  · have s1 := size_del (k := .int .u16 x) tp
    rw [has_put_same t.tidy.isMap (key_int _), if_pos rfl, size_put t.tidy, t.has_, t.size_] at s1
    have : 0 < cntR R x := by rw [cnt_at h hk h0 hx]; exact h0
    simp only [this, decide_true, if_true] at s1
    have hm := many_set hk (0, 0)
    rw [if_pos h0, if_neg (by decide)] at hm
    omega
end Go.Proofs.Ytiknmifbhhfblaa.Intern
