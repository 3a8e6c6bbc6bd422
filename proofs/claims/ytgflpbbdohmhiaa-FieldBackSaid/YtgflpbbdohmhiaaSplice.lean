/- Plain laws on numbers among bytes: what was set is got, what stands apart is not changed, what was laid is taken. -/
import Derived.Test.YtgflpbbdohmhiaaGave
namespace Go.Proofs.Ytgflpbbdohmhiaa.Field
open Go.RowKit Words Mem Plain Ops
set_option linter.unusedVariables false
set_option linter.unusedSimpArgs false

theorem getElem?_splice {α : Type} (L M : List α) (k i : Nat) (h : k + M.length ≤ L.length) : (splice L k M)[i]? = if i < k then L[i]? else if i < k + M.length then M[i - k]? else L[i]? := by
  unfold splice
  have h1 : (L.take k).length = k := by rw [List.length_take]; omega
  by_cases a : i < k
  · rw [if_pos a, List.getElem?_append_left (by omega), List.getElem?_take, if_pos a]
  · rw [if_neg a, List.getElem?_append_right (by omega), h1]
    by_cases b : i < k + M.length
    · rw [if_pos b, List.getElem?_append_left (by omega)]
    · rw [if_neg b, List.getElem?_append_right (by omega), List.getElem?_drop]
      congr 1; omega
theorem splice_comm {α : Type} (L M1 M2 : List α) (k : Nat) (h1 : M1.length ≤ k) (h2 : k + M2.length ≤ L.length) : splice (splice L 0 M1) k M2 = splice (splice L k M2) 0 M1 := by
  have l1 : (splice L 0 M1).length = L.length := length_splice _ _ _ (by omega)
  have l2 : (splice L k M2).length = L.length := length_splice _ _ _ (by omega)
  apply List.ext_getElem?
  intro i
  rw [getElem?_splice _ _ _ _ (by omega), getElem?_splice _ _ _ _ (by omega), getElem?_splice _ _ _ _ (by omega), getElem?_splice _ _ _ _ (by omega)]
  by_cases a : i < M1.length
  · rw [if_pos (by omega), if_neg (by omega), if_pos (by omega), if_neg (by omega), if_pos (by omega)]
  · by_cases b : i < k
    · simp [b, a]
    · by_cases c : i < k + M2.length
      · simp [a, b, c]
      · simp [a, b, c]
theorem splice_get {α : Type} (L M : List α) (k : Nat) (h : k + M.length ≤ L.length) : ((splice L k M).drop k).take M.length = M := by
  unfold splice
  have h1 : (L.take k).length = k := by rw [List.length_take]; omega
  rw [List.drop_append, h1, Nat.sub_self, List.drop_zero, List.drop_of_length_le (by omega), List.nil_append, List.take_append_of_le_length (Nat.le_refl _), List.take_of_length_le (Nat.le_refl _)]
theorem splice_take {α : Type} (L M : List α) (k : Nat) (h : k + M.length ≤ L.length) : (splice L k M).take k = L.take k := by
  unfold splice
  have h1 : (L.take k).length = k := by rw [List.length_take]; omega
  rw [List.take_append_of_le_length (by omega), List.take_of_length_le (by omega)]
theorem splice_drop {α : Type} (L M : List α) (k : Nat) (h : k + M.length ≤ L.length) : (splice L k M).drop (k + M.length) = L.drop (k + M.length) := by
  unfold splice
  have h1 : (L.take k).length = k := by rw [List.length_take]; omega
  rw [List.drop_append, h1, List.drop_of_length_le (by omega), List.nil_append, Nat.add_sub_cancel_left, List.drop_append, List.drop_of_length_le (Nat.le_refl _), Nat.sub_self, List.nil_append, List.drop_zero]

theorem fitsB_of {x : Int} {s : Nat} (h : x < 256 ^ s) : fitsB x s = true := by unfold fitsB; simpa using h
theorem fitsB_lt {x : Int} {s : Nat} (h : fitsB x s = true) : x < 256 ^ s := by unfold fitsB at h; simpa using h
theorem standsB_of {m k s : Int} (h1 : 1 ≤ s) (h2 : s ≤ 8) (h3 : 0 ≤ k) (h4 : k ≤ m) (h5 : s ≤ m - k) : standsB m k s = true := by
  unfold standsB
  rw [decide_eq_true h1, decide_eq_true h2, decide_eq_true h3, decide_eq_true h4, decide_eq_true h5]; rfl

theorem setR_yes {xs : List Int} {k s : Nat} {x : Int} (h : standsB xs.length k s = true) (hf : fitsB x s = true) : setR xs k s x = (setP xs k s x, 0) := by
  unfold setR
  rw [if_neg (by rw [h]; simp), Int.toNat_natCast, if_neg (by rw [hf]; simp), Int.toNat_natCast]
theorem getR_yes {xs : List Int} {k s : Nat} (h : standsB xs.length k s = true) : getR xs k s = (numOf ((xs.drop k).take s), 0) := by
  unfold getR
  rw [if_neg (by rw [h]; simp), Int.toNat_natCast, Int.toNat_natCast]
theorem get_setP {xs : List Int} {k s : Nat} {x : Int} (h : k + s ≤ xs.length) (h0 : 0 ≤ x) (hf : fitsB x s = true) : numOf (((setP xs k s x).drop k).take s) = x := by
  have := splice_get xs (bytesOf s x) k (by rw [length_bytesOf]; exact h)
  rw [length_bytesOf] at this
  unfold setP
  rw [this]
  exact numOf_bytesOf_of s x h0 (fitsB_lt hf)

/-- Two numbers that stand apart. -/
theorem apart (xs : List Int) (hb : isBytes xs) (a b k : Nat) (m n : Int) (ha : 1 ≤ a) (ha8 : a ≤ 8) (hb1 : 1 ≤ b) (hb8 : b ≤ 8) (hk : a ≤ k) (hl : xs.length = k + b) (m0 : 0 ≤ m) (n0 : 0 ≤ n) (hm : fitsB m a = true) (hn : fitsB n b = true) :
    ∃ Y Z W : List Int, Y.length = k + b ∧ Z.length = k + b ∧ W.length = k + b ∧ isBytes Y ∧ isBytes Z ∧ isBytes W ∧ setR xs (0 : Nat) a m = (Y, 0) ∧ setR Y k b n = (Z, 0) ∧ setR xs k b n = (W, 0) ∧ setR W (0 : Nat) a m = (Z, 0) ∧ getR Z (0 : Nat) a = (m, 0) ∧ getR Z k b = (n, 0) := by
  have ly : (setP xs 0 a m).length = k + b := by rw [length_setP _ _ _ _ (by omega), hl]
  have lw : (setP xs k b n).length = k + b := by rw [length_setP _ _ _ _ (by omega), hl]
  have hc : setP (setP xs 0 a m) k b n = setP (setP xs k b n) 0 a m := splice_comm xs (bytesOf a m) (bytesOf b n) k (by rw [length_bytesOf]; exact hk) (by rw [length_bytesOf]; omega)
  have lz : (setP (setP xs 0 a m) k b n).length = k + b := by rw [length_setP _ _ _ _ (by omega), ly]
  refine ⟨setP xs 0 a m, setP (setP xs 0 a m) k b n, setP xs k b n, ly, lz, lw, isBytes_setP _ _ _ _ hb, isBytes_setP _ _ _ _ (isBytes_setP _ _ _ _ hb), isBytes_setP _ _ _ _ hb, ?_, ?_, ?_, ?_, ?_, ?_⟩
  · exact setR_yes (standsB_of (by omega) (by omega) (by omega) (by omega) (by omega)) hm
  · exact setR_yes (standsB_of (by omega) (by omega) (by omega) (by omega) (by omega)) hn
  · exact setR_yes (standsB_of (by omega) (by omega) (by omega) (by omega) (by omega)) hn
  · rw [hc]; exact setR_yes (standsB_of (by omega) (by omega) (by omega) (by omega) (by omega)) hm
  · rw [getR_yes (standsB_of (by omega) (by omega) (by omega) (by omega) (by omega)), hc, get_setP (by omega) m0 hm]
  · rw [getR_yes (standsB_of (by omega) (by omega) (by omega) (by omega) (by omega)), get_setP (by omega) n0 hn]

theorem isBytes_zeros (n : Nat) : isBytes (List.replicate n 0) := fun x hx => by rw [List.eq_of_mem_replicate hx]; omega

theorem drop_layed (s : Nat) (l : List Int) (i : Nat) (h : i < l.length) : ((layed s l).drop (s * i)).take s = bytesOf s l[i] := by
  have e : l = l.take i ++ l[i] :: l.drop (i + 1) := by rw [← List.drop_eq_getElem_cons h, List.take_append_drop]
  have hl : (layed s (l.take i)).length = s * i := by rw [length_layed, List.length_take]; congr 1; omega
  have e2 : layed s l = layed s (l.take i) ++ (bytesOf s l[i] ++ layed s (l.drop (i + 1))) := by
    exact (congrArg (layed s) e).trans (by unfold layed; rw [List.flatMap_append, List.flatMap_cons])
  rw [e2, ← hl, List.drop_left, List.take_append_of_le_length (by rw [length_bytesOf]; exact Nat.le_refl _), List.take_of_length_le (by rw [length_bytesOf]; exact Nat.le_refl _)]
/-- What was laid is taken. -/
theorem takenL_layed (s : Nat) (l : List Int) (hu : ∀ x ∈ l, 0 ≤ x) (hf : ∀ x ∈ l, fitsB x s = true) : takenL s (layed s l) l.length = l := by
  apply List.ext_getElem?
  intro i
  by_cases h : i < l.length
  · rw [getElem_takenL _ _ _ _ h, drop_layed s l i h, numOf_bytesOf_of s _ (hu _ (List.getElem_mem h)) (fitsB_lt (hf _ (List.getElem_mem h))), List.getElem?_eq_getElem h]
  · rw [List.getElem?_eq_none (by rw [length_takenL]; omega), List.getElem?_eq_none (by omega)]
theorem takeR_layed (s : Nat) (l : List Int) (h1 : 1 ≤ s) (h8 : s ≤ 8) (hu : ∀ x ∈ l, 0 ≤ x) (h : okLay s l = true) : takeR s (layed s l) = (l, 0) := by
  obtain ⟨h2, h3⟩ := okLay_true h
  unfold takeR
  rw [length_layed, if_neg (by simp; omega), if_neg (by omega), Int.toNat_natCast, Nat.mul_div_cancel_left _ (by omega), takenL_layed s l hu h3]
end Go.Proofs.Ytgflpbbdohmhiaa.Field
