/- Numbers as bytes, least first: plain lemmas with no program in sight. -/
namespace Go.Proofs.Ytfodpphbdbeciaa.Plain

def byteAt (n : Int) (i : Nat) : Int := n / 256 ^ i % 256
def bytesOf (s : Nat) (n : Int) : List Int := (List.range s).map (byteAt n)
def numOf : List Int → Int
  | [] => 0
  | x :: xs => x + 256 * numOf xs
def isBytes (l : List Int) : Prop := ∀ x ∈ l, 0 ≤ x ∧ x < 256

theorem byteAt_bd (n : Int) (i : Nat) : 0 ≤ byteAt n i ∧ byteAt n i < 256 := by unfold byteAt; omega
theorem length_bytesOf (s : Nat) (n : Int) : (bytesOf s n).length = s := by simp [bytesOf]
theorem bytesOf_zero (n : Int) : bytesOf 0 n = [] := rfl
theorem bytesOf_succ (s : Nat) (n : Int) : bytesOf (s + 1) n = bytesOf s n ++ [byteAt n s] := by simp [bytesOf, List.range_succ]
theorem getElem_bytesOf (s : Nat) (n : Int) (i : Nat) (h : i < s) : (bytesOf s n)[i]? = some (byteAt n i) := by simp [bytesOf, h]
theorem isBytes_bytesOf (s : Nat) (n : Int) : isBytes (bytesOf s n) := by
  intro x hx
  obtain ⟨i, _, rfl⟩ := List.mem_map.1 hx
  exact byteAt_bd n i
theorem bytesOf_cons (s : Nat) (n : Int) : bytesOf (s + 1) n = n % 256 :: bytesOf s (n / 256) := by
  apply List.ext_getElem?
  intro i
  cases i with
  | zero => rw [getElem_bytesOf _ _ _ (by omega)]; simp [byteAt]
  | succ i =>
    by_cases h : i < s
    · rw [getElem_bytesOf _ _ _ (by omega), List.getElem?_cons_succ, getElem_bytesOf _ _ _ h]
      unfold byteAt
      rw [Int.pow_succ', ← Int.ediv_ediv_of_nonneg (by decide)]
    · rw [List.getElem?_eq_none (by rw [length_bytesOf]; omega), List.getElem?_eq_none (by simp [length_bytesOf]; omega)]

theorem pow_pos (i : Nat) : (0 : Int) < 256 ^ i := Int.pow_pos (by decide)
theorem isBytes_cons {x : Int} {l : List Int} : isBytes (x :: l) ↔ (0 ≤ x ∧ x < 256) ∧ isBytes l := by simp [isBytes]
theorem isBytes_append {l m : List Int} : isBytes (l ++ m) ↔ isBytes l ∧ isBytes m := by
  unfold isBytes; simp only [List.mem_append]
  exact ⟨fun h => ⟨fun x hx => h x (.inl hx), fun x hx => h x (.inr hx)⟩, fun h x hx => hx.elim (h.1 x) (h.2 x)⟩
theorem isBytes_take {l : List Int} (h : isBytes l) (n : Nat) : isBytes (l.take n) := fun x hx => h x (List.mem_of_mem_take hx)
theorem isBytes_drop {l : List Int} (h : isBytes l) (n : Nat) : isBytes (l.drop n) := fun x hx => h x (List.mem_of_mem_drop hx)
theorem isBytes_nil : isBytes [] := by simp [isBytes]

theorem numOf_nonneg {l : List Int} (h : isBytes l) : 0 ≤ numOf l := by
  induction l with
  | nil => simp [numOf]
  | cons x xs ih => rw [isBytes_cons] at h; have := ih h.2; simp only [numOf]; omega
theorem numOf_lt {l : List Int} (h : isBytes l) : numOf l < 256 ^ l.length := by
  induction l with
  | nil => simp [numOf]
  | cons x xs ih => rw [isBytes_cons] at h; have := ih h.2; simp only [numOf, List.length_cons, Int.pow_succ]; omega
theorem numOf_append (l m : List Int) : numOf (l ++ m) = numOf l + 256 ^ l.length * numOf m := by
  induction l with
  | nil => simp [numOf]
  | cons x xs ih => simp only [List.cons_append, numOf, ih, List.length_cons, Int.pow_succ', Int.mul_add, Int.mul_assoc]; omega
theorem numOf_snoc (l : List Int) (x : Int) : numOf (l ++ [x]) = numOf l + 256 ^ l.length * x := by rw [numOf_append]; simp [numOf]

theorem numOf_bytesOf (s : Nat) (n : Int) (h0 : 0 ≤ n) : numOf (bytesOf s n) = n % 256 ^ s := by
  induction s generalizing n with
  | zero => simp [bytesOf, numOf, Int.emod_one]
  | succ s ih =>
    rw [bytesOf_cons]
    simp only [numOf]
    rw [ih _ (by omega), Int.pow_succ']
    have hp := pow_pos s
    have e1 : n % (256 * 256 ^ s) = n - 256 * 256 ^ s * (n / (256 * 256 ^ s)) := Int.emod_def _ _
    have e2 : n / 256 % 256 ^ s = n / 256 - 256 ^ s * (n / 256 / 256 ^ s) := Int.emod_def _ _
    rw [e1, e2, ← Int.ediv_ediv_of_nonneg (by decide), Int.mul_sub, Int.mul_assoc]
    omega
theorem numOf_bytesOf_of (s : Nat) (n : Int) (h0 : 0 ≤ n) (h : n < 256 ^ s) : numOf (bytesOf s n) = n := by
  rw [numOf_bytesOf s n h0, Int.emod_eq_of_lt h0 h]
theorem bytesOf_numOf (l : List Int) (h : isBytes l) : bytesOf l.length (numOf l) = l := by
  induction l with
  | nil => rfl
  | cons x xs ih =>
    rw [isBytes_cons] at h
    rw [List.length_cons, bytesOf_cons]
    simp only [numOf]
    rw [show (x + 256 * numOf xs) % 256 = x by omega, show (x + 256 * numOf xs) / 256 = numOf xs by omega, ih h.2]
theorem numOf_inj {l m : List Int} (hl : isBytes l) (hm : isBytes m) (hlen : l.length = m.length) (h : numOf l = numOf m) : l = m := by
  rw [← bytesOf_numOf l hl, ← bytesOf_numOf m hm, hlen, h]

theorem p1 : (256 : Int) ^ 1 = 256 := by decide
theorem p2 : (256 : Int) ^ 2 = 65536 := by decide
theorem p3 : (256 : Int) ^ 3 = 16777216 := by decide
theorem p4 : (256 : Int) ^ 4 = 4294967296 := by decide
theorem p5 : (256 : Int) ^ 5 = 1099511627776 := by decide
theorem p6 : (256 : Int) ^ 6 = 281474976710656 := by decide
theorem p7 : (256 : Int) ^ 7 = 72057594037927936 := by decide
theorem p8 : (256 : Int) ^ 8 = 18446744073709551616 := by decide
theorem pow_mono {i j : Nat} (h : i ≤ j) : (256 : Int) ^ i ≤ 256 ^ j := by
  obtain ⟨d, rfl⟩ := Nat.exists_eq_add_of_le h
  rw [Int.pow_add]
  have h1 := pow_pos i
  have h2 := pow_pos d
  have h3 : (256 : Int) ^ i * 1 ≤ 256 ^ i * 256 ^ d := Int.mul_le_mul_of_nonneg_left (by omega) (by omega)
  omega
theorem two_pow (i : Nat) : (2 : Int) ^ (8 * i) = 256 ^ i := by rw [Int.pow_mul]; rfl
theorem numOf_lt64 {l : List Int} (h : isBytes l) (hl : l.length ≤ 8) : numOf l < 18446744073709551616 := by
  have h1 := numOf_lt h
  have h2 := pow_mono hl
  have h3 := p8
  omega

theorem div_zero {n d : Int} (h0 : 0 ≤ n) (hd : 0 < d) : n / d = 0 ↔ n < d := by
  constructor
  · intro h
    have h1 := Int.emod_lt_of_pos n hd
    have h2 := Int.mul_ediv_add_emod n d
    rw [h] at h2
    omega
  · exact fun h => Int.ediv_eq_zero_of_lt h0 h
end Go.Proofs.Ytfodpphbdbeciaa.Plain
