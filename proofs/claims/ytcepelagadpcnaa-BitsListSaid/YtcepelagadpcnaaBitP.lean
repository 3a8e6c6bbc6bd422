/- Plain laws of bits: what 'with' does to the bits of bytes. -/
import Derived.Test.YtcepelagadpcnaaWith
namespace Go.Proofs.Ytcepelagadpcnaa.Bit
open Go.RowKit Words Mem Plain Ops
set_option linter.unusedVariables false
set_option linter.unusedSimpArgs false

def setNat (x j : Nat) (on : Bool) : Nat := if on then x - x / 2 ^ j % 2 * 2 ^ j + 2 ^ j else x - x / 2 ^ j % 2 * 2 ^ j
theorem set_nat : ∀ x < 256, ∀ j < 8, ∀ on : Bool, setNat x j on < 256 ∧ ∀ t < 8, (setNat x j on / 2 ^ t % 2 == 1) = if t = j then on else (x / 2 ^ t % 2 == 1) := by decide +kernel
theorem setBit_nat (x : Nat) (hx : x < 256) (j : Nat) (hj : j < 8) (on : Bool) : setBit x j on = (setNat x j on : Nat) := by
  unfold setBit setNat
  cases on
  · simp only [Bool.false_eq_true, if_false]; exact clear_nat x hx j hj
  · simp only [if_true]; rw [clear_nat x hx j hj]; simp
theorem setBit_bd (x : Int) (h0 : 0 ≤ x) (h1 : x < 256) (j : Nat) (hj : j < 8) (on : Bool) : 0 ≤ setBit x j on ∧ setBit x j on < 256 := by
  obtain ⟨x, rfl⟩ := Int.eq_ofNat_of_zero_le h0
  rw [setBit_nat x (by omega) j hj on]
  have := (set_nat x (by omega) j hj on).1
  omega
theorem bit_cast (x t : Nat) : ((x : Int) / 2 ^ t % 2 == 1) = (x / 2 ^ t % 2 == 1) := by
  have e : ((2 : Int) ^ t) = ((2 ^ t : Nat) : Int) := by simp
  rw [e, Bool.eq_iff_iff, beq_iff_eq, beq_iff_eq]
  omega
theorem setBit_bit (x : Int) (h0 : 0 ≤ x) (h1 : x < 256) (j : Nat) (hj : j < 8) (on : Bool) (t : Nat) (ht : t < 8) : (setBit x j on / 2 ^ t % 2 == 1) = if t = j then on else (x / 2 ^ t % 2 == 1) := by
  obtain ⟨x, rfl⟩ := Int.eq_ofNat_of_zero_le h0
  rw [setBit_nat x (by omega) j hj on, bit_cast, bit_cast]
  exact (set_nat x (by omega) j hj on).2 t ht

theorem length_with (xs : List Int) (k : Nat) (on : Bool) : (withN xs k on).length = xs.length := by simp [withN]
theorem getD_bd {xs : List Int} (hb : isBytes xs) (q : Nat) : 0 ≤ xs.getD q 0 ∧ xs.getD q 0 < 256 := by
  by_cases h : q < xs.length
  · have := hb xs[q] (List.getElem_mem h)
    simpa [List.getD, h] using this
  · simp [List.getD, h]
theorem isBytes_with {xs : List Int} (hb : isBytes xs) (k : Nat) (on : Bool) : isBytes (withN xs k on) := by
  intro y hy
  unfold withN at hy
  rcases List.mem_or_eq_of_mem_set hy with h | h
  · exact hb y h
  · rw [h]
    have := getD_bd hb (k / 8)
    exact setBit_bd _ this.1 this.2 _ (by omega) on
theorem bitN_with {xs : List Int} (hb : isBytes xs) (k : Nat) (hk : k < 8 * xs.length) (on : Bool) (t : Nat) : bitN (withN xs k on) t = if t = k then on else bitN xs t := by
  unfold bitN withN
  by_cases hq : t / 8 = k / 8
  · have hl : k / 8 < xs.length := by omega
    have e : (xs.set (k / 8) (setBit (xs.getD (k / 8) 0) (k % 8) on)).getD (t / 8) 0 = setBit (xs.getD (k / 8) 0) (k % 8) on := by
      rw [hq]; simp [List.getD, hl]
    rw [e, hq]
    have hx := getD_bd hb (k / 8)
    rw [setBit_bit _ hx.1 hx.2 _ (by omega) on _ (by omega)]
    by_cases ht : t = k
    · subst ht; simp
    · rw [if_neg ht, if_neg (by omega)]
  · have e : (xs.set (k / 8) (setBit (xs.getD (k / 8) 0) (k % 8) on)).getD (t / 8) 0 = xs.getD (t / 8) 0 := by
      simp [List.getD, List.getElem?_set, Ne.symm hq]
    rw [e, if_neg (by intro h; subst h; exact hq rfl)]

/-- Bytes of one length are the same if all their bits are. -/
theorem bits_mod (x y m : Nat) (h : ∀ t < m, (x / 2 ^ t % 2 == 1) = (y / 2 ^ t % 2 == 1)) : x % 2 ^ m = y % 2 ^ m := by
  induction m with
  | zero => simp [Nat.mod_one]
  | succ m ih =>
    rw [Nat.mod_pow_succ, Nat.mod_pow_succ, ih (fun t ht => h t (by omega))]
    have hm := h m (by omega)
    rw [Bool.eq_iff_iff, beq_iff_eq, beq_iff_eq] at hm
    have : x / 2 ^ m % 2 = y / 2 ^ m % 2 := by omega
    rw [this]
theorem byte_ext (x : Nat) (hx : x < 256) (y : Nat) (hy : y < 256) (h : ∀ t < 8, (x / 2 ^ t % 2 == 1) = (y / 2 ^ t % 2 == 1)) : x = y := by
  have := bits_mod x y 8 h
  rwa [Nat.mod_eq_of_lt hx, Nat.mod_eq_of_lt hy] at this
theorem bytes_ext {xs ys : List Int} (hx : isBytes xs) (hy : isBytes ys) (hl : xs.length = ys.length) (h : ∀ t, t < 8 * xs.length → bitN xs t = bitN ys t) : xs = ys := by
  apply List.ext_getElem hl
  intro q h1 h2
  have bx := hx xs[q] (List.getElem_mem h1)
  have by' := hy ys[q] (List.getElem_mem h2)
  obtain ⟨x, hxe⟩ := Int.eq_ofNat_of_zero_le bx.1
  obtain ⟨y, hye⟩ := Int.eq_ofNat_of_zero_le by'.1
  have := byte_ext x (by omega) y (by omega) (fun t ht => by
    have := h (8 * q + t) (by omega)
    unfold bitN at this
    rw [show (8 * q + t) / 8 = q by omega, show (8 * q + t) % 8 = t by omega] at this
    simp only [List.getD, h1, h2, getElem?_pos, Option.getD_some, hxe, hye] at this
    rw [bit_cast, bit_cast] at this
    exact this)
  rw [hxe, hye, this]
end Go.Proofs.Ytcepelagadpcnaa.Bit
