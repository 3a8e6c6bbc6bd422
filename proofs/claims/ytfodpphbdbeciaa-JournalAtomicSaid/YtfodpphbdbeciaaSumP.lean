/- The plain laws of the check sum. -/
import Derived.Test.YtfodpphbdbeciaaPlain
import Derived.Laws.BitsAllLaws
namespace Go.Proofs.Ytfodpphbdbeciaa.Sum
open Plain
set_option linter.unusedVariables false
set_option linter.unusedSimpArgs false

def stepS (p : Int × Int) (c : Int) : Int × Int := (p.1 + c, p.2 + (p.1 + c))
def raw (p : Int × Int) (L : List Int) : Int × Int := L.foldl stepS p
def resS (p : Int × Int) : Int × Int := (p.1 % 65521, p.2 % 65521)
def startS (s : Int) : Int × Int := (s % 65536 % 65521, s / 65536 % 65521)
def outS (p : Int × Int) : Int := p.2 % 65521 * 65536 + p.1 % 65521
/-- The check sum of bytes with others behind them. -/
def moreN (s : Int) (L : List Int) : Int := outS (raw (startS s) L)

theorem raw_nil (p : Int × Int) : raw p [] = p := rfl
theorem raw_cons (p : Int × Int) (c : Int) (L : List Int) : raw p (c :: L) = raw (stepS p c) L := rfl
theorem raw_append (p : Int × Int) (L M : List Int) : raw p (L ++ M) = raw (raw p L) M := List.foldl_append
theorem raw_add (p : Int × Int) (L : List Int) (c : Int) : raw p (L ++ [c]) = stepS (raw p L) c := by rw [raw_append]; rfl
theorem res_step (p : Int × Int) (c : Int) : resS (stepS (resS p) c) = resS (stepS p c) := by
  unfold resS stepS
  simp only [Prod.mk.injEq]
  omega
theorem res_res (p : Int × Int) : resS (resS p) = resS p := by
  unfold resS
  simp only [Prod.mk.injEq]
  omega
theorem raw_res (p : Int × Int) (L : List Int) : resS (raw (resS p) L) = resS (raw p L) := by
  induction L generalizing p with
  | nil => exact res_res p
  | cons c L ih =>
    rw [raw_cons, raw_cons, ← ih (stepS (resS p) c), res_step, ih]
theorem out_res (p : Int × Int) : outS (resS p) = outS p := by
  unfold outS resS; simp only; omega
theorem start_out (p : Int × Int) : startS (outS p) = resS p := by
  unfold startS outS resS
  simp only [Prod.mk.injEq]
  omega
theorem start_res (s : Int) : resS (startS s) = startS s := by
  unfold startS resS
  simp only [Prod.mk.injEq]
  omega
theorem more_append (s : Int) (L M : List Int) : moreN s (L ++ M) = moreN (moreN s L) M := by
  unfold moreN
  rw [start_out, raw_append, ← out_res (raw (resS _) M), raw_res, out_res]
theorem more_bd (s : Int) (L : List Int) : 0 ≤ moreN s L ∧ moreN s L < 4294967296 := by
  unfold moreN outS
  omega
/-- What the machine keeps while it sums a block: no modulus, and no overflow. -/
theorem raw_bd' (L : List Int) (hL : isBytes L) (p : Int × Int) (j : Nat) (h1 : 0 ≤ p.1 ∧ p.1 ≤ 65521 + 255 * j) (h2 : 0 ≤ p.2 ∧ p.2 ≤ 65521 + 830521 * j) (hn : L.length + j ≤ 3000) :
    0 ≤ (raw p L).1 ∧ (raw p L).1 ≤ 65521 + 255 * (L.length + j : Nat) ∧ 0 ≤ (raw p L).2 ∧ (raw p L).2 ≤ 65521 + 830521 * (L.length + j : Nat) := by
  induction L generalizing p j with
  | nil => rw [raw_nil]; simp; omega
  | cons c L ih =>
    have hc := hL c (by simp)
    rw [List.length_cons] at *
    have ih := ih (fun x hx => hL x (by simp [hx])) (stepS p c) (j + 1) (by simp only [stepS]; omega) (by simp only [stepS]; omega) (by omega)
    rw [raw_cons, show L.length + 1 + j = L.length + (j + 1) by omega]
    exact ih
theorem raw_bd (L : List Int) (hL : isBytes L) (p : Int × Int) (h1 : 0 ≤ p.1 ∧ p.1 < 65521) (h2 : 0 ≤ p.2 ∧ p.2 < 65521) (hn : L.length ≤ 3000) :
    0 ≤ (raw p L).1 ∧ (raw p L).1 ≤ 65521 + 255 * L.length ∧ 0 ≤ (raw p L).2 ∧ (raw p L).2 ≤ 65521 + 830521 * L.length :=
  raw_bd' L hL p 0 (by omega) (by omega) (by omega)
theorem or_low (h l : Int) (h0 : 0 ≤ h) (h1 : h < 65536) (l0 : 0 ≤ l) (l1 : l < 65536) : bits .or .u32 (h * 65536) l = h * 65536 + l := by
  obtain ⟨h, rfl⟩ := Int.eq_ofNat_of_zero_le h0
  obtain ⟨l, rfl⟩ := Int.eq_ofNat_of_zero_le l0
  have e : ((h : Int) * 65536) = ((2 ^ 16 * h : Nat) : Int) := by simp; omega
  rw [e, u32_or_nat _ _ (by omega) (by omega), ← Nat.two_pow_add_eq_or_of_lt (by omega)]
  simp
theorem and_low (s : Int) (h0 : 0 ≤ s) (h1 : s < 4294967296) : bits .and .u32 s 65535 = s % 65536 := by
  rw [u32_and s 65535 h0 h1 (by omega) (by omega)]
  obtain ⟨s, rfl⟩ := Int.eq_ofNat_of_zero_le h0
  have : (s &&& (2 ^ 16 - 1)) = s % 2 ^ 16 := Nat.and_two_pow_sub_one_eq_mod s 16
  simp only [Int.toNat_natCast]
  have e : (65535 : Int).toNat = 2 ^ 16 - 1 := rfl
  rw [e, this]; simp
end Go.Proofs.Ytfodpphbdbeciaa.Sum
