/- The walk of the law SumZeros. -/
import Derived.Test.YtafkpjgkghnipaaOfs
namespace Go.Proofs.Ytafkpjgkghnipaa.Sum
open Go.RowKit Words Mem Plain Ops
open Go.Proofs.Ytafkpjgkghnipaa.Field
set_option linter.ambiguousOpen false
set_option linter.unusedVariables false
set_option linter.unusedSimpArgs false

theorem raw_zeros (p : Int × Int) (k : Nat) : raw p (List.replicate k 0) = (p.1, p.2 + k * p.1) := by
  induction k generalizing p with
  | zero => simp [raw_nil]
  | succ k ih =>
    rw [List.replicate_succ, raw_cons, ih]
    simp only [stepS, Prod.mk.injEq]
    refine ⟨by omega, ?_⟩
    rw [Int.natCast_succ, Int.add_mul, Int.add_zero]
    omega

set_option maxHeartbeats 2000000 in
theorem zeros_walk (a0 : Int) (a1 : Int) (w0 : (Lit.int .u16 a0).wf = true) (w1 : (Lit.int .u32 a1).wf = true) (w : World) :
    Calls Try.prog 5 #[.int .u16 a0, .int .u32 a1] w fun e w' => e = .returned (.bool true) ∧ Below w.heap.size w w' := by
  have ha := bounds_u16 w0
  have hb := bounds_u32 w1
  clear w0 w1
  obtain ⟨c, rfl⟩ := Int.eq_ofNat_of_zero_le (a := a0) (by omega)
  have e1 : Int.tmod (c : Int) 2001 = ((c % 2001 : Nat) : Int) := by rw [Int.tmod_eq_emod_of_nonneg (by omega)]; omega
  have e2 : (c : Int) % 2001 = ((c % 2001 : Nat) : Int) := by omega
  have hk : c % 2001 ≤ 2000 := by omega
  go_enter Try.func5, Try.ntmps5
  go_wp2_with fail
  refine (shown_ok _).mono ?_
  rintro e w1 ⟨rfl, hX1⟩
  have hmk := make8 w1 ((c % 2001 : Nat) : Int) (c % 2001) rfl (by omega)
  generalize c % 2001 = k at *
  have r1 := Row.new w1 5 (ints .u8 (List.replicate k 0))
  have X1 := hX1.alloc (.cells (ints .u8 (List.replicate k 0)).toArray 5)
  have hbz : isBytes (List.replicate k (0 : Int)) := by intro x hx; rw [List.mem_replicate] at hx; omega
  have hm : moreN a1 (List.replicate k 0) = (a1 / 65536 % 65521 + k * (a1 % 65536 % 65521)) % 65521 * 65536 + a1 % 65536 % 65521 := by
    unfold moreN; rw [raw_zeros]; unfold outS startS; simp only; omega
  have hal := and_low a1 (by omega) (by omega)
  go_wp2_with fail
  refine (More_ok _ k k _ a1 _ (List.length_replicate ..) (by omega) hbz r1.sl0 (Nat.le_refl _) (by omega) (by omega) (by omega)).mono ?_
  rintro e w' ⟨rfl, rfl⟩
  rw [hm]
  clear hm r1 hmk hbz
  obtain ⟨lo, hlo⟩ : ∃ lo, a1 % 65536 % 65521 = lo := ⟨_, rfl⟩
  obtain ⟨hi, hhi⟩ : ∃ hi, a1 / 65536 % 65521 = hi := ⟨_, rfl⟩
  rw [hlo, hhi]
  have l0 : 0 ≤ lo ∧ lo < 65521 := by omega
  have h0 : 0 ≤ hi ∧ hi < 65521 := by omega
  have p0 : 0 ≤ (k : Int) * lo := Int.mul_nonneg (by omega) l0.1
  have p1 : (k : Int) * lo ≤ 2000 * 65520 := Int.mul_le_mul (by omega) (by omega) l0.1 (by omega)
  obtain ⟨H, hH⟩ : ∃ H, (hi + k * lo) % 65521 = H := ⟨_, rfl⟩
  rw [hH]
  have hH' : (hi + k * lo % 65521) % 65521 = H := by omega
  have H0 : 0 ≤ H ∧ H < 65521 := by omega
  have hw : IntKind.u32.wrap ((k : Int) * lo) = k * lo := by rw [IntKind.wrap_u32]; omega
  have hx1 : bits .and .u32 (H * 65536 + lo) 65535 = lo := by rw [and_low _ (by omega) (by omega)]; omega
  have hx2 : (H * 65536 + lo) / 65536 = H := by omega
  clear hH
  generalize hp : (k : Int) * lo = p at *
  go_wp2
  go_ret
  exact ⟨rfl, X1⟩
end Go.Proofs.Ytafkpjgkghnipaa.Sum
