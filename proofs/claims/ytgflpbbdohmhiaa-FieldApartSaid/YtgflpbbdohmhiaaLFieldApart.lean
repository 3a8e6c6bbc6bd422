/- The walk of the law FieldApart. -/
import Derived.Test.YtgflpbbdohmhiaaSplice
import Derived.Test.YtgflpbbdohmhiaaShown01
namespace Go.Proofs.Ytgflpbbdohmhiaa.Field
open Go.RowKit Words Mem Plain Ops
set_option linter.unusedVariables false
set_option linter.unusedSimpArgs false

theorem wrap_pow (A : Nat) (h : A < 7) : ∃ P : Int, IntKind.u64.wrap (2 ^ (8 * (A + 1))) = P ∧ 0 < P ∧ P = 256 ^ (A + 1) := by
  refine ⟨256 ^ (A + 1), ?_, pow_pos _, rfl⟩
  have h1 := pow_pos (A + 1)
  have h2 : (256 : Int) ^ (A + 1) ≤ 256 ^ 7 := pow_mono (by omega)
  rw [p7] at h2
  rw [two_pow, IntKind.wrap_u64, Int.emod_eq_of_lt (by omega) (by omega)]
theorem mod_fit (x P : Int) (a : Nat) (hP : 0 < P) (e : P = 256 ^ a) : ∃ M, x % P = M ∧ 0 ≤ M ∧ fitsB M a = true := by
  refine ⟨x % P, rfl, Int.emod_nonneg _ (by omega), fitsB_of ?_⟩
  rw [← e]; exact Int.emod_lt_of_pos _ hP
theorem all_fit8 (x : Int) (h : x < 18446744073709551616) : fitsB x 8 = true := fitsB_of (by rw [p8]; exact h)
theorem fit_lt64 {x : Int} {s : Nat} (h : fitsB x s = true) (hs : s ≤ 8) : x < 18446744073709551616 := by
  have h1 := fitsB_lt h
  have h2 : (256 : Int) ^ s ≤ 256 ^ 8 := pow_mono hs
  rw [p8] at h2; omega

set_option maxHeartbeats 8000000 in
theorem walk_FieldApart (a0 : Int) (a1 : Int) (a2 : Int) (a3 : Int) (a4 : Int) (w0 : (Lit.int .u64 a0).wf = true) (w1 : (Lit.int .u64 a1).wf = true) (w2 : (Lit.int .u8 a2).wf = true) (w3 : (Lit.int .u8 a3).wf = true) (w4 : (Lit.int .u8 a4).wf = true) (w : World) :
    Calls Try.prog 5 #[.int .u64 a0, .int .u64 a1, .int .u8 a2, .int .u8 a3, .int .u8 a4] w fun e w' => e = .returned (.bool true) ∧ Below w.heap.size w w' := by
  have b0 := bounds_u64 w0
  have b1 := bounds_u64 w1
  have b2 := bounds_u8 w2
  have b3 := bounds_u8 w3
  have b4 := bounds_u8 w4
  clear w0 w1 w2 w3 w4
  obtain ⟨A, hA⟩ : ∃ A : Nat, a2 % 8 = A := ⟨(a2 % 8).toNat, by omega⟩
  obtain ⟨B, hB⟩ : ∃ B : Nat, a3 % 8 = B := ⟨(a3 % 8).toNat, by omega⟩
  obtain ⟨D, hD⟩ : ∃ D : Nat, a4 % 101 = D := ⟨(a4 % 101).toNat, by omega⟩
  have hA8 : A < 8 := by omega
  have hB8 : B < 8 := by omega
  have hD8 : D < 101 := by omega
  go_enter Try.func5, Try.ntmps5
  go_wp2_with fail
  refine (shown_ok w).mono ?_
  rintro e w1 ⟨rfl, hX1⟩
  have hmk := make8 w1 ((A : Int) + 1 + D + (B + 1)) (A + 1 + D + (B + 1)) (by push_cast; rfl) (by omega)
  obtain ⟨PA, hPA⟩ : ∃ PA : Int, (A < 7 → IntKind.u64.wrap (2 ^ (8 * (A + 1))) = PA) ∧ 0 < PA ∧ PA = 256 ^ (A + 1) := by
    by_cases h : A < 7
    · obtain ⟨P, h1, h2, h3⟩ := wrap_pow A h; exact ⟨P, fun _ => h1, h2, h3⟩
    · exact ⟨_, fun e => absurd e h, pow_pos _, rfl⟩
  obtain ⟨PB, hPB⟩ : ∃ PB : Int, (B < 7 → IntKind.u64.wrap (2 ^ (8 * (B + 1))) = PB) ∧ 0 < PB ∧ PB = 256 ^ (B + 1) := by
    by_cases h : B < 7
    · obtain ⟨P, h1, h2, h3⟩ := wrap_pow B h; exact ⟨P, fun _ => h1, h2, h3⟩
    · exact ⟨_, fun e => absurd e h, pow_pos _, rfl⟩
  obtain ⟨qa1, qa2, qa3⟩ := hPA
  obtain ⟨qb1, qb2, qb3⟩ := hPB
  have hM : ∃ M, (if A < 7 then a0 % PA = M else a0 = M) ∧ 0 ≤ M ∧ fitsB M (A + 1) = true := by
    by_cases h : A < 7
    · obtain ⟨M, h1, h2, h3⟩ := mod_fit a0 PA (A + 1) qa2 qa3; exact ⟨M, by rw [if_pos h]; exact h1, h2, h3⟩
    · exact ⟨a0, by rw [if_neg h], b0.1, by rw [show A + 1 = 8 by omega]; exact all_fit8 _ (by omega)⟩
  have hN : ∃ M, (if B < 7 then a1 % PB = M else a1 = M) ∧ 0 ≤ M ∧ fitsB M (B + 1) = true := by
    by_cases h : B < 7
    · obtain ⟨M, h1, h2, h3⟩ := mod_fit a1 PB (B + 1) qb2 qb3; exact ⟨M, by rw [if_pos h]; exact h1, h2, h3⟩
    · exact ⟨a1, by rw [if_neg h], b1.1, by rw [show B + 1 = 8 by omega]; exact all_fit8 _ (by omega)⟩
  obtain ⟨M, qM, M0, MF⟩ := hM
  obtain ⟨N, qN, N0, NF⟩ := hN
  obtain ⟨Y, Z, W, ly, lz, lw, by', bz, bw, f1, f2, f3, f4, f5, f6⟩ := apart (List.replicate (A + 1 + D + (B + 1)) 0) (isBytes_zeros _) (A + 1) (B + 1) (A + 1 + D) M N (by omega) (by omega) (by omega) (by omega) (by omega) (by simp) M0 N0 MF NF
  push_cast at f1 f2 f3 f4 f5 f6
  have M1 := fit_lt64 MF (by omega)
  have N1 := fit_lt64 NF (by omega)
  clear MF NF qa3 qb3
  have HF := Lib.hid (And.intro f1 (And.intro f2 (And.intro f3 (And.intro f4 (And.intro f5 f6)))))
  have HL := Lib.hid (And.intro ly (And.intro lz lw))
  clear f1 f2 f3 f4 f5 f6 ly lz lw
  have hAB : A + 1 + D + (B + 1) ≤ 1000000 := by omega
  have r0 := Row.new w1 5 (ints .u8 (List.replicate (A + 1 + D + (B + 1)) 0))
  have X0 := (Ext.refl w1).alloc (.cells (ints .u8 (List.replicate (A + 1 + D + (B + 1)) 0)).toArray 5)
  have hlr : (List.replicate (A + 1 + D + (B + 1)) (0 : Int)).length = A + 1 + D + (B + 1) := List.length_replicate
  generalize List.replicate (A + 1 + D + (B + 1)) (0 : Int) = O at *
  have HO := Lib.hid hlr; clear hlr
  by_cases hA7 : A < 7
  · rw [if_pos hA7] at qM
    have qa := qa1 hA7
    by_cases hB7 : B < 7
    · rw [if_pos hB7] at qN
      have qb := qb1 hB7
      clear qa1 qb1
      · go_wp2_with fail
        clear hmk
        generalize w1.alloc (.cells (ints .u8 O).toArray 5) = w2 at *
        generalize w1.heap.size = g1 at *
        refine (Set_gave (some ⟨g1, 0, none⟩) _ _ O w2 0 (A + 1) M (by decide) M0 M1 HO.out hAB r0.sl0).mono ?_
        rintro e w3 ⟨a5, c5, rfl, ho5, hX3⟩
        rw [HF.out.1] at ho5 ⊢
        dsimp only at ho5 ⊢
        rw [HL.out.1] at ho5 ⊢
        have k5 := own_cap ho5
        go_wp2_with fail
        refine (Set_gave a5 _ c5 Y w3 (A + 1 + D) (B + 1) N (by omega) N0 N1 HL.out.1 hAB (ownsRow_sl ho5)).mono ?_
        rintro e w4 ⟨a6, c6, rfl, ho6, hX4⟩
        rw [HF.out.2.1] at ho6 ⊢
        dsimp only at ho6 ⊢
        rw [HL.out.2.1] at ho6 ⊢
        have k6 := own_cap ho6
        go_wp2_with fail
        refine (Set_gave (some ⟨g1, 0, none⟩) _ _ O w4 (A + 1 + D) (B + 1) N (by omega) N0 N1 HO.out hAB (r0.sl0.ext (hX3.trans hX4))).mono ?_
        rintro e w5 ⟨a7, c7, rfl, ho7, hX5⟩
        rw [HF.out.2.2.1] at ho7 ⊢
        dsimp only at ho7 ⊢
        rw [HL.out.2.2] at ho7 ⊢
        go_wp2_with fail
        refine (Set_gave a7 _ c7 W w5 0 (A + 1) M (by decide) M0 M1 HL.out.2.2 hAB (ownsRow_sl ho7)).mono ?_
        rintro e w6 ⟨a8, c8, rfl, ho8, hX6⟩
        rw [HF.out.2.2.2.1] at ho8 ⊢
        dsimp only at ho8 ⊢
        rw [HL.out.2.1] at ho8 ⊢
        have ho6' := ownsRow_ext ho6 (hX5.trans hX6)
        go_wp2_with fail
        refine (Get_gave a6 _ c6 Z w6 0 (A + 1) (by decide) HL.out.2.1 (by omega) bz (ownsRow_sl ho6') k6.1 k6.2).mono ?_
        rintro e w' ⟨rfl, rfl⟩
        rw [HF.out.2.2.2.2.1]
        dsimp only
        go_wp2_with fail
        refine (Get_gave a6 _ c6 Z w6 (A + 1 + D) (B + 1) (by omega) HL.out.2.1 (by omega) bz (ownsRow_sl ho6') k6.1 k6.2).mono ?_
        rintro e w' ⟨rfl, rfl⟩
        rw [HF.out.2.2.2.2.2]
        dsimp only
        have e1 := run_conv_str (P := Try.prog) w6 22 9 5 Try.underlying22 Try.underlying5 Try.underlying9 c6 (ownsRow_sl ho6') HL.out.2.1
        have e2 := run_conv_str (P := Try.prog) w6 22 9 5 Try.underlying22 Try.underlying5 Try.underlying9 c8 (ownsRow_sl ho8) HL.out.2.1
        have XX := ((((hX1.trans X0).trans hX3).trans hX4).trans hX5).trans hX6
        clear ho5 ho6 ho7 ho8 ho6' r0 hX1 X0 hX3 hX4 hX5 hX6
        go_wp2
        go_ret
        exact ⟨rfl, XX⟩
    · rw [if_neg hB7] at qN
      replace qN := qN.symm
      subst qN
      have hb7 : (8 : Int) ≤ (B : Int) + 1 := by omega
      clear qa1 qb1
      · go_wp2_with fail
        clear hmk
        generalize w1.alloc (.cells (ints .u8 O).toArray 5) = w2 at *
        generalize w1.heap.size = g1 at *
        refine (Set_gave (some ⟨g1, 0, none⟩) _ _ O w2 0 (A + 1) M (by decide) M0 M1 HO.out hAB r0.sl0).mono ?_
        rintro e w3 ⟨a5, c5, rfl, ho5, hX3⟩
        rw [HF.out.1] at ho5 ⊢
        dsimp only at ho5 ⊢
        rw [HL.out.1] at ho5 ⊢
        have k5 := own_cap ho5
        go_wp2_with fail
        refine (Set_gave a5 _ c5 Y w3 (A + 1 + D) (B + 1) N (by omega) N0 N1 HL.out.1 hAB (ownsRow_sl ho5)).mono ?_
        rintro e w4 ⟨a6, c6, rfl, ho6, hX4⟩
        rw [HF.out.2.1] at ho6 ⊢
        dsimp only at ho6 ⊢
        rw [HL.out.2.1] at ho6 ⊢
        have k6 := own_cap ho6
        go_wp2_with fail
        refine (Set_gave (some ⟨g1, 0, none⟩) _ _ O w4 (A + 1 + D) (B + 1) N (by omega) N0 N1 HO.out hAB (r0.sl0.ext (hX3.trans hX4))).mono ?_
        rintro e w5 ⟨a7, c7, rfl, ho7, hX5⟩
        rw [HF.out.2.2.1] at ho7 ⊢
        dsimp only at ho7 ⊢
        rw [HL.out.2.2] at ho7 ⊢
        go_wp2_with fail
        refine (Set_gave a7 _ c7 W w5 0 (A + 1) M (by decide) M0 M1 HL.out.2.2 hAB (ownsRow_sl ho7)).mono ?_
        rintro e w6 ⟨a8, c8, rfl, ho8, hX6⟩
        rw [HF.out.2.2.2.1] at ho8 ⊢
        dsimp only at ho8 ⊢
        rw [HL.out.2.1] at ho8 ⊢
        have ho6' := ownsRow_ext ho6 (hX5.trans hX6)
        go_wp2_with fail
        refine (Get_gave a6 _ c6 Z w6 0 (A + 1) (by decide) HL.out.2.1 (by omega) bz (ownsRow_sl ho6') k6.1 k6.2).mono ?_
        rintro e w' ⟨rfl, rfl⟩
        rw [HF.out.2.2.2.2.1]
        dsimp only
        go_wp2_with fail
        refine (Get_gave a6 _ c6 Z w6 (A + 1 + D) (B + 1) (by omega) HL.out.2.1 (by omega) bz (ownsRow_sl ho6') k6.1 k6.2).mono ?_
        rintro e w' ⟨rfl, rfl⟩
        rw [HF.out.2.2.2.2.2]
        dsimp only
        have e1 := run_conv_str (P := Try.prog) w6 22 9 5 Try.underlying22 Try.underlying5 Try.underlying9 c6 (ownsRow_sl ho6') HL.out.2.1
        have e2 := run_conv_str (P := Try.prog) w6 22 9 5 Try.underlying22 Try.underlying5 Try.underlying9 c8 (ownsRow_sl ho8) HL.out.2.1
        have XX := ((((hX1.trans X0).trans hX3).trans hX4).trans hX5).trans hX6
        clear ho5 ho6 ho7 ho8 ho6' r0 hX1 X0 hX3 hX4 hX5 hX6
        go_wp2
        go_ret
        exact ⟨rfl, XX⟩
  · rw [if_neg hA7] at qM
    replace qM := qM.symm
    subst qM
    have ha7 : (8 : Int) ≤ (A : Int) + 1 := by omega
    by_cases hB7 : B < 7
    · rw [if_pos hB7] at qN
      have qb := qb1 hB7
      clear qa1 qb1
      · go_wp2_with fail
        clear hmk
        generalize w1.alloc (.cells (ints .u8 O).toArray 5) = w2 at *
        generalize w1.heap.size = g1 at *
        refine (Set_gave (some ⟨g1, 0, none⟩) _ _ O w2 0 (A + 1) M (by decide) M0 M1 HO.out hAB r0.sl0).mono ?_
        rintro e w3 ⟨a5, c5, rfl, ho5, hX3⟩
        rw [HF.out.1] at ho5 ⊢
        dsimp only at ho5 ⊢
        rw [HL.out.1] at ho5 ⊢
        have k5 := own_cap ho5
        go_wp2_with fail
        refine (Set_gave a5 _ c5 Y w3 (A + 1 + D) (B + 1) N (by omega) N0 N1 HL.out.1 hAB (ownsRow_sl ho5)).mono ?_
        rintro e w4 ⟨a6, c6, rfl, ho6, hX4⟩
        rw [HF.out.2.1] at ho6 ⊢
        dsimp only at ho6 ⊢
        rw [HL.out.2.1] at ho6 ⊢
        have k6 := own_cap ho6
        go_wp2_with fail
        refine (Set_gave (some ⟨g1, 0, none⟩) _ _ O w4 (A + 1 + D) (B + 1) N (by omega) N0 N1 HO.out hAB (r0.sl0.ext (hX3.trans hX4))).mono ?_
        rintro e w5 ⟨a7, c7, rfl, ho7, hX5⟩
        rw [HF.out.2.2.1] at ho7 ⊢
        dsimp only at ho7 ⊢
        rw [HL.out.2.2] at ho7 ⊢
        go_wp2_with fail
        refine (Set_gave a7 _ c7 W w5 0 (A + 1) M (by decide) M0 M1 HL.out.2.2 hAB (ownsRow_sl ho7)).mono ?_
        rintro e w6 ⟨a8, c8, rfl, ho8, hX6⟩
        rw [HF.out.2.2.2.1] at ho8 ⊢
        dsimp only at ho8 ⊢
        rw [HL.out.2.1] at ho8 ⊢
        have ho6' := ownsRow_ext ho6 (hX5.trans hX6)
        go_wp2_with fail
        refine (Get_gave a6 _ c6 Z w6 0 (A + 1) (by decide) HL.out.2.1 (by omega) bz (ownsRow_sl ho6') k6.1 k6.2).mono ?_
        rintro e w' ⟨rfl, rfl⟩
        rw [HF.out.2.2.2.2.1]
        dsimp only
        go_wp2_with fail
        refine (Get_gave a6 _ c6 Z w6 (A + 1 + D) (B + 1) (by omega) HL.out.2.1 (by omega) bz (ownsRow_sl ho6') k6.1 k6.2).mono ?_
        rintro e w' ⟨rfl, rfl⟩
        rw [HF.out.2.2.2.2.2]
        dsimp only
        have e1 := run_conv_str (P := Try.prog) w6 22 9 5 Try.underlying22 Try.underlying5 Try.underlying9 c6 (ownsRow_sl ho6') HL.out.2.1
        have e2 := run_conv_str (P := Try.prog) w6 22 9 5 Try.underlying22 Try.underlying5 Try.underlying9 c8 (ownsRow_sl ho8) HL.out.2.1
        have XX := ((((hX1.trans X0).trans hX3).trans hX4).trans hX5).trans hX6
        clear ho5 ho6 ho7 ho8 ho6' r0 hX1 X0 hX3 hX4 hX5 hX6
        go_wp2
        go_ret
        exact ⟨rfl, XX⟩
    · rw [if_neg hB7] at qN
      replace qN := qN.symm
      subst qN
      have hb7 : (8 : Int) ≤ (B : Int) + 1 := by omega
      clear qa1 qb1
      · go_wp2_with fail
        clear hmk
        generalize w1.alloc (.cells (ints .u8 O).toArray 5) = w2 at *
        generalize w1.heap.size = g1 at *
        refine (Set_gave (some ⟨g1, 0, none⟩) _ _ O w2 0 (A + 1) M (by decide) M0 M1 HO.out hAB r0.sl0).mono ?_
        rintro e w3 ⟨a5, c5, rfl, ho5, hX3⟩
        rw [HF.out.1] at ho5 ⊢
        dsimp only at ho5 ⊢
        rw [HL.out.1] at ho5 ⊢
        have k5 := own_cap ho5
        go_wp2_with fail
        refine (Set_gave a5 _ c5 Y w3 (A + 1 + D) (B + 1) N (by omega) N0 N1 HL.out.1 hAB (ownsRow_sl ho5)).mono ?_
        rintro e w4 ⟨a6, c6, rfl, ho6, hX4⟩
        rw [HF.out.2.1] at ho6 ⊢
        dsimp only at ho6 ⊢
        rw [HL.out.2.1] at ho6 ⊢
        have k6 := own_cap ho6
        go_wp2_with fail
        refine (Set_gave (some ⟨g1, 0, none⟩) _ _ O w4 (A + 1 + D) (B + 1) N (by omega) N0 N1 HO.out hAB (r0.sl0.ext (hX3.trans hX4))).mono ?_
        rintro e w5 ⟨a7, c7, rfl, ho7, hX5⟩
        rw [HF.out.2.2.1] at ho7 ⊢
        dsimp only at ho7 ⊢
        rw [HL.out.2.2] at ho7 ⊢
        go_wp2_with fail
        refine (Set_gave a7 _ c7 W w5 0 (A + 1) M (by decide) M0 M1 HL.out.2.2 hAB (ownsRow_sl ho7)).mono ?_
        rintro e w6 ⟨a8, c8, rfl, ho8, hX6⟩
        rw [HF.out.2.2.2.1] at ho8 ⊢
        dsimp only at ho8 ⊢
        rw [HL.out.2.1] at ho8 ⊢
        have ho6' := ownsRow_ext ho6 (hX5.trans hX6)
        go_wp2_with fail
        refine (Get_gave a6 _ c6 Z w6 0 (A + 1) (by decide) HL.out.2.1 (by omega) bz (ownsRow_sl ho6') k6.1 k6.2).mono ?_
        rintro e w' ⟨rfl, rfl⟩
        rw [HF.out.2.2.2.2.1]
        dsimp only
        go_wp2_with fail
        refine (Get_gave a6 _ c6 Z w6 (A + 1 + D) (B + 1) (by omega) HL.out.2.1 (by omega) bz (ownsRow_sl ho6') k6.1 k6.2).mono ?_
        rintro e w' ⟨rfl, rfl⟩
        rw [HF.out.2.2.2.2.2]
        dsimp only
        have e1 := run_conv_str (P := Try.prog) w6 22 9 5 Try.underlying22 Try.underlying5 Try.underlying9 c6 (ownsRow_sl ho6') HL.out.2.1
        have e2 := run_conv_str (P := Try.prog) w6 22 9 5 Try.underlying22 Try.underlying5 Try.underlying9 c8 (ownsRow_sl ho8) HL.out.2.1
        have XX := ((((hX1.trans X0).trans hX3).trans hX4).trans hX5).trans hX6
        clear ho5 ho6 ho7 ho8 ho6' r0 hX1 X0 hX3 hX4 hX5 hX6
        go_wp2
        go_ret
        exact ⟨rfl, XX⟩
end Go.Proofs.Ytgflpbbdohmhiaa.Field
