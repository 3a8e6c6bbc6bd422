/- The contract of the reference's Group. -/
import Derived.Test.YthhkkjnahiimbaaPlanB
import Derived.LoopTactic
namespace Go.Proofs.Ythhkkjnahiimbaa.Super
open Go.RowKit Words Mem
set_option linter.unusedVariables false
set_option linter.unusedSimpArgs false

set_option maxHeartbeats 1000000 in
theorem rGroup_ok (J I G P n : Int) (w : World) (hn : -9223372036854775808 ≤ n ∧ n ≤ 9223372036854775807) : Calls Try.prog 15 #[geoV J I G P, .int .i64 n] w fun e w' => e = .returned (.tuple #[.int .i64 (groupN J I G P n), .bool (groupB J I G P n)]) ∧ Ext w w' := by
  unfold groupN groupB
  cases h : rightB J I G P
  · go_enter Try.func15, Try.ntmps15
    go_wp2_with (go_at_call 16; refine (rRight_ok _ _ _ _ _).mono ?_; rintro e w' ⟨rfl, hg⟩; have hX := Ext.trans ((Ext.refl w).alloc _) hg)
    go_ret2
    exact ⟨rfl, hX⟩
  · obtain ⟨⟨j0, j1⟩, ⟨i0, i1⟩, _, ⟨g0, g1⟩, p0, p1, gp0, gp1⟩ := right_bd h
    cases h2 : inB n 0 (G * P - 1)
    · have h3 := inB_false h2
      by_cases h4 : n < 0
      · go_enter Try.func15, Try.ntmps15
        go_wp2_with (go_at_call 16; refine (rRight_ok _ _ _ _ _).mono ?_; rintro e w' ⟨rfl, hg⟩; have hX := Ext.trans ((Ext.refl w).alloc _) hg; have hcs := hg.cells)
        go_ret2
        exact ⟨rfl, hX⟩
      · have h5 : G * P ≤ n := by omega
        clear h3
        go_enter Try.func15, Try.ntmps15
        go_wp2_with (go_at_call 16; refine (rRight_ok _ _ _ _ _).mono ?_; rintro e w' ⟨rfl, hg⟩; have hX := Ext.trans ((Ext.refl w).alloc _) hg; have hcs := hg.cells)
        go_ret2
        exact ⟨rfl, hX⟩
    · obtain ⟨n0, n1⟩ := inB_true h2
      go_enter Try.func15, Try.ntmps15
      go_wp2_with (go_at_call 16; refine (rRight_ok _ _ _ _ _).mono ?_; rintro e w' ⟨rfl, hg⟩; have hX := Ext.trans ((Ext.refl w).alloc _) hg; have c3 : w'.cell? ⟨w.heap.size, 3, none⟩ = some (.int .i64 P) := (by rw [hg.cells _ _ (by simp)]; go_simp);  have c2 : w'.cell? ⟨w.heap.size, 2, none⟩ = some (.int .i64 G) := (by rw [hg.cells _ _ (by simp)]; go_simp); clear hg)
      go_loop [1, 6] (fun v u => ∃ m k : Int, v = .int .i64 m ∧ u = .int .i64 k ∧ 0 ≤ m ∧ 0 ≤ k ∧ k ≤ n ∧ m + k * P = n) (fun v _ => (intOf v).toNat)
      case atStart => exact ⟨n, 0, rfl, rfl, n0, by omega, n0, by omega⟩
      case round =>
        obtain ⟨m, k, rfl, rfl, hm, hk, hkn, he⟩ := hrel
        have HE := Lib.hid he; clear he
        have hmn : m ≤ n := by have := Int.mul_nonneg hk (show 0 ≤ P by omega); have := HE.out; omega
        by_cases hlt : m < P
        · go_wp2
          go_ret2
          refine ⟨?_, hX⟩
          have : n / P = k := by
            rw [← HE.out, Int.add_mul_ediv_right _ _ (by omega), Int.ediv_eq_zero_of_lt hm hlt]; omega
          rw [this]; rfl
        · have hk1 : k + 1 ≤ n := by
            have h6 : (k + 1) * 1 ≤ (k + 1) * P := Int.mul_le_mul_of_nonneg_left p0 (by omega)
            have h7 := HE.out
            have h8 := Int.add_mul k 1 P
            omega
          go_wp2
          go_round
          case rel => exact ⟨m - P, k + 1, rfl, rfl, by omega, by omega, hk1, by have h7 := HE.out; rw [Int.add_mul]; omega⟩
          case measure => simp [intOf]; omega
end Go.Proofs.Ythhkkjnahiimbaa.Super
