/- Contracts of package super: within, Right, Meta, Plan, Group; and the reference's. -/
import Derived.Test.YtnodinancnfoeaaRows
import Derived.Test.YtnodinancnfoeaaMem
import Derived.BigQuiet
import Derived.Deep.QuietTactic
import Derived.Deep.RegionHeld3
import Derived.WalkSpells
import Derived.Lib.Hide
import Derived.IntWalk
namespace Go.Proofs.Ytnodinancnfoeaa.Super
open Go.RowKit Words Mem
set_option linter.unusedVariables false

def inB (n a b : Int) : Bool := decide (a ≤ n) && decide (n ≤ b)
theorem within_ok (n a b : Int) (w : World) : Calls Try.prog 48 #[.int .i64 n, .int .i64 a, .int .i64 b] w fun e w' => e = .returned (.bool (inB n a b)) ∧ w = w' := by
  unfold inB
  by_cases h : a ≤ n
  · go_enter Try.func48, Try.ntmps48
    go_wp2
    go_ret
    exact ⟨by simp [h], rfl⟩
  · go_enter Try.func48, Try.ntmps48
    go_wp2
    go_ret
    exact ⟨by simp; omega, rfl⟩

def rightB (J I G P : Int) : Bool := inB J 3 1000 && (inB I 2 64 && (I % 2 == 0 && (inB G 1 64 && inB P 1 (512 / G))))
abbrev geoV (J I G P : Int) : Value := .agg #[.int .i64 J, .int .i64 I, .int .i64 G, .int .i64 P]

theorem inB_true {n a b : Int} (h : inB n a b = true) : a ≤ n ∧ n ≤ b := by simpa [inB] using h
theorem inB_false {n a b : Int} (h : inB n a b = false) : n < a ∨ b < n := by
  simp only [inB, Bool.and_eq_false_iff, decide_eq_false_iff_not] at h; omega

set_option maxHeartbeats 1000000 in
theorem Right_ok (J I G P : Int) (w : World) : Calls Try.prog 23 #[geoV J I G P] w fun e w' => e = .returned (.bool (rightB J I G P)) ∧ Ext w w' := by
  unfold rightB
  cases h1 : inB J 3 1000
  · go_enter Try.func23, Try.ntmps23
    go_wp2_with (go_at_call 48; refine (within_ok _ _ _ _).mono ?_; rintro e w' ⟨rfl, rfl⟩)
    go_ret
    exact ⟨rfl, by repeat (first | exact Ext.refl _ | apply Ext.drewN | apply Ext.alloc)⟩
  · cases h2 : inB I 2 64
    · go_enter Try.func23, Try.ntmps23
      go_wp2_with (go_at_call 48; refine (within_ok _ _ _ _).mono ?_; rintro e w' ⟨rfl, rfl⟩)
      go_ret
      exact ⟨rfl, by repeat (first | exact Ext.refl _ | apply Ext.drewN | apply Ext.alloc)⟩
    · obtain ⟨hi0, hi1⟩ := inB_true h2
      cases h3 : (I % 2 == 0)
      · go_enter Try.func23, Try.ntmps23
        go_wp2_with (go_at_call 48; refine (within_ok _ _ _ _).mono ?_; rintro e w' ⟨rfl, rfl⟩)
        go_ret
        exact ⟨rfl, by repeat (first | exact Ext.refl _ | apply Ext.drewN | apply Ext.alloc)⟩
      · cases h4 : inB G 1 64
        · go_enter Try.func23, Try.ntmps23
          go_wp2_with (go_at_call 48; refine (within_ok _ _ _ _).mono ?_; rintro e w' ⟨rfl, rfl⟩)
          go_quiet ((go_at_call 48; exact Calls.quiet_of_same ((within_ok _ _ _ _).mono fun _ _ h => ⟨h.1, h.2.symm⟩)))
          go_wp2
          go_ret
          exact ⟨rfl, by repeat (first | exact Ext.refl _ | apply Ext.drewN | apply Ext.alloc)⟩
        · obtain ⟨hg0, hg1⟩ := inB_true h4
          go_enter Try.func23, Try.ntmps23
          go_wp2_with (go_at_call 48; refine (within_ok _ _ _ _).mono ?_; rintro e w' ⟨rfl, rfl⟩)
          have hG0 : ¬ G = 0 := by omega
          have hGd : IntKind.i64.wrap (Int.tdiv 512 G) = 512 / G := by rw [Int.tdiv_eq_ediv_of_nonneg (by decide), IntWalk.i64_in _ (by have := Int.ediv_le_self (a := 512) G (by decide); have := Int.ediv_nonneg (a := 512) (b := G) (by decide) (by omega); omega)]
          go_quiet ((go_at_call 48; exact Calls.quiet_of_same ((within_ok _ _ _ _).mono fun _ _ h => ⟨h.1, h.2.symm⟩)))
          go_wp2
          go_ret
          exact ⟨rfl, by repeat (first | exact Ext.refl _ | apply Ext.drewN | apply Ext.alloc)⟩

def metaN (J I G P : Int) : Int := if rightB J I G P then 3 + I / 2 else 0
theorem right_bd {J I G P : Int} (h : rightB J I G P = true) : (3 ≤ J ∧ J ≤ 1000) ∧ (2 ≤ I ∧ I ≤ 64) ∧ I % 2 = 0 ∧ (1 ≤ G ∧ G ≤ 64) ∧ (1 ≤ P ∧ P ≤ 512 ∧ 1 ≤ G * P ∧ G * P ≤ 512) := by
  simp only [rightB, Bool.and_eq_true, beq_iff_eq] at h
  obtain ⟨h1, h2, h3, h4, h5⟩ := h
  obtain ⟨g0, g1⟩ := inB_true h4
  obtain ⟨p0, p1⟩ := inB_true h5
  refine ⟨inB_true h1, inB_true h2, h3, ⟨g0, g1⟩, p0, ?_, ?_, ?_⟩
  · have := Int.ediv_le_self (a := 512) G (by decide); omega
  · have := Int.mul_le_mul g0 p0 (by decide) (by omega); omega
  · have h6 := Int.mul_le_mul_of_nonneg_left p1 (show 0 ≤ G by omega)
    have h7 := Int.mul_ediv_self_le (x := 512) (k := G) (by omega)
    omega

theorem Meta_ok (J I G P : Int) (w : World) : Calls Try.prog 41 #[geoV J I G P] w fun e w' => e = .returned (.int .i64 (metaN J I G P)) ∧ Ext w w' := by
  unfold metaN
  cases h : rightB J I G P
  · go_enter Try.func41, Try.ntmps41
    go_wp2_with (go_at_call 23; refine (Right_ok _ _ _ _ _).mono ?_; rintro e w' ⟨rfl, hg⟩; have hX := Ext.trans ((Ext.refl w).alloc _) hg)
    go_ret
    exact ⟨rfl, hX⟩
  · obtain ⟨⟨j0, j1⟩, ⟨i0, i1⟩, _⟩ := right_bd h
    go_enter Try.func41, Try.ntmps41
    go_wp2_with (go_at_call 23; refine (Right_ok _ _ _ _ _).mono ?_; rintro e w' ⟨rfl, hg⟩; have hX := Ext.trans ((Ext.refl w).alloc _) hg; have hcs := hg.cells)
    go_ret
    exact ⟨rfl, hX⟩
end Go.Proofs.Ytnodinancnfoeaa.Super
