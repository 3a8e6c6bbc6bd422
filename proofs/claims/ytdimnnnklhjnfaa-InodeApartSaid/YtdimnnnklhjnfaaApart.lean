/- The walk of the law InodeApart. -/
import Derived.Test.YtdimnnnklhjnfaaBase
namespace Go.Proofs.Ytdimnnnklhjnfaa.Apart
open Go.RowKit Words Base

theorem where_inj (a b : Int) (h0 : 0 ≤ a) (h1 : a < 60) (h : a ≠ b) : (whereL a == whereL b && whereA a == whereA b && whereB a == whereB b) = false := by
  simp only [Bool.and_eq_false_iff, beq_eq_false_iff_ne]
  unfold whereL whereA whereB
  repeat' split
  all_goals omega

set_option maxHeartbeats 4000000 in
theorem walk (a0 : Int) (a1 : Int) (w0 : (Lit.int .i64 a0).wf = true) (w1 : (Lit.int .i64 a1).wf = true) (w : World) :
    Calls Try.prog 3 #[.int .i64 a0, .int .i64 a1] w fun e w' => e = .returned (.bool true) ∧ Below w.heap.size w w' := by
  have b0 := bounds_i64 w0
  have b1 := bounds_i64 w1
  clear w0 w1
  obtain ⟨b00, b01⟩ := b0
  obtain ⟨b10, b11⟩ := b1
  have hX := Ext.refl w
  have h3 := eq3
  have kmax : blocks 3840 = 60 := by decide
  by_cases hc : a0 < 0 ∨ 60 ≤ a0
  · have kl : whereL a0 = -1 := by unfold whereL; rw [if_pos hc]
    by_cases h1 : a0 < 0
    · clear hc
      go_enter Try.func3, Try.ntmps3
      go_wp2_with (first | (go_at_call 12; refine (shown_ok _).mono ?_; rintro e w' ⟨rfl, hg⟩; replace hX := Ext.trans (a := w) (by repeat (first | exact hX | apply Ext.alloc)) hg; have hcs := hg.cells; clear hg) | (go_at_call 11; refine (blocks_ok _ (by omega) _).mono ?_; rintro e w' ⟨rfl, rfl⟩) | (go_at_call 10; refine (where_ok _ _).mono ?_; rintro e w' ⟨rfl, hg⟩; replace hX := Ext.trans (a := w) (by repeat (first | exact hX | apply Ext.alloc)) hg; clear hg))
      all_goals (go_ret; exact ⟨rfl, by repeat (first | exact hX | apply Ext.alloc)⟩)
    · have h2 : 60 ≤ a0 := by omega
      clear hc
      by_cases h4 : a0 ≤ 4611686018427387904
      · have k1 : blocks a0 = (a0 - 1) / 64 + 1 := by unfold blocks; rw [if_neg (by omega)]
        have k2 : ((a0 - 1) / 64) * 64 < a0 := by omega
        have k3 : 0 ≤ ((a0 - 1) / 64 + 1) * 64 - a0 := by omega
        go_enter Try.func3, Try.ntmps3
        go_wp2_with (first | (go_at_call 12; refine (shown_ok _).mono ?_; rintro e w' ⟨rfl, hg⟩; replace hX := Ext.trans (a := w) (by repeat (first | exact hX | apply Ext.alloc)) hg; have hcs := hg.cells; clear hg) | (go_at_call 11; refine (blocks_ok _ (by omega) _).mono ?_; rintro e w' ⟨rfl, rfl⟩) | (go_at_call 10; refine (where_ok _ _).mono ?_; rintro e w' ⟨rfl, hg⟩; replace hX := Ext.trans (a := w) (by repeat (first | exact hX | apply Ext.alloc)) hg; clear hg))
        all_goals (go_ret; exact ⟨rfl, by repeat (first | exact hX | apply Ext.alloc)⟩)
      · have k1 : blocks a0 = (a0 - 1) / 64 + 1 := by unfold blocks; rw [if_neg (by omega)]
        go_enter Try.func3, Try.ntmps3
        go_wp2_with (first | (go_at_call 12; refine (shown_ok _).mono ?_; rintro e w' ⟨rfl, hg⟩; replace hX := Ext.trans (a := w) (by repeat (first | exact hX | apply Ext.alloc)) hg; have hcs := hg.cells; clear hg) | (go_at_call 11; refine (blocks_ok _ (by omega) _).mono ?_; rintro e w' ⟨rfl, rfl⟩) | (go_at_call 10; refine (where_ok _ _).mono ?_; rintro e w' ⟨rfl, hg⟩; replace hX := Ext.trans (a := w) (by repeat (first | exact hX | apply Ext.alloc)) hg; clear hg))
        all_goals (go_ret; exact ⟨rfl, by repeat (first | exact hX | apply Ext.alloc)⟩)
  · have hp0 : 0 ≤ a0 := by omega
    have hp1 : a0 < 60 := by omega
    have kl : 0 ≤ whereL a0 := by unfold whereL; repeat' split <;> omega
    clear hc
    by_cases he : a0 = a1
    · subst he
      by_cases h1 : a0 < 1
      · clear b10 b11
        go_enter Try.func3, Try.ntmps3
        go_wp2_with (first | (go_at_call 12; refine (shown_ok _).mono ?_; rintro e w' ⟨rfl, hg⟩; replace hX := Ext.trans (a := w) (by repeat (first | exact hX | apply Ext.alloc)) hg; have hcs := hg.cells; clear hg) | (go_at_call 11; refine (blocks_ok _ (by omega) _).mono ?_; rintro e w' ⟨rfl, rfl⟩) | (go_at_call 10; refine (where_ok _ _).mono ?_; rintro e w' ⟨rfl, hg⟩; replace hX := Ext.trans (a := w) (by repeat (first | exact hX | apply Ext.alloc)) hg; clear hg))
        all_goals (go_ret; exact ⟨rfl, by repeat (first | exact hX | apply Ext.alloc)⟩)
      · have k1 : blocks a0 = (a0 - 1) / 64 + 1 := by unfold blocks; rw [if_neg (by omega)]
        have k2 : ((a0 - 1) / 64) * 64 < a0 := by omega
        have k3 : 0 ≤ ((a0 - 1) / 64 + 1) * 64 - a0 := by omega
        clear b10 b11
        go_enter Try.func3, Try.ntmps3
        go_wp2_with (first | (go_at_call 12; refine (shown_ok _).mono ?_; rintro e w' ⟨rfl, hg⟩; replace hX := Ext.trans (a := w) (by repeat (first | exact hX | apply Ext.alloc)) hg; have hcs := hg.cells; clear hg) | (go_at_call 11; refine (blocks_ok _ (by omega) _).mono ?_; rintro e w' ⟨rfl, rfl⟩) | (go_at_call 10; refine (where_ok _ _).mono ?_; rintro e w' ⟨rfl, hg⟩; replace hX := Ext.trans (a := w) (by repeat (first | exact hX | apply Ext.alloc)) hg; clear hg))
        all_goals (go_ret; exact ⟨rfl, by repeat (first | exact hX | apply Ext.alloc)⟩)
    · have hn := where_inj a0 a1 hp0 hp1 he
      by_cases h1 : a0 < 1
      · go_enter Try.func3, Try.ntmps3
        go_wp2_with (first | (go_at_call 12; refine (shown_ok _).mono ?_; rintro e w' ⟨rfl, hg⟩; replace hX := Ext.trans (a := w) (by repeat (first | exact hX | apply Ext.alloc)) hg; have hcs := hg.cells; clear hg) | (go_at_call 11; refine (blocks_ok _ (by omega) _).mono ?_; rintro e w' ⟨rfl, rfl⟩) | (go_at_call 10; refine (where_ok _ _).mono ?_; rintro e w' ⟨rfl, hg⟩; replace hX := Ext.trans (a := w) (by repeat (first | exact hX | apply Ext.alloc)) hg; clear hg))
        all_goals (go_ret; exact ⟨rfl, by repeat (first | exact hX | apply Ext.alloc)⟩)
      · have k1 : blocks a0 = (a0 - 1) / 64 + 1 := by unfold blocks; rw [if_neg (by omega)]
        have k2 : ((a0 - 1) / 64) * 64 < a0 := by omega
        have k3 : 0 ≤ ((a0 - 1) / 64 + 1) * 64 - a0 := by omega
        go_enter Try.func3, Try.ntmps3
        go_wp2_with (first | (go_at_call 12; refine (shown_ok _).mono ?_; rintro e w' ⟨rfl, hg⟩; replace hX := Ext.trans (a := w) (by repeat (first | exact hX | apply Ext.alloc)) hg; have hcs := hg.cells; clear hg) | (go_at_call 11; refine (blocks_ok _ (by omega) _).mono ?_; rintro e w' ⟨rfl, rfl⟩) | (go_at_call 10; refine (where_ok _ _).mono ?_; rintro e w' ⟨rfl, hg⟩; replace hX := Ext.trans (a := w) (by repeat (first | exact hX | apply Ext.alloc)) hg; clear hg))
        all_goals (go_ret; exact ⟨rfl, by repeat (first | exact hX | apply Ext.alloc)⟩)
end Go.Proofs.Ytdimnnnklhjnfaa.Apart
