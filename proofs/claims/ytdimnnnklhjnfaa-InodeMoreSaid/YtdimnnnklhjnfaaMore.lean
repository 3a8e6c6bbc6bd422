/- The walk of the law InodeMore. -/
import Derived.Test.YtdimnnnklhjnfaaBase
namespace Go.Proofs.Ytdimnnnklhjnfaa.More
open Go.RowKit Words Base

theorem walk (a0 : Int) (a1 : Int) (w0 : (Lit.int .u64 a0).wf = true) (w1 : (Lit.int .u64 a1).wf = true) (w : World) :
    Calls Try.prog 4 #[.int .u64 a0, .int .u64 a1] w fun e w' => e = .returned (.bool true) ∧ Below w.heap.size w w' := by
  have b0 := bounds_u64 w0
  have b1 := bounds_u64 w1
  clear w0 w1
  obtain ⟨b00, b01⟩ := b0
  obtain ⟨b10, b11⟩ := b1
  have hX := Ext.refl w
  go_enter Try.func4, Try.ntmps4
  go_wp2_with fail
  have hm0 : 0 ≤ a0 % 1099511627776 := by omega
  have hm1 : a0 % 1099511627776 < 1099511627776 := by omega
  have hn0 : 0 ≤ a1 % 1099511627776 := by omega
  have hn1 : a1 % 1099511627776 < 1099511627776 := by omega
  generalize a0 % 1099511627776 = m at *
  generalize a1 % 1099511627776 = n at *
  have k1 : blocks (m + 64) = blocks m + 1 := by unfold blocks; split <;> split <;> omega
  have k2 : blocks (-m) = 0 := by unfold blocks; split <;> omega
  have k3 : 0 ≤ blocks m := by unfold blocks; split <;> omega
  have k4 : blocks m ≤ 1099511627776 := by unfold blocks; split <;> omega
  by_cases hmn : n < m
  · go_wp2_with (first | (go_at_call 12; refine (shown_ok _).mono ?_; rintro e w' ⟨rfl, hg⟩; replace hX := hX.trans hg) | (go_at_call 11; refine (blocks_ok _ (by omega) _).mono ?_; rintro e w' ⟨rfl, rfl⟩))
    all_goals (go_ret; exact ⟨rfl, hX⟩)
  · have k5 : blocks m ≤ blocks n := by unfold blocks; split <;> split <;> omega
    go_wp2_with (first | (go_at_call 12; refine (shown_ok _).mono ?_; rintro e w' ⟨rfl, hg⟩; replace hX := hX.trans hg) | (go_at_call 11; refine (blocks_ok _ (by omega) _).mono ?_; rintro e w' ⟨rfl, rfl⟩))
    all_goals (go_ret; exact ⟨rfl, hX⟩)
end Go.Proofs.Ytdimnnnklhjnfaa.More
