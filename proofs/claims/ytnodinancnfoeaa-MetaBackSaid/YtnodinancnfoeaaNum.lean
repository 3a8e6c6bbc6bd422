/- The contract of the reference's Num. -/
import Derived.Test.YtnodinancnfoeaaField
import Derived.Lib.AppendZeros
import Derived.OwnWalk
namespace Go.Proofs.Ytnodinancnfoeaa.Field
open Go.RowKit Words Mem Plain Ops
set_option linter.unusedVariables false
set_option linter.unusedSimpArgs false

/-- Bytes of the call's own. -/
def OwnB (w : World) (L : List Int) (e : Ending) (w' : World) : Prop :=
  ∃ a cap, e = .returned (.slice a L.length cap) ∧ w'.ownsRow w.heap.size 5 1 (.slice a L.length cap) L.length (ints .u8 L) ∧ Ext w w'

theorem div_pow_step (x : Int) (k : Nat) : x / 256 ^ k / 256 = x / 256 ^ (k + 1) := by
  rw [Int.pow_succ, ← Int.ediv_ediv_of_nonneg (Int.le_of_lt (Int.pow_pos (by decide)))]

set_option maxHeartbeats 1000000 in
theorem rNum_ok (x : Int) (s : Nat) (w : World) (h0 : 0 ≤ x) (h1 : x < 18446744073709551616) (hs : s ≤ 8) :
    Calls Try.prog 51 #[.int .u64 x, .int .i64 s] w (OwnB w (bytesOf s x)) := by
  go_enter Try.func51, Try.ntmps51
  go_wp2
  go_loopw [0, 5, 6] (fun y u v wr => ∃ (k c : Nat) (ao : Option Addr), k ≤ s ∧ v = .int .i64 k ∧ y = .int .u64 (x / 256 ^ k) ∧ u = .slice ao k c ∧ wr.ownsRow w.heap.size 5 1 (.slice ao k c) k (ints .u8 (bytesOf k x)) ∧ Ext w wr) (fun _ _ v _ => s - (intOf v).toNat)
  case atStart => exact ⟨0, 0, none, by omega, rfl, by simp, rfl, ownsRow_nil _ _ _, Ext.refl _⟩
  case round =>
    obtain ⟨k, c, ao, hk, rfl, rfl, rfl, hown, hX⟩ := hrel
    by_cases hlt : k < s
    · have hst := div_pow_step x k
      have hbs : bytesOf (k + 1) x = bytesOf k x ++ [x / 256 ^ k % 256] := bytesOf_succ k x
      have HS := Lib.hid hst; have HB := Lib.hid hbs; clear hst hbs
      have hp : (0 : Int) < 256 ^ k := Int.pow_pos (by decide)
      have y0 : 0 ≤ x / 256 ^ k := Int.ediv_nonneg h0 (Int.le_of_lt hp)
      have y1 : x / 256 ^ k ≤ x := Int.ediv_le_self _ h0
      clear hp
      generalize x / 256 ^ k = y at *
      obtain ⟨wo, rfl⟩ : ∃ wo : World, wo = wr := ⟨_, rfl⟩
      obtain ⟨a', c', w2, hrun, hown', hext⟩ := run_append_one (P := Try.prog) wo w.heap.size 26 26 5 .u8 1 Try.underlying26 info8 hown (y % 256) (by omega) (by omega) hX.size
      have hX' := hext w hX (Nat.le_refl _)
      clear hext hown
      go_wp2_with (at_builtin; refine Lib.wpList_append_run _ rfl _ _ _ _ rfl _ _ rfl rfl _ _ hrun ?_)
      go_roundw
      case rel => exact ⟨k + 1, c', a', hlt, by go_num, by rw [← HS.out], rfl, by rw [HB.out]; exact hown', hX'⟩
      case measure => simp [intOf]; omega
    · have : k = s := by omega
      subst this
      go_wp2
      go_ret
      exact ⟨ao, c, by rw [length_bytesOf]; rfl, by rw [length_bytesOf]; exact hown, hX⟩
end Go.Proofs.Ytnodinancnfoeaa.Field
