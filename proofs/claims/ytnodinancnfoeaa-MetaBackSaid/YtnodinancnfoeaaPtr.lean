/- Contracts: inode.pointer, moatref11.pointer, moatref11.two (cut from set 11). -/
import Derived.Test.YtnodinancnfoeaaLayP
import Derived.Test.YtnodinancnfoeaaNum
import Derived.Test.YtnodinancnfoeaaTakeP
import Derived.LoopTactic
namespace Go.Proofs.Ytnodinancnfoeaa.Ino
open Go.RowKit Words Mem Plain Ops
open Go.Proofs.Ytnodinancnfoeaa.Field
set_option linter.ambiguousOpen false
set_option linter.unusedVariables false
set_option linter.unusedSimpArgs false

def ptrB (x : Int) : Bool := decide (0 ≤ x) && decide (x ≤ 512)
theorem ptrB_true {x : Int} (h : ptrB x = true) : 0 ≤ x ∧ x ≤ 512 := by simpa [ptrB] using h
theorem ptrB_false {x : Int} (h : ptrB x = false) : x < 0 ∨ 512 < x := by
  simp only [ptrB, Bool.and_eq_false_iff, decide_eq_false_iff_not] at h; omega
theorem pointer_ok (x : Int) (w : World) : Calls Try.prog 53 #[.int .i64 x] w fun e w' => e = .returned (.bool (ptrB x)) ∧ w = w' := by
  unfold ptrB
  by_cases h : 0 ≤ x
  · go_enter Try.func53, Try.ntmps53
    go_wp2
    go_ret
    exact ⟨by simp [h], rfl⟩
  · go_enter Try.func53, Try.ntmps53
    go_wp2
    go_ret
    exact ⟨by simp; omega, rfl⟩
theorem rpointer_ok (x : Int) (w : World) : Calls Try.prog 56 #[.int .i64 x] w fun e w' => e = .returned (.bool (ptrB x)) ∧ w = w' := by
  unfold ptrB
  by_cases h : 0 ≤ x
  · go_enter Try.func56, Try.ntmps56
    go_wp2
    go_ret
    exact ⟨by simp [h], rfl⟩
  · go_enter Try.func56, Try.ntmps56
    go_wp2
    go_ret
    exact ⟨by simp; omega, rfl⟩

theorem fits2 {x : Int} (h : 0 ≤ x) (h' : x < 65536) : fitsB x 2 = true := by unfold fitsB; rw [p2]; simpa using h'

/-- Numbers of two bytes each, by the reference. -/
theorem two_ok (a : Option Addr) (n cap : Nat) (l : List Int) (w : World) (hl : l.length = n) (hn : n ≤ 1000000) (hs : Sl w a (ints .i64 l)) (hu : ∀ x ∈ l, 0 ≤ x ∧ x ≤ 9223372036854775807) :
    Calls Try.prog 52 #[.slice a n cap] w (OwnB w (layed 2 l)) := by
  have hs0 := hs
  have HS := Lib.hid hs; have HL := Lib.hid hl; have HU := Lib.hid hu
  clear hs hl hu hs0
  go_enter Try.func52, Try.ntmps52
  go_wp2_with fail
  go_loopw [3, 4] (fun u v wr => ∃ (k m c : Nat) (ao : Option Addr), k ≤ n ∧ m = 2 * k ∧ v = .int .i64 k ∧ u = .slice ao m c ∧ wr.ownsRow w.heap.size 5 1 (.slice ao m c) m (ints .u8 (layed 2 (l.take k))) ∧ Ext w wr) (fun _ v _ => n - (intOf v).toNat)
  case atStart => exact ⟨0, 0, 0, none, by omega, rfl, rfl, rfl, ownsRow_nil _ _ _, Ext.refl _⟩
  case round =>
    obtain ⟨k, m, c, ao, hk, hm, rfl, rfl, hown, hX⟩ := hrel
    have HM := Lib.hid hm; have hm2 : m ≤ 2 * k := by omega
    clear hm
    by_cases hlt : k < n
    · have hlk : k < l.length := by rw [HL.out]; exact hlt
      obtain ⟨bb, oo, rfl, hc⟩ := (HS.out.ext hX).ints (by omega)
      have hcell := hc k hlk
      have hts : Hid (l.take (k + 1) = l.take k ++ [l[k]]) := List.take_succ_eq_append_getElem hlk
      obtain ⟨x0, x1⟩ := HU.out l[k] (List.getElem_mem hlk)
      generalize l[k] = x at *
      clear hlk hc
      go_wp2_with fail
      have k0 : Calls Try.prog 51 #[.int .u64 x, .int .i64 2] wr _ := rNum_ok x 2 wr x0 (by omega) (by decide)
      refine k0.mono ?_
      clear k0
      rintro e w3 ⟨a3, c3, rfl, hown3, hX3⟩
      rw [length_bytesOf] at hown3
      rw [length_bytesOf]
      have hown2' := ownsRow_ext hown hX3
      have X3 := hX.trans hX3
      obtain ⟨a4, c4, w4, hrun4, hown4, hext4⟩ := run_append_sl (P := Try.prog) w3 w.heap.size 26 26 5 (.int .u8 0) 1 Try.underlying26 info8 rfl hown2' (m := 2) c3 (by rw [ints_length, length_bytesOf]) (ownsRow_sl hown3) (own_nil hown3) (ints_oneCell' _ _) (by omega) (by omega) X3.size
      have X4 := hext4 w X3 (Nat.le_refl _)
      rw [← ints_append, ← layed_snoc, ← hts.out] at hown4
      clear hext4 hown3 hown hown2'
      go_wp2_with (at_builtin; refine Lib.wpList_append_run _ rfl _ _ _ _ rfl _ _ rfl rfl _ _ hrun4 ?_)
      go_roundw
      case rel => exact ⟨k + 1, m + 2, c4, a4, hlt, by have := HM.out; omega, by go_num, rfl, hown4, X4⟩
      case measure => simp [intOf]; omega
    · have : k = n := by omega
      subst this
      have htk : Hid (l.take k = l) := List.take_of_length_le (by rw [HL.out]; exact Nat.le_refl _)
      rw [htk.out] at hown
      have hlen : Hid ((layed 2 l).length = m) := by show (layed 2 l).length = m; rw [length_layed, HL.out, HM.out]
      go_wp2_with fail
      go_ret
      exact ⟨ao, c, by rw [hlen.out]; rfl, by rw [hlen.out]; exact hown, hX⟩
end Go.Proofs.Ytnodinancnfoeaa.Ino
