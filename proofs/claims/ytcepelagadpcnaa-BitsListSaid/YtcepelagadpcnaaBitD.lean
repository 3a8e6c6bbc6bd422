/- Contracts of bits.List (both) and SameInts. -/
import Derived.Test.YtcepelagadpcnaaBitC
import Derived.Lib.AppendZeros
import Derived.OwnWalk
namespace Go.Proofs.Ytcepelagadpcnaa.Bit
open Go.RowKit Words Mem Plain Ops
set_option linter.unusedVariables false
set_option linter.unusedSimpArgs false

/-- A slice of numbers of the call's own. -/
def OwnInts (w : World) (L : List Int) (e : Ending) (w' : World) : Prop :=
  ∃ a m cap, e = .returned (.slice a m cap) ∧ w'.ownsRow w.heap.size 3 1 (.slice a m cap) m (ints .i64 L) ∧ Ext w w'

def listTo (xs : List Int) (m : Nat) : List Int := ((List.range m).filter (bitN xs)).map fun (k : Nat) => (k : Int)
def listN (xs : List Int) : List Int := listTo xs (8 * xs.length)
theorem listTo_succ (xs : List Int) (m : Nat) : listTo xs (m + 1) = listTo xs m ++ if bitN xs m then [(m : Int)] else [] := by
  unfold listTo
  rw [List.range_succ, List.filter_append, List.map_append]
  cases h : bitN xs m <;> simp [h]
theorem listTo_len (xs : List Int) (m : Nat) : (listTo xs m).length ≤ m := by
  unfold listTo
  have := List.length_filter_le (bitN xs) (List.range m)
  simpa using this
theorem infoI : (Try.prog.info? 3).map (fun i => (i.zero, i.size, i.bytes)) = some (some (.int .i64 0), 1, 8) := by kernel_rfl

set_option maxHeartbeats 1000000 in
theorem List_ok (a : Option Addr) (n cap : Nat) (xs : List Int) (w : World) (hl : xs.length = n) (hn : n ≤ 1048576) (hb : isBytes xs) (hs : Sl w a (ints .u8 xs)) : Calls Try.prog 20 #[.slice a n cap] w (OwnInts w (listN xs)) := by
  have HL := Lib.hid hl
  go_enter Try.func20, Try.ntmps20
  clear hl
  go_wp2
  go_loopw [3, 8] (fun u v wr => ∃ (k m c : Nat) (ao : Option Addr), k ≤ 8 * n ∧ v = .int .i64 k ∧ u = .slice ao m c ∧ wr.ownsRow w.heap.size 3 1 (.slice ao m c) m (ints .i64 (listTo xs k)) ∧ Ext w wr) (fun _ v _ => 8 * n - (intOf v).toNat)
  case atStart => exact ⟨0, 0, 0, none, by omega, rfl, rfl, ownsRow_nil _ _ _, Ext.refl _⟩
  case round =>
    obtain ⟨k, m, c, ao, hk, rfl, rfl, hown, hX⟩ := hrel
    have hm : m ≤ k := by have := ownsRow_len hown; rw [ints_length] at this; have := listTo_len xs k; omega
    by_cases hlt : k < 8 * n
    · have h8 : k < 8 * xs.length := by rw [HL.out]; exact hlt
      have hst := listTo_succ xs k
      rw [← bitB_nat xs k h8] at hst
      clear h8
      have HST := Lib.hid hst; clear hst
      have hs' := hs.ext hX
      cases h3 : bitB xs k
      · go_wp2_with (go_at_call 13; refine (Has_ok _ _ _ xs _ _ HL.out (by omega) hb hs').mono ?_; rintro e w' ⟨rfl, rfl⟩)
        go_roundw
        case rel => exact ⟨k + 1, m, c, ao, hlt, by go_num, rfl, by rw [HST.out, h3]; simpa using hown, hX⟩
        case measure => simp [intOf]; omega
      · obtain ⟨a', c', w2, hrun, hown', hext⟩ := run_append_one (P := Try.prog) wr w.heap.size 35 35 3 .i64 8 Try.underlying35 infoI hown (k : Int) (by omega) (by omega) hX.size
        have hX' := hext w hX (Nat.le_refl _)
        clear hext hown
        go_wp2_with (first | (go_at_call 13; refine (Has_ok _ _ _ xs _ _ HL.out (by omega) hb hs').mono ?_; rintro e w' ⟨rfl, rfl⟩) | (at_builtin; refine Lib.wpList_append_run _ rfl _ _ _ _ rfl _ _ rfl rfl _ _ hrun ?_))
        go_roundw
        case rel => exact ⟨k + 1, m + 1, c', a', hlt, by go_num, rfl, by rw [HST.out, h3]; simpa using hown', hX'⟩
        case measure => simp [intOf]; omega
    · have : k = 8 * n := by omega
      subst this
      go_wp2
      go_ret
      exact ⟨ao, m, c, rfl, by unfold listN; rw [HL.out]; exact hown, hX⟩

set_option maxHeartbeats 1000000 in
theorem rList_ok (a : Option Addr) (n cap : Nat) (xs : List Int) (w : World) (hl : xs.length = n) (hn : n ≤ 1048576) (hb : isBytes xs) (hs : Sl w a (ints .u8 xs)) : Calls Try.prog 21 #[.slice a n cap] w (OwnInts w (listN xs)) := by
  have HL := Lib.hid hl
  go_enter Try.func21, Try.ntmps21
  clear hl
  go_wp2
  go_loopw [3, 4] (fun u v wr => ∃ (k m c : Nat) (ao : Option Addr), k ≤ 8 * n ∧ v = .int .i64 k ∧ u = .slice ao m c ∧ wr.ownsRow w.heap.size 3 1 (.slice ao m c) m (ints .i64 (listTo xs k)) ∧ Ext w wr) (fun _ v _ => 8 * n - (intOf v).toNat)
  case atStart => exact ⟨0, 0, 0, none, by omega, rfl, rfl, ownsRow_nil _ _ _, Ext.refl _⟩
  case round =>
    obtain ⟨k, m, c, ao, hk, rfl, rfl, hown, hX⟩ := hrel
    have hm : m ≤ k := by have := ownsRow_len hown; rw [ints_length] at this; have := listTo_len xs k; omega
    by_cases hlt : k < 8 * n
    · have h8 : k < 8 * xs.length := by rw [HL.out]; exact hlt
      have hst := listTo_succ xs k
      rw [← bitB_nat xs k h8] at hst
      clear h8
      have HST := Lib.hid hst; clear hst
      have hs' := hs.ext hX
      cases h3 : bitB xs k
      · go_wp2_with (go_at_call 14; refine (rHas_ok _ _ _ xs _ _ HL.out (by omega) hb hs').mono ?_; rintro e w' ⟨rfl, rfl⟩)
        go_roundw
        case rel => exact ⟨k + 1, m, c, ao, hlt, by go_num, rfl, by rw [HST.out, h3]; simpa using hown, hX⟩
        case measure => simp [intOf]; omega
      · obtain ⟨a', c', w2, hrun, hown', hext⟩ := run_append_one (P := Try.prog) wr w.heap.size 35 35 3 .i64 8 Try.underlying35 infoI hown (k : Int) (by omega) (by omega) hX.size
        have hX' := hext w hX (Nat.le_refl _)
        clear hext hown
        go_wp2_with (first | (go_at_call 14; refine (rHas_ok _ _ _ xs _ _ HL.out (by omega) hb hs').mono ?_; rintro e w' ⟨rfl, rfl⟩) | (at_builtin; refine Lib.wpList_append_run _ rfl _ _ _ _ rfl _ _ rfl rfl _ _ hrun ?_))
        go_roundw
        case rel => exact ⟨k + 1, m + 1, c', a', hlt, by go_num, rfl, by rw [HST.out, h3]; simpa using hown', hX'⟩
        case measure => simp [intOf]; omega
    · have : k = 8 * n := by omega
      subst this
      go_wp2
      go_ret
      exact ⟨ao, m, c, rfl, by unfold listN; rw [HL.out]; exact hown, hX⟩
end Go.Proofs.Ytcepelagadpcnaa.Bit
