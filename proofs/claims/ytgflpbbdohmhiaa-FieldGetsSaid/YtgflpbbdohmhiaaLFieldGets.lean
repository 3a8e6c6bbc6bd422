/- The walk of the law FieldGets. -/
import Derived.Test.YtgflpbbdohmhiaaScr
import Derived.Test.YtgflpbbdohmhiaaShown01
namespace Go.Proofs.Ytgflpbbdohmhiaa.Field
open Go.RowKit Words Mem Plain Ops
set_option linter.unusedVariables false
set_option linter.unusedSimpArgs false

set_option maxHeartbeats 2000000 in
theorem walk_FieldGets (a0 : Option Addr) (len0 cap0 : Nat) (z0 : List Int) (a1 : Int) (a2 : Int) (a3 : Int) (w : World) (w0 : RowIn .u8 w a0 len0 cap0 z0) (w1 : (Lit.int .i64 a1).wf = true) (w2 : (Lit.int .i64 a2).wf = true) (w3 : (Lit.int .u64 a3).wf = true) :
    Calls Try.prog 3 #[.slice a0 len0 cap0, .int .i64 a1, .int .i64 a2, .int .u64 a3] w fun e w' => e = .returned (.bool true) ∧ Below w.heap.size w w' := by
  obtain ⟨l, hl, hb, hs, hlc, hc, hnil⟩ := bytesIn w0
  have b1 := bounds_i64 w1
  have b3 := bounds_u64 w3
  clear w0 w1 w2 w3
  have hl' : (l.take 5000).length = min len0 5000 := by rw [List.length_take]; omega
  have hb' : isBytes (l.take 5000) := isBytes_take hb _
  go_enter Try.func3, Try.ntmps3
  go_wp2_with fail
  refine (shown_ok w).mono ?_
  rintro e w1 ⟨rfl, hX1⟩
  go_wp2_with fail
  refine (few_ok a0 len0 cap0 l w1 hl (by omega) hlc (hs.ext hX1)).mono ?_
  rintro e w' ⟨⟨rfl, hs1⟩, rfl⟩
  have hs' : Sl w a0 (ints .u8 (l.take 5000)) := by have := hs.take 5000; rwa [ints_take] at this
  have hn : min len0 5000 ≤ 5000 := Nat.min_le_right _ _
  have hnc : min len0 5000 ≤ cap0 := by omega
  generalize l.take 5000 = X at *
  generalize min len0 5000 = n at *
  clear hs hl hb hnil hlc
  have e0 := run_conv_str (P := Try.prog) w1 22 9 5 Try.underlying22 Try.underlying5 Try.underlying9 cap0 hs1 hl'
  go_wp2_with fail
  refine (Get_gave a0 n cap0 X w1 a1 a2 b1.1 hl' (by omega) hb' hs1 hnc hc).mono ?_
  rintro e w' ⟨rfl, rfl⟩
  go_wp2_with fail
  refine (rGet_gave a0 n cap0 X w1 a1 a2 b1.1 hl' (by omega) hb' hs1).mono ?_
  rintro e w' ⟨rfl, rfl⟩
  generalize getR X a1 a2 = G at *
  go_wp2_with fail
  refine (Set_gave a0 n cap0 X w1 a1 a2 a3 b1.1 b3.1 (by omega) hl' (by omega) hs1).mono ?_
  rintro e w2 ⟨a4, c4, rfl, ho4, hX2⟩
  go_wp2_with fail
  refine (rSet_gave a0 n cap0 X w2 a1 a2 a3 b1.1 b3.1 (by omega) hl' (by omega) (hs1.ext hX2) hnc hc).mono ?_
  rintro e w3 ⟨a5, c5, rfl, ho5, hX3⟩
  generalize setR X a1 a2 a3 = R at *
  have e1 := run_conv_str (P := Try.prog) w3 22 9 5 Try.underlying22 Try.underlying5 Try.underlying9 c4 (ownsRow_sl (ownsRow_ext ho4 hX3)) rfl
  have e2 := run_conv_str (P := Try.prog) w3 22 9 5 Try.underlying22 Try.underlying5 Try.underlying9 c5 (ownsRow_sl ho5) rfl
  have hscr : Scr w 5 .u8 a4 R.1.length w3 := (Scr.of ho4 (hX1.trans hX2) hX1).later hX3
  have cb := own_cap ho4
  clear ho4 ho5 hX2 hX3 hs1
  have hm : R.1.length ≤ 9223372036854775807 := by omega
  go_wp2_with fail
  clear e0 e1 e2
  generalize R.1.length = m at *
  go_loopw [69] (fun v wr => ∃ k : Nat, k ≤ m ∧ v = .int .i64 k ∧ Scr w 5 .u8 a4 m wr) (fun v _ => m - (intOf v).toNat)
  case atStart => exact ⟨0, by omega, rfl, hscr⟩
  case round =>
    obtain ⟨k, hk, rfl, hsc⟩ := hrel
    by_cases hlt : k < m
    · obtain ⟨g, x, rfl, hcell, hfr, hnext⟩ := hsc.at hlt
      have HN := Lib.hid hnext
      clear hnext hscr hsc
      go_wp2
      go_roundw
      case rel => exact ⟨k + 1, hlt, by go_num, HN.out _⟩
      case measure => simp [intOf]; omega
    · have : k = m := by omega
      subst this
      have e0 := run_conv_str (P := Try.prog) wr 22 9 5 Try.underlying22 Try.underlying5 Try.underlying9 cap0 (hs'.ext hsc.ext) hl'
      go_wp2
      go_ret
      exact ⟨rfl, hsc.ext⟩
end Go.Proofs.Ytgflpbbdohmhiaa.Field
