/- The walks of the laws FieldFills and FieldTakes. -/
import Derived.Test.YtgflpbbdohmhiaaLFieldLays
import Derived.Test.YtgflpbbdohmhiaaSame64
namespace Go.Proofs.Ytgflpbbdohmhiaa.Field
open Go.RowKit Words Mem Plain Ops
set_option linter.unusedVariables false
set_option linter.unusedSimpArgs false

set_option maxHeartbeats 1000000 in
theorem walk_FieldFills (a0 : Option Addr) (len0 cap0 : Nat) (z0 : List Int) (a1 : Int) (w : World) (w0 : RowIn .u8 w a0 len0 cap0 z0) (w1 : (Lit.int .i64 a1).wf = true) :
    Calls Try.prog 7 #[.slice a0 len0 cap0, .int .i64 a1] w fun e w' => e = .returned (.bool true) ∧ Below w.heap.size w w' := by
  obtain ⟨l, hl, hb, hs, hlc, hc, hnil⟩ := bytesIn w0
  have ha := bounds_i64 w1
  clear w1 w0
  have hl' : (l.take 5000).length = min len0 5000 := by rw [List.length_take]; omega
  have hb' : isBytes (l.take 5000) := isBytes_take hb _
  have hnil' : a0 = none → min len0 5000 = 0 ∧ cap0 = 0 := fun e => by have := hnil e; omega
  go_enter Try.func7, Try.ntmps7
  go_wp2_with fail
  refine (few_ok a0 len0 cap0 l w hl (by omega) hlc hs).mono ?_
  rintro e w' ⟨⟨rfl, hs'⟩, rfl⟩
  have hn : min len0 5000 ≤ 5000 := Nat.min_le_right _ _
  have few2 := fun v (hv : Ext w v) => few_ok a0 len0 cap0 l v hl (by omega) hlc (hs.ext hv)
  have F2 := Lib.hid few2
  generalize l.take 5000 = X at *
  generalize min len0 5000 = n at *
  clear few2 hs hl hb hnil
  go_wp2_with fail
  refine (Fill_gave a0 n cap0 X w a1 ha.1 ha.2 hl' (by omega) hs').mono ?_
  rintro e w1 ⟨a2, c2, rfl, ho2, hX2⟩
  go_wp2_with fail
  refine (F2.out w1 hX2).mono ?_
  rintro e w' ⟨⟨rfl, _⟩, rfl⟩
  go_wp2_with fail
  refine (rFill_gave a0 n cap0 X w1 a1 ha.1 ha.2 hl' (by omega) (hs'.ext hX2) hnil').mono ?_
  rintro e w2 ⟨a3, c3, rfl, ho3, hX3⟩
  generalize fillR X a1 = R at *
  go_wp2_with fail
  refine (shown_ok w2).mono ?_
  rintro e w3 ⟨rfl, hX4⟩
  have e1 := run_conv_str (P := Try.prog) w3 22 9 5 Try.underlying22 Try.underlying5 Try.underlying9 c2 (ownsRow_sl (ownsRow_ext ho2 (hX3.trans hX4))) rfl
  have e2 := run_conv_str (P := Try.prog) w3 22 9 5 Try.underlying22 Try.underlying5 Try.underlying9 c3 (ownsRow_sl (ownsRow_ext ho3 hX4)) rfl
  clear ho2 ho3 hs' hb' hl' hnil' F2
  go_wp2
  go_ret
  exact ⟨rfl, (hX2.trans hX3).trans hX4⟩

set_option maxHeartbeats 1000000 in
theorem walk_FieldTakes (a0 : Int) (a1 : Option Addr) (len1 cap1 : Nat) (z1 : List Int) (w : World) (w0 : (Lit.int .i64 a0).wf = true) (w1 : RowIn .u8 w a1 len1 cap1 z1) :
    Calls Try.prog 8 #[.int .i64 a0, .slice a1 len1 cap1] w fun e w' => e = .returned (.bool true) ∧ Below w.heap.size w w' := by
  obtain ⟨l, hl, hb, hs, hlc, hc, hnil⟩ := bytesIn w1
  clear w1 w0
  have hl' : (l.take 5000).length = min len1 5000 := by rw [List.length_take]; omega
  have hb' : isBytes (l.take 5000) := isBytes_take hb _
  go_enter Try.func8, Try.ntmps8
  go_wp2_with fail
  refine (few_ok a1 len1 cap1 l w hl (by omega) hlc hs).mono ?_
  rintro e w' ⟨⟨rfl, hs'⟩, rfl⟩
  have hn : min len1 5000 ≤ 5000 := Nat.min_le_right _ _
  have hnc : min len1 5000 ≤ cap1 := by omega
  have few2 := fun v (hv : Ext w v) => few_ok a1 len1 cap1 l v hl (by omega) hlc (hs.ext hv)
  have F2 := Lib.hid few2
  generalize l.take 5000 = X at *
  generalize min len1 5000 = n at *
  clear few2 hs hl hb hnil
  go_wp2_with fail
  refine (Take_gave a1 n cap1 X w a0 hl' (by omega) hb' hs' hnc hc).mono ?_
  rintro e w1 ⟨a2, c2, rfl, ho2, hX2⟩
  go_wp2_with fail
  refine (F2.out w1 hX2).mono ?_
  rintro e w' ⟨⟨rfl, _⟩, rfl⟩
  go_wp2_with fail
  refine (rTake_gave a1 n cap1 X w1 a0 hl' (by omega) hb' (hs'.ext hX2)).mono ?_
  rintro e w2 ⟨a3, c3, rfl, ho3, hX3⟩
  generalize takeR a0 X = R at *
  go_wp2_with fail
  refine (shown_ok w2).mono ?_
  rintro e w3 ⟨rfl, hX4⟩
  have s1 := ownsRow_sl (ownsRow_ext ho2 (hX3.trans hX4))
  have s2 := ownsRow_sl (ownsRow_ext ho3 hX4)
  have c1 := own_cap ho2
  clear ho2 ho3 hs' hb' hl' F2
  go_wp2_with fail
  refine (Same64.Same_ok a2 a3 R.1.length R.1.length c2 c3 R.1 R.1 w3 rfl rfl (by omega) s1 s2).mono ?_
  rintro e w4 ⟨rfl, hX5⟩
  have hq : Same64.sameB R.1 R.1 = true := by simp [Same64.sameB]
  rw [hq]
  go_wp2
  go_ret
  exact ⟨rfl, ((hX2.trans hX3).trans hX4).trans hX5⟩
end Go.Proofs.Ytgflpbbdohmhiaa.Field
