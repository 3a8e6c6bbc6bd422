/- The walk of the law FieldLays. -/
import Derived.Test.YtgflpbbdohmhiaaGave
import Derived.Test.YtgflpbbdohmhiaaShown01
namespace Go.Proofs.Ytgflpbbdohmhiaa.Field
open Go.RowKit Words Mem Plain Ops
set_option linter.unusedVariables false
set_option linter.unusedSimpArgs false

theorem size64 : (Try.prog.info? 23).map (·.size) = some 1 := by kernel_rfl

set_option maxHeartbeats 1000000 in
theorem walk_FieldLays (a0 : Int) (a1 : Option Addr) (len1 cap1 : Nat) (z1 : List Int) (w : World) (w0 : (Lit.int .i64 a0).wf = true) (w1 : RowIn .u64 w a1 len1 cap1 z1) :
    Calls Try.prog 4 #[.int .i64 a0, .slice a1 len1 cap1] w fun e w' => e = .returned (.bool true) ∧ Below w.heap.size w w' := by
  obtain ⟨l, hl, hu, hs, hlc, hc, hnil⟩ := u64sIn w1
  clear w1 w0 hnil
  have hs' := hs.take 5000
  rw [ints_take] at hs'
  have hu' : ∀ x ∈ l.take 5000, 0 ≤ x ∧ x < 18446744073709551616 := fun x hx => hu x (List.mem_of_mem_take hx)
  obtain ⟨n, hn⟩ : ∃ n, n = min len1 5000 := ⟨_, rfl⟩
  have hl' : (l.take 5000).length = n := by rw [List.length_take]; omega
  have hmin : (if (5000 : Int) < (len1 : Int) then 5000 else (len1 : Int)) = n := by split <;> omega
  have hnc : n ≤ cap1 := by omega
  have hsl : ∀ v : World, (Instr.slice 32 (.slice a1 len1 cap1) none (some (.int .i64 n)) none).run Try.prog v = .ok (.slice a1 n cap1) v := fun v => run_slice_upto v _ _ Try.underlying32 size64 a1 len1 cap1 n _ _ rfl hnc
  generalize l.take 5000 = X at *
  clear hn hs hu hl
  go_enter Try.func4, Try.ntmps4
  go_wp2_with fail
  clear hmin hsl
  refine (Lay_gave a1 n cap1 X w a0 hl' (by omega) hs' hu').mono ?_
  rintro e w1 ⟨a2, c2, rfl, ho2, hX2⟩
  go_wp2_with fail
  refine (rLay_gave a1 n cap1 X w1 a0 hl' (by omega) (hs'.ext hX2) hu').mono ?_
  rintro e w2 ⟨a3, c3, rfl, ho3, hX3⟩
  generalize layR a0 X = R at *
  go_wp2_with fail
  refine (shown_ok w2).mono ?_
  rintro e w3 ⟨rfl, hX4⟩
  have e1 := run_conv_str (P := Try.prog) w3 22 9 5 Try.underlying22 Try.underlying5 Try.underlying9 c2 (ownsRow_sl (ownsRow_ext ho2 (hX3.trans hX4))) rfl
  have e2 := run_conv_str (P := Try.prog) w3 22 9 5 Try.underlying22 Try.underlying5 Try.underlying9 c3 (ownsRow_sl (ownsRow_ext ho3 hX4)) rfl
  clear ho2 ho3 hs' hu' hl'
  go_wp2
  go_ret
  exact ⟨rfl, (hX2.trans hX3).trans hX4⟩
end Go.Proofs.Ytgflpbbdohmhiaa.Field
