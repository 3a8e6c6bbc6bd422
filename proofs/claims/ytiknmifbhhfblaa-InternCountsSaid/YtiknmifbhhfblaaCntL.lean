/- The law InternCounts. -/
import Derived.Test.YtiknmifbhhfblaaCntW
namespace Go.Proofs.Ytiknmifbhhfblaa.Intern
open Go.RowKit Go.Maps Words Mem Plain Ops
open Go.ChangeShapes Go.WideShapes Go.Deep
set_option linter.ambiguousOpen false
set_option linter.unusedVariables false
set_option linter.unusedSimpArgs false

theorem counts_zero (a : Option Addr) (cap : Nat) (w : World) :
    Calls Try.prog 4 #[.slice a 0 cap] w fun e w' => e = .returned (.bool true) ∧ Ext w w' := by
  have hmk := @run_makeMap Try.prog
  go_enter Try.func4, Try.ntmps4
  go_wp2_with fail
  refine (shown_ok w).mono ?_
  rintro e w1 ⟨rfl, h1⟩
  have H1 := Lib.hid h1
  clear h1
  go_wp2_with fail
  refine (free_ok w1).mono ?_
  rintro e w2 ⟨v, rfl, af, cf, rfl, hof, h2⟩
  have H2 := Lib.hid ((H1.out.trans h2).alloc (.map #[] 0))
  rw [show freeL.length = 16 from rfl]
  clear h2 hof H1
  go_wp2_with fail
  generalize hw3 : w2.alloc (.map #[] 0) = w3 at *
  go_loopw [23] (fun v wr => v = .int .i64 0 ∧ wr = w3) (fun v _ => 0)
  case atStart => exact ⟨rfl, rfl⟩
  case round =>
    obtain ⟨rfl, rfl⟩ := hrel
    go_wp2
    go_ret
    exact ⟨rfl, H2.out⟩
theorem law_InternCounts {H : Type} {enc : TypeId × Value → H} {base : Nat} {d0 : DataW H} {p0 : List MemPlace} (v0 : Value) (w : World)
    (ho0 : Value.okWide Try.prog w .any base 39 v0) (h0 : DataW.Trod enc Try.prog w 0 (fun _ => true) true 39 v0 d0 p0) :
    Calls Try.prog 4 #[v0] w fun e w' => e = .returned (.bool true) ∧ Below w.heap.size w w' := by
  obtain ⟨a, n, cap, rfl, hn, hm, hacts⟩ := acts_in ho0 h0
  by_cases h : 0 < n
  · obtain ⟨b, off, rfl, hc⟩ := hacts h
    exact counts_pos b off n cap w (by omega) hc
  · obtain rfl : n = 0 := by omega
    exact counts_zero a cap w
end Go.Proofs.Ytiknmifbhhfblaa.Intern
