/- What came in, as the laws see it: slices of bytes and of numbers. -/
import Derived.Test.YtiknmifbhhfblaaOps
import Derived.Lib.SmallJoins
namespace Go.Proofs.Ytiknmifbhhfblaa.Ops
open Go.RowKit Words Mem Plain
set_option linter.unusedVariables false
set_option linter.unusedSimpArgs false
theorem isBytes_wf {l : List Int} (h : ∀ n ∈ l, (Lit.int .u8 n).wf = true) : isBytes l := fun n hn => by
  have := bounds_u8 (h n hn); omega
theorem bytesIn {w : World} {a : Option Addr} {len cap : Nat} {zs : List Int} (h : RowIn .u8 w a len cap zs) :
    ∃ xs : List Int, xs.length = len ∧ isBytes xs ∧ Sl w a (ints .u8 xs) ∧ len ≤ cap ∧ cap ≤ 9223372036854775807 ∧ (a = none → len = 0 ∧ cap = 0) := by
  obtain ⟨h1, h2, h3, h4, h5, h6⟩ := h.open
  exact ⟨_, h2, isBytes_wf h6, h1, h3, h4, h5⟩
theorem u64sIn {w : World} {a : Option Addr} {len cap : Nat} {zs : List Int} (h : RowIn .u64 w a len cap zs) :
    ∃ xs : List Int, xs.length = len ∧ (∀ x ∈ xs, 0 ≤ x ∧ x < 18446744073709551616) ∧ Sl w a (ints .u64 xs) ∧ len ≤ cap ∧ cap ≤ 9223372036854775807 ∧ (a = none → len = 0 ∧ cap = 0) := by
  obtain ⟨h1, h2, h3, h4, h5, h6⟩ := h.open
  exact ⟨_, h2, fun n hn => by have := bounds_u64 (h6 n hn); omega, h1, h3, h4, h5⟩
theorem i64sIn {w : World} {a : Option Addr} {len cap : Nat} {zs : List Int} (h : RowIn .i64 w a len cap zs) :
    ∃ xs : List Int, xs.length = len ∧ (∀ x ∈ xs, -9223372036854775808 ≤ x ∧ x ≤ 9223372036854775807) ∧ Sl w a (ints .i64 xs) ∧ len ≤ cap ∧ cap ≤ 9223372036854775807 ∧ (a = none → len = 0 ∧ cap = 0) := by
  obtain ⟨h1, h2, h3, h4, h5, h6⟩ := h.open
  exact ⟨_, h2, fun n hn => by have := bounds_i64 (h6 n hn); omega, h1, h3, h4, h5⟩
end Go.Proofs.Ytiknmifbhhfblaa.Ops
