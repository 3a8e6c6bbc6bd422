/- The walk of the law SumOfs. -/
import Derived.Test.YtafkpjgkghnipaaSeal
namespace Go.Proofs.Ytafkpjgkghnipaa.Sum
open Go.RowKit Words Mem Plain Ops
set_option linter.unusedVariables false
set_option linter.unusedSimpArgs false

theorem isBytes_wf {l : List Int} (h : ∀ n ∈ l, (Lit.int .u8 n).wf = true) : isBytes l := fun n hn => by
  have := bounds_u8 (h n hn); omega
/-- A slice of bytes that came in, as the laws of this layer see it. -/
theorem bytesIn {w : World} {a : Option Addr} {len cap : Nat} {zs : List Int} (h : RowIn .u8 w a len cap zs) :
    ∃ xs : List Int, xs.length = len ∧ isBytes xs ∧ Sl w a (ints .u8 xs) ∧ len ≤ cap ∧ cap ≤ 9223372036854775807 ∧ (a = none → len = 0 ∧ cap = 0) := by
  obtain ⟨h1, h2, h3, h4, h5, h6⟩ := h.open
  exact ⟨_, h2, isBytes_wf h6, h1, h3, h4, h5⟩

set_option maxHeartbeats 2000000 in
theorem ofs_walk (a0 : Int) (a1 : Option Addr) (len1 cap1 : Nat) (z1 : List Int) (w : World) (w0 : (Lit.int .u32 a0).wf = true) (w1 : RowIn .u8 w a1 len1 cap1 z1) :
    Calls Try.prog 3 #[.int .u32 a0, .slice a1 len1 cap1] w fun e w' => e = .returned (.bool true) ∧ Below w.heap.size w w' := by
  obtain ⟨xs, hl, hb, hs, hlc, hc, hnil⟩ := bytesIn w1
  have ha := bounds_u32 w0
  clear w0 w1
  go_enter Try.func3, Try.ntmps3
  go_wp2_with fail
  refine (few_ok a1 len1 cap1 xs w hl (by omega) hlc hs).mono ?_
  rintro e w' ⟨⟨rfl, hs'⟩, rfl⟩
  have hl' : (xs.take 50000).length = min len1 50000 := by rw [List.length_take]; omega
  have hn : min len1 50000 ≤ 50000 := Nat.min_le_right _ _
  have hb' := isBytes_take hb 50000
  have hnc : min len1 50000 ≤ cap1 := by omega
  generalize xs.take 50000 = ys at *
  generalize min len1 50000 = n at *
  clear hl hb hs hlc hnil
  go_wp2_with fail
  refine (shown_ok _).mono ?_
  rintro e w1 ⟨rfl, hX1⟩
  have hs1 := hs'.ext hX1
  clear hs'
  go_wp2_with (first
    | (go_at_call 12; refine (Of_ok _ n _ ys _ hl' (by omega) hb' hs1 hnc hc).mono ?_; rintro e w' ⟨rfl, rfl⟩)
    | (go_at_call 13; refine (rOf_ok _ n _ ys _ hl' (by omega) hb' hs1).mono ?_; rintro e w' ⟨rfl, rfl⟩)
    | (go_at_call 14; refine (More_ok _ n _ ys _ _ hl' (by omega) hb' hs1 hnc hc (by omega) (by omega)).mono ?_; rintro e w' ⟨rfl, rfl⟩)
    | (go_at_call 15; refine (rMore_ok _ n _ ys _ _ hl' (by omega) hb' hs1 (by omega) (by omega)).mono ?_; rintro e w' ⟨rfl, rfl⟩))
  go_ret
  exact ⟨rfl, hX1⟩
end Go.Proofs.Ytafkpjgkghnipaa.Sum
