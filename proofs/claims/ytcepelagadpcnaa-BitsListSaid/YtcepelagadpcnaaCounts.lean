/- The walk of the law BitsCounts. -/
import Derived.Test.YtcepelagadpcnaaShown
namespace Go.Proofs.Ytcepelagadpcnaa.Bit
open Go.RowKit Words Mem Plain Ops Same
set_option linter.unusedVariables false
set_option linter.unusedSimpArgs false

theorem isBytes_wf {l : List Int} (h : ∀ n ∈ l, (Lit.int .u8 n).wf = true) : isBytes l := fun n hn => by
  have := bounds_u8 (h n hn); omega

/-- A slice of bytes that came in, as the laws of this layer see it. -/
theorem bytesIn {w : World} {a : Option Addr} {len cap : Nat} {zs : List Int} (h : RowIn .u8 w a len cap zs) :
    ∃ xs : List Int, xs.length = len ∧ isBytes xs ∧ Sl w a (ints .u8 xs) ∧ len ≤ cap ∧ cap ≤ 9223372036854775807 ∧ (a = none → len = 0 ∧ cap = 0) := by
  obtain ⟨h1, h2, h3, h4, h5, h6⟩ := h.open
  exact ⟨_, h2, isBytes_wf h6, h1, h3, h4, h5⟩

set_option maxHeartbeats 2000000 in
theorem counts_walk (a0 : Option Addr) (len0 cap0 : Nat) (z0 : List Int) (a1 a2 : Int) (a3 : Bool) (w : World) (w0 : RowIn .u8 w a0 len0 cap0 z0) (w1 : (Lit.int .i64 a1).wf = true) (w2 : (Lit.int .i64 a2).wf = true) :
    Calls Try.prog 5 #[.slice a0 len0 cap0, .int .i64 a1, .int .i64 a2, .bool a3] w fun e w' => e = .returned (.bool true) ∧ Below w.heap.size w w' := by
  obtain ⟨xs, hl, hb, hs, hlc, hc, hnil⟩ := bytesIn w0
  clear w0 w1 w2
  go_enter Try.func5, Try.ntmps5
  go_wp2_with fail
  refine (few_ok a0 len0 cap0 xs w hl (by omega) hlc hs).mono ?_
  rintro e w' ⟨⟨rfl, hs'⟩, rfl⟩
  have hl' : (xs.take 600).length = min len0 600 := by rw [List.length_take]; omega
  have hn : min len0 600 ≤ 600 := Nat.min_le_right _ _
  have hb' := isBytes_take hb 600
  generalize xs.take 600 = ys at *
  generalize min len0 600 = n at *
  clear hl hb hs hlc hc hnil
  go_wp2_with fail
  refine (First_ok _ n _ ys a1 a2 a3 _ hl' (by omega) hb' hs').mono ?_
  rintro e w' ⟨rfl, rfl⟩
  obtain ⟨p, q, hv⟩ : ∃ (p : Int) (q : Bool), firstV ys a1 a2 a3 = .tuple #[.int .i64 p, .bool q] := by
    unfold firstV; split
    · exact ⟨_, _, rfl⟩
    · exact ⟨_, _, rfl⟩
  rw [hv]
  go_wp2_with fail
  refine (rFirst_ok _ n _ ys a1 a2 a3 _ hl' (by omega) hb' hs').mono ?_
  rintro e w' ⟨rfl, rfl⟩
  rw [hv]
  clear hv
  go_wp2_with fail
  refine (shown_ok _).mono ?_
  rintro e w1 ⟨rfl, hX1⟩
  have hs1 := hs'.ext hX1
  clear hs'
  go_wp2_with (first | (go_at_call 17; refine (Count_ok _ n _ ys a1 a2 _ hl' (by omega) hb' hs1).mono ?_; rintro e w' ⟨rfl, rfl⟩) | (go_at_call 18; refine (rCount_ok _ n _ ys a1 a2 _ hl' (by omega) hb' hs1).mono ?_; rintro e w' ⟨rfl, rfl⟩))
  refine (List_ok _ n _ ys _ hl' (by omega) hb' hs1).mono ?_
  rintro e w2 ⟨a2', m2, c2, rfl, hown2, hX2⟩
  have hs2 := hs1.ext hX2
  have ho2 := ownsRow_sl hown2
  have hm2 := ownsRow_len hown2
  rw [ints_length] at hm2
  clear hs1 hown2
  go_wp2_with fail
  refine (rList_ok _ n _ ys _ hl' (by omega) hb' hs2).mono ?_
  rintro e w3 ⟨a3', m3, c3, rfl, hown3, hX3⟩
  have ho2' := ho2.ext hX3
  have ho3 := ownsRow_sl hown3
  have hm3 := ownsRow_len hown3
  rw [ints_length] at hm3
  have hm9 : m2 ≤ 8 * ys.length := by have h9 := listTo_len ys (8 * ys.length); have h8 := hm2; unfold listN at h8; omega
  have X := (hX1.trans hX2).trans hX3
  clear ho2 hs2 hown3 hX1 hX2 hX3
  go_wp2_with fail
  refine (Same_ok _ _ m2 m3 _ _ _ _ _ hm2 hm3 (by omega) ho2' ho3).mono ?_
  rintro e w4 ⟨rfl, hX4⟩
  have hsame : sameB (listN ys) (listN ys) = true := by unfold sameB; simp
  rw [hsame]
  clear hsame hm2 hm3 hm9 ho2' ho3
  go_wp2
  go_ret
  exact ⟨rfl, X.trans hX4⟩
end Go.Proofs.Ytcepelagadpcnaa.Bit
