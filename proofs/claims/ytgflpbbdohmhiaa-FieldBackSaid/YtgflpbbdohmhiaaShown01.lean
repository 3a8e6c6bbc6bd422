/- What shown and few of the statements of this layer answer. -/
import Derived.Test.YtgflpbbdohmhiaaTakeR
import Derived.Test.YtgflpbbdohmhiaaIn
namespace Go.Proofs.Ytgflpbbdohmhiaa.Field
open Go.RowKit Words Mem Plain Ops
set_option linter.unusedVariables false
set_option linter.unusedSimpArgs false

set_option maxRecDepth 100000 in
theorem few_ok (a : Option Addr) (n cap : Nat) (xs : List Int) (w : World) (hl : xs.length = n) (hn : n ≤ 9223372036854775807) (hcap : n ≤ cap) (hs : Sl w a (ints .u8 xs)) : Calls Try.prog 11 #[.slice a n cap] w fun e w' => (e = .returned (.slice a (min n 5000) cap) ∧ Sl w a (ints .u8 (xs.take 5000))) ∧ w = w' := by
  by_cases h : n ≤ 5000
  · rw [Nat.min_eq_left h, List.take_of_length_le (by omega)]
    go_enter Try.func11, Try.ntmps11
    go_wp2
    go_ret
    exact ⟨⟨rfl, hs⟩, rfl⟩
  · obtain ⟨q, hq⟩ : ∃ q, q = 5000 := ⟨_, rfl⟩
    rw [Nat.min_eq_right (by omega)]
    have hs' : Sl w a (ints .u8 (xs.take 5000)) := by have := hs.take 5000; rwa [ints_take] at this
    go_enter Try.func11, Try.ntmps11
    go_wp2
    go_ret
    exact ⟨⟨rfl, hs'⟩, rfl⟩

set_option maxHeartbeats 1000000 in
theorem shown_ok (w : World) : Calls Try.prog 10 #[] w fun e w' => e = .returned (.bool true) ∧ Ext w w' := by
  have r1 := Row.new w 5 (ints .u8 [9, 9, 9, 9])
  have X1 := (Ext.refl w).alloc (.cells (ints .u8 [9, 9, 9, 9]).toArray 5)
  have h1 : setP [9, 9, 9, 9] 1 2 258 = [9, 2, 1, 9] := by decide
  have h2 : numOf (([9, 2, 1, 9].drop 1).take 2) = 258 := by decide
  have h3 : layed 2 [1, 256] = [1, 0, 0, 1] := by decide
  have hst1 : ((strOf [9, 2, 1, 9]).toList == [9, 2, 1, 9]) = true := by rw [strOf_toList]; rfl
  have hst2 : ((strOf [1, 0, 0, 1]).toList == [1, 0, 0, 1]) = true := by rw [strOf_toList]; rfl
  go_enter Try.func10, Try.ntmps10
  go_wp2_with fail
  change Row (w.alloc (.cells #[.int .u8 9, .int .u8 9, .int .u8 9, .int .u8 9] 5)) _ _ _ at r1
  change Ext w (w.alloc (.cells #[.int .u8 9, .int .u8 9, .int .u8 9, .int .u8 9] 5)) at X1
  generalize w.alloc (.cells #[.int .u8 9, .int .u8 9, .int .u8 9, .int .u8 9] 5) = w1 at *
  have k1 : Calls Try.prog 14 #[.slice (some ⟨w.heap.size, 0, none⟩) 4 4, .int .i64 1, .int .i64 2, .int .u64 258] w1 _ := Set_yes _ 4 4 [9, 9, 9, 9] 1 2 258 w1 rfl (by decide) r1.sl0 (by decide) (by decide) (by decide) (by decide)
  refine k1.mono ?_
  rintro e w2 ⟨rfl, hr2, hX2⟩
  rw [h1] at hr2
  have X2 := X1.trans hX2
  generalize w1.heap.size = g2 at *
  clear k1 r1 X1 hX2 h1
  go_wp2_with fail
  have k1 : Calls Try.prog 12 #[.slice (some ⟨g2, 0, none⟩) 4 4, .int .i64 1, .int .i64 2] w2 _ := Get_yes _ 4 4 [9, 2, 1, 9] 1 2 w2 rfl (by decide) (by decide) (by decide) (by simp [isBytes]) hr2.sl0 (by decide)
  refine k1.mono ?_
  rintro e w' ⟨rfl, rfl⟩
  rw [h2]
  clear k1 h2
  go_wp2_with fail
  have r3 : Row (w2.alloc (.cells #[.int .u64 1, .int .u64 256] 23)) w2.heap.size 23 (ints .u64 [1, 256]) := Row.new w2 23 (ints .u64 [1, 256])
  have X3 : Ext w2 (w2.alloc (.cells #[.int .u64 1, .int .u64 256] 23)) := (Ext.refl w2).alloc _
  generalize w2.alloc (.cells #[.int .u64 1, .int .u64 256] 23) = w3 at *
  have k1 : Calls Try.prog 16 #[.int .i64 2, .slice (some ⟨w2.heap.size, 0, none⟩) 2 2] w3 _ := Lay_yes 2 _ 2 2 [1, 256] w3 (by decide) (by decide) rfl r3.sl0 (by intro x hx; simp at hx; omega) (by decide)
  refine k1.mono ?_
  rintro e w4 ⟨rfl, hr4, hX4⟩
  rw [h3] at hr4
  have X4 := X2.trans (X3.trans hX4)
  have hr2' := hr2.ext (X3.trans hX4)
  have e1 := run_conv_str (P := Try.prog) w4 22 9 5 Try.underlying22 Try.underlying5 Try.underlying9 4 hr2'.sl0 rfl
  have e2 := run_conv_str (P := Try.prog) w4 22 9 5 Try.underlying22 Try.underlying5 Try.underlying9 4 hr4.sl0 rfl
  generalize w3.heap.size = g4 at *
  simp only [List.length_cons, List.length_nil, Nat.zero_add, Nat.reduceAdd] at e1 e2
  clear k1 h3 r3 X3 hX4 hr2 hr2' hr4 X2
  go_wp2
  go_ret
  exact ⟨rfl, X4⟩
end Go.Proofs.Ytgflpbbdohmhiaa.Field
