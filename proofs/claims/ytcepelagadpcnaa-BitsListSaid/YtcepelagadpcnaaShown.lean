/- What 'shown' of the statements of layer 8 answers. -/
import Derived.Test.YtcepelagadpcnaaWithR
import Derived.Test.YtcepelagadpcnaaSame
namespace Go.Proofs.Ytcepelagadpcnaa.Bit
open Go.RowKit Words Mem Plain Ops Same
set_option linter.unusedVariables false
set_option linter.unusedSimpArgs false

set_option maxHeartbeats 2000000 in
theorem shown_ok (w : World) : Calls Try.prog 9 #[] w fun e w' => e = .returned (.bool true) ∧ Ext w w' := by
  have hw1 : withN [0, 0] 9 true = [0, 2] := by decide
  have hf1 : firstV [255, 1] 0 16 false = .tuple #[.int .i64 9, .bool true] := by
    have : firstN [255, 1] 0 16 false = some 9 := by decide
    unfold firstV; rw [this]; rfl
  have hl1 : listN [5, 128] = [0, 2, 15] := by decide
  have hmk : (Instr.makeSlice 22 (.int .i64 2) (.int .i64 2)).run Try.prog w = .ok (.slice (some ⟨w.heap.size, 0, none⟩) 2 2) (w.alloc (.cells #[.int .u8 0, .int .u8 0] 5)) := run_make_ints (P := Try.prog) w 22 5 .u8 1 Try.underlying22 infoB .i64 .i64 2 2 rfl (by omega) (by omega)
  go_enter Try.func9, Try.ntmps9
  go_wp2_with fail
  clear hmk
  have r0 : Row (w.alloc (.cells #[.int .u8 0, .int .u8 0] 5)) w.heap.size 5 (ints .u8 [0, 0]) := Row.new w 5 (ints .u8 [0, 0])
  have k0 : Calls Try.prog 11 #[.slice (some ⟨w.heap.size, 0, none⟩) 2 2, .int .i64 9, .bool true] (w.alloc (.cells #[.int .u8 0, .int .u8 0] 5)) _ := With_yes _ 2 2 [0, 0] 9 true _ rfl (by decide) (by simp [isBytes]) r0.sl0 (by decide) (by simp)
  refine k0.mono ?_
  rintro e w1 ⟨a1, c1, rfl, hown1, hX1⟩
  rw [hw1] at hown1
  rw [hw1]
  have X1 := ((Ext.refl w).alloc _).trans hX1
  clear hw1 r0 hX1 k0
  go_wp2_with fail
  have r1 : Row (w1.alloc (.cells #[.int .u8 255, .int .u8 1] 5)) w1.heap.size 5 (ints .u8 [255, 1]) := Row.new w1 5 (ints .u8 [255, 1])
  have k1 : Calls Try.prog 15 #[.slice (some ⟨w1.heap.size, 0, none⟩) 2 2, .int .i64 0, .int .i64 16, .bool false] (w1.alloc (.cells #[.int .u8 255, .int .u8 1] 5)) _ := First_ok _ 2 2 [255, 1] 0 16 false _ rfl (by decide) (by simp [isBytes]) r1.sl0
  refine k1.mono ?_
  rintro e w2 ⟨rfl, rfl⟩
  rw [hf1]
  clear hf1 r1 k1
  have X2 := X1.alloc (.cells #[.int .u8 255, .int .u8 1] 5)
  have hown2 := hown1.alloc (.cells #[.int .u8 255, .int .u8 1] 5)
  generalize w1.alloc (.cells #[.int .u8 255, .int .u8 1] 5) = w2 at *
  go_wp2_with fail
  have r2 : Row (w2.alloc (.cells #[.int .u8 5, .int .u8 128] 5)) w2.heap.size 5 (ints .u8 [5, 128]) := Row.new w2 5 (ints .u8 [5, 128])
  have k2 : Calls Try.prog 20 #[.slice (some ⟨w2.heap.size, 0, none⟩) 2 2] (w2.alloc (.cells #[.int .u8 5, .int .u8 128] 5)) _ := List_ok _ 2 2 [5, 128] _ rfl (by decide) (by simp [isBytes]) r2.sl0
  refine k2.mono ?_
  rintro e w3 ⟨a3, m3, c3, rfl, hown3, hX3⟩
  have hm3 := ownsRow_len hown3
  rw [hl1] at hown3 hm3
  have : m3 = 3 := by rw [← hm3]; rfl
  subst this
  have X3 := (X2.alloc _).trans hX3
  have hs2 := (ownsRow_sl hown2).ext (((Ext.refl w2).alloc _).trans hX3)
  have hs3 := ownsRow_sl hown3
  clear hm3 hX3 k2 r2 hown2 hown3 hl1 hown1
  go_wp2_with fail
  have r4 : Row (w3.alloc (.cells #[.int .i64 0, .int .i64 2, .int .i64 15] 3)) w3.heap.size 3 (ints .i64 [0, 2, 15]) := Row.new w3 3 (ints .i64 [0, 2, 15])
  have k4 : Calls Try.prog 19 #[.slice a3 3 c3, .slice (some ⟨w3.heap.size, 0, none⟩) 3 3] (w3.alloc (.cells #[.int .i64 0, .int .i64 2, .int .i64 15] 3)) _ := Same_ok _ _ 3 3 _ _ [0, 2, 15] [0, 2, 15] _ rfl rfl (by decide) (hs3.ext ((Ext.refl w3).alloc _)) r4.sl0
  refine k4.mono ?_
  rintro e w5 ⟨rfl, hX5⟩
  have X5 := (X3.alloc _).trans hX5
  have hs5 := hs2.ext (((Ext.refl w3).alloc _).trans hX5)
  have hcv := run_conv_str (P := Try.prog) w5 22 9 5 Try.underlying22 Try.underlying5 Try.underlying9 c1 hs5 rfl
  simp only [List.length_cons, List.length_nil, Nat.zero_add, Nat.reduceAdd] at hcv
  have hsame : sameB [0, 2, 15] [0, 2, 15] = true := by decide
  rw [hsame]
  have hstr : ((strOf [0, 2]).toList == [0, 2]) = true := by rw [strOf_toList]; rfl
  clear hsame hs2 hs3 hs5 r4 k4 hX5 X1 X2 X3
  go_wp2
  go_ret
  exact ⟨rfl, X5⟩
end Go.Proofs.Ytcepelagadpcnaa.Bit
