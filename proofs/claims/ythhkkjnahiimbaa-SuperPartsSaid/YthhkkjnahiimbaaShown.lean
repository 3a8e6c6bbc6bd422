/- What 'shown' answers. -/
import Derived.Test.YthhkkjnahiimbaaGroup
import Derived.Laws.StructEq
namespace Go.Proofs.Ythhkkjnahiimbaa.Super
open Go.RowKit Words Mem
set_option linter.unusedVariables false
set_option linter.unusedSimpArgs false

set_option maxHeartbeats 2000000 in
theorem shown_ok (w : World) : Calls Try.prog 9 #[] w fun e w' => e = .returned (.bool true) ∧ Ext w w' := by
  have hp : (planL 20 8 2 4).toArray = #[.int .i64 1, .int .i64 21, .int .i64 22, .int .i64 23, .int .i64 24, .int .i64 28, .int .i64 36] := rfl
  have hm : metaN 20 8 2 4 = 7 := by decide
  go_enter Try.func9, Try.ntmps9
  go_wp2_with fail
  refine (Plan_yes 20 8 2 4 _ (by decide)).mono ?_
  rintro e w1 ⟨rfl, hg⟩
  have hX := Ext.trans ((Ext.refl w).alloc _) hg
  rw [hp]
  have hcs := hg.cells
  have hl := hg.size
  simp at hl
  have hl' : w.heap.size < w1.heap.size := by omega
  clear hp hl
  go_wp2_with (go_at_call 12; refine (Meta_ok _ _ _ _ _).mono ?_; rintro e w2 ⟨rfl, hg2⟩; rw [hm])
  go_ret
  exact ⟨rfl, (hX.alloc _).trans hg2⟩
end Go.Proofs.Ythhkkjnahiimbaa.Super
