/- The law JournalNil. -/
import Derived.Test.YtfodpphbdbeciaaJnSh
import Derived.Deep.Slices
import Derived.Lib.SmallJoins
import Derived.ChangeSame
import Derived.OpenShut
namespace Go.Proofs.Ytfodpphbdbeciaa.Jn
open Go.RowKit Words Mem Plain Ops Agg OwnS Dk
open Go.Joins Go.ChangeShapes Go.WideShapes Go.Deep
set_option maxRecDepth 100000
set_option linter.ambiguousOpen false
set_option linter.unusedVariables false
set_option linter.unusedSimpArgs false

theorem cellsPat : Try.prog.cellsOf 37 = 3 := by kernel_rfl
theorem patch_in {H : Type} {enc : TypeId × Value → H} {base : Nat} {d : DataW H} {pl : List MemPlace} {v : Value} {w : World} (ho : Value.okWide Try.prog w .any base 37 v) (h : DataW.Trod enc Try.prog w 0 (fun _ => true) true 37 v d pl) :
    ∃ t : It, v = .agg (itC t).toArray := by
  obtain ⟨v0, v1, v2, y0, y1, y2, n, rfl, _, _, h0, h1, h2⟩ := open_agg3 Try.underlying37 rfl cellsPat ho h
  obtain ⟨i, e0, _, _⟩ := DataW.trod_int Try.underlying3 h0
  obtain ⟨t, e2, _, _⟩ := DataW.trod_int Try.underlying35 h2
  simp only [List.cons.injEq, and_true] at e0 e2
  subst e0 e2
  have h3 : ∃ bp bl bc, v1 = .slice bp bl bc := by
    rcases DataW.trod_slice Try.underlying34 h1 with ⟨e, _⟩ | ⟨a, len, cap, elems, rest, nn, _, e, _, _, hl', hm', _⟩
    · simp at e; exact ⟨_, _, _, e⟩
    · simp at e; exact ⟨_, _, _, e⟩
  obtain ⟨bp, bl, bc, rfl⟩ := h3
  exact ⟨⟨⟨i, List.replicate bl 0, t⟩, bp, bc⟩, by simp [itC]⟩
set_option maxHeartbeats 8000000 in
theorem nil_walk (i tg : Int) (x : Option Addr) (n c : Nat) (w : World) : Calls Try.prog 4 #[.agg #[.int .i64 i, .slice x n c, .int .u16 tg]] w fun e w' => e = .returned (.bool true) ∧ Ext w w' := by
  have hrow1 := Row.new w 37 [.int .i64 i, .slice x n c, .int .u16 tg]
  have hX1 := (Ext.refl w).alloc (.cells #[.int .i64 i, .slice x n c, .int .u16 tg] 37)
  obtain ⟨w1, hw1⟩ : ∃ z, z = w.alloc (.cells #[.int .i64 i, .slice x n c, .int .u16 tg] 37) := ⟨_, rfl⟩
  have hrow1 : Row w1 w.heap.size 37 [.int .i64 i, .slice x n c, .int .u16 tg] := by rw [hw1]; exact hrow1
  rw [← hw1] at hX1
  have HR1 := Lib.hid hrow1
  have HX1 := Lib.hid hX1
  have HW1 := Lib.hid hw1
  have HSH := Lib.hid (shown_ok w1)
  clear hrow1 hX1 hw1
  go_enter Try.func4, Try.ntmps4
  go_upto_region 1 with fail
  rw [← HW1.out]
  go_wp2_with fail
  refine HSH.out.mono ?_
  rintro e w2 ⟨rfl, h2⟩
  have HX2 := Lib.hid (HX1.out.trans h2)
  have HR2 := Lib.hid (HR1.out.ext h2)
  have hon := Open_nil 0 9 w2
  clear h2 HSH
  go_wp2_with fail
  refine hon.mono ?_
  rintro e w' ⟨rfl, rfl⟩
  have q0 := (HR2.out.cell? 0).trans rfl
  have q1 := (HR2.out.cell? 1).trans rfl
  have q2 := (HR2.out.cell? 2).trans rfl
  have hXp := (Ext.refl w2).alloc (.cells #[.int .i64 i, .slice x n c, .int .u16 tg] 37)
  have HCN := Lib.hid (Commit_nil (some ⟨w2.heap.size, 0, none⟩) 1 1 (w2.alloc (.cells #[.int .i64 i, .slice x n c, .int .u16 tg] 37)))
  have HX3 := Lib.hid (HX2.out.trans hXp)
  have HRN := Lib.hid (Room_nil (w2.alloc (.cells #[.int .i64 i, .slice x n c, .int .u16 tg] 37)))
  have HSN := Lib.hid (Seq_nil (w2.alloc (.cells #[.int .i64 i, .slice x n c, .int .u16 tg] 37)))
  clear hXp hon
  go_wp2_with fail
  refine HCN.out.mono ?_
  rintro e w' ⟨rfl, rfl⟩
  clear q0 q1 q2
  go_wp2_with fail
  refine HRN.out.mono ?_
  rintro e w' ⟨rfl, rfl⟩
  go_wp2_with fail
  refine HSN.out.mono ?_
  rintro e w' ⟨rfl, rfl⟩
  go_wp2
  go_ret
  exact ⟨rfl, HX3.out⟩
theorem law_JournalNil {H : Type} {enc : TypeId × Value → H} {base : Nat} {d0 : DataW H} {p0 : List MemPlace} (v0 : Value) (w : World)
    (ho0 : Value.okWide Try.prog w .any base 37 v0) (h0 : DataW.Trod enc Try.prog w 0 (fun _ => true) true 37 v0 d0 p0) :
    Calls Try.prog 4 #[v0] w fun e w' => e = .returned (.bool true) ∧ Below w.heap.size w w' := by
  obtain ⟨t, rfl⟩ := patch_in ho0 h0
  exact nil_walk t.p.sec t.p.tag t.x t.p.bs.length t.c w
end Go.Proofs.Ytfodpphbdbeciaa.Jn
