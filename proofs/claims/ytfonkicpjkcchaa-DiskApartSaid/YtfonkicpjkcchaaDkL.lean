/- moatlaw05's sector and patch. -/
import Derived.Test.YtfonkicpjkcchaaDkC
namespace Go.Proofs.Ytfonkicpjkcchaa.Dk
open Go.RowKit Words Mem Plain Ops Agg OwnS
set_option linter.ambiguousOpen false
set_option linter.unusedVariables false
set_option linter.unusedSimpArgs false

def allB (c : Int) : List Int := List.replicate 64 c
theorem sector_ok (c : Int) (w : World) : Calls Try.prog 18 #[.int .u8 c] w fun e w' => ∃ a', e = .returned (.slice (some ⟨a', 0, none⟩) 64 64) ∧ w.heap.size ≤ a' ∧ Row w' a' 5 (ints .u8 (allB c)) ∧ Ext w w' := by
  have hmk := run_make_ints (P := Try.prog) w 29 5 .u8 1 Try.underlying29 info8 .i64 .i64 64 64 rfl (by decide) (by decide)
  have hr := Row.new w 5 (ints .u8 (List.replicate 64 0))
  have hX := (Ext.refl w).alloc (.cells (ints .u8 (List.replicate 64 0)).toArray 5)
  have HR := Lib.hid hr
  have HX := Lib.hid hX
  clear hr hX
  generalize hw1 : w.alloc (.cells (ints .u8 (List.replicate 64 0)).toArray 5) = w1 at *
  clear hw1
  obtain ⟨g, hg⟩ : ∃ g, g = w.heap.size := ⟨_, rfl⟩
  have HG := Lib.hid hg
  rw [← hg] at hmk HR
  clear hg
  go_enter Try.func18, Try.ntmps18
  go_wp2
  go_loopw [8] (fun v wr => ∃ k : Nat, k ≤ 64 ∧ v = .int .i64 k ∧ Row wr g 5 (ints .u8 (List.replicate k c ++ List.replicate (64 - k) 0)) ∧ Ext w wr) (fun v _ => 64 - (intOf v).toNat)
  case atStart => exact ⟨0, by omega, rfl, HR.out, HX.out⟩
  case round =>
    obtain ⟨k, hk, rfl, hrow, hX⟩ := hrel
    by_cases hlt : k < 64
    · have hlen : (ints .u8 (List.replicate k c ++ List.replicate (64 - k) 0)).length = 64 := by simp [ints_length]; omega
      obtain ⟨cc, hcc⟩ : ∃ v, wr.cell? ⟨g, k, none⟩ = some v := ⟨_, hrow.cell (by rw [hlen]; exact hlt)⟩
      have hf := hrow.frozen k
      have e : (ints .u8 (List.replicate k c ++ List.replicate (64 - k) 0)).set k (.int .u8 c) = ints .u8 (List.replicate (k + 1) c ++ List.replicate (64 - (k + 1)) 0) := by
        apply List.ext_getElem?
        intro i
        rw [List.getElem?_set, ints_getElem?, ints_getElem?]
        by_cases h : k = i
        · subst h
          rw [if_pos rfl, if_pos (by rw [hlen]; exact hlt), List.getElem?_append_left (by simp)]
          simp
        · rw [if_neg h]
          congr 1
          simp only [List.getElem?_append, List.length_replicate, List.getElem?_replicate]
          repeat' split
          all_goals first | rfl | omega
      have hr2 := Row.set hrow k (.int .u8 c)
      rw [e] at hr2
      have HR2 := Lib.hid hr2
      have HX2 := Lib.hid (Ext.setCell hX (p := ⟨g, k, none⟩) (by rw [HG.out]; exact Nat.le_refl _) (.int .u8 c))
      have hk0 : (0 : Int) ≤ k := by omega
      have hk1 : (k : Int) < 64 := by omega
      clear hrow hX e hr2 hlen
      go_wp2
      go_roundw
      case rel => exact ⟨k + 1, hlt, by go_num, HR2.out, HX2.out⟩
      case measure => simp [intOf]; omega
    · obtain rfl : k = 64 := by omega
      have HX2 := Lib.hid hX
      have HR2 := Lib.hid hrow
      clear hX hrow
      go_wp2
      go_ret
      refine ⟨g, rfl, by rw [HG.out]; exact Nat.le_refl _, ?_, HX2.out⟩
      have := HR2.out
      simpa [allB] using this

theorem zeroPatch (w : World) : (zeroValue 37).run Try.prog w = .ok (.agg #[.int .i64 0, .slice none 0 0, .int .u16 0]) w := by kernel_rfl
theorem infoPatch : (Try.prog.info? 37).map (·.size) = some 3 := by kernel_rfl
/-- patch: a sector of one byte, all over. -/
theorem patch_ok (i c : Int) (w : World) (hc : 0 ≤ c ∧ c ≤ 255) : Calls Try.prog 12 #[.int .i64 i, .int .u8 c] w fun e w' => ∃ a', e = .returned (.agg #[.int .i64 i, .slice (some ⟨a', 0, none⟩) 64 64, .int .u16 c]) ∧ w.heap.size ≤ a' ∧ Row w' a' 5 (ints .u8 (allB c)) ∧ Ext w w' := by
  have hz := zeroPatch
  have hR0 := Row.new w 37 [.int .i64 0, .slice none 0 0, .int .u16 0]
  have X1 := (Ext.refl w).alloc (.cells #[.int .i64 0, .slice none 0 0, .int .u16 0] 37)
  have hsec := sector_ok c (w.alloc (.cells #[.int .i64 0, .slice none 0 0, .int .u16 0] 37))
  have hw : IntKind.u16.wrap c = c := IntWalk.u16_in _ (by omega)
  go_enter Try.func12, Try.ntmps12
  go_wp2_with fail
  refine hsec.mono ?_
  rintro e w2 ⟨a', rfl, ha, hr, h2⟩
  have hP : Row w2 w.heap.size 37 [.int .i64 0, .slice none 0 0, .int .u16 0] := hR0.ext h2
  have HP := Lib.hid hP
  have HX := Lib.hid (X1.trans h2)
  have HA := Lib.hid (show w.heap.size < a' by simp at ha; omega)
  have HR := Lib.hid hr
  have k0 := (hP.cell? 0).trans rfl
  have k1 := (hP.cell? 1).trans rfl
  have k2 := (hP.cell? 2).trans rfl
  have f0 := hP.frozen 0
  have f1 := hP.frozen 1
  have f2 := hP.frozen 2
  clear hP hsec ha hr h2 hR0 X1
  go_wp2_with (refine wpList_store_row rfl _ _ _ rfl w.heap.size #[.int .i64 i, .slice (some ⟨a', 0, none⟩) 64 64, .int .u16 c] rfl rfl 37 #[.int .i64 0, .slice none 0 0, .int .u16 0] HP.out infoPatch rfl (by simp [Value.oneCell']) ?_)
  have hrow := Mem.Row.setRow HP.out #[.int .i64 i, .slice (some ⟨a', 0, none⟩) 64 64, .int .u16 c]
  refine bodyPost_ret (v := .agg #[.int .i64 i, .slice (some ⟨a', 0, none⟩) 64 64, .int .u16 c]) ?_ rfl ?_
  · exact results_cell_row Try.results12 _ _ w.heap.size 37 #[.int .i64 i, .slice (some ⟨a', 0, none⟩) 64 64, .int .u16 c] (0, 0) _ rfl (by unfold Row at hrow; simpa using hrow) Try.underlying37 rfl infoPatch
  · exact ⟨a', rfl, Nat.le_of_lt HA.out, HR.out.setRow_other _ (by have := HA.out; omega), HX.out.setRow (Nat.le_refl _) _⟩
end Go.Proofs.Ytfonkicpjkcchaa.Dk
