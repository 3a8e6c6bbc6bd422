/- moatlaw07's patch. -/
import Derived.Test.YtfodpphbdbeciaaJnH
namespace Go.Proofs.Ytfodpphbdbeciaa.Jn
open Go.RowKit Words Mem Plain Ops Agg OwnS Dk
set_option maxRecDepth 100000
set_option linter.ambiguousOpen false
set_option linter.unusedVariables false
set_option linter.unusedSimpArgs false

def allB (c : Int) : List Int := List.replicate 64 c
theorem allB_len (c : Int) : (allB c).length = 64 := by simp [allB]
theorem allB_bytes {c : Int} (h : 0 ≤ c ∧ c ≤ 255) : isBytes (allB c) := fun x hx => by
  obtain rfl := List.eq_of_mem_replicate hx
  omega
set_option maxHeartbeats 4000000 in
/-- patch: a sector of one byte, all over. -/
theorem patch_ok (i c : Int) (w : World) (hc : 0 ≤ c ∧ c ≤ 255) : Calls Try.prog 25 #[.int .i64 i, .int .u8 c] w fun e w' => ∃ a', e = .returned (.agg #[.int .i64 i, .slice (some ⟨a', 0, none⟩) 64 64, .int .u16 c]) ∧ w.heap.size ≤ a' ∧ Row w' a' 5 (ints .u8 (allB c)) ∧ Ext w w' := by
  have hz := zeroPatch
  have X1 := (Ext.refl w).alloc (.cells #[.int .i64 0, .slice none 0 0, .int .u16 0] 37)
  have hR0 := Row.new w 37 [.int .i64 0, .slice none 0 0, .int .u16 0]
  obtain ⟨w1, hw1⟩ : ∃ z, z = w.alloc (.cells #[.int .i64 0, .slice none 0 0, .int .u16 0] 37) := ⟨_, rfl⟩
  have hR0 : Row w1 w.heap.size 37 [.int .i64 0, .slice none 0 0, .int .u16 0] := by rw [hw1]; exact hR0
  rw [← hw1] at X1
  have hmk := run_make_ints (P := Try.prog) w1 34 5 .u8 1 Try.underlying34 info8' .i64 .i64 64 64 rfl (by decide) (by decide)
  have hrow2 := Row.new w1 5 (ints .u8 (List.replicate 64 0))
  have X2 := (Ext.refl w1).alloc (.cells (ints .u8 (List.replicate 64 0)).toArray 5)
  obtain ⟨w2, hw2⟩ : ∃ z, z = w1.alloc (.cells (ints .u8 (List.replicate 64 0)).toArray 5) := ⟨_, rfl⟩
  obtain ⟨b2, hb2⟩ : ∃ z, z = w1.heap.size := ⟨_, rfl⟩
  have hrow2 : Row w2 b2 5 (ints .u8 (List.replicate 64 0)) := by rw [hw2, hb2]; exact hrow2
  rw [← hw2] at X2 hmk
  rw [← hb2] at hmk
  have HB2 := Lib.hid (show w.heap.size < b2 by rw [hb2]; exact hR0.lt)
  have HROW2 := Lib.hid hrow2
  have HP := Lib.hid (hR0.ext X2)
  have HX2 := Lib.hid (X1.trans X2)
  have HW1 := Lib.hid hw1
  have hw16 : IntKind.u16.wrap c = c := IntWalk.u16_in _ (by omega)
  have HMK := Lib.hid hmk
  clear X1 hR0 hw1 hrow2 X2 hw2 hb2 hmk
  go_enter Try.func25, Try.ntmps25
  go_upto_region 1 with fail
  rw [← HW1.out]
  have hmk := HMK.out
  go_wp2_with fail
  clear hmk
  go_loopw [10] (fun v wr => ∃ k : Nat, k ≤ 64 ∧ v = .int .i64 k ∧ Row wr b2 5 (ints .u8 (List.replicate k c ++ List.replicate (64 - k) 0)) ∧ Row wr w.heap.size 37 [.int .i64 0, .slice none 0 0, .int .u16 0] ∧ Ext w wr) (fun v _ => 64 - (intOf v).toNat)
  case atStart => exact ⟨0, by omega, rfl, by simpa using HROW2.out, HP.out, HX2.out⟩
  case round =>
    obtain ⟨k, hk, rfl, hr, hp, hX⟩ := hrel
    have HR := Lib.hid hr; have HPP := Lib.hid hp; have HX := Lib.hid hX
    clear hr hp hX
    by_cases hlt : k < 64
    · have hk64 : (k : Int) < 64 := by omega
      have hlen : (ints .u8 (List.replicate k c ++ List.replicate (64 - k) 0)).length = 64 := by simp [ints_length]; omega
      obtain ⟨cc, hcc⟩ : ∃ v, wr.cell? ⟨b2, k, none⟩ = some v := ⟨_, HR.out.cell (by rw [hlen]; exact hlt)⟩
      have hfz := HR.out.frozen k
      have HR2 := Lib.hid (show Row (wr.setCell ⟨b2, k, none⟩ (.int .u8 c)) b2 5 (ints .u8 (List.replicate (k + 1) c ++ List.replicate (64 - (k + 1)) 0)) from by
        have h1 := Row.set HR.out k (.int .u8 c)
        have e : (ints .u8 (List.replicate k c ++ List.replicate (64 - k) 0)).set k (.int .u8 c) = ints .u8 (List.replicate (k + 1) c ++ List.replicate (64 - (k + 1)) 0) := by
          unfold ints
          rw [← List.map_set, show 64 - k = 64 - (k + 1) + 1 by omega, List.replicate_succ]
          rw [List.set_append_right _ _ (by simp)]
          simp [List.replicate_succ']
        rw [e] at h1
        exact h1)
      have HP2 := Lib.hid (show Row (wr.setCell ⟨b2, k, none⟩ (.int .u8 c)) w.heap.size 37 [.int .i64 0, .slice none 0 0, .int .u16 0] from ((By.set wr b2 k (.int .u8 c)).block w.heap.size HPP.out.lt (by have := HB2.out; simp; omega)).trans HPP.out)
      have HX2 := Lib.hid (Ext.setCell HX.out (p := ⟨b2, k, none⟩) (Nat.le_of_lt HB2.out) (.int .u8 c))
      clear hlen
      go_wp2
      go_roundw
      case rel => exact ⟨k + 1, hlt, by go_num, HR2.out, HP2.out, HX2.out⟩
      case measure => simp [intOf]; omega
    · obtain rfl : k = 64 := by omega
      go_wp2_with (refine wpList_store_row rfl _ _ _ rfl w.heap.size #[.int .i64 i, .slice (some ⟨b2, 0, none⟩) 64 64, .int .u16 c] rfl rfl 37 #[.int .i64 0, .slice none 0 0, .int .u16 0] HPP.out infoPatch rfl (by simp [Value.oneCell']) ?_)
      have hrow := Mem.Row.setRow HPP.out #[.int .i64 i, .slice (some ⟨b2, 0, none⟩) 64 64, .int .u16 c]
      refine bodyPost_ret (v := .agg #[.int .i64 i, .slice (some ⟨b2, 0, none⟩) 64 64, .int .u16 c]) ?_ rfl ?_
      · exact results_cell_row Try.results25 _ _ w.heap.size 37 #[.int .i64 i, .slice (some ⟨b2, 0, none⟩) 64 64, .int .u16 c] (0, 0) _ rfl (by unfold Row at hrow; simpa using hrow) Try.underlying37 rfl infoPatch
      · exact ⟨b2, rfl, Nat.le_of_lt HB2.out, by have := HR.out.setRow_other #[.int .i64 i, .slice (some ⟨b2, 0, none⟩) 64 64, .int .u16 c] (Nat.ne_of_gt HB2.out); simpa [allB] using this, HX.out.setRow (Nat.le_refl _) _⟩
end Go.Proofs.Ytfodpphbdbeciaa.Jn
