/- The nil disk, and the law DiskNil. -/
import Derived.Test.YtfonkicpjkcchaaDkShown
import Derived.OpenShut
import Derived.Lib.SmallJoins
namespace Go.Proofs.Ytfonkicpjkcchaa.Dk
open Go.RowKit Words Mem Plain Ops Agg OwnS
open Go.Joins Go.ChangeShapes Go.WideShapes Go.Deep
set_option linter.ambiguousOpen false
set_option linter.unusedVariables false
set_option linter.unusedSimpArgs false

theorem Dead_nil (w : World) : Calls Try.prog 19 #[.pointer none] w fun e w' => e = .returned (.bool false) ∧ w' = w := by
  go_enter Try.func19, Try.ntmps19
  go_wp2
  go_ret
  exact ⟨rfl, rfl⟩
theorem Done_nil (w : World) : Calls Try.prog 20 #[.pointer none] w fun e w' => e = .returned (.int .i64 0) ∧ w' = w := by
  go_enter Try.func20, Try.ntmps20
  go_wp2
  go_ret
  exact ⟨rfl, rfl⟩
theorem Len_nil (w : World) : Calls Try.prog 21 #[.pointer none] w fun e w' => e = .returned (.int .i64 0) ∧ w' = w := by
  go_enter Try.func21, Try.ntmps21
  go_wp2
  go_ret
  exact ⟨rfl, rfl⟩
theorem Copy_nil (w : World) : Calls Try.prog 22 #[.pointer none] w fun e w' => e = .returned (.pointer none) ∧ w' = w := by
  go_enter Try.func22, Try.ntmps22
  go_wp2
  go_ret
  exact ⟨rfl, rfl⟩
theorem Flush_nil (w : World) : Calls Try.prog 13 #[.pointer none] w fun e w' => e = .returned (.int .i64 2) ∧ w' = w := by
  have hp := power_nil w
  go_enter Try.func13, Try.ntmps13
  go_wp2_with fail
  refine hp.mono ?_
  rintro e w' ⟨rfl, rfl⟩
  clear hp
  go_wp2
  go_ret
  exact ⟨rfl, rfl⟩
theorem Cut_nil (n : Int) (w : World) : Calls Try.prog 14 #[.pointer none, .int .i64 n] w fun e w' => e = .returned (.tuple #[]) ∧ w' = w := by
  go_enter Try.func14, Try.ntmps14
  go_wp2
  refine bodyPost_end (results_none rfl _ _ _) rfl ?_
  exact ⟨rfl, rfl⟩
theorem Crash_nil (n : Int) (w : World) : Calls Try.prog 15 #[.pointer none, .int .u64 n] w fun e w' => e = .returned (.tuple #[]) ∧ w' = w := by
  go_enter Try.func15, Try.ntmps15
  go_wp2
  refine bodyPost_ret (v := .tuple #[]) (results_none rfl _ _ _) rfl ?_
  exact ⟨rfl, rfl⟩
theorem get_nil (i : Int) (w : World) : Calls Try.prog 27 #[.pointer none, .int .i64 i] w fun e w' => e = .returned (.tuple #[.agg (secC zeroS).toArray, .int .i64 2]) ∧ Ext w w' := by
  have X1 := (Ext.refl w).alloc (.cells (secC zeroS).toArray 63)
  have HR := Lib.hid (Row.new w 63 (secC zeroS))
  have hz := zeroSec
  have HX1 := Lib.hid X1
  have hZ : ∃ Z : Array Value, Z = (secC zeroS).toArray := ⟨_, rfl⟩
  obtain ⟨Z, hZ⟩ := hZ
  have HZ := Lib.hid hZ
  have HZA := Lib.hid (show Z.all (·.oneCell') = true by rw [hZ]; exact allSec _)
  have HZI := Lib.hid (show (Try.prog.info? 63).map (·.size) = some Z.size by rw [hZ, sizeSec]; exact infoSec)
  rw [← hZ] at hz HX1
  have HRZ := Lib.hid (show Row (w.alloc (.cells Z 63)) w.heap.size 63 Z.toList by rw [hZ]; simpa using HR.out)
  clear X1 HR hZ
  go_enter Try.func27, Try.ntmps27
  go_wp2_with (refine wpList_store_row rfl _ _ _ rfl w.heap.size Z rfl rfl 63 Z HRZ.out HZI.out rfl HZA.out ?_)
  exact post_sec Try.results27 rfl rfl (by have := HRZ.out.setRow Z; rw [HZ.out] at this ⊢; simpa using this) rfl ⟨rfl, HX1.out.setRow (Nat.le_refl _) _⟩
theorem Read_nil (i : Int) (w : World) : Calls Try.prog 16 #[.pointer none, .int .i64 i] w fun e w' => e = .returned (.tuple #[.slice none 0 0, .int .i64 2]) ∧ Ext w w' := by
  have hget := get_nil i w
  have hz := zeroSec
  generalize zeroS = s at hget
  obtain ⟨Z, hZ⟩ : ∃ Z : Array Value, Z = (secC zeroS).toArray := ⟨_, rfl⟩
  have HZ := Lib.hid hZ
  rw [← hZ] at hz
  clear hZ
  go_enter Try.func16, Try.ntmps16
  go_wp2_with fail
  refine hget.mono ?_
  rintro e w2 ⟨rfl, h2⟩
  have H2 := Lib.hid h2
  have HRZ := Lib.hid (show Row (w2.alloc (.cells Z 63)) w2.heap.size 63 Z.toList by rw [HZ.out]; simpa using Row.new w2 63 (secC zeroS))
  have HX := Lib.hid ((h2.alloc (.cells Z 63)).setRow (show w.heap.size ≤ w2.heap.size from h2.size) (secC s).toArray)
  clear h2 hget
  go_wp2_with (refine wpList_store_row rfl _ _ _ rfl w2.heap.size (secC s).toArray rfl rfl 63 Z HRZ.out (by rw [sizeSec]; exact infoSec) (by rw [sizeSec, HZ.out, sizeSec]) (allSec s) ?_)
  go_ret2
  exact ⟨rfl, HX.out⟩
theorem Tag_nil (i : Int) (w : World) : Calls Try.prog 17 #[.pointer none, .int .i64 i] w fun e w' => e = .returned (.tuple #[.int .u16 0, .int .i64 2]) ∧ Ext w w' := by
  have hget := get_nil i w
  have hz := zeroSec
  have hst : zeroS.tag = 0 := rfl
  generalize zeroS = s at hget hst
  obtain ⟨Z, hZ⟩ : ∃ Z : Array Value, Z = (secC zeroS).toArray := ⟨_, rfl⟩
  have HZ := Lib.hid hZ
  rw [← hZ] at hz
  clear hZ
  go_enter Try.func17, Try.ntmps17
  go_wp2_with fail
  refine hget.mono ?_
  rintro e w2 ⟨rfl, h2⟩
  have HRZ := Lib.hid (show Row (w2.alloc (.cells Z 63)) w2.heap.size 63 Z.toList by rw [HZ.out]; simpa using Row.new w2 63 (secC zeroS))
  have HX := Lib.hid ((h2.alloc (.cells Z 63)).setRow (show w.heap.size ≤ w2.heap.size from h2.size) (secC s).toArray)
  have hrow := HRZ.out.setRow (secC s).toArray
  have c64 : ((w2.alloc (.cells Z 63)).setRow w2.heap.size (secC s).toArray).cell? ⟨w2.heap.size, 64, none⟩ = some (.int .u16 0) := by
    rw [hrow.cell?]
    show (secC s)[64]? = _
    unfold secC
    rw [List.getElem?_append_right (by rw [ints_length, pad64_len]; exact Nat.le_refl _), ints_length, pad64_len, hst]
    rfl
  clear h2 hget hrow hst
  go_wp2_with (refine wpList_store_row rfl _ _ _ rfl w2.heap.size (secC s).toArray rfl rfl 63 Z HRZ.out (by rw [sizeSec]; exact infoSec) (by rw [sizeSec, HZ.out, sizeSec]) (allSec s) ?_)
  go_ret2
  exact ⟨rfl, HX.out⟩
theorem Write_nil (a b c : Value) (w : World) : Calls Try.prog 11 #[.pointer none, .agg #[a, b, c]] w fun e w' => e = .returned (.int .i64 2) ∧ Ext w w' := by
  have HX := Lib.hid ((Ext.refl w).alloc (.cells #[a, b, c] 37))
  go_enter Try.func11, Try.ntmps11
  go_wp2
  go_ret
  exact ⟨rfl, HX.out⟩

set_option maxHeartbeats 1000000 in
theorem nil_walk (i : Int) (b : Value) (tg : Int) (hb1 : b.oneCell' = true) (w : World) :
    Calls Try.prog 6 #[.agg #[.int .i64 i, b, .int .u16 tg]] w fun e w' => e = .returned (.bool true) ∧ Ext w w' := by
  have X1 := (Ext.refl w).alloc (.cells #[.int .i64 i, b, .int .u16 tg] 37)
  have HR := Lib.hid (Row.new w 37 [.int .i64 i, b, .int .u16 tg])
  have hsh := shown_ok (w.alloc (.cells #[.int .i64 i, b, .int .u16 tg] 37))
  have HX1 := Lib.hid X1
  clear X1
  go_enter Try.func6, Try.ntmps6
  go_wp2_with fail
  refine hsh.mono ?_
  rintro e w1 ⟨rfl, h1⟩
  have HX2 := Lib.hid (HX1.out.trans h1)
  have HR2 := Lib.hid (HR.out.ext h1)
  have k0 := (HR2.out.cell? 0).trans rfl
  clear h1 hsh
  have k : Calls Try.prog 14 #[.pointer none, .int .i64 0] w1 _ := Cut_nil 0 w1
  go_wp2_with fail
  refine k.mono ?_
  rintro e u ⟨rfl, hu⟩
  subst hu
  clear k
  have k : Calls Try.prog 15 #[.pointer none, .int .u64 0] u _ := Crash_nil 0 u
  go_wp2_with fail
  refine k.mono ?_
  rintro e u ⟨rfl, hu⟩
  subst hu
  clear k
  have k := Read_nil i u
  go_wp2_with fail
  refine k.mono ?_
  rintro e w3 ⟨rfl, h3⟩
  have HX3 := Lib.hid (HX2.out.trans h3)
  have HR3 := Lib.hid (HR2.out.ext h3)
  have k0 := (HR3.out.cell? 0).trans rfl
  clear h3 k
  have k := Tag_nil i w3
  go_wp2_with fail
  refine k.mono ?_
  rintro e w4 ⟨rfl, h4⟩
  have HX4 := Lib.hid (HX3.out.trans h4)
  have HR4 := Lib.hid (HR3.out.ext h4)
  have k0 := (HR4.out.cell? 0).trans rfl
  have k1 := (HR4.out.cell? 1).trans rfl
  have k2 := (HR4.out.cell? 2).trans rfl
  clear h4 k
  have k := Write_nil (.int .i64 i) b (.int .u16 tg) w4
  go_wp2_with fail
  refine k.mono ?_
  rintro e w5 ⟨rfl, h5⟩
  have HX5 := Lib.hid (HX4.out.trans h5)
  clear h5 k
  have q1 := Flush_nil w5
  have q2 := Dead_nil w5
  have q3 := Done_nil w5
  have q4 := Len_nil w5
  have q5 := Copy_nil w5
  go_wp2_with (first
    | (go_at_call 13; refine q1.mono ?_; rintro e u ⟨rfl, hu⟩; subst hu)
    | (go_at_call 19; refine q2.mono ?_; rintro e u ⟨rfl, hu⟩; subst hu)
    | (go_at_call 20; refine q3.mono ?_; rintro e u ⟨rfl, hu⟩; subst hu)
    | (go_at_call 21; refine q4.mono ?_; rintro e u ⟨rfl, hu⟩; subst hu)
    | (go_at_call 22; refine q5.mono ?_; rintro e u ⟨rfl, hu⟩; subst hu))
  go_ret
  exact ⟨rfl, HX5.out⟩

theorem cellsPatch : Try.prog.cellsOf 37 = 3 := by kernel_rfl
theorem law_DiskNil {H : Type} {enc : TypeId × Value → H} {base : Nat} {d0 : DataW H} {p0 : List MemPlace} (v0 : Value) (w : World)
    (ho0 : Value.okWide Try.prog w .any base 37 v0) (h0 : DataW.Trod enc Try.prog w 0 (fun _ => true) true 37 v0 d0 p0) :
    Calls Try.prog 6 #[v0] w fun e w' => e = .returned (.bool true) ∧ Below w.heap.size w w' := by
  obtain ⟨a, b, c, y0, y1, y2, n, rfl, _, _, h0, h1, h2⟩ := open_agg3 Try.underlying37 rfl cellsPatch ho0 h0
  obtain ⟨x, e0, _, _⟩ := DataW.trod_int Try.underlying3 h0
  obtain ⟨z, e2, _, _⟩ := DataW.trod_int Try.underlying31 h2
  simp only [List.cons.injEq, and_true] at e0 e2
  subst e0 e2
  have hb : b.oneCell' = true := by
    rcases DataW.trod_slice Try.underlying29 h1 with ⟨e, _⟩ | ⟨a, len, cap, elems, rest, n, _, e, _⟩
    all_goals (simp at e; subst e; rfl)
  exact nil_walk x b z hb w
end Go.Proofs.Ytfonkicpjkcchaa.Dk
