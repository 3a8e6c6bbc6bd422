/- The walk of the law InodeLays. -/
import Derived.Test.YtdimnnnklhjnfaaILay
import Derived.Test.YtdimnnnklhjnfaaIn
import Derived.BigQuiet
import Derived.Deep.QuietTactic
import Derived.Deep.RegionHeld3
namespace Go.Proofs.Ytdimnnnklhjnfaa.Ino
open Go.RowKit Words Mem Plain Ops Base
open Go.Proofs.Ytdimnnnklhjnfaa.Field
set_option linter.ambiguousOpen false
set_option linter.unusedVariables false
set_option linter.unusedSimpArgs false

set_option maxRecDepth 4000 in
set_option maxHeartbeats 2000000 in
theorem walk_InodeLays' (n : Ino) (w : World) (hw : n.wf) :
    Calls Try.prog 6 #[n.v] w fun e w' => e = .returned (.bool true) ∧ Ext w w' := by
  have hL := fun v => Lay_ino n v hw
  have hrL := fun v => rLay_ino n v hw
  have hR := fun v => Right_ok n v
  have hrR := fun v => rRight_ok n v
  generalize n.layR = R at *
  generalize n.rightB = bb at *
  obtain ⟨k, r, l, s, d0, d1, d2, d3, d4, d5, d6, d7, i, j⟩ := n
  dsimp only [Ino.v, Ino.cs] at *
  clear hw
  have HL := Lib.hid hL; have HRL := Lib.hid hrL; have HR := Lib.hid hR; have HRR := Lib.hid hrR
  clear hL hrL hR hrR
  have XW := (Ext.refl w).alloc (.cells #[.int .u8 k, .int .u8 r, .int .i64 l, .int .i64 s, .int .i64 d0, .int .i64 d1, .int .i64 d2, .int .i64 d3, .int .i64 d4, .int .i64 d5, .int .i64 d6, .int .i64 d7, .int .i64 i, .int .i64 j] 39)
  go_enter Try.func6, Try.ntmps6
  go_wp2_with fail
  refine (HL.out _).mono ?_
  rintro e w2 ⟨a4, c4, rfl, ho4, hX2⟩
  obtain ⟨hlt, p0, p1, p2, p3, p4, p5, p6, p7, p8, p9, p10, p11, p12, p13⟩ := inoKept hX2
  go_wp2_with fail
  refine (HRL.out _).mono ?_
  rintro e w3 ⟨a5, c5, rfl, ho5, hX3⟩
  have X3 := hX2.trans hX3
  have ho4' := ownsRow_ext ho4 hX3
  have e4 := ownsRow_sl ho4'
  have e5 := ownsRow_sl ho5
  clear p0 p1 p2 p3 p4 p5 p6 p7 p8 p9 p10 p11 p12 p13 ho4 ho4' ho5 hX2 hX3 hlt
  obtain ⟨hlt, p0, p1, p2, p3, p4, p5, p6, p7, p8, p9, p10, p11, p12, p13⟩ := inoKept X3
  have X3w := XW.trans X3
  have hall : ∀ v : World, Ext w3 v → (Ext w3 v ∧ v.cell? ⟨w.heap.size, 0, none⟩ = some (.int .u8 k) ∧ v.cell? ⟨w.heap.size, 1, none⟩ = some (.int .u8 r) ∧ v.cell? ⟨w.heap.size, 2, none⟩ = some (.int .i64 l) ∧ v.cell? ⟨w.heap.size, 3, none⟩ = some (.int .i64 s) ∧ v.cell? ⟨w.heap.size, 4, none⟩ = some (.int .i64 d0) ∧ v.cell? ⟨w.heap.size, 5, none⟩ = some (.int .i64 d1) ∧ v.cell? ⟨w.heap.size, 6, none⟩ = some (.int .i64 d2) ∧ v.cell? ⟨w.heap.size, 7, none⟩ = some (.int .i64 d3) ∧ v.cell? ⟨w.heap.size, 8, none⟩ = some (.int .i64 d4) ∧ v.cell? ⟨w.heap.size, 9, none⟩ = some (.int .i64 d5) ∧ v.cell? ⟨w.heap.size, 10, none⟩ = some (.int .i64 d6) ∧ v.cell? ⟨w.heap.size, 11, none⟩ = some (.int .i64 d7) ∧ v.cell? ⟨w.heap.size, 12, none⟩ = some (.int .i64 i) ∧ v.cell? ⟨w.heap.size, 13, none⟩ = some (.int .i64 j) ∧ (convert 33 9 (.slice a4 R.1.length c4)).run Try.prog v = .ok (.string (strOf R.1)) v ∧ (convert 33 9 (.slice a5 R.1.length c5)).run Try.prog v = .ok (.string (strOf R.1)) v) := fun v hv => ⟨hv, hv.keep p0, hv.keep p1, hv.keep p2, hv.keep p3, hv.keep p4, hv.keep p5, hv.keep p6, hv.keep p7, hv.keep p8, hv.keep p9, hv.keep p10, hv.keep p11, hv.keep p12, hv.keep p13, run_conv_str (P := Try.prog) v 33 9 5 Try.underlying33 Try.underlying5 Try.underlying9 c4 (e4.ext hv) rfl, run_conv_str (P := Try.prog) v 33 9 5 Try.underlying33 Try.underlying5 Try.underlying9 c5 (e5.ext hv) rfl⟩
  have hK : ∀ v u : World, (Ext w3 v ∧ v.cell? ⟨w.heap.size, 0, none⟩ = some (.int .u8 k) ∧ v.cell? ⟨w.heap.size, 1, none⟩ = some (.int .u8 r) ∧ v.cell? ⟨w.heap.size, 2, none⟩ = some (.int .i64 l) ∧ v.cell? ⟨w.heap.size, 3, none⟩ = some (.int .i64 s) ∧ v.cell? ⟨w.heap.size, 4, none⟩ = some (.int .i64 d0) ∧ v.cell? ⟨w.heap.size, 5, none⟩ = some (.int .i64 d1) ∧ v.cell? ⟨w.heap.size, 6, none⟩ = some (.int .i64 d2) ∧ v.cell? ⟨w.heap.size, 7, none⟩ = some (.int .i64 d3) ∧ v.cell? ⟨w.heap.size, 8, none⟩ = some (.int .i64 d4) ∧ v.cell? ⟨w.heap.size, 9, none⟩ = some (.int .i64 d5) ∧ v.cell? ⟨w.heap.size, 10, none⟩ = some (.int .i64 d6) ∧ v.cell? ⟨w.heap.size, 11, none⟩ = some (.int .i64 d7) ∧ v.cell? ⟨w.heap.size, 12, none⟩ = some (.int .i64 i) ∧ v.cell? ⟨w.heap.size, 13, none⟩ = some (.int .i64 j) ∧ (convert 33 9 (.slice a4 R.1.length c4)).run Try.prog v = .ok (.string (strOf R.1)) v ∧ (convert 33 9 (.slice a5 R.1.length c5)).run Try.prog v = .ok (.string (strOf R.1)) v) → Ext v u → (Ext w3 u ∧ u.cell? ⟨w.heap.size, 0, none⟩ = some (.int .u8 k) ∧ u.cell? ⟨w.heap.size, 1, none⟩ = some (.int .u8 r) ∧ u.cell? ⟨w.heap.size, 2, none⟩ = some (.int .i64 l) ∧ u.cell? ⟨w.heap.size, 3, none⟩ = some (.int .i64 s) ∧ u.cell? ⟨w.heap.size, 4, none⟩ = some (.int .i64 d0) ∧ u.cell? ⟨w.heap.size, 5, none⟩ = some (.int .i64 d1) ∧ u.cell? ⟨w.heap.size, 6, none⟩ = some (.int .i64 d2) ∧ u.cell? ⟨w.heap.size, 7, none⟩ = some (.int .i64 d3) ∧ u.cell? ⟨w.heap.size, 8, none⟩ = some (.int .i64 d4) ∧ u.cell? ⟨w.heap.size, 9, none⟩ = some (.int .i64 d5) ∧ u.cell? ⟨w.heap.size, 10, none⟩ = some (.int .i64 d6) ∧ u.cell? ⟨w.heap.size, 11, none⟩ = some (.int .i64 d7) ∧ u.cell? ⟨w.heap.size, 12, none⟩ = some (.int .i64 i) ∧ u.cell? ⟨w.heap.size, 13, none⟩ = some (.int .i64 j) ∧ (convert 33 9 (.slice a4 R.1.length c4)).run Try.prog u = .ok (.string (strOf R.1)) u ∧ (convert 33 9 (.slice a5 R.1.length c5)).run Try.prog u = .ok (.string (strOf R.1)) u) := fun v u h hu => hall u (h.1.trans hu)
  have HS0 := Lib.hid (hall w3 (Ext.refl w3)); have HK := Lib.hid hK
  have HX := Lib.hid X3w
  clear hall hK e4 e5 p0 p1 p2 p3 p4 p5 p6 p7 p8 p9 p10 p11 p12 p13 X3 XW X3w hlt
  go_wp2_with fail
  first | go_region_held3 (fun v => Ext w3 v ∧ v.cell? ⟨w.heap.size, 0, none⟩ = some (.int .u8 k) ∧ v.cell? ⟨w.heap.size, 1, none⟩ = some (.int .u8 r) ∧ v.cell? ⟨w.heap.size, 2, none⟩ = some (.int .i64 l) ∧ v.cell? ⟨w.heap.size, 3, none⟩ = some (.int .i64 s) ∧ v.cell? ⟨w.heap.size, 4, none⟩ = some (.int .i64 d0) ∧ v.cell? ⟨w.heap.size, 5, none⟩ = some (.int .i64 d1) ∧ v.cell? ⟨w.heap.size, 6, none⟩ = some (.int .i64 d2) ∧ v.cell? ⟨w.heap.size, 7, none⟩ = some (.int .i64 d3) ∧ v.cell? ⟨w.heap.size, 8, none⟩ = some (.int .i64 d4) ∧ v.cell? ⟨w.heap.size, 9, none⟩ = some (.int .i64 d5) ∧ v.cell? ⟨w.heap.size, 10, none⟩ = some (.int .i64 d6) ∧ v.cell? ⟨w.heap.size, 11, none⟩ = some (.int .i64 d7) ∧ v.cell? ⟨w.heap.size, 12, none⟩ = some (.int .i64 i) ∧ v.cell? ⟨w.heap.size, 13, none⟩ = some (.int .i64 j) ∧ (convert 33 9 (.slice a4 R.1.length c4)).run Try.prog v = .ok (.string (strOf R.1)) v ∧ (convert 33 9 (.slice a5 R.1.length c5)).run Try.prog v = .ok (.string (strOf R.1)) v) (first | assumption | exact HS0.out | exact HK.out _ _ HS0.out ((Ext.refl _).drew) | exact HK.out _ _ (by assumption) (by assumption)) (first
      | (go_at_call 12; refine (shown_ok _).mono ?_; rintro e u ⟨rfl, hX⟩)
      | (go_at_call 20; refine (HR.out _).mono ?_; rintro e u ⟨rfl, hX⟩)
      | (go_at_call 21; refine (HRR.out _).mono ?_; rintro e u ⟨rfl, hX⟩)) | fail
  rename_i hH
  obtain ⟨hE, _⟩ := hH
  clear HS0 HK HL HRL HR HRR
  go_wp2
  go_ret
  exact ⟨rfl, HX.out.trans hE⟩
end Go.Proofs.Ytdimnnnklhjnfaa.Ino
