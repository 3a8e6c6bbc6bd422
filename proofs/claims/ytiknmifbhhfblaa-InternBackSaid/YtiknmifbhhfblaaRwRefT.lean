/- The reference's Take; the laws InternLays, InternTakes. -/
import Derived.Test.YtiknmifbhhfblaaRwRef
import Derived.Test.YtiknmifbhhfblaaRwIn
import Derived.Test.YtiknmifbhhfblaaIn
namespace Go.Proofs.Ytiknmifbhhfblaa.Intern
open Go.RowKit Words Mem Plain Ops Agg
open Go.Proofs.Ytiknmifbhhfblaa.Field
open Go.ChangeShapes Go.WideShapes
set_option linter.ambiguousOpen false
set_option linter.unusedVariables false
set_option linter.unusedSimpArgs false

set_option maxRecDepth 100000 in
set_option maxHeartbeats 4000000 in
theorem rRTake_64 (xs : List Int) (a : Option Addr) (cap : Nat) (w : World) (h64 : xs.length = 64) (hb : isBytes xs) (hs : Sl w a (ints .u8 xs)) :
    Calls Try.prog 24 #[.slice a 64 cap] w fun e w' => ∃ v, e = .returned (.tuple #[v, .int .i64 (rowsTake xs).2]) ∧ OwnR 37 w (rowsTake xs).1 v w' := by
  have HATC := Lib.hid (fun (w1 : World) (h : Ext w w1) (j : Nat) (hj : j < 32) => At_ok a 64 cap xs (2 * j) 2 w1 h64 (by decide) hb (hs.ext h) (standsB_of (by decide) (by decide) (by omega) (by omega) (by omega)))
  have HB := Lib.hid hb
  have H64 := Lib.hid h64
  clear hb hs h64
  go_enter Try.func24, Try.ntmps24
  go_wp2
  go_loopw [5, 4] (fun v u wr => ∃ (k c : Nat) (ao : Option Addr), k ≤ 16 ∧ v = .int .i64 (4 * k : Nat) ∧ u = .slice ao k c ∧ wr.ownsRow w.heap.size 37 2 (.slice ao k c) k (rowsC (rowsQ xs k)) ∧ Ext w wr) (fun v _ _ => 64 - (intOf v).toNat)
  case atStart => exact ⟨0, 0, none, by omega, rfl, rfl, own2_nil _ _ _, Ext.refl _⟩
  case round =>
    obtain ⟨k, c, ao, hk, rfl, rfl, hown, hX⟩ := hrel
    have HX := Lib.hid hX
    have HOWN := Lib.hid hown
    by_cases hlt : k < 16
    · obtain ⟨x0, x1⟩ := numAt_bd HB.out (2 * k)
      obtain ⟨y0, y1⟩ := numAt_bd HB.out (2 * k + 1)
      have k1 := HATC.out wr hX (2 * k) (by omega)
      have k2 := HATC.out wr hX (2 * k + 1) (by omega)
      have hsucc := rowsQ_succ xs k
      have e1 : numOf ((xs.drop (2 * (2 * k))).take 2) = numAt xs (2 * k) := rfl
      have e2 : numOf ((xs.drop (2 * (2 * k + 1))).take 2) = numAt xs (2 * k + 1) := rfl
      rw [e1] at k1
      rw [e2] at k2
      generalize numAt xs (2 * k) = x at *
      generalize numAt xs (2 * k + 1) = y at *
      have HS := Lib.hid hsucc
      obtain ⟨q, hq⟩ : ∃ q, q = 4 * k := ⟨_, rfl⟩
      have HQ := Lib.hid hq
      have z1 : ((2 * (2 * k) : Nat) : Int) = (q : Int) := by omega
      have z2 : ((2 * (2 * k + 1) : Nat) : Int) = (q : Int) + 2 := by omega
      rw [z1] at k1
      rw [z2] at k2
      rw [← hq]
      have hqj : (q : Int) < 64 := by omega
      have hq0 : (0 : Int) ≤ q := by omega
      have hadd : IntKind.i64.wrap ((q : Int) + 2) = (q : Int) + 2 := IntWalk.i64_in _ (by omega)
      have hadd2 : IntKind.i64.wrap ((q : Int) + 4) = (q : Int) + 4 := IntWalk.i64_in _ (by omega)
      have hwx : IntKind.u16.wrap x = x := IntWalk.u16_in _ (by omega)
      have hwy : IntKind.i64.wrap y = y := IntWalk.i64_in _ (by omega)
      have hown2 := own2_ext hown ((Ext.refl wr).alloc (.cells #[.int .u16 x, .int .i64 y] 37))
      have X2 := hX.alloc (.cells #[.int .u16 x, .int .i64 y] 37)
      have hrow := Row.new wr 37 [.int .u16 x, .int .i64 y]
      obtain ⟨a4, c4, w4, hrun4, hown4, hext4⟩ := run_append_rows (P := Try.prog) _ w.heap.size 22 22 37 _ 16 Try.underlying22 infoRowZ rfl hown2 (m := 1) 1 (by rfl) hrow.sl0 (by simp) (by simp [Value.oneCell']) (by omega) (by omega) X2.size
      have X4 := hext4 w X2 (Nat.le_refl _)
      have ea : rowsC (rowsQ xs k) ++ [.int .u16 x, .int .i64 y] = rowsC (rowsQ xs (k + 1)) := by rw [HS.out, rowsC_append]; rfl
      rw [ea] at hown4
      have HO4 := Lib.hid hown4
      have HX4 := Lib.hid X4
      clear hext4 hown4 hown hown2 X4 X2 hrow hX hq hsucc z1 z2 e1 e2 ea
      go_wp2_with fail
      refine k1.mono ?_
      rintro e w2 ⟨rfl, rfl⟩
      go_wp2_with fail
      refine k2.mono ?_
      rintro e w2 ⟨rfl, rfl⟩
      clear k1 k2
      go_wp2_with (at_builtin; refine Guard.wpList_append_want _ rfl _ _ _ _ rfl _ _ rfl rfl _ _ hrun4 ?_)
      go_roundw
      case rel => exact ⟨k + 1, c4, a4, hlt, congrArg (Value.int .i64) (by have := HQ.out; omega), rfl, HO4.out, HX4.out⟩
      case measure => simp [intOf]; have := HQ.out; omega
    · have : k = 16 := by omega
      subst this
      have hright := rRight_ok (rowsQ xs 16) ao c wr (own2_sl hown) (rowsQ_wf HB.out 16) (by rw [rowsQ_length]; decide)
      rw [rowsQ_length] at hright
      cases hr : rightB (rowsQ xs 16)
      · rw [hr] at hright
        have HV := Lib.hid (rowsTake_no hr)
        clear hr hown hX HOWN
        go_wp2_with fail
        refine hright.mono ?_
        rintro e w3 ⟨rfl, h3⟩
        have H3 := Lib.hid (HX.out.trans h3)
        clear h3 hright
        go_wp2
        go_ret2
        rw [HV.out]
        exact ⟨_, rfl, OwnR.nil H3.out⟩
      · rw [hr] at hright
        have HV := Lib.hid (rowsTake_yes H64.out hr)
        clear hr hown hX
        go_wp2_with fail
        refine hright.mono ?_
        rintro e w3 ⟨rfl, h3⟩
        have H3 := Lib.hid (HX.out.trans h3)
        have HO3 := Lib.hid (own2_ext HOWN.out h3)
        clear h3 hright HOWN
        go_wp2
        go_ret2
        rw [HV.out]
        refine ⟨_, rfl, ao, c, by rw [rowsQ_length]; rfl, ?_, H3.out⟩
        rw [rowsQ_length]
        exact HO3.out

theorem rRTake_ok (xs : List Int) (a : Option Addr) (n cap : Nat) (w : World) (hl : xs.length = n) (hn : n ≤ 9223372036854775807) (hb : isBytes xs) (hs : Sl w a (ints .u8 xs)) :
    Calls Try.prog 24 #[.slice a n cap] w fun e w' => ∃ v, e = .returned (.tuple #[v, .int .i64 (rowsTake xs).2]) ∧ OwnR 37 w (rowsTake xs).1 v w' := by
  by_cases h : xs.length = 64
  · obtain rfl : n = 64 := by omega
    exact rRTake_64 xs a cap w h hb hs
  · rw [rowsTake_len h]
    have h' : ¬ ((n : Int) = 64) := by omega
    clear hb hs hl h
    go_enter Try.func24, Try.ntmps24
    go_wp2
    go_ret2
    exact ⟨_, rfl, OwnR.nil (Ext.refl _)⟩
end Go.Proofs.Ytiknmifbhhfblaa.Intern
