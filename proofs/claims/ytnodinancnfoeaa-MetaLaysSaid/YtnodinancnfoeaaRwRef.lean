/- The reference's Lay and Take. -/
import Derived.Test.YtnodinancnfoeaaRwLay
import Derived.Test.YtnodinancnfoeaaRrR
import Derived.Test.YtnodinancnfoeaaGuard
import Derived.Test.YtnodinancnfoeaaAgg
import Derived.Test.YtnodinancnfoeaaAtP
namespace Go.Proofs.Ytnodinancnfoeaa.Intern
open Go.RowKit Words Mem Plain Ops Agg
open Go.Proofs.Ytnodinancnfoeaa.Field
set_option linter.ambiguousOpen false
set_option linter.unusedVariables false
set_option linter.unusedSimpArgs false

theorem layed_two (L : List Int) (x y : Int) : layed 2 (L ++ [x, y]) = layed 2 L ++ bytesOf 2 x ++ bytesOf 2 y := by simp [layed]

set_option maxHeartbeats 2000000 in
theorem rRLay_ok (L : List RowT) (s : Option Addr) (cap : Nat) (w : World) (hm : L.length ≤ 9223372036854775807) (hc : Sl w s (rowsC L)) (hwf : wfR L) :
    Calls Try.prog 28 #[.slice s L.length cap] w (Gave .u8 5 w (rowsLay L)) := by
  have hright := rRight_ok L s cap w hc hwf hm
  cases hr : rightB L
  · rw [hr] at hright
    rw [rowsLay_no hr]
    clear hm hc hwf hr
    generalize L.length = n at *
    go_enter Try.func28, Try.ntmps28
    go_wp2_with fail
    refine hright.mono ?_
    rintro e w2 ⟨rfl, h2⟩
    have H2 := Lib.hid h2
    clear h2 hright
    go_wp2
    go_ret2
    exact Gave.nil rfl H2.out
  · have hok := (right_iff L).1 hr
    have h16 := hok.1
    obtain ⟨b, off, rfl, hrows⟩ := rows_at hc (by omega)
    have hrows : RowsAt b off L w := hrows
    have HROWS := Lib.hid hrows
    rw [hr] at hright
    rw [rowsLay_yes hr]
    have HOK := Lib.hid (And.intro hok hwf)
    have H16 := Lib.hid h16
    rw [h16] at hright ⊢
    clear hm hc hwf hr hok hrows h16
    go_enter Try.func28, Try.ntmps28
    go_wp2_with fail
    refine hright.mono ?_
    rintro e w2 ⟨rfl, h2⟩
    have H2 := Lib.hid h2
    clear h2 hright
    go_wp2
    go_loopw [5, 4] (fun v u wr => ∃ (k m c : Nat) (ao : Option Addr), k ≤ 16 ∧ m = 4 * k ∧ v = .int .i64 k ∧ u = .slice ao m c ∧ wr.ownsRow w.heap.size 5 1 (.slice ao m c) m (ints .u8 (layed 2 (numsR (L.take k)))) ∧ Ext w wr) (fun v _ _ => 16 - (intOf v).toNat)
    case atStart => exact ⟨0, 0, 0, none, by omega, rfl, rfl, rfl, ownsRow_nil _ _ _, H2.out⟩
    case round =>
      obtain ⟨k, m, c, ao, hk, hm, rfl, rfl, hown, hX⟩ := hrel
      have HM := Lib.hid hm
      have hm2 : m ≤ 64 := by omega
      clear hm
      by_cases hlt : k < 16
      · have hkL : k < L.length := by rw [H16.out]; exact hlt
        obtain ⟨c0, c1⟩ := HROWS.out.ext hX k hkL
        obtain ⟨x, hx⟩ : ∃ x, x = (rg L k).1 := ⟨_, rfl⟩
        obtain ⟨y, hy⟩ : ∃ y, y = (rg L k).2 := ⟨_, rfl⟩
        have HEQ := Lib.hid (show rg L k = (x, y) by rw [hx, hy])
        have HTS := Lib.hid (show layed 2 (numsR (L.take (k + 1))) = layed 2 (numsR (L.take k)) ++ bytesOf 2 x ++ bytesOf 2 y by rw [numsR_take L hkL, hx, hy, layed_two])
        have hx1 : 0 ≤ x ∧ x ≤ 65535 := by rw [hx]; exact (HOK.out.2.at hkL).1
        have hy1 : 0 ≤ y ∧ y ≤ 65535 := by rw [hy]; exact ⟨(HOK.out.1.2 k hkL).1, (HOK.out.1.2 k hkL).2.1⟩
        rw [← hx] at c0
        rw [← hy] at c1
        clear hx hy
        obtain ⟨x0, x1⟩ := hx1
        obtain ⟨y0, y1⟩ := hy1
        have hk0 : (0 : Int) ≤ k := by omega
        have hk1 : (k : Int) < 16 := by omega
        have hwx : IntKind.u64.wrap x = x := IntWalk.u64_in _ (by omega)
        have hwy : IntKind.u64.wrap y = y := IntWalk.u64_in _ (by omega)
        have k1 : Calls Try.prog 51 #[.int .u64 x, .int .i64 2] wr _ := rNum_ok x 2 wr x0 (by omega) (by decide)
        have HX := Lib.hid hX
        have HOWN := Lib.hid hown
        clear hX hown
        go_wp2_with fail
        refine k1.mono ?_
        rintro e w3 ⟨a3, c3, rfl, hown3, hX3⟩
        rw [length_bytesOf] at hown3
        rw [length_bytesOf]
        have hown2' := ownsRow_ext HOWN.out hX3
        have X3 := HX.out.trans hX3
        obtain ⟨a4, c4, w4, hrun4, hown4, hext4⟩ := run_append_sl (P := Try.prog) w3 w.heap.size 26 26 5 (.int .u8 0) 1 Try.underlying26 info8 rfl hown2' (m := 2) c3 (by rw [ints_length, length_bytesOf]) (ownsRow_sl hown3) (own_nil hown3) (ints_oneCell' _ _) (by omega) (by omega) X3.size
        have X4 := hext4 w X3 (Nat.le_refl _)
        rw [← ints_append] at hown4
        obtain ⟨d0, d1⟩ := HROWS.out.ext X4 k hkL
        rw [HEQ.out] at d0 d1
        dsimp only at d0 d1
        have HX4 := Lib.hid X4
        have HO4 := Lib.hid hown4
        have k2 : Calls Try.prog 51 #[.int .u64 y, .int .i64 2] w4 _ := rNum_ok y 2 w4 y0 (by omega) (by decide)
        clear hext4 hown3 hown2' hX3 X3 X4 hown4 k1 HX HOWN c0 c1
        go_wp2_with (at_builtin; refine Guard.wpList_append_want _ rfl _ _ _ _ rfl _ _ rfl rfl _ _ hrun4 ?_)
        refine k2.mono ?_
        rintro e w5 ⟨a5, c5, rfl, hown5, hX5⟩
        rw [length_bytesOf] at hown5
        rw [length_bytesOf]
        have hown2' := ownsRow_ext HO4.out hX5
        have X5 := HX4.out.trans hX5
        obtain ⟨a6, c6, w6, hrun6, hown6, hext6⟩ := run_append_sl (P := Try.prog) w5 w.heap.size 26 26 5 (.int .u8 0) 1 Try.underlying26 info8 rfl hown2' (m := 2) c5 (by rw [ints_length, length_bytesOf]) (ownsRow_sl hown5) (own_nil hown5) (ints_oneCell' _ _) (by omega) (by omega) X5.size
        have X6 := hext6 w X5 (Nat.le_refl _)
        rw [← ints_append, ← HTS.out] at hown6
        have HX6 := Lib.hid X6
        have HO6 := Lib.hid hown6
        clear hext6 hown5 hown2' hX5 X5 X6 hown6 k2 HX4 HO4 hrun4 d0 d1
        go_wp2_with (at_builtin; refine Guard.wpList_append_want _ rfl _ _ _ _ rfl _ _ rfl rfl _ _ hrun6 ?_)
        go_roundw
        case rel => exact ⟨k + 1, m + 2 + 2, c6, a6, hlt, by have := HM.out; omega, by go_num, rfl, HO6.out, HX6.out⟩
        case measure => simp [intOf]; omega
      · have : k = 16 := by omega
        subst this
        obtain rfl : m = 64 := HM.out
        have HX := Lib.hid hX
        rw [List.take_of_length_le (by rw [H16.out]; exact Nat.le_refl _)] at hown
        have hlen : (layed 2 (numsR L)).length = 64 := by rw [length_layed, numsR_length, H16.out]
        have HO := Lib.hid hown
        have HLN := Lib.hid hlen
        clear hown hX hlen
        go_wp2
        go_ret2
        refine ⟨ao, c, by rw [HLN.out]; rfl, ?_, HX.out⟩
        dsimp only
        rw [HLN.out]
        exact HO.out
end Go.Proofs.Ytnodinancnfoeaa.Intern
