/- intern.Lay and the reference's. -/
import Derived.Test.YtnodinancnfoeaaRightI
import Derived.Laws.CopyRow
import Derived.Laws.IdiomCopy
import Derived.Test.YtnodinancnfoeaaAgg
import Derived.Test.YtnodinancnfoeaaGuard
import Derived.Test.YtnodinancnfoeaaLayP
import Derived.Test.YtnodinancnfoeaaSplP
import Derived.Test.YtnodinancnfoeaaNum
namespace Go.Proofs.Ytnodinancnfoeaa.Intern
open Go.RowKit Words Mem Plain Ops Agg
open Go.Proofs.Ytnodinancnfoeaa.Field
set_option linter.ambiguousOpen false
set_option linter.unusedVariables false
set_option linter.unusedSimpArgs false

def numsR (L : List RowT) : List Int := L.flatMap fun r => [r.1, r.2]
theorem numsR_length (L : List RowT) : (numsR L).length = 2 * L.length := by
  induction L with
  | nil => rfl
  | cons r L ih => show (r.1 :: r.2 :: numsR L).length = _; simp only [List.length_cons, ih]; omega
theorem numsR_snoc (L : List RowT) (x y : Int) : numsR (L ++ [(x, y)]) = numsR L ++ [x, y] := by simp [numsR]
theorem numsR_take (L : List RowT) {k : Nat} (hk : k < L.length) : numsR (L.take (k + 1)) = numsR (L.take k) ++ [(rg L k).1, (rg L k).2] := by
  rw [List.take_succ_eq_append_getElem hk, ← rg_eq L k hk]
  exact numsR_snoc _ _ _
theorem numsR_mem {L : List RowT} {x : Int} (h : x ∈ numsR L) : ∃ k, k < L.length ∧ (x = (rg L k).1 ∨ x = (rg L k).2) := by
  obtain ⟨r, hr, hx⟩ := List.mem_flatMap.1 h
  obtain ⟨k, hk, rfl⟩ := List.getElem_of_mem hr
  refine ⟨k, hk, ?_⟩
  rw [rg_eq L k hk]
  simpa using hx
theorem numsR_bd {L : List RowT} (h : okP L) (hw : wfR L) : ∀ x ∈ numsR L, 0 ≤ x ∧ x < 65536 := by
  intro x hx
  obtain ⟨k, hk, rfl | rfl⟩ := numsR_mem hx
  · have := (hw.at hk).1; omega
  · have := h.2 k hk
    obtain ⟨h0, h1, _⟩ := this
    omega
theorem okLay_rows {L : List RowT} (h : okP L) (hw : wfR L) : okLay 2 (numsR L) = true := by
  unfold okLay
  rw [numsR_length, h.1]
  simp only [Bool.and_eq_true, List.all_eq_true]
  refine ⟨by decide, fun x hx => fitsB_of ?_⟩
  have := numsR_bd h hw x hx
  have e : (256 : Int) ^ 2 = 65536 := by decide
  rw [e]; omega
theorem layR_rows {L : List RowT} (h : okP L) (hw : wfR L) : layR 2 (numsR L) = (layed 2 (numsR L), 0) := by
  unfold layR
  rw [if_neg (by decide)]
  have := okLay_rows h hw
  simp [this]
/-- Lay. -/
def RowsAt (b off : Nat) (L : List RowT) (w : World) : Prop := ∀ k, k < L.length → w.cell? ⟨b, off + k * 2, none⟩ = some (.int .u16 (rg L k).1) ∧ w.cell? ⟨b, off + k * 2 + 1, none⟩ = some (.int .i64 (rg L k).2)
theorem RowsAt.ext {b off : Nat} {L : List RowT} {w w' : World} (h : RowsAt b off L w) (e : Ext w w') : RowsAt b off L w' := fun k hk => ⟨e.keep (h k hk).1, e.keep (h k hk).2⟩
def rowsLay (L : List RowT) : List Int × Int := if rightB L = true then (layed 2 (numsR L), 0) else ([], 1)
theorem rowsLay_yes {L : List RowT} (h : rightB L = true) : rowsLay L = (layed 2 (numsR L), 0) := by unfold rowsLay; rw [if_pos h]
theorem rowsLay_no {L : List RowT} (h : rightB L = false) : rowsLay L = ([], 1) := by unfold rowsLay; rw [if_neg (by rw [h]; simp)]

set_option maxRecDepth 100000 in
set_option maxHeartbeats 2000000 in
theorem RLay_ok (L : List RowT) (s : Option Addr) (cap : Nat) (w : World) (hm : L.length ≤ 9223372036854775807) (hc : Sl w s (rowsC L)) (hwf : wfR L) :
    Calls Try.prog 25 #[.slice s L.length cap] w (Gave .u8 5 w (rowsLay L)) := by
  have hright := Right_ok L s cap w hc hwf hm
  cases hr : rightB L
  · rw [hr] at hright
    rw [rowsLay_no hr]
    clear hm hc hwf hr
    generalize L.length = n at *
    go_enter Try.func25, Try.ntmps25
    go_wp2_with fail
    refine hright.mono ?_
    rintro e w2 ⟨rfl, h2⟩
    have H2 := Lib.hid h2
    clear h2 hright
    go_wp2
    go_ret2
    exact Gave.nil rfl H2.out
  · have hok := (right_iff L).1 hr
    have h16 := hok.1
    obtain ⟨b, off, rfl, hrows⟩ := rows_at hc (by omega)
    have hrows : RowsAt b off L w := hrows
    have HROWS := Lib.hid hrows
    rw [hr] at hright
    rw [rowsLay_yes hr, ← layR_rows hok hwf]
    have HOK := Lib.hid (And.intro hok hwf)
    have H16 := Lib.hid h16
    rw [h16] at hright ⊢
    clear hm hc hwf hr hok hrows h16
    go_enter Try.func25, Try.ntmps25
    go_wp2_with fail
    refine hright.mono ?_
    rintro e w2 ⟨rfl, h2⟩
    have H2 := Lib.hid h2
    clear h2 hright
    go_wp2
    go_loopw [12, 4] (fun v u wr => ∃ (k m c : Nat) (ao : Option Addr), k ≤ 16 ∧ m = 2 * k ∧ v = .int .i64 k ∧ u = .slice ao m c ∧ wr.ownsRow w.heap.size 76 1 (.slice ao m c) m (ints .u64 (numsR (L.take k))) ∧ Ext w wr) (fun v _ _ => 16 - (intOf v).toNat)
    case atStart => exact ⟨0, 0, 0, none, by omega, rfl, rfl, rfl, ownsRow_nil _ _ _, H2.out⟩
    case round =>
      obtain ⟨k, m, c, ao, hk, hm, rfl, rfl, hown, hX⟩ := hrel
      have HM := Lib.hid hm
      have hm2 : m ≤ 32 := by omega
      clear hm
      by_cases hlt : k < 16
      · have hkL : k < L.length := by rw [H16.out]; exact hlt
        obtain ⟨c0, c1⟩ := HROWS.out.ext hX k hkL
        obtain ⟨x, hx⟩ : ∃ x, x = (rg L k).1 := ⟨_, rfl⟩
        obtain ⟨y, hy⟩ : ∃ y, y = (rg L k).2 := ⟨_, rfl⟩
        have HTS := Lib.hid (show numsR (L.take (k + 1)) = numsR (L.take k) ++ [x, y] by rw [numsR_take L hkL, hx, hy])
        have hx1 : 0 ≤ x ∧ x ≤ 65535 := by rw [hx]; exact (HOK.out.2.at hkL).1
        have hy1 : 0 ≤ y ∧ y ≤ 65535 := by rw [hy]; exact ⟨(HOK.out.1.2 k hkL).1, (HOK.out.1.2 k hkL).2.1⟩
        rw [← hx] at c0
        rw [← hy] at c1
        clear hx hy
        obtain ⟨x0, x1⟩ := hx1
        obtain ⟨y0, y1⟩ := hy1
        have X1 := hX.alloc (.cells #[.int .u16 x, .int .i64 y] 45)
        have X2 := X1.alloc (.cells #[.int .u64 x, .int .u64 y] 76)
        have hrow := Row.new (wr.alloc (.cells #[.int .u16 x, .int .i64 y] 45)) 76 (ints .u64 [x, y])
        have hown2 := ownsRow_ext hown (((Ext.refl wr).alloc (.cells #[.int .u16 x, .int .i64 y] 45)).alloc (.cells #[.int .u64 x, .int .u64 y] 76))
        have hs1 : (wr.alloc (.cells #[.int .u16 x, .int .i64 y] 45)).heap.size = wr.heap.size + 1 := by simp
        rw [hs1] at hrow
        obtain ⟨a4, c4, w4, hrun4, hown4, hext4⟩ := run_append_sl (P := Try.prog) _ w.heap.size 73 73 76 (.int .u64 0) 8 Try.underlying73 info64 rfl hown2 (m := 2) 2 (by rfl) hrow.sl0 (by simp) (ints_oneCell' _ _) (by omega) (by omega) X2.size
        have X4 := hext4 w X2 (Nat.le_refl _)
        rw [← ints_append, ← HTS.out] at hown4
        have HO4 := Lib.hid hown4
        have HX4 := Lib.hid X4
        clear hext4 hown4 hown hown2 hX X1 X2 X4 hrow hs1
        go_wp2_with (at_builtin; refine Guard.wpList_append_want _ rfl _ _ _ _ rfl _ _ rfl rfl _ _ hrun4 ?_)
        go_roundw
        case rel => exact ⟨k + 1, m + 2, c4, a4, hlt, by have := HM.out; omega, by go_num, rfl, HO4.out, HX4.out⟩
        case measure => simp [intOf]; omega
      · have : k = 16 := by omega
        subst this
        obtain rfl : m = 32 := HM.out
        have HX := Lib.hid hX
        rw [List.take_of_length_le (by rw [H16.out]; exact Nat.le_refl _)] at hown
        have hnl : (numsR L).length = 32 := by rw [numsR_length, H16.out]
        have hcall := Lay_gave ao 32 c (numsR L) wr 2 hnl (by omega) (ownsRow_sl hown) (fun x hx => by have := numsR_bd HOK.out.1 HOK.out.2 x hx; omega)
        clear hown hX
        generalize layR 2 (numsR L) = R at *
        obtain ⟨Rl, Rc⟩ := R
        go_wp2_with fail
        refine hcall.mono ?_
        rintro e w3 ⟨a3, c3, rfl, ho3, h3⟩
        have HO := Lib.hid (ownsRow_base ho3 HX.out.size)
        have H3 := Lib.hid (HX.out.trans h3)
        clear ho3 h3 hcall
        dsimp only at *
        go_wp2
        go_ret2
        exact ⟨a3, c3, rfl, HO.out, H3.out⟩
end Go.Proofs.Ytnodinancnfoeaa.Intern
