/- intern.Take: the walk. -/
import Derived.Test.YtnodinancnfoeaaRwTake
import Derived.Test.YtnodinancnfoeaaRwM
import Derived.Test.YtnodinancnfoeaaGuard
import Derived.Test.YtnodinancnfoeaaAgg
namespace Go.Proofs.Ytnodinancnfoeaa.Intern
open Go.RowKit Words Mem Plain Ops Agg
open Go.Proofs.Ytnodinancnfoeaa.Field
set_option linter.ambiguousOpen false
set_option linter.unusedVariables false
set_option linter.unusedSimpArgs false

theorem infoRowZ : (Try.prog.info? 45).map (fun i => (i.zero, i.size, i.bytes)) = some (some (.agg #[.int .u16 0, .int .i64 0]), 2, 16) := by kernel_rfl

theorem infoRowE : ∃ i, Try.prog.info? 45 = some i ∧ i.zero = some (.agg #[.int .u16 0, .int .i64 0]) ∧ i.size = 2 ∧ i.bytes = 16 := by
  obtain ⟨i, h1, h2, h3, h4⟩ := info_parts infoRowZ
  exact ⟨i, h1, h2, h3, h4⟩

/-- append(out, Row{x, y}) at a step of a region that draws. -/
theorem step_app {ops : Array Oper} {o : Oper} {a : Act} {K : Act → World → Prop} {Q : Exit → Act → World → Prop} {E : Prop} {V w2 : World} {g k c : Nat} {ao : Option Addr} {M : List RowT} {x y : Int} (hgd : o.guard = none) (s xx : Operand)
    (ho : o.op = .call { callee := .builtin .append, args := #[s, xx], argTypes := #[24, 24] }) (hs : a.eval s = .slice ao k c) (hx : a.eval xx = .slice (some ⟨g, 0, none⟩) 1 1) (hV : V.heap[g]? = some (.cells #[.int .u16 x, .int .i64 y] 45 (0, 0))) (HX : Ext w2 V)
    (hown : V.ownsRow w2.heap.size 45 2 (.slice ao k c) k (rowsC M)) (hk : k ≤ 1000)
    (h : ∀ a' c' w', w'.ownsRow w2.heap.size 45 2 (.slice a' (k + 1) c') (k + 1) (rowsC (M ++ [(x, y)])) → Ext w2 w' → K (a.put o.dst (.slice a' (k + 1) c')) w') :
    if Region.wanted o (yielded ops a.tmps) = true then Oper.wp Try.prog o a V K Q else E := by
  obtain ⟨ii, hi1, hi2, hi3, hi4⟩ := infoRowE
  refine step_append_lies _ hgd s xx _ ho w2.heap.size 45 ii _ 2 16 Try.underlying24 hi1 hi2 hi3 hi4 rfl (by decide) _ k (rowsC M) hs hown _ 1 1 [.int .u16 x, .int .i64 y] hx rfl (World.news_of_block hV) (by simp [Value.oneCell']) (by decide) (by unfold maxLen; omega) (by omega) HX.size _ rfl ?_
  intro g cap w' h1 h2 h3 h4
  refine h _ _ _ ?_ (Ext_grown HX (Nat.le_refl _) HX.size h2 (fun j hj => (hown.lt j hj).1))
  rw [rowsC_append]
  exact h1

set_option maxRecDepth 100000 in
set_option maxHeartbeats 4000000 in
theorem RTake_64 (xs : List Int) (a : Option Addr) (cap : Nat) (w : World) (h64 : xs.length = 64) (hb : isBytes xs) (hs : Sl w a (ints .u8 xs)) (hcap : 64 ≤ cap) (hcm : cap ≤ 9223372036854775807) :
    Calls Try.prog 42 #[.slice a 64 cap] w fun e w' => ∃ v, e = .returned (.tuple #[v, .int .i64 (rowsTake xs).2]) ∧ OwnR 45 w (rowsTake xs).1 v w' := by
  have htake := Take_gave a 64 cap xs w 2 h64 (by decide) hb hs hcap hcm
  rw [takeR_64 h64] at htake
  have hnl : (takenL 2 xs 32).length = 32 := length_takenL _ _ _
  have hat : ∀ j (hj : j < 32), (takenL 2 xs 32)[j]? = some (numAt xs j) := fun j hj => getElem_takenL 2 xs 32 j hj
  have HAT := Lib.hid hat
  have HB := Lib.hid hb
  have H64 := Lib.hid h64
  obtain ⟨ii, hi1, hi2, hi3, hi4⟩ := infoRowE
  clear hat hb hs h64
  go_enter Try.func42, Try.ntmps42
  go_wp2_with fail
  refine htake.mono ?_
  rintro e w2 ⟨an, cn, rfl, hn, h2⟩
  dsimp only at hn
  rw [hnl] at hn
  have H2 := Lib.hid h2
  obtain ⟨b, off, rfl, hcells⟩ := (ownsRow_sl hn).ints (by rw [hnl]; decide)
  have HCN := Lib.hid (show ∀ j, j < 32 → w2.cell? ⟨b, off + j, none⟩ = some (.int .u64 (numAt xs j)) from fun j hj => by
    rw [hcells j (by rw [hnl]; exact hj)]
    have := HAT.out j hj
    rw [List.getElem?_eq_getElem (by rw [hnl]; exact hj)] at this
    injection this with this
    rw [this])
  clear htake h2 hcells hn
  dsimp only
  rw [hnl]
  clear hnl HAT
  go_wp2
  go_loopw [7, 6] (fun v u wr => ∃ (k c : Nat) (ao : Option Addr), k ≤ 16 ∧ v = .int .i64 (2 * k : Nat) ∧ u = .slice ao k c ∧ wr.ownsRow w2.heap.size 45 2 (.slice ao k c) k (rowsC (rowsQ xs k)) ∧ Ext w2 wr) (fun v _ _ => 32 - (intOf v).toNat)
  case atStart => exact ⟨0, 0, none, by omega, rfl, rfl, own2_nil _ _ _, Ext.refl _⟩
  case round =>
    obtain ⟨k, c, ao, hk, rfl, rfl, hown, hX⟩ := hrel
    have HX := Lib.hid hX
    have HOWN := Lib.hid hown
    by_cases hlt : k < 16
    · have c0 := hX.keep (HCN.out (2 * k) (by omega))
      have c1 := hX.keep (HCN.out (2 * k + 1) (by omega))
      obtain ⟨x0, x1⟩ := numAt_bd HB.out (2 * k)
      obtain ⟨y0, y1⟩ := numAt_bd HB.out (2 * k + 1)
      have hsucc := rowsQ_succ xs k
      generalize numAt xs (2 * k) = x at *
      generalize numAt xs (2 * k + 1) = y at *
      have HS := Lib.hid hsucc
      obtain ⟨q, hq⟩ : ∃ q, q = 2 * k := ⟨_, rfl⟩
      have HQ := Lib.hid hq
      rw [← hq] at c0 c1 ⊢
      have hq1 : q + 1 < 32 := by omega
      have hqi : (q : Int) + 1 < 32 := by omega
      have hqj : (q : Int) < 32 := by omega
      have hq0 : (0 : Int) ≤ q := by omega
      have hadd : IntKind.i64.wrap ((q : Int) + 1) = (q : Int) + 1 := IntWalk.i64_in _ (by omega)
      have hnn : (0 : Int) ≤ (q : Int) + 1 := by omega
      have hnat : ((q : Int) + 1).toNat = q + 1 := by omega
      have hwx : IntKind.u16.wrap x = x := IntWalk.u16_in _ (by omega)
      have hwy : IntKind.i64.wrap y = y := IntWalk.i64_in _ (by omega)
      clear hq hsucc hown hX
      have hall : ∀ v : World, Ext w2 v → (Ext w2 v ∧ v.cell? ⟨b, off + q, none⟩ = some (.int .u64 x) ∧ v.cell? ⟨b, off + (q + 1), none⟩ = some (.int .u64 y)) := fun v hv => by
        have d0 := hv.keep (HCN.out q (by omega))
        have d1 := hv.keep (HCN.out (q + 1) (by omega))
        have e0 := HX.out.keep (HCN.out q (by omega))
        have e1 := HX.out.keep (HCN.out (q + 1) (by omega))
        rw [c0] at e0
        rw [c1] at e1
        rw [← e0] at d0
        rw [← e1] at d1
        exact ⟨hv, d0, d1⟩
      have HALL := Lib.hid hall
      clear hall
      go_wp2_with fail
      go_region_held3 (fun v => Ext w2 v ∧ v.cell? ⟨b, off + q, none⟩ = some (.int .u64 x) ∧ v.cell? ⟨b, off + (q + 1), none⟩ = some (.int .u64 y)) (exact HALL.out _ (by first | assumption | (repeat (first | exact HX.out | apply Ext.drew | apply Ext.drewN | apply Ext.alloc)))) (
        (refine step_app (w2 := w2) (M := rowsQ xs k) (by rfl) _ _ (by rfl) (by rfl) (by rfl) (heap_alloc_new _ _) (by repeat (first | exact HX.out | apply Ext.drew | apply Ext.drewN | apply Ext.alloc)) (own2_ext HOWN.out (by repeat (first | exact Ext.refl _ | apply Ext.drew | apply Ext.drewN | apply Ext.alloc))) (by omega) ?_; intro a5 c5 w5 hown5 X5))
      rename_i hH
      rw [← HS.out] at hown5
      have HO5 := Lib.hid hown5
      have H5 := Lib.hid X5
      have hadd2 : IntKind.i64.wrap ((q : Int) + 2) = (q : Int) + 2 := IntWalk.i64_in _ (by omega)
      clear hown5 X5 hH HALL HOWN c0 c1
      go_wp2_with fail
      go_roundw
      case rel => exact ⟨k + 1, c5, a5, hlt, congrArg (Value.int .i64) (by have := HQ.out; omega), rfl, HO5.out, H5.out⟩
      case measure => simp [intOf]; have := HQ.out; omega
    · have : k = 16 := by omega
      subst this
      have hright := Right_ok (rowsQ xs 16) ao c wr (own2_sl hown) (rowsQ_wf HB.out 16) (by rw [rowsQ_length]; decide)
      rw [rowsQ_length] at hright
      cases hr : rightB (rowsQ xs 16)
      · rw [hr] at hright
        have HV := Lib.hid (rowsTake_no hr)
        clear hr hown hX HOWN
        go_wp2_with fail
        refine hright.mono ?_
        rintro e w3 ⟨rfl, h3⟩
        have H3 := Lib.hid ((H2.out.trans HX.out).trans h3)
        clear h3 hright
        go_wp2
        go_ret2
        rw [HV.out]
        exact ⟨_, rfl, OwnR.nil H3.out⟩
      · rw [hr] at hright
        have HV := Lib.hid (rowsTake_yes H64.out hr)
        clear hr hown hX
        go_wp2_with fail
        refine hright.mono ?_
        rintro e w3 ⟨rfl, h3⟩
        have H3 := Lib.hid ((H2.out.trans HX.out).trans h3)
        have HO3 := Lib.hid (own2_base (own2_ext HOWN.out h3) H2.out.size)
        clear h3 hright HOWN
        go_wp2
        go_ret2
        rw [HV.out]
        refine ⟨_, rfl, ao, c, by rw [rowsQ_length]; rfl, ?_, H3.out⟩
        rw [rowsQ_length]
        exact HO3.out

set_option maxHeartbeats 2000000 in
theorem RTake_ok (xs : List Int) (a : Option Addr) (n cap : Nat) (w : World) (hl : xs.length = n) (hb : isBytes xs) (hs : Sl w a (ints .u8 xs)) (hcap : n ≤ cap) (hcm : cap ≤ 9223372036854775807) :
    Calls Try.prog 42 #[.slice a n cap] w fun e w' => ∃ v, e = .returned (.tuple #[v, .int .i64 (rowsTake xs).2]) ∧ OwnR 45 w (rowsTake xs).1 v w' := by
  by_cases h : xs.length = 64
  · obtain rfl : n = 64 := by omega
    exact RTake_64 xs a cap w h hb hs hcap hcm
  · have htake := Take_gave a n cap xs w 2 hl (by omega) hb hs hcap hcm
    rw [rowsTake_len h]
    have hoth := takeR_other h
    generalize takeR 2 xs = R at *
    obtain ⟨N, c⟩ := R
    dsimp only at hoth
    clear hb hs hl h
    rcases hoth with h1 | ⟨h1, h2⟩
    · go_enter Try.func42, Try.ntmps42
      go_wp2_with fail
      refine htake.mono ?_
      rintro e w2 ⟨an, cn, rfl, hn, h2⟩
      have H2 := Lib.hid h2
      clear hn h2 htake
      dsimp only
      go_wp2
      go_ret2
      exact ⟨_, rfl, OwnR.nil H2.out⟩
    · subst h1
      have h2' : ¬ ((N.length : Int) = 32) := by omega
      go_enter Try.func42, Try.ntmps42
      go_wp2_with fail
      refine htake.mono ?_
      rintro e w2 ⟨an, cn, rfl, hn, h3⟩
      have H2 := Lib.hid h3
      clear hn h3 htake
      dsimp only
      generalize N.length = m at *
      go_wp2
      go_ret2
      exact ⟨_, rfl, OwnR.nil H2.out⟩
end Go.Proofs.Ytnodinancnfoeaa.Intern
