/- The law InternRows. -/
import Derived.Test.YtiknmifbhhfblaaUndo
namespace Go.Proofs.Ytiknmifbhhfblaa.Intern
open Go.RowKit Words Mem Plain Ops
open Go.ChangeShapes Go.WideShapes Go.Deep
set_option linter.ambiguousOpen false
set_option linter.unusedVariables false
set_option linter.unusedSimpArgs false

theorem gb_refl (w : World) (r : Option Nat) : w.grownBy w r := ⟨rfl, rfl, rfl, Nat.le_refl _, fun _ _ _ => rfl⟩
theorem gb_trans {w1 w2 w3 : World} {r : Option Nat} (h : w1.grownBy w2 r) (k : w2.grownBy w3 r) : w1.grownBy w3 r :=
  ⟨k.os.trans h.os, k.tape.trans h.tape, k.output.trans h.output, Nat.le_trans h.size k.size, fun i hi hn => (k.block i (Nat.lt_of_lt_of_le hi h.size) hn).trans (h.block i hi hn)⟩
theorem gb_ext {w0 w w' : World} {r : Option Nat} (h : Ext w0 w) (g : w.grownBy w' r) (hr : ∀ k, r = some k → w0.heap.size ≤ k) : Ext w0 w' := Below.grown h g h.size hr

/-- Rows that may be overwritten: what the loop 'for o := range p { p[o].Refs = 77 }' needs. -/
theorem step77 {w : World} {base : Nat} {t : TypeId} {a : Option Addr} {n cap : Nat} {xs : List Value} (h : w.ownsRow base t 2 (.slice a n cap) n xs) {k : Nat} (hk : k < n) :
    ∃ g, a = some ⟨g, 0, none⟩ ∧ base ≤ g ∧ (∃ v, w.cell? ⟨g, k * 2 + 1, none⟩ = some v) ∧ w.frozen? ⟨g, k * 2 + 1, none⟩ = false ∧
      (∃ ys, (w.setCell ⟨g, k * 2 + 1, none⟩ (.int .i64 77)).ownsRow base t 2 (.slice a n cap) n ys) ∧ w.grownBy (w.setCell ⟨g, k * 2 + 1, none⟩ (.int .i64 77)) (some g) := by
  obtain ⟨g, rfl, hg, hc, hf⟩ := own2_row h (by omega)
  refine ⟨g, rfl, hg, ⟨_, (hc (k * 2 + 1) (by omega)).trans (List.getElem?_eq_getElem (by have := h.1; omega))⟩, hf _, ⟨_, own2_set h _ _⟩, By.set w g _ _⟩

set_option maxRecDepth 100000 in
set_option maxHeartbeats 4000000 in
theorem rows_walk (L : List RowT) (n cap : Nat) (s : Option Addr) (a r : Int) (w : World) (hl : L.length = n) (hn : n ≤ cap) (hm : cap ≤ 9223372036854775807) (hs : Sl w s (rowsC L)) (hwf : wfR L) (hnil : s = none → n = 0 ∧ cap = 0) :
    Calls Try.prog 3 #[.slice s n cap, .int .u16 a, .int .i64 r] w fun e w' => e = .returned (.bool true) ∧ Ext w w' := by
  obtain ⟨X, hX⟩ : ∃ X, X = L.take 20 := ⟨_, rfl⟩
  have hXl : X.length = min n 20 := by rw [hX, List.length_take, hl, Nat.min_comm]
  have hXs : Sl w s (rowsC X) := hX ▸ few_rows hs
  have hXw : wfR X := hX ▸ hwf.take 20
  have hfew := fun w1 => few_ok n cap s w1 hn hm
  rw [← hXl] at hfew
  have hXm : X.length ≤ 9223372036854775807 := by omega
  have HAP := Lib.hid (fun (w2 : World) (h : Ext w w2) => run_copy_out (P := Try.prog) w2 22 22 37 _ 16 Try.underlying22 infoRowZ rfl cap (m := X.length) (by rw [rowsC_length, Nat.mul_comm]) (hXs.ext h) (fun e => by obtain ⟨e1, e2⟩ := hnil e; omega) (rowsC_one X) (by omega) hXm)
  have HF := Lib.hid (fun (w1 : World) (h : Ext w w1) => Find_ok X s cap a w1 hXm (hXs.ext h) hXw)
  have HRF := Lib.hid (fun (w1 : World) (h : Ext w w1) => rFind_ok X s cap a w1 hXm (hXs.ext h) hXw)
  have HRET := Lib.hid (fun (w1 : World) (h : Ext w w1) => Retain_ok X s cap a w1 hXm (hXs.ext h) hXw)
  have HRRET := Lib.hid (fun (w1 : World) (h : Ext w w1) => rRetain_ok X s cap a w1 hXm (hXs.ext h) hXw)
  have HREL := Lib.hid (fun (w1 : World) (h : Ext w w1) => Release_ok X s cap r w1 hXm (hXs.ext h) hXw)
  have HRREL := Lib.hid (fun (w1 : World) (h : Ext w w1) => rRelease_ok X s cap r w1 hXm (hXs.ext h) hXw)
  have HR := Lib.hid (fun (w1 : World) (h : Ext w w1) => Right_ok X s cap w1 (hXs.ext h) hXw hXm)
  have HRR := Lib.hid (fun (w1 : World) (h : Ext w w1) => rRight_ok X s cap w1 (hXs.ext h) hXw hXm)
  have HSAME := Lib.hid (fun (w1 : World) (h : Ext w w1) (z : Option Addr) (cz : Nat) (hz : Sl w1 z (rowsC X)) => Same_ok X X s z cap cz w1 hXm (hXs.ext h) hz)
  have hss : ∀ Z : List RowT, sameR Z Z = true := fun Z => by simp [sameR]
  rw [hss X] at HSAME
  have hP : (retR X a).1.length ≤ 9223372036854775807 := by
    rcases ret_cases X a with ⟨_, h⟩ | ⟨_, ⟨_, _, _, _, _, _, _, h⟩ | ⟨_, _, _, _, _, _, _, h⟩ | ⟨_, _, _, _, _, _, _, h⟩ | ⟨_, _, _, _, h⟩⟩ <;> rw [h] <;> simp <;> omega
  have hS : (relR X r).1.length ≤ 9223372036854775807 := by
    rcases rel_cases X r with ⟨_, h⟩ | ⟨_, _, _, _, ⟨_, h⟩ | ⟨_, h⟩ | ⟨_, _, h⟩⟩ <;> rw [h] <;> simp <;> omega
  generalize retR X a = RP at *
  generalize relR X r = RS at *
  generalize findR X a = F at *
  generalize rightB X = B at *
  obtain ⟨P, m, e⟩ := RP
  obtain ⟨S, g⟩ := RS
  obtain ⟨i, is⟩ := F
  dsimp only at *
  have HSP := Lib.hid (fun (w1 : World) (y z : Option Addr) (cy cz : Nat) (hy : Sl w1 y (rowsC P)) (hz : Sl w1 z (rowsC P)) => hss P ▸ Same_ok P P y z cy cz w1 hP hy hz)
  have HSS := Lib.hid (fun (w1 : World) (y z : Option Addr) (cy cz : Nat) (hy : Sl w1 y (rowsC S)) (hz : Sl w1 z (rowsC S)) => hss S ▸ Same_ok S S y z cy cz w1 hS hy hz)
  have HPM := Lib.hid hP
  have HSM := Lib.hid hS
  clear hl hn hs hwf hX hXl hXs hXw hss hnil
  go_enter Try.func3, Try.ntmps3
  go_wp2_with fail
  refine (shown_ok w).mono ?_
  rintro e w1 ⟨rfl, h1⟩
  have H1 := Lib.hid h1
  have hf1 := hfew w1
  obtain ⟨ao, co, w2, hap, hown, hx2⟩ := HAP.out w1 h1
  have H2 := Lib.hid (hx2 w h1)
  have H12 := Lib.hid (hx2 w1 (Ext.refl _))
  have HOWN := Lib.hid hown
  have hfind := HF.out w2 H2.out
  clear h1 hfew HAP hx2 hown HF
  go_wp2_with fail
  refine hf1.mono ?_
  rintro e w1' ⟨rfl, rfl⟩
  clear hf1
  go_wp2_with (at_builtin; refine Guard.wpList_append_want _ rfl _ _ _ _ rfl _ _ rfl rfl _ _ hap ?_)
  refine hfind.mono ?_
  rintro e w3 ⟨rfl, h3⟩
  have H3 := Lib.hid (H2.out.trans h3)
  have H23 := Lib.hid h3
  have hrfind := HRF.out w3 H3.out
  clear h3 hfind hap HRF
  go_wp2_with fail
  refine hrfind.mono ?_
  rintro e w4 ⟨rfl, h4⟩
  have H4 := Lib.hid (H3.out.trans h4)
  have H24 := Lib.hid (H23.out.trans h4)
  have hret := HRET.out w4 H4.out
  clear h4 hrfind HRET H23 H3
  go_wp2_with fail
  refine hret.mono ?_
  rintro e w5 ⟨v5, rfl, a5, c5, rfl, ho5, h5⟩
  have H5 := Lib.hid (H4.out.trans h5)
  have H25 := Lib.hid (H24.out.trans h5)
  have hrret := HRRET.out w5 H5.out
  have HO5 := Lib.hid (own2_base ho5 H24.out.size)
  clear h5 hret HRRET ho5 H24 H4
  go_wp2_with fail
  refine hrret.mono ?_
  rintro e w6 ⟨v6, rfl, a6, c6, rfl, ho6, h6⟩
  have H6 := Lib.hid (H5.out.trans h6)
  have H26 := Lib.hid (H25.out.trans h6)
  have H56 := Lib.hid h6
  have hrel := HREL.out w6 H6.out
  have HO6 := Lib.hid ho6
  clear h6 hrret HREL ho6 H5
  go_wp2_with fail
  refine hrel.mono ?_
  rintro e w7 ⟨v7, rfl, a7, c7, rfl, ho7, h7⟩
  have H7 := Lib.hid (H6.out.trans h7)
  have H27 := Lib.hid (H26.out.trans h7)
  have H67 := Lib.hid h7
  have hrrel := HRREL.out w7 H7.out
  have HO7 := Lib.hid ho7
  clear h7 hrel HRREL ho7
  go_wp2_with fail
  refine hrrel.mono ?_
  rintro e w8 ⟨v8, rfl, a8, c8, rfl, ho8, h8⟩
  have H8 := Lib.hid (H7.out.trans h8)
  have H28 := Lib.hid (H27.out.trans h8)
  have H78 := Lib.hid h8
  have HO8 := Lib.hid ho8
  have hr := HR.out w8 H8.out
  clear h8 hrrel ho8 HR
  go_wp2_with fail
  refine hr.mono ?_
  rintro e w9 ⟨rfl, h9⟩
  have H9 := Lib.hid (H8.out.trans h9)
  have H29 := Lib.hid (H28.out.trans h9)
  have H89 := Lib.hid h9
  have hrr := HRR.out w9 H9.out
  clear hr h9 HRR
  go_wp2_with fail
  refine hrr.mono ?_
  rintro e w10 ⟨rfl, h10⟩
  have H10 := Lib.hid (H9.out.trans h10)
  have H210 := Lib.hid (H29.out.trans h10)
  have H810 := Lib.hid (H89.out.trans h10)
  clear hrr h10
  -- the four rows that came out, as they lie now
  have HA5 := Lib.hid (own2_ext HO5.out (((H56.out.trans H67.out).trans H78.out).trans H810.out))
  have HA6 := Lib.hid (own2_ext HO6.out ((H67.out.trans H78.out).trans H810.out))
  have HA7 := Lib.hid (own2_ext HO7.out (H78.out.trans H810.out))
  have HA8 := Lib.hid (own2_ext HO8.out H810.out)
  have hsp := HSP.out w10 a5 a6 c5 c6 (own2_sl HA5.out) (own2_sl HA6.out)
  go_wp2_with fail
  refine hsp.mono ?_
  rintro e w11 ⟨rfl, h11⟩
  have H11 := Lib.hid (H10.out.trans h11)
  have H211 := Lib.hid (H210.out.trans h11)
  have HA5' := Lib.hid (own2_ext HA5.out h11)
  have hss := HSS.out w11 a7 a8 c7 c8 (own2_sl (own2_ext HA7.out h11)) (own2_sl (own2_ext HA8.out h11))
  have HA7' := Lib.hid (own2_ext HA7.out h11)
  clear hsp h11 HSP HSS HA8 HO8 HA6 HO6 HA5 HA7
  go_wp2_with fail
  refine hss.mono ?_
  rintro e w12 ⟨rfl, h12⟩
  have H12' := Lib.hid (H11.out.trans h12)
  have H212 := Lib.hid (H211.out.trans h12)
  have HA5 := Lib.hid (own2_ext HA5'.out h12)
  have HA7 := Lib.hid (own2_ext HA7'.out h12)
  have HX12 := Lib.hid (own2_ext HOWN.out H212.out)
  have HXS := Lib.hid (fun (u : World) (h : Ext w u) => HSAME.out u h)
  have HB5 := Lib.hid (show ∀ k, Value.ownBlock (.slice a5 P.length c5) = some k → w2.heap.size ≤ k ∧ k < w6.heap.size from fun k hk => by
    have h1 := HO5.out.lt k hk
    exact ⟨h1.1, Nat.lt_of_lt_of_le h1.2 H56.out.size⟩)
  have HB7 := Lib.hid (show ∀ k, Value.ownBlock (.slice a7 S.length c7) = some k → w6.heap.size ≤ k from fun k hk => (HO7.out.lt k hk).1)
  have HBO := Lib.hid (show ∀ k, Value.ownBlock (.slice ao X.length co) = some k → k < w2.heap.size from fun k hk => (HOWN.out.lt k hk).2)
  have HS2 := Lib.hid (show w.heap.size ≤ w2.heap.size from H2.out.size)
  have HS6 := Lib.hid (show w.heap.size ≤ w6.heap.size from H6.out.size)
  have HS26 := Lib.hid (show w2.heap.size ≤ w6.heap.size from H26.out.size)
  clear hss h12 HA5' HA7' HO5 HO7 H56 H67 H78 H89 H810 H25 H26 H27 H28 H29 H210 H211 H6 H7 H8 H9 H10 H11 H12 HSAME H2 HOWN
  generalize P.length = np at *
  generalize S.length = ns at *
  go_wp2_with fail
  go_loopw [113] (fun v wr => ∃ k : Nat, k ≤ np ∧ v = .int .i64 k ∧ (∃ ys, wr.ownsRow w2.heap.size 37 2 (.slice a5 np c5) np ys) ∧ w12.grownBy wr (Value.ownBlock (.slice a5 np c5))) (fun v _ => np - (intOf v).toNat)
  case atStart => exact ⟨0, by omega, rfl, ⟨_, HA5.out⟩, gb_refl _ _⟩
  case round =>
    obtain ⟨k, hk, rfl, ⟨ys, how⟩, hgb⟩ := hrel
    by_cases hlt : k < np
    · obtain ⟨gg, rfl, hg, ⟨vv, hcell⟩, hfro, hown', hgb'⟩ := step77 how hlt
      have HOW := Lib.hid hown'
      have HGB := Lib.hid (gb_trans hgb hgb')
      have hk0 : (0 : Int) ≤ k := by omega
      have hk1 : (k : Int) < np := by omega
      clear how hgb hown' hgb' hg
      go_wp2
      go_roundw
      case rel => exact ⟨k + 1, hlt, by go_num, HOW.out, HGB.out⟩
      case measure => simp [intOf]; omega
    · have : k = np := by omega
      subst this
      have hX1 : Ext w wr := gb_ext H12'.out hgb (fun j hj => Nat.le_trans HS2.out (HB5.out j hj).1)
      have HX1 := Lib.hid hX1
      have h7 : wr.ownsRow w6.heap.size 37 2 (.slice a7 ns c7) ns (rowsC S) := HA7.out.kept hgb (by
        cases e7 : Value.ownBlock (.slice a7 ns c7) with
        | none => exact .inl rfl
        | some k7 =>
          refine .inr fun e => ?_
          have h1 := HB7.out k7 e7
          have h2 := HB5.out k7 e.symm
          omega)
      have ho : wr.ownsRow w1'.heap.size 37 2 (.slice ao X.length co) X.length (rowsC X) := HX12.out.kept hgb (by
        cases e7 : Value.ownBlock (.slice ao X.length co) with
        | none => exact .inl rfl
        | some k7 =>
          refine .inr fun e => ?_
          have h1 := HBO.out k7 e7
          have h2 := HB5.out k7 e.symm
          omega)
      have H7 := Lib.hid h7
      have HO := Lib.hid ho
      clear how hgb hX1 h7 ho HA5 HA7 HX12 H12' H212
      go_wp2_with fail
      go_loopw [123] (fun v wz => ∃ k : Nat, k ≤ ns ∧ v = .int .i64 k ∧ (∃ ys, wz.ownsRow w6.heap.size 37 2 (.slice a7 ns c7) ns ys) ∧ wr.grownBy wz (Value.ownBlock (.slice a7 ns c7))) (fun v _ => ns - (intOf v).toNat)
      case atStart => exact ⟨0, by omega, rfl, ⟨_, H7.out⟩, gb_refl _ _⟩
      case round =>
        obtain ⟨j, hj, rfl, ⟨ys, how⟩, hgb⟩ := hrel
        by_cases hlt2 : j < ns
        · obtain ⟨gg, rfl, hg, ⟨vv, hcell⟩, hfro, hown', hgb'⟩ := step77 how hlt2
          have HOW := Lib.hid hown'
          have HGB := Lib.hid (gb_trans hgb hgb')
          have hk0 : (0 : Int) ≤ j := by omega
          have hk1 : (j : Int) < ns := by omega
          clear how hgb hown' hgb' hg
          go_wp2
          go_roundw
          case rel => exact ⟨j + 1, hlt2, by go_num, HOW.out, HGB.out⟩
          case measure => simp [intOf]; omega
        · have : j = ns := by omega
          subst this
          have hX2 : Ext w wr := gb_ext HX1.out hgb (fun q hq => Nat.le_trans HS6.out (HB7.out q hq))
          have ho : wr.ownsRow w1'.heap.size 37 2 (.slice ao X.length co) X.length (rowsC X) := HO.out.kept hgb (by
            cases e7 : Value.ownBlock (.slice ao X.length co) with
            | none => exact .inl rfl
            | some k7 =>
              refine .inr fun e => ?_
              have h1 := HBO.out k7 e7
              have h2 := HB7.out k7 e.symm
              have h3 := HS26.out
              omega)
          have hsame := HXS.out wr hX2 ao co (own2_sl ho)
          have HX2 := Lib.hid hX2
          clear how hgb hX2 ho HO H7 HXS
          go_wp2_with fail
          refine hsame.mono ?_
          rintro e u ⟨rfl, hu⟩
          have HU := Lib.hid (HX2.out.trans hu)
          clear hu hsame
          go_wp2
          go_ret
          exact ⟨rfl, HU.out⟩

theorem law_InternRows {H : Type} {enc : TypeId × Value → H} {base : Nat} {d0 d1 d2 : DataW H} {p0 p1 p2 : List MemPlace} (v0 v1 v2 : Value) (w : World)
    (ho0 : Value.okWide Try.prog w .any base 22 v0) (h0 : DataW.Trod enc Try.prog w 0 (fun _ => true) true 22 v0 d0 p0)
    (ho1 : Value.okWide Try.prog w .any base 24 v1) (h1 : DataW.Trod enc Try.prog w 0 (fun _ => true) true 24 v1 d1 p1)
    (ho2 : Value.okWide Try.prog w .any base 3 v2) (h2 : DataW.Trod enc Try.prog w 0 (fun _ => true) true 3 v2 d2 p2) :
    Calls Try.prog 3 #[v0, v1, v2] w fun e w' => e = .returned (.bool true) ∧ Below w.heap.size w w' := by
  obtain ⟨a, n, cap, L, rfl, hl, hn, hm, hs, hwf, hnil⟩ := rows_in ho0 h0
  obtain ⟨x, rfl, _, _, hx⟩ := open_int Try.underlying24 ho1 h1
  obtain ⟨r, rfl, _, _, hr⟩ := open_int Try.underlying3 ho2 h2
  exact rows_walk L n cap a x r w hl hn hm hs hwf hnil
end Go.Proofs.Ytiknmifbhhfblaa.Intern
