/- The law InternBack. -/
import Derived.Test.YtiknmifbhhfblaaRwLaws
namespace Go.Proofs.Ytiknmifbhhfblaa.Intern
open Go.RowKit Words Mem Plain Ops Agg
open Go.Proofs.Ytiknmifbhhfblaa.Field
open Go.ChangeShapes Go.WideShapes
set_option linter.ambiguousOpen false
set_option linter.unusedVariables false
set_option linter.unusedSimpArgs false

theorem layed_takenL (s q : Nat) (xs : List Int) (hb : isBytes xs) (h : xs.length = s * q) : layed s (takenL s xs q) = xs := by
  have key : ∀ m, m ≤ q → layed s (takenL s xs m) = xs.take (s * m) := by
    intro m
    induction m with
    | zero => intro _; simp [takenL, layed]
    | succ m ih =>
      intro hm
      have hle : s * m + s ≤ s * q := by rw [← Nat.mul_succ]; exact Nat.mul_le_mul_left s hm
      rw [takenL_succ, layed_snoc, ih (by omega), Nat.mul_succ, List.take_add]
      congr 1
      have hl : ((xs.drop (s * m)).take s).length = s := by rw [List.length_take, List.length_drop]; omega
      have := bytesOf_numOf ((xs.drop (s * m)).take s) (isBytes_take (isBytes_drop hb _) _)
      rwa [hl] at this
  rw [key q (Nat.le_refl _), ← h, List.take_length]
theorem nums_rowsQ (xs : List Int) (k : Nat) : numsR (rowsQ xs k) = takenL 2 xs (2 * k) := by
  induction k with
  | zero => rfl
  | succ k ih =>
    rw [rowsQ_succ, numsR_snoc, ih, show 2 * (k + 1) = 2 * k + 1 + 1 by omega, takenL_succ, takenL_succ, List.append_assoc]
    rfl
theorem rowsQ_rg (xs : List Int) {n k : Nat} (h : k < n) : rg (rowsQ xs n) k = (numAt xs (2 * k), numAt xs (2 * k + 1)) := by
  unfold rg rowsQ
  simp [h]
theorem numsR_at : ∀ (L : List RowT) (k : Nat), k < L.length → (numsR L)[2 * k]? = some (rg L k).1 ∧ (numsR L)[2 * k + 1]? = some (rg L k).2
  | [], k, h => by simp at h
  | r :: L, 0, h => ⟨rfl, rfl⟩
  | r :: L, k + 1, h => by
    have := numsR_at L k (by simpa using h)
    have e : numsR (r :: L) = r.1 :: r.2 :: numsR L := rfl
    rw [e, show 2 * (k + 1) = 2 * k + 1 + 1 by omega]
    simpa [rg] using this
theorem take_lay {X : List RowT} (hr : rightB X = true) (hw : wfR X) : rowsTake (layed 2 (numsR X)) = (X, 0) := by
  have hok := (right_iff X).1 hr
  have hl : (layed 2 (numsR X)).length = 64 := by rw [length_layed, numsR_length, hok.1]
  have hat : ∀ j (hj : j < (numsR X).length), numAt (layed 2 (numsR X)) j = (numsR X)[j] := fun j hj => by
    unfold numAt
    rw [drop_layed 2 _ j hj]
    have := numsR_bd hok hw _ (List.getElem_mem hj)
    exact numOf_bytesOf_of 2 _ this.1 (by have e : (256 : Int) ^ 2 = 65536 := by decide
                                          rw [e]; exact this.2)
  have hnl : (numsR X).length = 32 := by rw [numsR_length, hok.1]
  have hX : rowsQ (layed 2 (numsR X)) 16 = X := by
    apply rg_ext (by rw [rowsQ_length, hok.1])
    intro k hk
    rw [rowsQ_length] at hk
    rw [rowsQ_rg _ hk, hat _ (by omega), hat _ (by omega)]
    obtain ⟨h1, h2⟩ := numsR_at X k (by rw [hok.1]; exact hk)
    rw [List.getElem?_eq_getElem (by omega)] at h1 h2
    injection h1 with h1
    injection h2 with h2
    rw [h1, h2]
  rw [rowsTake_yes hl (by rw [hX]; exact hr), hX]
theorem take_cases (xs : List Int) (hb : isBytes xs) : (∃ Z, rowsTake xs = (Z, 0) ∧ rowsLay Z = (xs, 0) ∧ wfR Z) ∨ rowsTake xs = ([], 100) := by
  by_cases h : xs.length = 64
  · cases hr : rightB (rowsQ xs 16)
    · exact .inr (rowsTake_no hr)
    · refine .inl ⟨_, rowsTake_yes h hr, ?_, rowsQ_wf hb 16⟩
      rw [rowsLay_yes hr, nums_rowsQ, layed_takenL 2 32 xs hb h]
  · exact .inr (rowsTake_len h)
theorem lay_cases (X : List RowT) (hw : wfR X) : (rightB X = true ∧ ∃ B, rowsLay X = (B, 0) ∧ B.length = 64 ∧ isBytes B ∧ rowsTake B = (X, 0)) ∨ (rightB X = false ∧ rowsLay X = ([], 1)) := by
  cases hr : rightB X
  · exact .inr ⟨rfl, rowsLay_no hr⟩
  · exact .inl ⟨rfl, _, rowsLay_yes hr, by rw [length_layed, numsR_length, ((right_iff X).1 hr).1], isBytes_layed _ _, take_lay hr hw⟩
theorem isBytes_nil : isBytes [] := fun x hx => by cases hx

set_option maxRecDepth 100000 in
set_option maxHeartbeats 4000000 in
theorem back_walk (L : List RowT) (n cap : Nat) (s : Option Addr) (xs : List Int) (n1 cap1 : Nat) (s1 : Option Addr) (w : World) (hl : L.length = n) (hn : n ≤ cap) (hm : cap ≤ 9223372036854775807) (hs : Sl w s (rowsC L)) (hwf : wfR L)
    (hl1 : xs.length = n1) (hb1 : isBytes xs) (hs1 : Sl w s1 (ints .u8 xs)) (hn1 : n1 ≤ cap1) (hm1 : cap1 ≤ 9223372036854775807) :
    Calls Try.prog 8 #[.slice s n cap, .slice s1 n1 cap1] w fun e w' => e = .returned (.bool true) ∧ Ext w w' := by
  by_cases h : 1000 < n1
  · have h' : (1000 : Int) < n1 := by omega
    clear hl hs hwf hl1 hb1 hs1
    go_enter Try.func8, Try.ntmps8
    go_wp2_with fail
    refine (shown_ok _).mono ?_
    rintro e w1 ⟨rfl, h1⟩
    have H1 := Lib.hid h1
    clear h1
    go_wp2
    go_ret
    exact ⟨rfl, H1.out⟩
  · have h' : ¬ (1000 : Int) < n1 := by omega
    obtain ⟨X, hX⟩ : ∃ X, X = L.take 20 := ⟨_, rfl⟩
    have hXl : X.length = min n 20 := by rw [hX, List.length_take, hl, Nat.min_comm]
    have hXs : Sl w s (rowsC X) := hX ▸ few_rows hs
    have hXw : wfR X := hX ▸ hwf.take 20
    have hfew := fun w1 => few_ok n cap s w1 hn hm
    rw [← hXl] at hfew
    have hXm : X.length ≤ 9223372036854775807 := by omega
    have HLAY := Lib.hid (fun (w1 : World) (h : Ext w w1) => RLay_ok X s cap w1 hXm (hXs.ext h) hXw)
    have HR := Lib.hid (fun (w1 : World) (h : Ext w w1) => Right_ok X s cap w1 (hXs.ext h) hXw hXm)
    have HFEW := Lib.hid hfew
    have HT1 := Lib.hid (fun (w1 : World) (h : Ext w w1) => RTake_ok xs s1 n1 cap1 w1 hl1 hb1 (hs1.ext h) hn1 hm1)
    have HSAME := Lib.hid (fun (w1 : World) (h : Ext w w1) (z : Option Addr) (cz : Nat) (hz : Sl w1 z (rowsC X)) => (show sameR X X = true by simp [sameR]) ▸ Same_ok X X z s cz cap w1 hXm hz (hXs.ext h))
    have HC2 := Lib.hid (take_cases xs hb1)
    have HS1 := Lib.hid hs1
    have HL1 := Lib.hid hl1
    have hc1 := lay_cases X hXw
    clear hfew hX hXl hXs hl hs hwf hl1 hb1 hs1
    rcases hc1 with ⟨hr, B, hlayE, hBl, hBb, hBt⟩ | ⟨hr, hlayE⟩
    · rw [hlayE] at HLAY
      rw [hr] at HR
      have HT := Lib.hid (fun (w1 : World) (a : Option Addr) (c : Nat) (hs : Sl w1 a (ints .u8 B)) (h1 : 64 ≤ c) (h2 : c ≤ 9223372036854775807) => hBt ▸ RTake_ok B a 64 c w1 hBl hBb hs h1 h2)
      have HBL := Lib.hid hBl
      clear hr hlayE hBl hBb hBt
      go_enter Try.func8, Try.ntmps8
      go_wp2_with fail
      refine (shown_ok _).mono ?_
      rintro e w1 ⟨rfl, h1⟩
      have H1 := Lib.hid h1
      have hf1 := HFEW.out w1
      have hlay := HLAY.out w1 h1
      clear h1 HLAY
      go_wp2_with fail
      refine hf1.mono ?_
      rintro e w1' ⟨rfl, rfl⟩
      clear hf1
      go_wp2_with fail
      refine hlay.mono ?_
      rintro e w2 ⟨a2, c2, rfl, ho2, h2⟩
      dsimp only at *
      rw [HBL.out] at *
      have H2 := Lib.hid (H1.out.trans h2)
      have htake := HT.out w2 a2 c2 (ownsRow_sl ho2) (own_cap ho2).1 (own_cap ho2).2
      clear h2 ho2 hlay HT H1
      go_wp2_with fail
      refine htake.mono ?_
      rintro e w3 ⟨v, rfl, a3, c3, rfl, ho3, h3⟩
      have H3 := Lib.hid (H2.out.trans h3)
      have HO3 := Lib.hid ho3
      have hf3 := HFEW.out w3
      have hr3 := HR.out w3 H3.out
      dsimp only
      clear h3 htake ho3 H2
      go_wp2_with fail
      refine hf3.mono ?_
      rintro e w3' ⟨rfl, rfl⟩
      go_wp2_with fail
      refine hr3.mono ?_
      rintro e w4 ⟨rfl, h4⟩
      have H4 := Lib.hid (H3.out.trans h4)
      have hf4 := HFEW.out w4
      have hsame := HSAME.out w4 H4.out a3 c3 (own2_sl (own2_ext HO3.out h4))
      clear hf3 hr3 h4 HR H3
      go_wp2_with fail
      refine hf4.mono ?_
      rintro e w4' ⟨rfl, rfl⟩
      clear hf4
      go_wp2_with fail
      refine hsame.mono ?_
      rintro e w5 ⟨rfl, h5⟩
      have HW := Lib.hid (H4.out.trans h5)
      clear h5 hsame HO3 HSAME HFEW H4
      rcases HC2.out with ⟨Z, hz1, hz2, hz3⟩ | hz1
      · rw [hz1] at HT1
        have ht := HT1.out _ HW.out
        clear HT1 HC2
        go_wp2_with fail
        refine ht.mono ?_
        rintro e w6 ⟨v, rfl, a6, c6, rfl, ho6, h6⟩
        have H6 := Lib.hid (HW.out.trans h6)
        dsimp only at *
        have hcap := own2_cap ho6
        have hlay := RLay_ok Z a6 c6 w6 (by omega) (own2_sl ho6) hz3
        rw [hz2] at hlay
        clear ht h6 ho6 hz1 hz2 hz3 hcap
        generalize Z.length = m at *
        go_wp2_with fail
        refine hlay.mono ?_
        rintro e w7 ⟨a7, c7, rfl, ho7, h7⟩
        have H7 := Lib.hid (H6.out.trans h7)
        dsimp only at *
        rw [HL1.out] at ho7 ⊢
        have e1 := run_conv_str (P := Try.prog) w7 46 9 5 Try.underlying46 Try.underlying5 Try.underlying9 c7 (ownsRow_sl ho7) HL1.out
        have e2 := run_conv_str (P := Try.prog) w7 46 9 5 Try.underlying46 Try.underlying5 Try.underlying9 cap1 (HS1.out.ext H7.out) HL1.out
        clear h7 ho7 hlay
        go_wp2
        go_ret
        exact ⟨rfl, H7.out⟩
      · rw [hz1] at HT1
        have ht := HT1.out _ HW.out
        clear HT1 HC2
        go_wp2_with fail
        refine ht.mono ?_
        rintro e w6 ⟨v, rfl, a6, c6, rfl, ho6, h6⟩
        have H6 := Lib.hid (HW.out.trans h6)
        dsimp only at *
        have hlay := RLay_ok [] a6 c6 w6 (by decide) (own2_sl ho6) (by simp [wfR])
        rw [rowsLay_no (show rightB [] = false from rfl)] at hlay
        rw [show ([] : List RowT).length = 0 from rfl] at *
        clear ht h6 ho6 hz1
        go_wp2_with fail
        refine hlay.mono ?_
        rintro e w7 ⟨a7, c7, rfl, ho7, h7⟩
        have H7 := Lib.hid (H6.out.trans h7)
        dsimp only at *
        rw [show ([] : List Int).length = 0 from rfl] at *
        clear h7 ho7 hlay
        go_wp2
        go_ret
        exact ⟨rfl, H7.out⟩
    · rw [hlayE] at HLAY
      rw [hr] at HR
      have HT := Lib.hid (fun (w1 : World) (a : Option Addr) (c : Nat) (h2 : c ≤ 9223372036854775807) => rowsTake_len (xs := []) (by decide) ▸ RTake_ok [] a 0 c w1 rfl isBytes_nil (Sl.nil _ _) (Nat.zero_le _) h2)
      clear hr hlayE
      go_enter Try.func8, Try.ntmps8
      go_wp2_with fail
      refine (shown_ok _).mono ?_
      rintro e w1 ⟨rfl, h1⟩
      have H1 := Lib.hid h1
      have hf1 := HFEW.out w1
      have hlay := HLAY.out w1 h1
      clear h1 HLAY
      go_wp2_with fail
      refine hf1.mono ?_
      rintro e w1' ⟨rfl, rfl⟩
      clear hf1
      go_wp2_with fail
      refine hlay.mono ?_
      rintro e w2 ⟨a2, c2, rfl, ho2, h2⟩
      dsimp only at *
      rw [show ([] : List Int).length = 0 from rfl] at *
      have H2 := Lib.hid (H1.out.trans h2)
      have htake := HT.out w2 a2 c2 (own_cap ho2).2
      clear h2 ho2 hlay HT H1
      go_wp2_with fail
      refine htake.mono ?_
      rintro e w3 ⟨v, rfl, a3, c3, rfl, ho3, h3⟩
      have H3 := Lib.hid (H2.out.trans h3)
      have hf3 := HFEW.out w3
      have hr3 := HR.out w3 H3.out
      dsimp only
      clear h3 htake ho3 H2
      go_wp2_with fail
      refine hf3.mono ?_
      rintro e w3' ⟨rfl, rfl⟩
      go_wp2_with fail
      refine hr3.mono ?_
      rintro e w4 ⟨rfl, h4⟩
      have HW := Lib.hid (H3.out.trans h4)
      clear hf3 hr3 h4 HR H3 HSAME HFEW
      rcases HC2.out with ⟨Z, hz1, hz2, hz3⟩ | hz1
      · rw [hz1] at HT1
        have ht := HT1.out _ HW.out
        clear HT1 HC2
        go_wp2_with fail
        refine ht.mono ?_
        rintro e w6 ⟨v, rfl, a6, c6, rfl, ho6, h6⟩
        have H6 := Lib.hid (HW.out.trans h6)
        dsimp only at *
        have hcap := own2_cap ho6
        have hlay := RLay_ok Z a6 c6 w6 (by omega) (own2_sl ho6) hz3
        rw [hz2] at hlay
        clear ht h6 ho6 hz1 hz2 hz3 hcap
        generalize Z.length = m at *
        go_wp2_with fail
        refine hlay.mono ?_
        rintro e w7 ⟨a7, c7, rfl, ho7, h7⟩
        have H7 := Lib.hid (H6.out.trans h7)
        dsimp only at *
        rw [HL1.out] at ho7 ⊢
        have e1 := run_conv_str (P := Try.prog) w7 46 9 5 Try.underlying46 Try.underlying5 Try.underlying9 c7 (ownsRow_sl ho7) HL1.out
        have e2 := run_conv_str (P := Try.prog) w7 46 9 5 Try.underlying46 Try.underlying5 Try.underlying9 cap1 (HS1.out.ext H7.out) HL1.out
        clear h7 ho7 hlay
        go_wp2
        go_ret
        exact ⟨rfl, H7.out⟩
      · rw [hz1] at HT1
        have ht := HT1.out _ HW.out
        clear HT1 HC2
        go_wp2_with fail
        refine ht.mono ?_
        rintro e w6 ⟨v, rfl, a6, c6, rfl, ho6, h6⟩
        have H6 := Lib.hid (HW.out.trans h6)
        dsimp only at *
        have hlay := RLay_ok [] a6 c6 w6 (by decide) (own2_sl ho6) (by simp [wfR])
        rw [rowsLay_no (show rightB [] = false from rfl)] at hlay
        rw [show ([] : List RowT).length = 0 from rfl] at *
        clear ht h6 ho6 hz1
        go_wp2_with fail
        refine hlay.mono ?_
        rintro e w7 ⟨a7, c7, rfl, ho7, h7⟩
        have H7 := Lib.hid (H6.out.trans h7)
        dsimp only at *
        rw [show ([] : List Int).length = 0 from rfl] at *
        clear h7 ho7 hlay
        go_wp2
        go_ret
        exact ⟨rfl, H7.out⟩

theorem law_InternBack {H : Type} {enc : TypeId × Value → H} {base : Nat} {d0 d1 : DataW H} {p0 p1 : List MemPlace} (v0 v1 : Value) (w : World)
    (ho0 : Value.okWide Try.prog w .any base 22 v0) (h0 : DataW.Trod enc Try.prog w 0 (fun _ => true) true 22 v0 d0 p0)
    (ho1 : Value.okWide Try.prog w .any base 46 v1) (h1 : DataW.Trod enc Try.prog w 0 (fun _ => true) true 46 v1 d1 p1) :
    Calls Try.prog 8 #[v0, v1] w fun e w' => e = .returned (.bool true) ∧ Below w.heap.size w w' := by
  obtain ⟨a, n, cap, L, rfl, hl, hn, hm, hs, hwf, _⟩ := rows_in ho0 h0
  obtain ⟨a1, n1, cap1, xs, rfl, hl1, hb1, hs1, hn1, hm1, _⟩ := bytes_in ho1 h1
  exact back_walk L n cap a xs n1 cap1 a1 w hl hn hm hs hwf hl1 hb1 hs1 hn1 hm1
end Go.Proofs.Ytiknmifbhhfblaa.Intern
