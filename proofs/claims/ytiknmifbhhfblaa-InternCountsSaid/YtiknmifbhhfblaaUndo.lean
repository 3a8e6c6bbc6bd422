/- The law InternUndo. -/
import Derived.Test.YtiknmifbhhfblaaRwIn
namespace Go.Proofs.Ytiknmifbhhfblaa.Intern
open Go.RowKit Words Mem Plain Ops
open Go.ChangeShapes Go.WideShapes Go.Deep
set_option linter.ambiguousOpen false
set_option linter.unusedVariables false
set_option linter.unusedSimpArgs false

theorem ok_apart {L : List RowT} (h : okP L) {i j : Nat} (hi : i < L.length) (hj : j < L.length) (hne : i ≠ j) (h1 : 0 < (rg L i).2) (h2 : 0 < (rg L j).2) : (rg L i).1 ≠ (rg L j).1 := by
  rcases Nat.lt_or_gt_of_ne hne with e | e
  · exact (h.2 j hj).2.2.2 h2 i e h1
  · exact fun e2 => (h.2 i hi).2.2.2 h1 j e h2 e2.symm
theorem ok_set {L : List RowT} (h : okP L) {k : Nat} (hk : k < L.length) {a r : Int} (h1 : 0 < r) (h2 : r ≤ 65535) (hn : ∀ j, j < L.length → j ≠ k → 0 < (rg L j).2 → (rg L j).1 ≠ a) : okP (L.set k (a, r)) := by
  refine ⟨by rw [List.length_set]; exact h.1, fun i hi => ?_⟩
  rw [List.length_set] at hi
  have e := fun i => rg_set L k (a, r) i hk
  unfold goodAt
  rw [e i]
  obtain ⟨g0, g1, g2, _⟩ := h.2 i hi
  by_cases hik : i = k
  · rw [if_pos hik]
    refine ⟨by dsimp only; omega, by dsimp only; omega, fun e => by dsimp only at e; omega, fun _ j hj => ?_⟩
    rw [e j, if_neg (by omega)]
    exact fun hj0 => hn j (by omega) (by omega) hj0
  · rw [if_neg hik]
    refine ⟨g0, g1, g2, fun hi0 j hj => ?_⟩
    rw [e j]
    by_cases hjk : j = k
    · rw [if_pos hjk]; exact fun _ e => hn i hi hik hi0 e.symm
    · rw [if_neg hjk]
      exact fun hj0 => ok_apart h (by omega) hi (by omega) hj0 hi0
theorem find_at {L : List RowT} (h : okP L) {k : Nat} (hk : k < L.length) {a : Int} (h0 : 0 < (rg L k).2) (ha : (rg L k).1 = a) : findR L a = ((k : Int), true) := by
  have h1 : ofI L a = (k : Nat) := idxI_at hk (by simp [isL, h0, ha]) (fun j hj => by
    by_cases hj0 : 0 < (rg L j).2
    · have := ok_apart h (by omega) hk (by omega) hj0 h0
      rw [ha] at this
      simp [isL, this]
    · simp [isL, hj0])
  unfold findR
  rw [h1, if_neg (by rw [(right_iff L).2 h]; simp)]
theorem undo {X : List RowT} {a : Int} : (∃ c, retR X a = ([], 0, c) ∧ c ≠ 0) ∨ ∃ Y k, retR X a = (Y, (k : Int), 0) ∧ okP Y ∧ Y.length = X.length ∧ findR Y a = ((k : Int), true) ∧ relR Y k = (X, 0) ∧ ∀ h : wfR X, (0 ≤ a ∧ a ≤ 65535) → wfR Y := by
  rcases ret_cases X a with ⟨_, h⟩ | ⟨hr, ⟨k, hk, ho, hp, hl, he, hf, h⟩ | ⟨k, hk, ho, hp, hl, he, hf, h⟩ | ⟨ho, hf, k, hk, hf', h0, hfirst, h⟩ | ⟨ho, _, _, _, h⟩⟩
  · exact .inl ⟨1, h, by decide⟩
  · exact .inl ⟨4, h, by decide⟩
  · have hok := (right_iff X).1 hr
    have hY : okP (X.set k (a, (rg X k).2 + 1)) := ok_set hok hk (by omega) (by omega) (fun j hj hne hj0 => by
      have := ok_apart hok hj hk hne hj0 hp
      rw [hl] at this; exact this)
    have e := rg_set X k (a, (rg X k).2 + 1) k hk
    rw [if_pos rfl] at e
    refine .inr ⟨_, k, h, hY, List.length_set .., find_at hY (by rw [List.length_set]; exact hk) (by rw [e]; dsimp only; omega) (by rw [e]), ?_, fun hw ha => hw.set _ _ ha (by have := hw.at hk; omega)⟩
    rcases rel_cases (X.set k (a, (rg X k).2 + 1)) k with ⟨hno, _⟩ | ⟨k', hkk, hk', _, hx⟩
    · rw [(right_iff _).2 hY, List.length_set] at hno
      rcases hno with e | e | e
      · cases e
      · omega
      · omega
    · obtain rfl : k = k' := by omega
      rw [e] at hx
      dsimp only at hx
      rcases hx with ⟨h1, _⟩ | ⟨h1, _⟩ | ⟨_, _, hx⟩
      · omega
      · omega
      · rw [hx, List.set_set, Int.add_sub_cancel]
        have : (a, (rg X k).2) = X[k] := by rw [← rg_eq X k hk, ← hl]
        rw [this, List.set_getElem_self]
  · have hok := (right_iff X).1 hr
    have hno : ∀ j, j < X.length → isL a (rg X j) = false := by
      rcases idxI_cases (isL a) X with ⟨_, h⟩ | ⟨k', hk', h, _⟩
      · exact h
      · have : ofI X a = (k' : Nat) := h
        omega
    have hY : okP (X.set k (a, 1)) := ok_set hok hk (by decide) (by decide) (fun j hj hne hj0 => by
      have := hno j hj
      intro e
      simp [isL, hj0, e] at this)
    have e := rg_set X k (a, 1) k hk
    rw [if_pos rfl] at e
    refine .inr ⟨_, k, h, hY, List.length_set .., find_at hY (by rw [List.length_set]; exact hk) (by rw [e]; dsimp only; decide) (by rw [e]), ?_, fun hw ha => hw.set _ _ ha (by dsimp only; omega)⟩
    rcases rel_cases (X.set k (a, 1)) k with ⟨hno, _⟩ | ⟨k', hkk, hk', _, hx⟩
    · rw [(right_iff _).2 hY, List.length_set] at hno
      rcases hno with e | e | e
      · cases e
      · omega
      · omega
    · obtain rfl : k = k' := by omega
      rw [e] at hx
      dsimp only at hx
      rcases hx with ⟨h1, _⟩ | ⟨_, hx⟩ | ⟨h1, _⟩
      · omega
      · rw [hx, List.set_set]
        have hz := (hok.2 k hk).2.2.1 h0
        have : ((0 : Int), (0 : Int)) = X[k] := by rw [← rg_eq X k hk]; exact (Prod.ext hz h0 : rg X k = (0, 0)).symm
        rw [this, List.set_getElem_self]
      · omega
  · exact .inl ⟨5, h, by decide⟩

theorem undo_walk (L : List RowT) (n cap : Nat) (s : Option Addr) (a : Int) (w : World) (hl : L.length = n) (hn : n ≤ cap) (hm : cap ≤ 9223372036854775807) (hs : Sl w s (rowsC L)) (hwf : wfR L) (ha : 0 ≤ a ∧ a ≤ 65535) :
    Calls Try.prog 5 #[.slice s n cap, .int .u16 a] w fun e w' => e = .returned (.bool true) ∧ Ext w w' := by
  obtain ⟨X, hX⟩ : ∃ X, X = L.take 20 := ⟨_, rfl⟩
  have hXl : X.length = min n 20 := by rw [hX, List.length_take, hl, Nat.min_comm]
  have hXs : Sl w s (rowsC X) := hX ▸ few_rows hs
  have hXw : wfR X := hX ▸ hwf.take 20
  have hfew := fun w1 => few_ok n cap s w1 hn hm
  rw [← hXl] at hfew
  have HRET := Lib.hid (fun (w1 : World) (h : Ext w w1) => Retain_ok X s cap a w1 (by omega) (hXs.ext h) hXw)
  have HSAME := Lib.hid (fun (w1 : World) (h : Ext w w1) (Z : List RowT) (z : Option Addr) (cz : Nat) (hz : Sl w1 z (rowsC Z)) (hZ : Z.length ≤ 9223372036854775807) => Same_ok Z X z s cz cap w1 hZ hz (hXs.ext h))
  have HXW := Lib.hid hXw
  have HX20 := Lib.hid (show X.length ≤ 20 by omega)
  clear hl hn hs hwf hX hXl hXs hXw
  rcases undo (X := X) (a := a) with ⟨c, hr, hc⟩ | ⟨Y, k, hr, hY, hYl, hf, hrel, hYw⟩
  · rw [hr] at HRET
    go_enter Try.func5, Try.ntmps5
    go_wp2_with fail
    refine (shown_ok w).mono ?_
    rintro e w1 ⟨rfl, h1⟩
    have H1 := Lib.hid h1
    have hf1 := hfew w1
    have hr1 := HRET.out w1 h1
    clear h1 hfew HRET hr
    generalize X.length = m at *
    go_wp2_with fail
    refine hf1.mono ?_
    rintro e w1' ⟨rfl, rfl⟩
    clear hf1
    go_wp2_with fail
    refine hr1.mono ?_
    rintro e w2 ⟨v, rfl, b, cb, rfl, _, h2⟩
    have H2 := Lib.hid (H1.out.trans h2)
    clear h2 hr1
    go_wp2
    go_ret
    exact ⟨rfl, H2.out⟩
  · have hwY := hYw HXW.out ha
    rw [hr] at HRET
    have HFIND := Lib.hid (fun (w1 : World) (b : Option Addr) (cb : Nat) (hb : Sl w1 b (rowsC Y)) => Find_ok Y b cb a w1 (by rw [hYl]; have := HX20.out; omega) hb hwY)
    have HREL := Lib.hid (fun (w1 : World) (b : Option Addr) (cb : Nat) (hb : Sl w1 b (rowsC Y)) => Release_ok Y b cb k w1 (by rw [hYl]; have := HX20.out; omega) hb hwY)
    rw [hf] at HFIND
    rw [hrel] at HREL
    have HSS := Lib.hid (show sameR X X = true by simp [sameR])
    clear hr hY hf hrel hYw hwY
    rw [hYl] at HFIND HREL
    have HYL := Lib.hid hYl
    clear hYl
    have HXM := Lib.hid (show X.length ≤ 9223372036854775807 by have := HX20.out; omega)
    go_enter Try.func5, Try.ntmps5
    go_wp2_with fail
    refine (shown_ok w).mono ?_
    rintro e w1 ⟨rfl, h1⟩
    have H1 := Lib.hid h1
    have hf1 := hfew w1
    have hr1 := HRET.out w1 h1
    clear h1 hfew HRET
    go_wp2_with fail
    refine hf1.mono ?_
    rintro e w1' ⟨rfl, rfl⟩
    clear hf1
    go_wp2_with fail
    refine hr1.mono ?_
    rintro e w2 ⟨v, rfl, b, cb, rfl, ho, h2⟩
    have H2 := Lib.hid (H1.out.trans h2)
    have hb := own2_sl ho
    have hfind := HFIND.out w2 b cb hb
    have HB := Lib.hid hb
    clear h2 hr1 ho hb HFIND
    dsimp only at *
    rw [HYL.out] at *
    go_wp2_with fail
    refine hfind.mono ?_
    rintro e w3 ⟨rfl, h3⟩
    have H3 := Lib.hid (H2.out.trans h3)
    have hrel := HREL.out w3 b cb (HB.out.ext h3)
    clear h3 hfind HREL HB H2
    go_wp2_with fail
    refine hrel.mono ?_
    rintro e w4 ⟨v, rfl, z, cz, rfl, ho, h4⟩
    have H4 := Lib.hid (H3.out.trans h4)
    have hsame := HSAME.out w4 H4.out X z cz (own2_sl ho) HXM.out
    rw [HSS.out] at hsame
    clear h4 hrel ho H3 HSAME
    dsimp only at *
    go_wp2_with fail
    refine hsame.mono ?_
    rintro e w5 ⟨rfl, h5⟩
    have H5 := Lib.hid (H4.out.trans h5)
    clear h5 hsame
    go_wp2
    go_ret
    exact ⟨rfl, H5.out⟩

theorem law_InternUndo {H : Type} {enc : TypeId × Value → H} {base : Nat} {d0 d1 : DataW H} {p0 p1 : List MemPlace} (v0 v1 : Value) (w : World)
    (ho0 : Value.okWide Try.prog w .any base 22 v0) (h0 : DataW.Trod enc Try.prog w 0 (fun _ => true) true 22 v0 d0 p0)
    (ho1 : Value.okWide Try.prog w .any base 24 v1) (h1 : DataW.Trod enc Try.prog w 0 (fun _ => true) true 24 v1 d1 p1) :
    Calls Try.prog 5 #[v0, v1] w fun e w' => e = .returned (.bool true) ∧ Below w.heap.size w w' := by
  obtain ⟨a, n, cap, L, rfl, hl, hn, hm, hs, hwf, _⟩ := rows_in ho0 h0
  obtain ⟨x, rfl, _, _, hx⟩ := open_int Try.underlying24 ho1 h1
  exact undo_walk L n cap a x w hl hn hm hs hwf (bd_u16 hx)
end Go.Proofs.Ytiknmifbhhfblaa.Intern
