/- The laws InternLays, InternTakes. -/
import Derived.Test.YtiknmifbhhfblaaRwRefT
import Derived.ChangeSlices
namespace Go.Proofs.Ytiknmifbhhfblaa.Intern
open Go.RowKit Words Mem Plain Ops Agg
open Go.Proofs.Ytiknmifbhhfblaa.Field
open Go.ChangeShapes Go.WideShapes
set_option linter.ambiguousOpen false
set_option linter.unusedVariables false
set_option linter.unusedSimpArgs false

theorem bytes_in {H : Type} {enc : TypeId × Value → H} {base : Nat} {d : DataW H} {p : List MemPlace} {v : Value} {w : World} (ho : Value.okWide Try.prog w .any base 46 v) (h : DataW.Trod enc Try.prog w 0 (fun _ => true) true 46 v d p) :
    ∃ a n cap xs, v = .slice a n cap ∧ xs.length = n ∧ isBytes xs ∧ Sl w a (ints .u8 xs) ∧ n ≤ cap ∧ cap ≤ 9223372036854775807 ∧ (a = none → n = 0 ∧ cap = 0) := by
  obtain ⟨a, n, cap, rfl⟩ := okWide_slice Try.underlying46 ho
  obtain ⟨fuel, hf⟩ := h
  have key : ∃ zs, RowIn .u8 w a n cap zs := by
    rcases open_ints Try.underlying46 Try.underlying5 (by kernel_rfl) hf with ⟨hc, hx⟩ | ⟨x, len, cap', zs, hc, _, hl, hm, hzl, hx, hcell, hwf⟩
    · simp [Value.cells] at hc
      obtain ⟨rfl, rfl, rfl⟩ := hc
      exact ⟨[], .inl ⟨rfl, rfl, rfl, rfl⟩⟩
    · simp [Value.cells] at hc
      obtain ⟨rfl, rfl, rfl⟩ := hc
      simp only [if_true] at hzl
      exact ⟨zs, .inr ⟨x, rfl, hl, hm, hzl, hcell, hwf⟩⟩
  obtain ⟨zs, hz⟩ := key
  obtain ⟨xs, h1, h2, h3, h4, h5, h6⟩ := bytesIn hz
  exact ⟨a, n, cap, xs, rfl, h1, h2, h3, h4, h5, h6⟩

theorem rowsLay_len (L : List RowT) : (rowsLay L).1.length ≤ 64 := by
  cases h : rightB L
  · rw [rowsLay_no h]; decide
  · rw [rowsLay_yes h, length_layed, numsR_length, ((right_iff L).1 h).1]; decide
theorem rowsLay_bytes (L : List RowT) : isBytes (rowsLay L).1 := by
  cases h : rightB L
  · rw [rowsLay_no h]; exact fun x hx => by cases hx
  · rw [rowsLay_yes h]; exact isBytes_layed _ _

set_option maxHeartbeats 2000000 in
theorem lays_walk (L : List RowT) (n cap : Nat) (s : Option Addr) (w : World) (hl : L.length = n) (hn : n ≤ cap) (hm : cap ≤ 9223372036854775807) (hs : Sl w s (rowsC L)) (hwf : wfR L) :
    Calls Try.prog 6 #[.slice s n cap] w fun e w' => e = .returned (.bool true) ∧ Ext w w' := by
  obtain ⟨X, hX⟩ : ∃ X, X = L.take 20 := ⟨_, rfl⟩
  have hXl : X.length = min n 20 := by rw [hX, List.length_take, hl, Nat.min_comm]
  have hXs : Sl w s (rowsC X) := hX ▸ few_rows hs
  have hXw : wfR X := hX ▸ hwf.take 20
  have hfew := fun w1 => few_ok n cap s w1 hn hm
  rw [← hXl] at hfew
  have hlay := RLay_ok X s cap w (by omega) hXs hXw
  have HRLAY := Lib.hid (fun (w1 : World) (h : Ext w w1) => rRLay_ok X s cap w1 (by omega) (hXs.ext h) hXw)
  have hlen := rowsLay_len X
  generalize rowsLay X = R at *
  obtain ⟨B, c⟩ := R
  have HFEW := Lib.hid hfew
  dsimp only at hlen
  have hf1 := hfew w
  clear hfew hX hXl hXs hXw hl hn hs hwf
  go_enter Try.func6, Try.ntmps6
  go_wp2_with fail
  refine hf1.mono ?_
  rintro e w1 ⟨rfl, rfl⟩
  clear hf1
  go_wp2_with fail
  refine hlay.mono ?_
  rintro e w2 ⟨a2, c2, rfl, ho2, h2⟩
  have H2 := Lib.hid h2
  have HO2 := Lib.hid ho2
  have hf2 := HFEW.out w2
  have hrlay := HRLAY.out w2 h2
  clear hlay h2 ho2 HRLAY HFEW
  dsimp only
  go_wp2_with fail
  refine hf2.mono ?_
  rintro e w2' ⟨rfl, rfl⟩
  clear hf2
  go_wp2_with fail
  refine hrlay.mono ?_
  rintro e w3 ⟨a3, c3, rfl, ho3, h3⟩
  have H3 := Lib.hid (H2.out.trans h3)
  have HO2' := Lib.hid (ownsRow_ext HO2.out h3)
  have HO3 := Lib.hid ho3
  clear hrlay h3 ho3 HO2
  dsimp only
  go_wp2_with fail
  refine (shown_ok _).mono ?_
  rintro e w4 ⟨rfl, h4⟩
  have H4 := Lib.hid (H3.out.trans h4)
  have e1 := run_conv_str (P := Try.prog) w4 46 9 5 Try.underlying46 Try.underlying5 Try.underlying9 c2 (ownsRow_sl (ownsRow_ext HO2'.out h4)) rfl
  have e2 := run_conv_str (P := Try.prog) w4 46 9 5 Try.underlying46 Try.underlying5 Try.underlying9 c3 (ownsRow_sl (ownsRow_ext HO3.out h4)) rfl
  clear h4
  generalize B.length = m at *
  go_wp2
  go_ret
  exact ⟨rfl, H4.out⟩
theorem law_InternLays {H : Type} {enc : TypeId × Value → H} {base : Nat} {d0 : DataW H} {p0 : List MemPlace} (v0 : Value) (w : World)
    (ho0 : Value.okWide Try.prog w .any base 22 v0) (h0 : DataW.Trod enc Try.prog w 0 (fun _ => true) true 22 v0 d0 p0) :
    Calls Try.prog 6 #[v0] w fun e w' => e = .returned (.bool true) ∧ Below w.heap.size w w' := by
  obtain ⟨a, n, cap, L, rfl, hl, hn, hm, hs, hwf, _⟩ := rows_in ho0 h0
  exact lays_walk L n cap a w hl hn hm hs hwf

set_option maxHeartbeats 2000000 in
theorem takes_walk (xs : List Int) (n cap : Nat) (a : Option Addr) (w : World) (hl : xs.length = n) (hb : isBytes xs) (hs : Sl w a (ints .u8 xs)) (hn : n ≤ cap) (hm : cap ≤ 9223372036854775807) :
    Calls Try.prog 7 #[.slice a n cap] w fun e w' => e = .returned (.bool true) ∧ Ext w w' := by
  by_cases h : 1000 < n
  · have h' : (1000 : Int) < n := by omega
    clear hl hb hs
    go_enter Try.func7, Try.ntmps7
    go_wp2_with fail
    refine (shown_ok _).mono ?_
    rintro e w1 ⟨rfl, h1⟩
    have H1 := Lib.hid h1
    clear h1
    go_wp2
    go_ret
    exact ⟨rfl, H1.out⟩
  · have h' : ¬ (1000 : Int) < n := by omega
    have HT := Lib.hid (fun (w1 : World) (h : Ext w w1) => RTake_ok xs a n cap w1 hl hb (hs.ext h) hn hm)
    have HRT := Lib.hid (fun (w1 : World) (h : Ext w w1) => rRTake_ok xs a n cap w1 hl (by omega) hb (hs.ext h))
    have hlen : (rowsTake xs).1.length ≤ 16 := by
      unfold rowsTake
      split
      · rw [rowsQ_length]; exact Nat.le_refl _
      · decide
    generalize rowsTake xs = R at *
    obtain ⟨Z, c⟩ := R
    dsimp only at hlen
    have HSAME := Lib.hid (fun (w1 : World) (y z : Option Addr) (cy cz : Nat) (hy : Sl w1 y (rowsC Z)) (hz : Sl w1 z (rowsC Z)) => (show sameR Z Z = true by simp [sameR]) ▸ Same_ok Z Z y z cy cz w1 (by omega) hy hz)
    clear hl hb hs hlen
    go_enter Try.func7, Try.ntmps7
    go_wp2_with fail
    refine (shown_ok _).mono ?_
    rintro e w1 ⟨rfl, h1⟩
    have H1 := Lib.hid h1
    have ht := HT.out w1 h1
    clear h1 HT
    go_wp2_with fail
    refine ht.mono ?_
    rintro e w2 ⟨v, rfl, a2, c2, rfl, ho2, h2⟩
    have H2 := Lib.hid (H1.out.trans h2)
    have HO2 := Lib.hid ho2
    have ht := HRT.out w2 H2.out
    clear h2 HRT ho2
    dsimp only
    go_wp2_with fail
    refine ht.mono ?_
    rintro e w3 ⟨v, rfl, a3, c3, rfl, ho3, h3⟩
    have H3 := Lib.hid (H2.out.trans h3)
    have hsame := HSAME.out w3 a2 a3 c2 c3 (own2_sl (own2_ext HO2.out h3)) (own2_sl ho3)
    clear h3 ht ho3
    dsimp only
    go_wp2_with fail
    refine hsame.mono ?_
    rintro e w4 ⟨rfl, h4⟩
    have H4 := Lib.hid (H3.out.trans h4)
    clear h4 hsame
    go_wp2
    go_ret
    exact ⟨rfl, H4.out⟩
theorem law_InternTakes {H : Type} {enc : TypeId × Value → H} {base : Nat} {d0 : DataW H} {p0 : List MemPlace} (v0 : Value) (w : World)
    (ho0 : Value.okWide Try.prog w .any base 46 v0) (h0 : DataW.Trod enc Try.prog w 0 (fun _ => true) true 46 v0 d0 p0) :
    Calls Try.prog 7 #[v0] w fun e w' => e = .returned (.bool true) ∧ Below w.heap.size w w' := by
  obtain ⟨a, n, cap, xs, rfl, hl, hb, hs, hn, hm, _⟩ := bytes_in ho0 h0
  exact takes_walk xs n cap a w hl hb hs hn hm
end Go.Proofs.Ytiknmifbhhfblaa.Intern
