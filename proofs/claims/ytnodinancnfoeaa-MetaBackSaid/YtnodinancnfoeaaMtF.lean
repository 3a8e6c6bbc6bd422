/- moatlaw14's few; lists of bytes as they come in. -/
import Derived.Test.YtnodinancnfoeaaMtIn
namespace Go.Proofs.Ytnodinancnfoeaa.Mt
open Go.RowKit Words Mem Plain Ops Agg OwnS Intern Ino
open Go.Joins Go.ChangeShapes Go.WideShapes Go.Deep
set_option linter.ambiguousOpen false
set_option linter.unusedVariables false
set_option linter.unusedSimpArgs false

def fewL (L : List (List Int)) : List (List Int) := (L.take 50).takeWhile fun xs => decide (xs.length ≤ 100)
theorem few_eq {L : List (List Int)} {k : Nat} (h : ∀ q, q < k → (L.getD q []).length ≤ 100) (h50 : k ≤ 50) (hl : k ≤ L.length) (he : k = L.length ∨ k = 50 ∨ 100 < (L.getD k []).length) : fewL L = L.take k := by
  have e : L.take 50 = L.take k ++ (L.take 50).drop k := by
    rw [← List.take_append_drop k (L.take 50), List.take_take, Nat.min_eq_left h50, List.drop_left' (by simp; omega)]
  unfold fewL
  rw [e, List.takeWhile_append_of_pos (fun xs hx => by
    obtain ⟨i, hi, rfl⟩ := List.getElem_of_mem hx
    rw [List.length_take] at hi
    have := h i (by omega)
    rw [List.getD_eq_getElem?_getD, List.getElem?_eq_getElem (by omega)] at this
    simpa using this)]
  have e2 : ((L.take 50).drop k).takeWhile (fun xs => decide (xs.length ≤ 100)) = [] := by
    by_cases hk : k < (L.take 50).length
    · rw [List.drop_eq_getElem_cons hk]
      have hk2 : k < L.length := by rw [List.length_take] at hk; omega
      have hk3 : k < 50 := by rw [List.length_take] at hk; omega
      have h3 : 100 < (L.getD k []).length := by
        rcases he with he | he | he
        · omega
        · omega
        · exact he
      rw [List.getD_eq_getElem?_getD, List.getElem?_eq_getElem hk2] at h3
      have h4 : 100 < ((L.take 50)[k]).length := by simpa using h3
      rw [List.takeWhile_cons_of_neg (by simp; simpa using h4)]
    · rw [List.drop_of_length_le (by omega)]; rfl
  rw [e2, List.append_nil]
theorem LsIn.take {w : World} {a : Option Addr} {n : Nat} {L : List (List Int)} (h : LsIn w a n L) {k : Nat} (hk : k ≤ n) : LsIn w a k (L.take k) := by
  refine ⟨by rw [List.length_take, h.1]; omega, fun h0 => ?_⟩
  obtain ⟨b, off, e, hc⟩ := h.2 (by omega)
  refine ⟨b, off, e, fun i hi => ?_⟩
  have hi2 : i < L.length := by rw [List.length_take] at hi; omega
  obtain ⟨x, m, c, h1, h2⟩ := hc i hi2
  have e : (L.take k)[i] = L[i] := by simp
  rw [e]
  exact ⟨x, m, c, h1, h2⟩
theorem cellsSl1 : Try.prog.cellsOf 26 = 1 := by kernel_rfl
set_option maxHeartbeats 1000000 in
theorem secs_in {H : Type} {enc : TypeId × Value → H} {base : Nat} {d : DataW H} {p : List MemPlace} {v : Value} {w : World} (ho : Value.okWide Try.prog w .any base 35 v) (h : DataW.Trod enc Try.prog w 0 (fun _ => true) true 35 v d p) :
    ∃ a n cap L, v = .slice a n cap ∧ n ≤ cap ∧ cap ≤ 9223372036854775807 ∧ LsIn w a n L := by
  obtain ⟨a, n, cap, rfl⟩ := okWide_slice Try.underlying35 ho
  obtain ⟨fuel, hf⟩ := h
  rcases open_slice1 Try.underlying35 cellsSl1 hf with ⟨hc, _⟩ | ⟨a, len, cap, m, k, V, D, Pl, hc, _, hl, hm, hmm, hx, hall⟩
  · simp [Value.cells] at hc
    obtain ⟨rfl, rfl, rfl⟩ := hc
    exact ⟨none, 0, 0, [], rfl, Nat.le_refl _, by omega, rfl, fun h => absurd h (by omega)⟩
  · simp [Value.cells] at hc
    obtain ⟨rfl, rfl, rfl⟩ := hc
    simp only [if_true] at hmm
    subst hmm
    have hat : ∀ i, i < n → ∃ xs : List Int, ∃ x c, w.cell? (a.add i) = some (.slice x xs.length c) ∧ xs.length ≤ c ∧ c ≤ 9223372036854775807 ∧ Sl w x (ints .u8 xs) ∧ isBytes xs ∧ (x = none → xs.length = 0 ∧ c = 0) := by
      intro i hi
      obtain ⟨h1, h2⟩ := hall i (by omega)
      obtain ⟨x, c, xs, e, h3, h4, h5, h6, h7⟩ := bytes_cs h2
      exact ⟨xs, x, c, by rw [h1, e], h5, h6, h3, h4, h7⟩
    obtain ⟨L, hL, hp⟩ := choose_list hat
    subst hL
    refine ⟨some a, _, m, L, rfl, hl, by unfold maxLen at hm; omega, rfl, fun h0 => ?_⟩
    obtain ⟨b, off, sp⟩ := a
    have hsp : sp = none := by
      cases sp with
      | none => rfl
      | some s =>
        obtain ⟨x, c, hx, _⟩ := hp 0 h0
        simp [Addr.add, World.cell?] at hx
        split at hx <;> simp at hx
    subst hsp
    refine ⟨b, off, rfl, fun i hi => ?_⟩
    obtain ⟨x, c, h1, h2, h3, h4, h5, h6⟩ := hp i hi
    exact ⟨x, _, c, (by rw [← Addr.add_lit]; exact h1), rfl, h2, h3, h4, h5, h6⟩
set_option maxHeartbeats 1000000 in
theorem few_ok (a : Option Addr) (n cap : Nat) (L : List (List Int)) (w : World) (hn : n ≤ cap) (hm : cap ≤ 9223372036854775807) (hs : LsIn w a n L) :
    Calls Try.prog 21 #[.slice a n cap] w fun e w' => w' = w ∧ ∃ m : Nat, e = .returned (.slice a m cap) ∧ m ≤ n ∧ m ≤ 50 ∧ fewL L = L.take m := by
  by_cases h0 : 0 < n
  · obtain ⟨b, off, rfl, hk⟩ := hs.2 h0
    have HK := Lib.hid hk
    have HL := Lib.hid hs.1
    clear hk hs
    go_enter Try.func21, Try.ntmps21
    go_wp2
    go_loopw [6] (fun v wr => ∃ k : Nat, k ≤ n ∧ k ≤ 50 ∧ v = .int .i64 k ∧ w = wr ∧ ∀ q, q < k → (L.getD q []).length ≤ 100) (fun v _ => n - (intOf v).toNat)
    case atStart => exact ⟨0, by omega, by omega, rfl, rfl, fun q hq => absurd hq (by omega)⟩
    case round =>
      obtain ⟨k, hkn, hk50, rfl, rfl, hfew⟩ := hrel
      have HF := Lib.hid hfew
      clear hfew
      by_cases hlt : k < n
      · have hkL : k < L.length := by rw [HL.out]; exact hlt
        obtain ⟨x, bl, bc, hc, hlen, -⟩ := HK.out k hkL
        have HGD := Lib.hid (show (L.getD k []).length = bl by rw [List.getD_eq_getElem?_getD, List.getElem?_eq_getElem hkL]; exact hlen)
        clear hlen hkL
        by_cases h50 : k = 50
        · subst h50
          have HE := Lib.hid (few_eq HF.out (Nat.le_refl _) (by rw [HL.out]; exact hkn) (.inr (.inl rfl)))
          go_wp2
          go_ret
          exact ⟨rfl, 50, rfl, by omega, by omega, HE.out⟩
        · have hk2 : ¬ (50 : Int) ≤ k := by omega
          by_cases hb : 100 < bl
          · have hb2 : (100 : Int) < bl := by omega
            have HE := Lib.hid (few_eq HF.out hk50 (by rw [HL.out]; exact hkn) (.inr (.inr (by rw [HGD.out]; exact hb))))
            clear hb
            go_wp2
            go_ret
            exact ⟨rfl, k, rfl, by omega, by omega, HE.out⟩
          · have hb2 : ¬ (100 : Int) < bl := by omega
            have HN := Lib.hid (show ∀ q, q < k + 1 → (L.getD q []).length ≤ 100 from fun q hq => by
              by_cases h : q < k
              · exact HF.out q h
              · rw [show q = k by omega, HGD.out]; omega)
            clear hb
            go_wp2
            go_roundw
            case rel => exact ⟨k + 1, by omega, by omega, by go_num, (by first | rfl | trivial), HN.out⟩
            case measure => simp [intOf]; omega
      · obtain rfl : k = n := by omega
        have HE := Lib.hid (few_eq HF.out hk50 (by rw [HL.out]; exact hkn) (.inl (by rw [HL.out])))
        go_wp2
        go_ret
        exact ⟨rfl, k, rfl, by omega, by omega, HE.out⟩
  · obtain rfl : n = 0 := by omega
    have HE := Lib.hid (few_eq (L := L) (k := 0) (fun q hq => absurd hq (by omega)) (by omega) (by omega) (.inl (by rw [hs.1])))
    clear hs
    go_enter Try.func21, Try.ntmps21
    go_wp2
    go_loopw [6] (fun v wr => v = .int .i64 0 ∧ w = wr) (fun v _ => 0)
    case atStart => exact ⟨rfl, rfl⟩
    case round =>
      obtain ⟨rfl, rfl⟩ := hrel
      go_wp2
      go_ret
      exact ⟨rfl, 0, rfl, by omega, by omega, HE.out⟩
/-- few, as it is used. -/
theorem few_use (a : Option Addr) (n cap : Nat) (L : List (List Int)) (w : World) (hn : n ≤ cap) (hm : cap ≤ 9223372036854775807) (hs : LsIn w a n L) :
    ∃ m : Nat, m ≤ 50 ∧ m ≤ cap ∧ LsIn w a m (fewL L) ∧ ∀ v, Ext w v → Calls Try.prog 21 #[.slice a n cap] v fun e w' => v = w' ∧ e = .returned (.slice a m cap) := by
  have key : ∀ v, Ext w v → Calls Try.prog 21 #[.slice a n cap] v fun e w' => v = w' ∧ e = .returned (.slice a (fewL L).length cap) := fun v hv => (few_ok a n cap L v hn hm (hs.ext hv)).mono fun e w' ⟨h1, m, h2, h3, h4, h5⟩ => by
    refine ⟨h1.symm, ?_⟩
    rw [h5, List.length_take, hs.1, Nat.min_eq_left h3]
    exact h2
  have hle : (fewL L).length ≤ 50 := by
    unfold fewL
    exact Nat.le_trans ((List.takeWhile_prefix _).length_le) (by rw [List.length_take]; omega)
  have hle2 : (fewL L).length ≤ n := by
    unfold fewL
    exact Nat.le_trans ((List.takeWhile_prefix _).length_le) (by rw [List.length_take, hs.1]; omega)
  have he : fewL L = L.take (fewL L).length := by
    have h1 : fewL L <+: L.take 50 := List.takeWhile_prefix _
    have h2 : fewL L <+: L := h1.trans (List.take_prefix _ _)
    exact List.prefix_iff_eq_take.1 h2
  refine ⟨(fewL L).length, hle, by omega, ?_, key⟩
  have := hs.take (k := (fewL L).length) hle2
  rw [← he] at this
  exact this
end Go.Proofs.Ytnodinancnfoeaa.Mt
