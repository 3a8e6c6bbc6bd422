/- The walk of the law BitsThere. -/
import Derived.Test.YtcepelagadpcnaaBack
namespace Go.Proofs.Ytcepelagadpcnaa.Bit
open Go.RowKit Words Mem Plain Ops Same
set_option linter.unusedVariables false
set_option linter.unusedSimpArgs false

theorem inR_all (xs : List Int) (y : Int) (k : Nat) (h : (k : Int) < y) : inR xs 0 y true k = bitN xs k := by
  unfold inR
  rw [decide_eq_true (by omega), decide_eq_true h]; simp
theorem countTo_with {xs ys : List Int} {i : Nat} {on : Bool} (y : Int) (h : ∀ t, bitN ys t = if t = i then on else bitN xs t) (m : Nat) (hm : (m : Int) ≤ y) :
    countTo ys 0 y m + (if i < m then (if bitN xs i then 1 else 0) else 0) = countTo xs 0 y m + (if i < m then (if on then 1 else 0) else 0) := by
  induction m with
  | zero => rfl
  | succ m ih =>
    have ih := ih (by omega)
    rw [countTo_succ, countTo_succ, inR_all _ _ _ (by omega), inR_all _ _ _ (by omega), h m]
    by_cases e : m = i
    · subst e
      simp only [Nat.lt_irrefl, if_false, Nat.lt_succ_self, if_true] at ih ⊢
      omega
    · rw [if_neg e]
      by_cases hlt : i < m
      · have h2 : i < m + 1 := by omega
        simp only [hlt, h2, if_true] at ih ⊢
        omega
      · have h2 : ¬ i < m + 1 := by omega
        simp only [hlt, h2, if_false] at ih ⊢
        omega
theorem countN_with {xs : List Int} (hb : isBytes xs) (i : Nat) (hi : i < 8 * xs.length) (on : Bool) :
    countN (withN xs i on) 0 (8 * xs.length) + (if bitN xs i then 1 else 0) = countN xs 0 (8 * xs.length) + (if on then 1 else 0) := by
  have := countTo_with (xs := xs) (ys := withN xs i on) (i := i) (on := on) (8 * xs.length) (bitN_with hb i hi on) (8 * xs.length) (by omega)
  rw [if_pos hi, if_pos hi] at this
  unfold countN
  rw [length_with]
  exact this
theorem bitB_in (xs : List Int) (i : Nat) (hi : i < 8 * xs.length) : bitB xs i = bitN xs i := by
  unfold bitB
  rw [decide_eq_true (by omega), decide_eq_true (p := (i : Int) < _) (by omega)]; simp
theorem with_back {xs : List Int} (hb : isBytes xs) (i : Nat) (hi : i < 8 * xs.length) (on : Bool) : withN (withN xs i on) i (bitN xs i) = xs := by
  have hbw := isBytes_with hb i on
  have hl := length_with xs i on
  refine bytes_ext (isBytes_with hbw i _) hb ((length_with _ _ _).trans hl) (fun t _ => ?_)
  rw [bitN_with hbw i (by rw [hl]; exact hi) _ t, bitN_with hb i hi on t]
  by_cases e : t = i
  · rw [if_pos e, e]
  · rw [if_neg e, if_neg e]
theorem countN_le (xs : List Int) (x y : Int) : countN xs x y ≤ 8 * xs.length := by
  unfold countN countTo
  have := List.length_filter_le (inR xs x y true) (List.range (8 * xs.length))
  simpa using this

set_option maxHeartbeats 4000000 in
theorem there_out (a0 : Option Addr) (n cap0 : Nat) (ys : List Int) (a1 : Int) (len0 : Nat) (w : World) (hl' : ys.length = n) (hn : n ≤ 500) (hb' : isBytes ys) (hs' : Sl w a0 (ints .u8 ys)) (hlen : (len0 ≤ 500 ∧ n = len0) ∨ (500 < len0 ∧ n = 500)) (hlc : len0 ≤ cap0) (hc : cap0 ≤ 9223372036854775807)
    (h : a1 < 0 ∨ 8 * (n : Int) ≤ a1) :
    Calls Try.prog 8 #[.slice a0 len0 cap0, .int .i64 a1] w fun e w' => e = .returned (.bool true) ∧ Ext w w' := by
  have hbit : bitB ys a1 = false := by
    unfold bitB; rw [hl']
    rcases h with h | h
    · rw [decide_eq_false (by omega)]; rfl
    · rw [decide_eq_false (p := a1 < _) (by omega)]; simp
  rcases hlen with ⟨h1, rfl⟩ | ⟨h1, rfl⟩ <;> rcases h with h | h
  all_goals
    go_enter Try.func8, Try.ntmps8
    go_wp2_with fail
    refine (shown_ok _).mono ?_
    rintro e w1 ⟨rfl, hX1⟩
    have hs1 := hs'.ext hX1
    go_wp2_with (go_at_call 13; refine (Has_ok _ _ _ ys _ _ hl' (by omega) hb' hs1).mono ?_; rintro e w' ⟨rfl, rfl⟩)
    refine (With_no _ _ _ _ _ _ (by omega) (.inl (by omega))).mono ?_
    rintro e w2 ⟨rfl, rfl⟩
    rw [if_pos (by omega)]
    go_wp2_with fail
    go_ret
    refine ⟨?_, hX1⟩
    first
      | rfl
      | (have h9 : (decide (a1 < 0) || decide (4000 ≤ a1)) = true := by simp; omega
         show Ending.returned (.bool (decide (a1 < 0) || decide (4000 ≤ a1))) = _
         rw [h9])

set_option maxHeartbeats 8000000 in
theorem there_in (a0 : Option Addr) (n cap0 : Nat) (ys : List Int) (i : Nat) (len0 : Nat) (w : World) (hl' : ys.length = n) (hn : n ≤ 500) (hb' : isBytes ys) (hs' : Sl w a0 (ints .u8 ys)) (hlen : (len0 ≤ 500 ∧ n = len0) ∨ (500 < len0 ∧ n = 500)) (hlc : len0 ≤ cap0) (hc : cap0 ≤ 9223372036854775807)
    (hnil : a0 = none → n = 0 ∧ cap0 = 0) (hi : i < 8 * n) :
    Calls Try.prog 8 #[.slice a0 len0 cap0, .int .i64 i] w fun e w' => e = .returned (.bool true) ∧ Ext w w' := by
  obtain ⟨was, hwas⟩ : ∃ was, bitB ys i = was := ⟨_, rfl⟩
  have hwasN : bitN ys i = was := by rw [← bitB_in ys i (by omega)]; exact hwas
  have hbw := isBytes_with hb' i (!was)
  have hlw := length_with ys i (!was)
  have hww := with_back hb' i (by omega) (!was)
  have hcn := countN_with hb' i (by omega) (!was)
  have hle := countN_le ys 0 (8 * ys.length)
  have hle' := countN_le (withN ys i (!was)) 0 (8 * ys.length)
  rw [hl'] at hcn hle hle'
  rw [hlw, hl'] at hle'
  rw [hwasN] at hww hcn
  have hbi : bitB (withN ys i (!was)) i = !was := by rw [bitB_with hb' i (by omega)]; simp
  have HW := Lib.hid hwas; clear hwas hwasN
  have HWW := Lib.hid hww; clear hww
  have HLW := Lib.hid hlw; clear hlw
  have HBI := Lib.hid hbi; clear hbi
  generalize hz : withN ys i (!was) = zs at *
  have HZ := Lib.hid hz; clear hz
  obtain ⟨c1, hc1⟩ : ∃ c, c = countN ys 0 (8 * n) := ⟨_, rfl⟩
  obtain ⟨c2, hc2⟩ : ∃ c, c = countN zs 0 (8 * n) := ⟨_, rfl⟩
  rw [← hc1] at hcn hle
  rw [← hc2] at hcn hle'
  have HC1 := Lib.hid hc1; clear hc1
  have HC2 := Lib.hid hc2; clear hc2
  have hii : (i : Int) < 8 * n := by omega
  go_enter Try.func8, Try.ntmps8
  go_wp2_with fail
  refine (shown_ok _).mono ?_
  rintro e w1 ⟨rfl, hX1⟩
  have hs1 := hs'.ext hX1
  rcases hlen with ⟨h1, h2⟩ | ⟨h1, h2⟩
  rotate_left
  go_wp2_with fail
  rw [← h2]
  clear h2
  rotate_left
  subst h2
  go_wp2_with fail
  all_goals
    refine (Has_ok _ _ _ ys _ _ hl' (by omega) hb' hs1).mono ?_
    rintro e w' ⟨rfl, rfl⟩
    rw [HW.out]
    go_wp2_with fail
    refine (With_yes _ _ _ ys i (!was) _ hl' (by omega) hb' hs1 hi hnil).mono ?_
    rintro e w2 ⟨ac, cc, rfl, hown, hX2⟩
    rw [HZ.out] at hown
    rw [HZ.out]
    have hs2 := hs1.ext hX2
    have ho2 := OwnBytes.sl hown
    have hnil2 := own_nil hown
    have X2 := hX1.trans hX2
    have hlz := HLW.out
    rw [hlz, hl'] at hnil2
    clear hown hX1 hX2 hs1
    rw [hlz, hl']
    go_wp2_with fail
    refine (With_yes _ _ _ _ i was _ (hlz.trans hl') (by omega) hbw ho2 hi hnil2).mono ?_
    rintro e w3 ⟨ad, cd, rfl, hown3, hX3⟩
    rw [HWW.out] at hown3
    rw [HWW.out]
    have hs3 := hs2.ext hX3
    have ho3 := ho2.ext hX3
    have hq3 := OwnBytes.sl hown3
    have X3 := X2.trans hX3
    rw [hl']
    clear hown3 hX3 hs2 ho2 X2
    have e1 := run_conv_str (P := Try.prog) w3 22 9 5 Try.underlying22 Try.underlying5 Try.underlying9 cd hq3 hl'
    have e2 := run_conv_str (P := Try.prog) w3 22 9 5 Try.underlying22 Try.underlying5 Try.underlying9 cap0 hs3 hl'
    generalize strOf ys = st at *
    go_wp2_with fail
    refine (Count_ok _ _ _ zs _ _ _ (hlz.trans hl') (by omega) hbw ho3).mono ?_
    rintro e w' ⟨rfl, rfl⟩
    rw [← HC2.out]
    go_wp2_with fail
    refine (Count_ok _ _ _ ys _ _ _ hl' (by omega) hb' hs3).mono ?_
    rintro e w' ⟨rfl, rfl⟩
    rw [← HC1.out]
    cases was
    · simp only [Bool.not_false, if_true, Bool.false_eq_true, if_false] at hcn
      obtain rfl : c2 = c1 + 1 := by omega
      go_wp2_with (go_at_call 13; refine (Has_ok _ _ _ zs _ _ (hlz.trans hl') (by omega) hbw ho3).mono ?_; rintro e w' ⟨rfl, rfl⟩; rw [HBI.out])
      go_ret
      exact ⟨rfl, X3⟩
    · simp only [Bool.not_true, if_true, Bool.false_eq_true, if_false] at hcn
      obtain rfl : c1 = c2 + 1 := by omega
      go_wp2_with (go_at_call 13; refine (Has_ok _ _ _ zs _ _ (hlz.trans hl') (by omega) hbw ho3).mono ?_; rintro e w' ⟨rfl, rfl⟩; rw [HBI.out])
      go_ret
      exact ⟨rfl, X3⟩

theorem there_walk (a0 : Option Addr) (len0 cap0 : Nat) (z0 : List Int) (a1 : Int) (w : World) (w0 : RowIn .u8 w a0 len0 cap0 z0) (w1 : (Lit.int .i64 a1).wf = true) :
    Calls Try.prog 8 #[.slice a0 len0 cap0, .int .i64 a1] w fun e w' => e = .returned (.bool true) ∧ Below w.heap.size w w' := by
  obtain ⟨xs, hl, hb, hs, hlc, hc, hnil⟩ := bytesIn w0
  have hl' : (xs.take 500).length = min len0 500 := by rw [List.length_take]; omega
  have hb' := isBytes_take hb 500
  have hs' : Sl w a0 (ints .u8 (xs.take 500)) := by have := hs.take 500; rwa [ints_take] at this
  have hd : (len0 ≤ 500 ∧ min len0 500 = len0) ∨ (500 < len0 ∧ min len0 500 = 500) := by omega
  by_cases h : a1 < 0 ∨ 8 * ((min len0 500 : Nat) : Int) ≤ a1
  · exact there_out a0 (min len0 500) cap0 (xs.take 500) a1 len0 w hl' (by omega) hb' hs' hd hlc hc h
  · obtain ⟨i, rfl⟩ := Int.eq_ofNat_of_zero_le (a := a1) (by omega)
    exact there_in a0 (min len0 500) cap0 (xs.take 500) i len0 w hl' (by omega) hb' hs' hd hlc hc (fun e => by have := hnil e; omega) (by omega)
end Go.Proofs.Ytcepelagadpcnaa.Bit
