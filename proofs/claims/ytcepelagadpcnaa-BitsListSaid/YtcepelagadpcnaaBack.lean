/- The walk of the law BitsBack. -/
import Derived.Test.YtcepelagadpcnaaCounts
namespace Go.Proofs.Ytcepelagadpcnaa.Bit
open Go.RowKit Words Mem Plain Ops Same
set_option linter.unusedVariables false
set_option linter.unusedSimpArgs false

theorem bitB_with {xs : List Int} (hb : isBytes xs) (i : Nat) (hi : i < 8 * xs.length) (on : Bool) (k : Int) : bitB (withN xs i on) k = if k = i then on else bitB xs k := by
  unfold bitB
  rw [length_with]
  by_cases h0 : 0 ≤ k
  · obtain ⟨t, rfl⟩ := Int.eq_ofNat_of_zero_le h0
    rw [Int.toNat_natCast, bitN_with hb i hi on t]
    by_cases e : t = i
    · subst e
      rw [if_pos rfl, if_pos rfl, decide_eq_true (by omega), decide_eq_true (p := (t : Int) < _) (by omega)]; simp
    · rw [if_neg e, if_neg (by omega)]
  · rw [if_neg (by omega), decide_eq_false h0]; rfl
theorem with_with {xs : List Int} (hb : isBytes xs) (i : Nat) (hi : i < 8 * xs.length) (on : Bool) : withN (withN xs i on) i on = withN xs i on := by
  have hbw := isBytes_with hb i on
  have hl := length_with xs i on
  refine bytes_ext (isBytes_with hbw i on) hbw (length_with _ _ _) (fun t _ => ?_)
  rw [bitN_with hbw i (by rw [hl]; exact hi) on t, bitN_with hb i hi on t]
  by_cases e : t = i
  · rw [if_pos e, if_pos e]
  · rw [if_neg e]

theorem OwnBytes.sl {w w' : World} {L : List Int} {a : Option Addr} {cap : Nat} (h : w'.ownsRow w.heap.size 5 1 (.slice a L.length cap) L.length (ints .u8 L)) : Sl w' a (ints .u8 L) := ownsRow_sl h
theorem own_nil {w : World} {base t n : Nat} {a : Option Addr} {cap : Nat} {L : List Value} (h : w.ownsRow base t 1 (.slice a n cap) n L) : a = none → n = 0 ∧ cap = 0 := by
  rcases ownsRow_cases h with ⟨h1, h2, h3, _⟩ | ⟨g, M, h1, _⟩
  · exact fun _ => ⟨h2, h3⟩
  · intro e; rw [h1] at e; cases e

set_option maxHeartbeats 4000000 in
theorem back_out (a0 : Option Addr) (n cap0 : Nat) (ys : List Int) (a1 a2 : Int) (a3 : Bool) (len0 : Nat) (w : World) (hl' : ys.length = n) (hn : n ≤ 500) (hb' : isBytes ys) (hs' : Sl w a0 (ints .u8 ys)) (hlen : (len0 ≤ 500 ∧ n = len0) ∨ (500 < len0 ∧ n = 500)) (hlc : len0 ≤ cap0) (hc : cap0 ≤ 9223372036854775807)
    (h : a1 < 0 ∨ 8 * (n : Int) ≤ a1) :
    Calls Try.prog 4 #[.slice a0 len0 cap0, .int .i64 a1, .int .i64 a2, .bool a3] w fun e w' => e = .returned (.bool true) ∧ Ext w w' := by
  have hbit : bitB ys a1 = false := by
    unfold bitB; rw [hl']
    rcases h with h | h
    · rw [decide_eq_false (by omega)]; rfl
    · rw [decide_eq_false (p := a1 < _) (by omega)]; simp
  rcases hlen with ⟨h1, rfl⟩ | ⟨h1, rfl⟩ <;> rcases h with h | h
  all_goals
    go_enter Try.func4, Try.ntmps4
    go_wp2_with fail
    refine (shown_ok _).mono ?_
    rintro e w1 ⟨rfl, hX1⟩
    have hs1 := hs'.ext hX1
    go_wp2_with fail
    refine (With_no _ _ _ _ _ _ (by omega) (.inl (by omega))).mono ?_
    rintro e w2 ⟨rfl, rfl⟩
    rw [if_pos (by omega)]
    go_wp2_with (go_at_call 13; refine (Has_ok _ _ _ ys _ _ hl' (by omega) hb' hs1).mono ?_; rintro e w' ⟨rfl, rfl⟩)
    go_ret
    exact ⟨rfl, hX1⟩

set_option maxHeartbeats 8000000 in
theorem back_in (a0 : Option Addr) (n cap0 : Nat) (ys : List Int) (i : Nat) (a2 : Int) (a3 : Bool) (len0 : Nat) (w : World) (hl' : ys.length = n) (hn : n ≤ 500) (hb' : isBytes ys) (hs' : Sl w a0 (ints .u8 ys)) (hlen : (len0 ≤ 500 ∧ n = len0) ∨ (500 < len0 ∧ n = 500)) (hlc : len0 ≤ cap0) (hc : cap0 ≤ 9223372036854775807)
    (hnil : a0 = none → n = 0 ∧ cap0 = 0) (hi : i < 8 * n) :
    Calls Try.prog 4 #[.slice a0 len0 cap0, .int .i64 i, .int .i64 a2, .bool a3] w fun e w' => e = .returned (.bool true) ∧ Ext w w' := by
  have hbw := isBytes_with hb' i a3
  have hlw := length_with ys i a3
  have hww := with_with hb' i (by omega) a3
  have hbi : bitB (withN ys i a3) i = a3 := by rw [bitB_with hb' i (by omega)]; simp
  have hbk : ∀ k : Int, k ≠ i → bitB (withN ys i a3) k = bitB ys k := fun k hk => by rw [bitB_with hb' i (by omega), if_neg hk]
  have HWW := Lib.hid hww; clear hww
  have HLW := Lib.hid hlw; clear hlw
  have HBI := Lib.hid hbi; clear hbi
  have HBK := Lib.hid hbk; clear hbk
  generalize hz : withN ys i a3 = zs at *
  have HZ := Lib.hid hz; clear hz
  have hii : (i : Int) < 8 * n := by omega
  go_enter Try.func4, Try.ntmps4
  go_wp2_with fail
  refine (shown_ok _).mono ?_
  rintro e w1 ⟨rfl, hX1⟩
  have hs1 := hs'.ext hX1
  rcases hlen with ⟨h1, h2⟩ | ⟨h1, h2⟩
  rotate_left
  go_wp2_with fail
  rw [← h2]
  clear h2
  rotate_left
  subst h2
  go_wp2_with fail
  all_goals
    refine (With_yes _ _ _ ys i a3 _ hl' (by omega) hb' hs1 hi hnil).mono ?_
    rintro e w2 ⟨ac, cc, rfl, hown, hX2⟩
    rw [HZ.out] at hown
    rw [HZ.out]
    have hs2 := hs1.ext hX2
    have ho2 := OwnBytes.sl hown
    have hnil2 := own_nil hown
    have X2 := hX1.trans hX2
    have hlz := HLW.out
    rw [hlz, hl'] at hnil2
    clear hown hX1 hX2 hs1
    rw [hlz, hl']
    go_wp2_with fail
    refine (With_yes _ _ _ _ i a3 _ (hlz.trans hl') (by omega) hbw ho2 hi hnil2).mono ?_
    rintro e w3 ⟨ad, cd, rfl, hown3, hX3⟩
    rw [HWW.out] at hown3
    rw [HWW.out]
    have hs3 := hs2.ext hX3
    have ho3 := ho2.ext hX3
    have hq3 := OwnBytes.sl hown3
    have X3 := X2.trans hX3

    rw [hlz, hl']
    clear hown3 hX3 hs2 ho2 X2
    have e1 := run_conv_str (P := Try.prog) w3 22 9 5 Try.underlying22 Try.underlying5 Try.underlying9 cd hq3 (hlz.trans hl')
    have e2 := run_conv_str (P := Try.prog) w3 22 9 5 Try.underlying22 Try.underlying5 Try.underlying9 cc ho3 (hlz.trans hl')
    generalize strOf zs = st at *
    by_cases hki : a2 = i
    · subst hki
      go_wp2_with (go_at_call 13; refine (Has_ok _ _ _ zs _ _ (hlz.trans hl') (by omega) hbw ho3).mono ?_; rintro e w' ⟨rfl, rfl⟩; rw [HBI.out])
      go_ret
      exact ⟨rfl, X3⟩
    · have hbk := HBK.out a2 hki
      have hne : (a2 == (i : Int)) = false := by simpa using hki
      clear hki
      go_wp2_with (fail)
      refine (Has_ok _ _ _ zs _ _ (hlz.trans hl') (by omega) hbw ho3).mono ?_
      rintro e w' ⟨rfl, rfl⟩
      rw [HBI.out]
      go_wp2_with (fail)
      refine (Has_ok _ _ _ zs _ _ (hlz.trans hl') (by omega) hbw ho3).mono ?_
      rintro e w' ⟨rfl, rfl⟩
      rw [hbk]
      clear hbk
      go_wp2_with (fail)
      refine (Has_ok _ _ _ ys _ _ hl' (by omega) hb' hs3).mono ?_
      rintro e w' ⟨rfl, rfl⟩
      go_wp2
      go_ret
      exact ⟨rfl, X3⟩

theorem back_walk (a0 : Option Addr) (len0 cap0 : Nat) (z0 : List Int) (a1 a2 : Int) (a3 : Bool) (w : World) (w0 : RowIn .u8 w a0 len0 cap0 z0) (w1 : (Lit.int .i64 a1).wf = true) (w2 : (Lit.int .i64 a2).wf = true) :
    Calls Try.prog 4 #[.slice a0 len0 cap0, .int .i64 a1, .int .i64 a2, .bool a3] w fun e w' => e = .returned (.bool true) ∧ Below w.heap.size w w' := by
  obtain ⟨xs, hl, hb, hs, hlc, hc, hnil⟩ := bytesIn w0
  have hl' : (xs.take 500).length = min len0 500 := by rw [List.length_take]; omega
  have hb' := isBytes_take hb 500
  have hs' : Sl w a0 (ints .u8 (xs.take 500)) := by have := hs.take 500; rwa [ints_take] at this
  have hd : (len0 ≤ 500 ∧ min len0 500 = len0) ∨ (500 < len0 ∧ min len0 500 = 500) := by omega
  by_cases h : a1 < 0 ∨ 8 * ((min len0 500 : Nat) : Int) ≤ a1
  · exact back_out a0 (min len0 500) cap0 (xs.take 500) a1 a2 a3 len0 w hl' (by omega) hb' hs' hd hlc hc h
  · obtain ⟨i, rfl⟩ := Int.eq_ofNat_of_zero_le (a := a1) (by omega)
    exact back_in a0 (min len0 500) cap0 (xs.take 500) i a2 a3 len0 w hl' (by omega) hb' hs' hd hlc hc (fun e => by have := hnil e; omega) (by omega)
end Go.Proofs.Ytcepelagadpcnaa.Bit
