/- The walk of the law BitsHas. -/
import Derived.Test.YtcepelagadpcnaaThere
namespace Go.Proofs.Ytcepelagadpcnaa.Bit
open Go.RowKit Words Mem Plain Ops Same
set_option linter.unusedVariables false
set_option linter.unusedSimpArgs false

theorem own_ext {w w' : World} {base t n : Nat} {a : Option Addr} {cap : Nat} {L : List Value} (h : w.ownsRow base t 1 (.slice a n cap) n L) (e : Ext w w') : w'.ownsRow base t 1 (.slice a n cap) n L := by
  refine ⟨h.1, ?_⟩
  rcases h.2 with hv | ⟨g, c, cur, hv, hb, hg, r⟩
  · exact .inl hv
  · refine .inr ⟨g, c, cur, hv, hb, ?_, r⟩
    have hlt : g < w.heap.size := (Array.getElem?_eq_some_iff.1 hg).1
    exact (Below.block e g hlt).trans hg
theorem own_some {w : World} {base t n : Nat} {a : Option Addr} {cap : Nat} {L : List Value} (h : w.ownsRow base t 1 (.slice a n cap) n L) (hn : 0 < n) : ∃ g, a = some ⟨g, 0, none⟩ ∧ base ≤ g := by
  rcases ownsRow_cases h with ⟨_, h2, _⟩ | ⟨g, M, h1, h2, _⟩
  · omega
  · exact ⟨g, h1, h2⟩
theorem xor_bd (x : Int) (h0 : 0 ≤ x) (h1 : x < 256) : 0 ≤ bits .xor .u8 x 85 ∧ bits .xor .u8 x 85 < 256 := by
  rw [u8_xor x 85 h0 h1 (by omega) (by omega)]
  have : x.toNat ^^^ (85 : Int).toNat < 2 ^ 8 := Nat.xor_lt_two_pow (by omega) (by decide)
  omega

set_option maxHeartbeats 4000000 in
theorem has_no (a0 : Option Addr) (len0 cap0 : Nat) (z0 : List Int) (a1 : Int) (a2 : Bool) (w : World) (w0 : RowIn .u8 w a0 len0 cap0 z0)
    (h : (a1 < 0 ∨ 8 * ((min len0 600 : Nat) : Int) ≤ a1) ∨ 512 < min len0 600) :
    Calls Try.prog 3 #[.slice a0 len0 cap0, .int .i64 a1, .bool a2] w fun e w' => e = .returned (.bool true) ∧ Below w.heap.size w w' := by
  obtain ⟨xs, hl, hb, hs, hlc, hc, hnil⟩ := bytesIn w0
  clear w0
  go_enter Try.func3, Try.ntmps3
  go_wp2_with fail
  refine (shown_ok _).mono ?_
  rintro e w1 ⟨rfl, hX1⟩
  have hs1 := hs.ext hX1
  clear hs
  go_wp2_with fail
  refine (few_ok a0 len0 cap0 xs _ hl (by omega) hlc hs1).mono ?_
  rintro e w' ⟨⟨rfl, hs'⟩, rfl⟩
  have hl' : (xs.take 600).length = min len0 600 := by rw [List.length_take]; omega
  have hn : min len0 600 ≤ 600 := Nat.min_le_right _ _
  have hb' := isBytes_take hb 600
  generalize xs.take 600 = ys at *
  generalize min len0 600 = n at *
  clear hl hb hs1 hlc hc hnil
  have e1 := run_conv_str (P := Try.prog) w1 22 9 5 Try.underlying22 Try.underlying5 Try.underlying9 cap0 hs' hl'
  have e0 := run_conv_str (P := Try.prog) w1 22 9 5 Try.underlying22 Try.underlying5 Try.underlying9 (a := none) (n := 0) 0 (xs := []) (Sl.nil _ _) rfl
  generalize strOf ys = st at *
  generalize strOf [] = st0 at *
  go_wp2_with fail
  refine (With_no _ _ _ _ _ _ (by omega) h).mono ?_
  rintro e w2 ⟨rfl, rfl⟩
  obtain ⟨er, her⟩ : ∃ er : Int, er = if a1 < 0 ∨ 8 * (n : Int) ≤ a1 then 1 else 4 := ⟨_, rfl⟩
  have HER := Lib.hid her; clear her
  rw [← HER.out]
  go_wp2_with fail
  refine (rWith_no _ _ _ _ _ _ (by omega) h).mono ?_
  rintro e w2 ⟨rfl, rfl⟩
  rw [← HER.out]
  go_wp2_with (first | (go_at_call 13; refine (Has_ok _ _ _ ys _ _ hl' (by omega) hb' hs').mono ?_; rintro e w' ⟨rfl, rfl⟩) | (go_at_call 14; refine (rHas_ok _ _ _ ys _ _ hl' (by omega) hb' hs').mono ?_; rintro e w' ⟨rfl, rfl⟩))
  refine wp_loop_once ?_
  go_wp2
  go_ret
  exact ⟨rfl, hX1⟩

set_option maxHeartbeats 4000000 in
theorem has_yes (a0 : Option Addr) (len0 cap0 : Nat) (z0 : List Int) (i : Nat) (a2 : Bool) (w : World) (w0 : RowIn .u8 w a0 len0 cap0 z0)
    (h : i < 8 * min len0 600) (h5 : min len0 600 ≤ 512) :
    Calls Try.prog 3 #[.slice a0 len0 cap0, .int .i64 i, .bool a2] w fun e w' => e = .returned (.bool true) ∧ Below w.heap.size w w' := by
  obtain ⟨xs, hl, hb, hs, hlc, hc, hnil⟩ := bytesIn w0
  clear w0
  go_enter Try.func3, Try.ntmps3
  go_wp2_with fail
  refine (shown_ok _).mono ?_
  rintro e w1 ⟨rfl, hX1⟩
  have hs1 := hs.ext hX1
  have hsw : Sl w a0 (ints .u8 (xs.take 600)) := by have := hs.take 600; rwa [ints_take] at this
  clear hs
  go_wp2_with fail
  refine (few_ok a0 len0 cap0 xs _ hl (by omega) hlc hs1).mono ?_
  rintro e w' ⟨⟨rfl, hs'⟩, rfl⟩
  have hl' : (xs.take 600).length = min len0 600 := by rw [List.length_take]; omega
  have hnil' : a0 = none → min len0 600 = 0 ∧ cap0 = 0 := fun e => by have := hnil e; omega
  have hb' := isBytes_take hb 600
  generalize xs.take 600 = ys at *
  generalize min len0 600 = n at *
  clear hl hb hs1 hlc hc hnil
  have e1 := run_conv_str (P := Try.prog) w1 22 9 5 Try.underlying22 Try.underlying5 Try.underlying9 cap0 hs' hl'
  obtain ⟨st, hst⟩ : ∃ st, st = strOf ys := ⟨_, rfl⟩
  rw [← hst] at e1
  have HST := Lib.hid hst; clear hst
  go_wp2_with fail
  refine (With_yes _ _ _ ys i a2 _ hl' h5 hb' hs' h hnil').mono ?_
  rintro e w2 ⟨ac, cc, rfl, hown, hX2⟩
  have hs2 := hs'.ext hX2
  clear e1 hs'
  rw [length_with, hl'] at hown
  rw [length_with, hl']
  go_wp2_with fail
  refine (rWith_yes _ _ _ ys i a2 _ hl' h5 hb' hs2 h).mono ?_
  rintro e w3 ⟨ad, cd, rfl, hown3, hX3⟩
  have hs3 := hs2.ext hX3
  have ho3 := (ownsRow_sl hown).ext hX3
  have hown2 := own_ext hown hX3
  rw [length_with, hl'] at hown3
  rw [length_with, hl']
  obtain ⟨g, rfl, hg⟩ := own_some hown2 (by omega)
  have hg' : w.heap.size ≤ g := Nat.le_trans hX1.size hg
  have hq3 := ownsRow_sl hown3
  have X3 := (hX1.trans hX2).trans hX3
  have hzb := isBytes_with hb' i a2
  have hzl := (length_with ys i a2).trans hl'
  generalize withN ys i a2 = zs at *
  clear hown hown3 hX1 hX2 hX3 hs2
  have e1 := run_conv_str (P := Try.prog) w3 22 9 5 Try.underlying22 Try.underlying5 Try.underlying9 cc ho3 hzl
  have e2 := run_conv_str (P := Try.prog) w3 22 9 5 Try.underlying22 Try.underlying5 Try.underlying9 cd hq3 hzl
  generalize strOf zs = st2 at *
  clear ho3 hq3
  go_wp2_with (first | (go_at_call 13; refine (Has_ok _ _ _ ys _ _ hl' (by omega) hb' hs3).mono ?_; rintro e w' ⟨rfl, rfl⟩) | (go_at_call 14; refine (rHas_ok _ _ _ ys _ _ hl' (by omega) hb' hs3).mono ?_; rintro e w' ⟨rfl, rfl⟩))
  clear e1 e2
  obtain ⟨wo, hwo⟩ : ∃ wo : World, wo = w3 := ⟨_, rfl⟩
  go_loopw [56] (fun v wr => ∃ (k : Nat) (L : List Int), k ≤ n ∧ v = .int .i64 k ∧ isBytes L ∧ Hid (L.length = n) ∧ wr.ownsRow w1.heap.size 5 1 (.slice (some ⟨g, 0, none⟩) n cc) n (ints .u8 L) ∧ Ext w wr) (fun v _ => n - (intOf v).toNat)
  case atStart => exact ⟨0, zs, by omega, rfl, hzb, hzl, hown2, X3⟩
  case round =>
    obtain ⟨k, L, hk, rfl, hL, hLl, hown, hX⟩ := hrel
    by_cases hlt : k < n
    · have hkL : k < L.length := by rw [hLl.out]; exact hlt
      have hx := hL L[k] (List.getElem_mem hkL)
      have hc := hown.cellAt k (by omega)
      rw [ints_getElem?] at hc
      simp only [hkL, getElem?_pos, Option.map_some] at hc
      have hf := hown.frozenAt k
      generalize L[k] = x at *
      obtain ⟨hx0, hx1⟩ := hx
      have hxb := xor_bd x hx0 hx1
      have k0 : (0 : Int) ≤ k := by omega
      have k1 : (k : Int) < n := by omega
      have hst := hown.stored k (.int .u8 (bits .xor .u8 x 85))
      obtain ⟨hown3, hby3⟩ := hst
      have hX3 := Ext.setCell hX (p := ⟨g, k, none⟩) hg' (.int .u8 (bits .xor .u8 x 85))
      have hL3 : (ints .u8 L).set k (.int .u8 (bits .xor .u8 x 85)) = ints .u8 (L.set k (bits .xor .u8 x 85)) := by simp [ints]
      rw [hL3] at hown3
      have hb3 : isBytes (L.set k (bits .xor .u8 x 85)) := by
        intro y hy
        rcases List.mem_or_eq_of_mem_set hy with h | h
        · exact hL y h
        · rw [h]; exact hxb
      have hl3 : Hid ((L.set k (bits .xor .u8 x 85)).length = n) := by rw [List.length_set]; exact hLl
      clear hL3 hby3
      have hc2 : World.cell? { heap := wr.heap, tape := wr.tape, drawn := wr.drawn + 1, os := wr.os, output := wr.output } ⟨g, k, none⟩ = some (.int .u8 x) := hc
      go_wp2
      go_roundw
      case rel => exact ⟨k + 1, _, hlt, by go_num, hb3, hl3, hown3, hX3⟩
      case measure => simp [intOf]; omega
    · have : k = n := by omega
      subst this
      have e1 := run_conv_str (P := Try.prog) wr 22 9 5 Try.underlying22 Try.underlying5 Try.underlying9 cap0 (hsw.ext hX) hl'
      rw [← HST.out] at e1
      go_wp2
      go_ret
      exact ⟨rfl, hX⟩

theorem has_walk (a0 : Option Addr) (len0 cap0 : Nat) (z0 : List Int) (a1 : Int) (a2 : Bool) (w : World) (w0 : RowIn .u8 w a0 len0 cap0 z0) (w1 : (Lit.int .i64 a1).wf = true) :
    Calls Try.prog 3 #[.slice a0 len0 cap0, .int .i64 a1, .bool a2] w fun e w' => e = .returned (.bool true) ∧ Below w.heap.size w w' := by
  by_cases h : (a1 < 0 ∨ 8 * ((min len0 600 : Nat) : Int) ≤ a1) ∨ 512 < min len0 600
  · exact has_no a0 len0 cap0 z0 a1 a2 w w0 h
  · obtain ⟨i, rfl⟩ := Int.eq_ofNat_of_zero_le (a := a1) (by omega)
    exact has_yes a0 len0 cap0 z0 i a2 w w0 (by omega) (by omega)
end Go.Proofs.Ytcepelagadpcnaa.Bit
