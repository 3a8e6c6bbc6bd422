/- The walk of the law BitsFull. -/
import Derived.Test.YtcepelagadpcnaaThere
namespace Go.Proofs.Ytcepelagadpcnaa.Bit
open Go.RowKit Words Mem Plain Ops Same
set_option linter.unusedVariables false
set_option linter.unusedSimpArgs false

theorem all_bits (xs : List Int) : countN xs 0 (8 * xs.length) = 8 * xs.length ↔ ∀ k, k < 8 * xs.length → bitN xs k = true := by
  have := List.length_filter_eq_length_iff (p := inR xs 0 (8 * (xs.length : Int)) true) (l := List.range (8 * xs.length))
  rw [List.length_range] at this
  unfold countN countTo
  rw [this]
  constructor
  · intro h k hk
    have := h k (by simpa using hk)
    rwa [inR_all _ _ _ (by omega)] at this
  · intro h k hk
    rw [List.mem_range] at hk
    rw [inR_all _ _ _ (by omega)]
    exact h k hk
theorem inR_off (xs : List Int) (y : Int) (k : Nat) (h : (k : Int) < y) : inR xs 0 y false k = !bitN xs k := by
  unfold inR
  rw [decide_eq_true (by omega), decide_eq_true h]
  cases bitN xs k <;> rfl
theorem first_off (xs : List Int) (h : countN xs 0 (8 * xs.length) < 8 * xs.length) : ∃ i, firstN xs 0 (8 * xs.length) false = some i ∧ i < 8 * xs.length ∧ bitN xs i = false := by
  cases hf : firstN xs 0 (8 * xs.length) false with
  | some i =>
    have h1 := List.find?_some hf
    have h2 := List.mem_of_find?_eq_some hf
    rw [List.mem_range] at h2
    rw [inR_off _ _ _ (by omega)] at h1
    exact ⟨i, rfl, h2, by simpa using h1⟩
  | none =>
    have := (all_bits xs).2 (fun k hk => by
      have h1 := List.find?_eq_none.1 hf k (by simpa using hk)
      rw [inR_off _ _ _ (by omega)] at h1
      simpa using h1)
    omega
theorem first_none (xs : List Int) (h : countN xs 0 (8 * xs.length) = 8 * xs.length) : firstN xs 0 (8 * xs.length) false = none := by
  have h := (all_bits xs).1 h
  refine List.find?_eq_none.2 (fun k hk => ?_)
  rw [List.mem_range] at hk
  rw [inR_off _ _ _ (by omega), h k hk]; simp

set_option maxHeartbeats 4000000 in
theorem full_in (a0 : Option Addr) (n cap0 : Nat) (ys : List Int) (len0 : Nat) (w : World) (hl' : ys.length = n) (hn : n ≤ 40) (hb' : isBytes ys) (hs' : Sl w a0 (ints .u8 ys)) (hlen : (len0 ≤ 40 ∧ n = len0) ∨ (40 < len0 ∧ n = 40)) (hlc : len0 ≤ cap0) (hc : cap0 ≤ 9223372036854775807)
    (hnil : a0 = none → n = 0 ∧ cap0 = 0) :
    Calls Try.prog 7 #[.slice a0 len0 cap0] w fun e w' => e = .returned (.bool true) ∧ Ext w w' := by
  obtain ⟨c0, hc0⟩ : ∃ c, c = countN ys 0 (8 * n) := ⟨_, rfl⟩
  have hle := countN_le ys 0 (8 * n)
  rw [← hc0, hl'] at hle
  have HC0 := Lib.hid hc0; clear hc0
  go_enter Try.func7, Try.ntmps7
  go_wp2_with fail
  refine (shown_ok _).mono ?_
  rintro e w1 ⟨rfl, hX1⟩
  have hs1 := hs'.ext hX1
  rcases hlen with ⟨h1, h2⟩ | ⟨h1, h2⟩
  rotate_left
  go_wp2_with fail
  rw [← h2, show (320 : Int) = 8 * (n : Int) by omega]
  clear h2
  rotate_left
  subst h2
  go_wp2_with fail
  all_goals
    refine (Count_ok _ _ _ ys _ _ _ hl' (by omega) hb' hs1).mono ?_
    rintro e w' ⟨rfl, rfl⟩
    rw [← HC0.out]
    have hle' : (c0 : Int) ≤ 8 * n := by omega
    go_wp2_with fail
    go_loopw [4, 5, 28] (fun x v t wr => ∃ (k cx : Nat) (ax : Option Addr) (L : List Int), c0 + k ≤ 8 * n ∧ t = .int .i64 k ∧ v = .int .i64 (c0 + k) ∧ x = .slice ax n cx ∧ isBytes L ∧ Hid (L.length = n) ∧ Hid (ax = none → n = 0 ∧ cx = 0) ∧ Hid (c0 + k = countN L 0 (8 * n)) ∧ Sl wr ax (ints .u8 L) ∧ Ext w wr) (fun _ _ t _ => 8 * n - c0 - (intOf t).toNat)
    case atStart => exact ⟨0, cap0, a0, ys, by omega, rfl, by simp, rfl, hb', hl', hnil, HC0.out, hs1, hX1⟩
    case round =>
      obtain ⟨k, cx, ax, L, hk, rfl, rfl, rfl, hL, hLl, hLn, hLc, hS, hX⟩ := hrel
      by_cases hlt : c0 + k < 8 * n
      · obtain ⟨i, hi, hi8, hin⟩ := first_off L (by rw [hLl.out]; have := hLc.out; omega)
        rw [hLl.out] at hi hi8
        have hv : firstV L 0 (8 * n) false = .tuple #[.int .i64 i, .bool true] := by unfold firstV; rw [hi]
        have HV := Lib.hid hv; clear hv
        have hcn := countN_with hL i (by rw [hLl.out]; exact hi8) true
        rw [hin, hLl.out] at hcn
        simp only [Bool.false_eq_true, if_false, if_true, Nat.add_zero] at hcn
        rw [← hLc.out] at hcn
        have HCN := Lib.hid hcn; clear hcn hi hin
        have hzb := isBytes_with hL i true
        have hzl := Lib.hid ((length_with L i true).trans hLl.out)
        generalize hz : withN L i true = zs at *
        have HZ := Lib.hid hz; clear hz
        have t0 : (k : Int) < 8 * n - c0 := by omega
        go_wp2_with fail
        refine (First_ok _ n _ L _ _ _ _ hLl.out (by omega) hL hS).mono ?_
        rintro e w' ⟨rfl, rfl⟩
        rw [HV.out]
        go_wp2_with fail
        refine (With_yes _ n _ L i true _ hLl.out (by omega) hL hS hi8 hLn.out).mono ?_
        rintro e w2 ⟨az, cz, rfl, hown, hX2⟩
        rw [HZ.out] at hown
        rw [HZ.out]
        have ho2 := OwnBytes.sl hown
        have hnil2 := Lib.hid (own_nil hown)
        have X2 := hX.trans hX2
        rw [hzl.out] at hnil2
        rw [hzl.out]
        clear hown hX2 hX hS
        go_wp2_with (go_at_call 17; refine (Count_ok _ _ _ zs _ _ _ hzl.out (by omega) hzb ho2).mono ?_; rintro e w' ⟨rfl, rfl⟩; rw [HCN.out])
        go_roundw
        case rel => exact ⟨k + 1, cz, az, zs, by omega, by go_num, by congr 1, rfl, hzb, hzl, hnil2, HCN.out.symm, ho2, X2⟩
        case measure => simp [intOf]; omega
      · have hk8 : c0 + k = 8 * n := by omega
        have hf := first_none L (by rw [hLl.out]; have := hLc.out; omega)
        rw [hLl.out] at hf
        have hv : firstV L 0 (8 * n) false = .tuple #[.int .i64 0, .bool false] := by unfold firstV; rw [hf]
        have HV := Lib.hid hv; clear hv hf
        have t0 : (k : Int) = 8 * n - c0 := by omega
        go_wp2_with fail
        refine (First_ok _ n _ L _ _ _ _ hLl.out (by omega) hL hS).mono ?_
        rintro e w' ⟨rfl, rfl⟩
        rw [HV.out]
        go_wp2_with fail
        go_ret
        refine ⟨?_, hX⟩
        have h9 : ((c0 : Int) + (8 * n - c0) == 8 * n) = true := by simp; omega
        show Ending.returned (.bool ((c0 : Int) + (8 * n - c0) == 8 * n)) = _
        rw [h9]

theorem full_walk (a0 : Option Addr) (len0 cap0 : Nat) (z0 : List Int) (w : World) (w0 : RowIn .u8 w a0 len0 cap0 z0) :
    Calls Try.prog 7 #[.slice a0 len0 cap0] w fun e w' => e = .returned (.bool true) ∧ Below w.heap.size w w' := by
  obtain ⟨xs, hl, hb, hs, hlc, hc, hnil⟩ := bytesIn w0
  have hl' : (xs.take 40).length = min len0 40 := by rw [List.length_take]; omega
  have hb' := isBytes_take hb 40
  have hs' : Sl w a0 (ints .u8 (xs.take 40)) := by have := hs.take 40; rwa [ints_take] at this
  have hd : (len0 ≤ 40 ∧ min len0 40 = len0) ∨ (40 < len0 ∧ min len0 40 = 40) := by omega
  exact full_in a0 (min len0 40) cap0 (xs.take 40) len0 w hl' (by omega) hb' hs' hd hlc hc (fun e => by have := hnil e; omega)
end Go.Proofs.Ytcepelagadpcnaa.Bit
