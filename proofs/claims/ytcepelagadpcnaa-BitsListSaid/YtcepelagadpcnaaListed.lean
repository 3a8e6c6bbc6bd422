/- The walk of the law BitsList. -/
import Derived.Test.YtcepelagadpcnaaFull
namespace Go.Proofs.Ytcepelagadpcnaa.Bit
open Go.RowKit Words Mem Plain Ops Same
set_option linter.unusedVariables false
set_option linter.unusedSimpArgs false

def qB (x y v : Int) : Bool := decide (x ≤ v) && decide (v < y)
def cntL (x y : Int) (L : List Int) : Nat := (L.filter (qB x y)).length
def fstL (x y : Int) (L : List Int) : Option Int := L.find? (qB x y)
theorem cntL_add (x y v : Int) (L : List Int) : cntL x y (L ++ [v]) = cntL x y L + if qB x y v then 1 else 0 := by
  unfold cntL
  rw [List.filter_append, List.length_append]
  cases h : qB x y v <;> simp [h]
theorem fstL_add (x y v : Int) (L : List Int) : fstL x y (L ++ [v]) = (fstL x y L).or (if qB x y v then some v else none) := by
  unfold fstL
  rw [List.find?_append]
  cases h : qB x y v <;> simp [h]
theorem cntL_le (x y : Int) (L : List Int) : cntL x y L ≤ L.length := List.length_filter_le _ _
theorem inR_on (xs : List Int) (x y : Int) (k : Nat) : inR xs x y true k = (bitN xs k && qB x y k) := by
  unfold inR qB
  cases bitN xs k <;> simp
theorem cnt_list (xs : List Int) (x y : Int) : cntL x y (listN xs) = countN xs x y := by
  unfold cntL listN listTo countN countTo
  rw [List.filter_map, List.length_map, List.filter_filter]
  congr 1
  apply List.filter_congr
  intro k _
  rw [inR_on, Bool.and_comm]; rfl
theorem fst_list (xs : List Int) (x y : Int) : fstL x y (listN xs) = (firstN xs x y true).map fun (k : Nat) => (k : Int) := by
  unfold fstL listN listTo firstN
  rw [List.find?_map, List.find?_filter]
  congr 1
  have : (fun a => decide (bitN xs a = true ∧ ((qB x y) ∘ fun (k : Nat) => (k : Int)) a = true)) = inR xs x y true := by
    funext k
    rw [inR_on]
    simp
  rw [this]
theorem firstV_list (xs : List Int) (x y : Int) : firstV xs x y true = .tuple #[.int .i64 ((fstL x y (listN xs)).getD 0), .bool (fstL x y (listN xs)).isSome] := by
  rw [fst_list]
  unfold firstV
  cases firstN xs x y true <;> rfl
theorem list_sorted (xs : List Int) : (listN xs).Pairwise (· < ·) := by
  unfold listN listTo
  rw [List.pairwise_map]
  refine List.Pairwise.imp ?_ (List.Pairwise.filter _ List.pairwise_lt_range)
  intro a b h; exact Int.ofNat_lt.2 h
theorem list_bits (xs : List Int) (v : Int) (h : v ∈ listN xs) : bitB xs v = true := by
  unfold listN listTo at h
  rw [List.mem_map] at h
  obtain ⟨k, hk, rfl⟩ := h
  rw [List.mem_filter, List.mem_range] at hk
  rw [bitB_in xs k hk.1]; exact hk.2
theorem len_list (xs : List Int) : countN xs 0 (8 * xs.length) = (listN xs).length := by
  unfold listN listTo countN countTo
  rw [List.length_map]
  congr 1
  apply List.filter_congr
  intro k hk
  rw [List.mem_range] at hk
  exact inR_all _ _ _ (by omega)
theorem count_split (xs : List Int) (m : Nat) (c : Int) (hc : 0 ≤ c) (hy : c ≤ 8 * (xs.length : Int)) (k : Nat) (hk : (k : Int) ≤ 8 * xs.length) : countTo xs 0 c k + countTo xs c (8 * xs.length) k = countTo xs 0 (8 * xs.length) k := by
  induction k with
  | zero => rfl
  | succ k ih =>
    have ih := ih (by omega)
    rw [countTo_succ, countTo_succ, countTo_succ]
    have e : ∀ x y : Int, inR xs x y true k = (bitN xs k && qB x y k) := fun x y => inR_on xs x y k
    rw [e, e, e]
    have e1 : qB 0 (8 * xs.length) (k : Int) = true := by unfold qB; rw [decide_eq_true (by omega), decide_eq_true (by omega)]; rfl
    rw [e1]
    by_cases h : (k : Int) < c
    · have e2 : qB 0 c (k : Int) = true := by unfold qB; rw [decide_eq_true (by omega), decide_eq_true (by omega)]; rfl
      have e3 : qB c (8 * xs.length) (k : Int) = false := by unfold qB; rw [decide_eq_false (by omega)]; rfl
      rw [e2, e3, Bool.and_false]; simp only [Bool.false_eq_true, if_false]; omega
    · have e2 : qB 0 c (k : Int) = false := by unfold qB; rw [decide_eq_false (p := (k : Int) < c) h]; simp
      have e3 : qB c (8 * xs.length) (k : Int) = true := by unfold qB; rw [decide_eq_true (by omega), decide_eq_true (by omega)]; rfl
      rw [e2, e3, Bool.and_false]; simp only [Bool.false_eq_true, if_false]; omega
theorem len_list2 (xs : List Int) : countN xs 0 (4 * xs.length) + countN xs (4 * xs.length) (8 * xs.length) = (listN xs).length := by
  rw [← len_list]
  exact count_split xs 0 (4 * xs.length) (by omega) (by omega) (8 * xs.length) (by omega)

set_option maxRecDepth 4000 in
set_option maxHeartbeats 4000000 in
theorem list_walk (a0 : Option Addr) (len0 cap0 : Nat) (z0 : List Int) (a1 a2 : Int) (w : World) (w0 : RowIn .u8 w a0 len0 cap0 z0) (w1 : (Lit.int .i64 a1).wf = true) (w2 : (Lit.int .i64 a2).wf = true) :
    Calls Try.prog 6 #[.slice a0 len0 cap0, .int .i64 a1, .int .i64 a2] w fun e w' => e = .returned (.bool true) ∧ Below w.heap.size w w' := by
  obtain ⟨xs, hl, hb, hs, hlc, hc, hnil⟩ := bytesIn w0
  clear w0 w1 w2
  go_enter Try.func6, Try.ntmps6
  go_wp2_with fail
  refine (shown_ok _).mono ?_
  rintro e w1 ⟨rfl, hX1⟩
  have hs1 := hs.ext hX1
  clear hs
  go_wp2_with fail
  refine (few_ok a0 len0 cap0 xs _ hl (by omega) hlc hs1).mono ?_
  rintro e w' ⟨⟨rfl, hs'⟩, rfl⟩
  have hl' : (xs.take 600).length = min len0 600 := by rw [List.length_take]; omega
  have hn : min len0 600 ≤ 600 := Nat.min_le_right _ _
  have hb' := isBytes_take hb 600
  generalize xs.take 600 = ys at *
  generalize min len0 600 = n at *
  clear hl hb hs1 hlc hc hnil
  go_wp2_with fail
  refine (List_ok _ n _ ys _ hl' (by omega) hb' hs').mono ?_
  rintro e w2 ⟨al, m, cl, rfl, hown2, hX2⟩
  have hs2 := hs'.ext hX2
  have ho2 := ownsRow_sl hown2
  have hm2 := ownsRow_len hown2
  rw [ints_length] at hm2
  have hm9 : m ≤ 8 * n := by have h9 := listTo_len ys (8 * ys.length); rw [hl'] at h9; have h8 := hm2; unfold listN at h8; rw [hl'] at h8; omega
  have X := hX1.trans hX2
  clear hown2 hX1 hX2 hs'
  have hCnt := cnt_list ys a1 a2
  have hFst := firstV_list ys a1 a2
  have hLen := len_list ys
  have hLen2 := len_list2 ys
  have hSor := List.pairwise_iff_getElem.1 (list_sorted ys)
  have hBit := list_bits ys
  rw [hm2, hl'] at hLen hLen2
  generalize listN ys = l at *
  have HC := Lib.hid hCnt; have HF := Lib.hid hFst; have HL1 := Lib.hid hLen; have HL2 := Lib.hid hLen2; have HS := Lib.hid hSor; have HB := Lib.hid hBit; have HM := Lib.hid hm2
  clear hCnt hFst hLen hLen2 hSor hBit hm2
  have hm' : m ≤ 4800 := by omega
  go_wp2_with fail
  go_loopw [10, 11, 12, 24] (fun c f b t wr => ∃ k q : Nat, k ≤ m ∧ t = .int .i64 k ∧ c = .int .i64 (cntL a1 a2 (l.take k)) ∧ f = .int .i64 ((fstL a1 a2 (l.take k)).getD 0) ∧ b = .bool (fstL a1 a2 (l.take k)).isSome ∧ wr = w2.drewN q) (fun _ _ _ t _ => m - (intOf t).toNat)
  case atStart => exact ⟨0, 0, by omega, rfl, rfl, rfl, rfl, rfl⟩
  case round =>
    obtain ⟨k, q, hk, rfl, rfl, rfl, rfl, rfl⟩ := hrel
    by_cases hlt : k < m
    · have hkl : k < l.length := by rw [HM.out]; exact hlt
      obtain ⟨b1, o1, rfl, hcl⟩ := ho2.ints (by omega)
      have c1 := hcl k hkl
      have hbx := HB.out l[k] (List.getElem_mem hkl)
      have htk : l.take (k + 1) = l.take k ++ [l[k]] := List.take_succ_eq_append_getElem hkl
      have hC := cntL_add a1 a2 l[k] (l.take k)
      have hF := fstL_add a1 a2 l[k] (l.take k)
      rw [← htk] at hC hF
      have hCk := cntL_le a1 a2 (l.take k)
      rw [List.length_take, Nat.min_eq_left (by omega)] at hCk
      have hpr : k = 0 ∨ ∃ j, k = j + 1 ∧ ∃ y, w2.cell? ⟨b1, o1 + j, none⟩ = some (.int .i64 y) ∧ y < l[k] := by
        cases k with
        | zero => exact .inl rfl
        | succ j => exact .inr ⟨j, rfl, l[j], hcl j (by omega), HS.out j (j + 1) (by omega) hkl (by omega)⟩
      clear htk
      have HCL := Lib.hid hcl; clear hcl
      generalize l[k] = x at *
      generalize cntL a1 a2 (l.take k) = C at *
      generalize fstL a1 a2 (l.take k) = F at *
      have hbx' := Lib.hid hbx
      clear hkl
      have hq3 : (a1 ≤ x ∧ x < a2 ∧ qB a1 a2 x = true) ∨ (a1 ≤ x ∧ a2 ≤ x ∧ qB a1 a2 x = false) ∨ (x < a1 ∧ qB a1 a2 x = false) := by
        unfold qB
        by_cases h1 : a1 ≤ x <;> by_cases h2 : x < a2 <;> simp [h1, h2] <;> omega
      rcases hq3 with ⟨g1, g2, hq⟩ | ⟨g1, g2, hq⟩ | ⟨g1, hq⟩ <;> rw [hq] at hC hF <;> cases F <;> simp only [Bool.false_eq_true, if_true, if_false, Nat.add_zero, Option.or_none, Option.none_or, Option.some_or] at hC hF
      all_goals
        have HCC := Lib.hid hC
        have HFF := Lib.hid hF
        clear hC hF hq
        simp only [Option.getD_none, Option.getD_some, Option.isSome_none, Option.isSome_some]
        rcases hpr with rfl | ⟨j, rfl, y, hcy, hyx⟩
        · rw [Nat.add_zero] at c1
          go_wp2
          go_big_quiet ((go_at_call 13; exact (Has_ok _ n _ ys _ _ hl' (by omega) hb' (hs2.ext ((Ext.refl _).drewN _))).mono fun _ _ h => ⟨h.1, _, h.2.symm⟩))
          go_wp2
          go_roundw
          case rel => exact ⟨0 + 1, _, hlt, by go_num, by rw [HCC.out] <;> rfl, by rw [HFF.out] <;> rfl, by rw [HFF.out] <;> rfl, rfl⟩
          case measure => simp [intOf]; omega
        · have j1 : (j : Int) + 1 < m := by omega
          have hyx' : decide (x ≤ y) = false := by simp; omega
          go_wp2
          go_big_quiet ((go_at_call 13; exact (Has_ok _ n _ ys _ _ hl' (by omega) hb' (hs2.ext ((Ext.refl _).drewN _))).mono fun _ _ h => ⟨h.1, _, h.2.symm⟩))
          go_wp2
          go_roundw
          case rel => exact ⟨j + 1 + 1, _, hlt, by go_num, by rw [HCC.out] <;> rfl, by rw [HFF.out] <;> rfl, by rw [HFF.out] <;> rfl, rfl⟩
          case measure => simp [intOf]; omega
    · have : k = m := by omega
      subst this
      have htk : l.take k = l := List.take_of_length_le (by rw [HM.out]; exact Nat.le_refl _)
      rw [htk, HC.out]
      have hle := countN_le ys a1 a2
      generalize fstL a1 a2 l = F at *
      obtain ⟨c3, hc3⟩ : ∃ c, c = countN ys 0 (4 * n) := ⟨_, rfl⟩
      obtain ⟨c4, hc4⟩ : ∃ c, c = countN ys (4 * n) (8 * n) := ⟨_, rfl⟩
      have hsum := HL2.out
      rw [← hc3, ← hc4] at hsum
      have HC3 := Lib.hid hc3; have HC4 := Lib.hid hc4
      have hsum' : (c3 : Int) + c4 = k := by omega
      clear hc3 hc4 htk HS HB HM hle HL2
      have hsl := hs2.ext ((Ext.refl _).drewN q)
      have XX := X.drewN q
      generalize w2.drewN q = w3 at *
      generalize fstL a1 a2 l = F at *
      go_wp2_with fail
      refine (First_ok _ n _ ys _ _ _ _ hl' (by omega) hb' hsl).mono ?_
      rintro e w' ⟨rfl, rfl⟩
      rw [HF.out]
      go_wp2_with (go_at_call 17; refine (Count_ok _ n _ ys _ _ _ hl' (by omega) hb' hsl).mono ?_; rintro e w' ⟨rfl, rfl⟩; try (first | rw [HL1.out] | rw [← HC3.out] | rw [← HC4.out]))
      go_ret
      exact ⟨rfl, XX⟩
end Go.Proofs.Ytcepelagadpcnaa.Bit
