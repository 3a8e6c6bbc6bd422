/- The walk of the law SumTells. -/
import Derived.Test.YtafkpjgkghnipaaTellsP
import Derived.RegionTactic
import Derived.BigQuiet
import Derived.Deep.QuietTactic
namespace Go.Proofs.Ytafkpjgkghnipaa.Sum
open Go.RowKit Words Mem Plain Ops
open Go.Proofs.Ytafkpjgkghnipaa.Field
set_option linter.ambiguousOpen false
set_option linter.unusedVariables false
set_option linter.unusedSimpArgs false

theorem ints_set (kd : IntKind) (L : List Int) (i : Nat) (v : Int) : (ints kd L).set i (.int kd v) = ints kd (L.set i v) := by simp [ints, List.map_set]

set_option maxRecDepth 100000 in
set_option maxHeartbeats 4000000 in
theorem walk_SumTells (a0 : Option Addr) (len0 cap0 : Nat) (z0 : List Int) (a1 : Int) (a2 : Int) (w : World) (w0 : RowIn .u8 w a0 len0 cap0 z0) (w1 : (Lit.int .u64 a1).wf = true) (w2 : (Lit.int .u8 a2).wf = true) :
    Calls Try.prog 9 #[.slice a0 len0 cap0, .int .u64 a1, .int .u8 a2] w fun e w' => e = .returned (.bool true) ∧ Below w.heap.size w w' := by
  obtain ⟨xs, hl, hb, hs, hlc, hc, hnil⟩ := bytesIn w0
  have b1 := bounds_u64 w1
  have b2 := bounds_u8 w2
  clear w0 w1 w2
  have hl' : (xs.take 50000).length = min len0 50000 := by rw [List.length_take]; omega
  have hn : min len0 50000 ≤ 50000 := Nat.min_le_right _ _
  have hb' := isBytes_take hb 50000
  have hnc : min len0 50000 ≤ cap0 := by omega
  go_enter Try.func9, Try.ntmps9
  go_wp2_with fail
  refine (shown_ok w).mono ?_
  rintro e w1 ⟨rfl, hX1⟩
  go_wp2_with fail
  refine (few_ok a0 len0 cap0 xs _ hl (by omega) hlc (hs.ext hX1)).mono ?_
  rintro e w' ⟨⟨rfl, hs1⟩, rfl⟩
  generalize xs.take 50000 = X at *
  generalize min len0 50000 = n at *
  clear hl hb hs hlc hnil
  go_wp2_with fail
  refine (Seal_ok a0 n cap0 X w1 hl' (by omega) hb' hs1 hnc hc).mono ?_
  rintro e w2 ⟨rfl, hr2, hX2⟩
  have XX2 := hX1.trans hX2
  have hg : w.heap.size ≤ w1.heap.size := hX1.size
  generalize w1.heap.size = g at *
  obtain ⟨Q, hQ, hsl, hbQ, t1, t2, t3⟩ := tells X n hl' hb'
  rw [hQ] at hr2
  obtain ⟨k, hk⟩ : ∃ k : Nat, a1 % ((n : Int) + 4) = k := ⟨(a1 % ((n : Int) + 4)).toNat, by have := Int.emod_nonneg a1 (b := (n : Int) + 4) (by omega); omega⟩
  have hk4 : k < n + 4 := by have := Int.emod_lt_of_pos a1 (b := (n : Int) + 4) (by omega); omega
  obtain ⟨x, hx⟩ : ∃ x, Q[k]? = some x := ⟨Q[k], List.getElem?_eq_getElem (by omega)⟩
  have hxb : 0 ≤ x ∧ x < 256 := hbQ x (List.mem_of_getElem? hx)
  have c1 : w2.cell? ⟨g, k, none⟩ = some (.int .u8 x) := by rw [hr2.cell?, ints_getElem?, hx]; rfl
  have f1 := hr2.frozen k
  have hr3 := hr2.set k (.int .u8 a2)
  rw [ints_set] at hr3
  have X3 := XX2.setCell (p := ⟨g, k, none⟩) hg (.int .u8 a2)
  have hl3 : (Q.set k a2).length = n + 4 := by rw [List.length_set, hsl]
  have hb3 : isBytes (Q.set k a2) := fun y hy => by
    rcases List.mem_or_eq_of_mem_set hy with h | h
    · exact hbQ y h
    · omega
  have hcur : (Q.set k a2)[k]? = some a2 := by rw [List.getElem?_set]; simp; omega
  have T1 := Lib.hid (t1 k x a2 (by omega) hx)
  have HS2 := Lib.hid (t3 k x a2 hx)
  have T2 := Lib.hid (t2 k x); have HX := Lib.hid hx; have HQ := Lib.hid hsl; have HB := Lib.hid hbQ; have HL3 := Lib.hid hl3; have HB3 := Lib.hid hb3; have HCU := Lib.hid hcur
  clear hsl hbQ t1 t2 t3 hx hX2 hs1 hl3 hb3 hl' hQ hcur
  have hd0 : ¬ ((n : Int) + 4 = 0) := by omega
  go_wp2_with fail
  generalize w2.setCell ⟨g, k, none⟩ (.int .u8 a2) = w3 at *
  refine (Open_gave _ (n + 4) (n + 4) (Q.set k a2) w3 HL3.out (by omega) HB3.out hr3.sl0 (Nat.le_refl _) (by omega)).mono ?_
  rintro e w4 ⟨a5, c5, rfl, ho5, hX4⟩
  have X4 := X3.trans hX4
  have hr4 := hr3.ext hX4
  have f4 := hr4.frozen k
  have hr5 := hr4.set k (.int .u8 x)
  rw [ints_set, HS2.out] at hr5
  have X5 := X4.setCell (p := ⟨g, k, none⟩) hg (.int .u8 x)
  have c4 : w4.cell? ⟨g, k, none⟩ = some (.int .u8 a2) := by rw [hr4.cell?, ints_getElem?, HCU.out]; rfl
  generalize openR (Q.set k a2) = R at *
  obtain ⟨bb, g1, g2⟩ : ∃ bb, (R.2 == 0) = bb ∧ (x == a2) = bb := by
    by_cases h : x = a2
    · exact ⟨true, by rw [T1.out.2 h]; rfl, by rw [h]; simp⟩
    · have h0 : R.2 ≠ 0 := fun e => h (T1.out.1 e)
      exact ⟨false, by simp [h0], by simp [h]⟩
  have g3 : (!bb == bb) = false := by cases bb <;> rfl
  clear hr3 hr4 ho5 hX4 c1 f1 T1 HS2 HL3 HB3 HCU X3
  by_cases hk1 : k + 1 < n
  · have k1' : ¬ ((n : Int) ≤ (k : Int) + 1) := by omega
    obtain ⟨y, hy⟩ : ∃ y, Q[k + 1]? = some y := ⟨Q[k + 1]'(by rw [HQ.out]; omega), List.getElem?_eq_getElem (by rw [HQ.out]; omega)⟩
    have T3 := Lib.hid (T2.out y hk1 HX.out hy)
    have hyb : 0 ≤ y ∧ y < 256 := HB.out y (List.mem_of_getElem? hy)
    have d1 : (w4.setCell ⟨g, k, none⟩ (.int .u8 x)).cell? ⟨g, k, none⟩ = some (.int .u8 x) := by rw [hr5.cell?, ints_getElem?, HX.out]; rfl
    have d2 : (w4.setCell ⟨g, k, none⟩ (.int .u8 x)).cell? ⟨g, k + 1, none⟩ = some (.int .u8 y) := by rw [hr5.cell?, ints_getElem?, hy]; rfl
    have q1 := hr5.frozen k
    have q2 := hr5.frozen (k + 1)
    have hl2 : ((Q.set k y).set (k + 1) x).length = n + 4 := by rw [List.length_set, List.length_set, HQ.out]
    have hb2 : isBytes ((Q.set k y).set (k + 1) x) := fun z hz => by
      rcases List.mem_or_eq_of_mem_set hz with h | h
      · rcases List.mem_or_eq_of_mem_set h with h | h
        · exact HB.out z h
        · rw [h]; exact hyb
      · rw [h]; exact hxb
    have hg1 : ((Q.set k y).set (k + 1) x)[k]? = some y := by rw [List.getElem?_set, if_neg (by omega), List.getElem?_set, if_pos rfl, if_pos (by rw [HQ.out]; exact hk4)]
    have hg2 : ((Q.set k y).set (k + 1) x)[k + 1]? = some x := by rw [List.getElem?_set, if_pos rfl, if_pos (by rw [List.length_set, HQ.out]; omega)]
    have hr6 := (hr5.set k (.int .u8 y)).set (k + 1) (.int .u8 x)
    rw [ints_set, ints_set] at hr6
    have X6 := (X5.setCell (p := ⟨g, k, none⟩) hg (.int .u8 y)).setCell (p := ⟨g, k + 1, none⟩) hg (.int .u8 x)
    generalize (Q.set k y).set (k + 1) x = Q2 at *
    have HL2 := Lib.hid hl2; have HB2 := Lib.hid hb2; have HG1 := Lib.hid hg1; have HG2 := Lib.hid hg2; have HR6 := Lib.hid hr6; have HX6 := Lib.hid X6
    clear T2 hy hl2 hb2 hg1 hg2 hr6 X6
    go_wp2_with fail
    generalize w4.setCell ⟨g, k, none⟩ (.int .u8 x) = w5 at *
    clear g1 g2 g3 c4 f4 X4
    go_region
    have hr7 := HR6.out.drew
    have X7 := HX6.out.drew
    generalize ((w5.setCell ⟨g, k, none⟩ (.int .u8 y)).setCell ⟨g, k + 1, none⟩ (.int .u8 x)).drew = w7 at *
    clear d1 d2 q1 q2 hr5 X5 HR6 HX6
    go_wp2_with fail
    refine (Open_gave _ (n + 4) (n + 4) Q2 w7 HL2.out (by omega) HB2.out hr7.sl0 (Nat.le_refl _) (by omega)).mono ?_
    rintro e w8 ⟨a8, c8, rfl, ho8, hX8⟩
    have X8 := X7.trans hX8
    have hr8 := hr7.ext hX8
    have d1 : w8.cell? ⟨g, k, none⟩ = some (.int .u8 y) := by rw [hr8.cell?, ints_getElem?, HG1.out]; rfl
    have d2 : w8.cell? ⟨g, k + 1, none⟩ = some (.int .u8 x) := by rw [hr8.cell?, ints_getElem?, HG2.out]; rfl
    generalize openR Q2 = R2 at *
    obtain ⟨b2, g1, g2⟩ : ∃ bb, (R2.2 == 0) = bb ∧ (y == x) = bb := by
      by_cases h : x = y
      · exact ⟨true, by rw [T3.out.2 h]; rfl, by rw [h]; simp⟩
      · have h0 : R2.2 ≠ 0 := fun e => h (T3.out.1 e)
        exact ⟨false, by simp [h0], by simp; exact fun e => h e.symm⟩
    have g3 : (b2 == b2) = true := by simp
    have k0 : (0 : Int) ≤ (k : Int) + 1 := by omega
    have k2 : (k : Int) + 1 < (n : Int) + 4 := by omega
    have k3 : (k : Int) < (n : Int) + 4 := by omega
    have k4 : IntKind.i64.wrap ((k : Int) + 1) = (k : Int) + 1 := IntWalk.i64_in _ (by omega)
    have k5 : ((k : Int) + 1).toNat = k + 1 := by omega
    clear hr7 hr8 ho8 hX8 X7 T3 HG1 HG2 HL2 HB2
    go_wp2_with fail
    go_big_quiet (fail)
    go_wp2
    go_ret
    exact ⟨rfl, X8.drewN _⟩
  · have k1' : (n : Int) ≤ (k : Int) + 1 := by omega
    go_wp2_with fail
    go_ret
    exact ⟨rfl, X5⟩
end Go.Proofs.Ytafkpjgkghnipaa.Sum
