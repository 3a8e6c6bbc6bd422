/- Are both lists of sectors the same? (printed by gen_ss14.py) -/
import Derived.Test.YtnodinancnfoeaaMtCp
namespace Go.Proofs.Ytnodinancnfoeaa.Mt
open Go.RowKit Words Mem Plain Ops Agg OwnS Intern Ino
open Go.Proofs.Ytnodinancnfoeaa.Field
set_option linter.ambiguousOpen false
set_option linter.unusedVariables false
set_option linter.unusedSimpArgs false

def sameLs (L K : List (List Int)) : Bool := decide (L = K)
set_option maxHeartbeats 8000000 in
theorem SameS_ok (a : Option Addr) (n ca : Nat) (L : List (List Int)) (b : Option Addr) (m cb : Nat) (K : List (List Int)) (w : World) (hL : LsIn w a n L) (hK : LsIn w b m K) (hn : n ≤ 1000000) :
    Calls Try.prog 18 #[.slice a n ca, .slice b m cb] w fun e w' => e = .returned (.bool (sameLs L K)) ∧ Ext w w' := by
  by_cases hnm : n = m
  case neg =>
    have HV := Lib.hid (show sameLs L K = false by unfold sameLs; simp; intro e; have h1 := hL.1; have h2 := hK.1; rw [e] at h1; omega)
    have hq : ((n : Int) != m) = true := by simp; omega
    have hq2 : ¬ ((n : Int) = m) := by omega
    clear hL hK
    go_enter Try.func18, Try.ntmps18
    go_wp2
    go_ret
    exact ⟨by rw [HV.out]; rfl, Ext.refl _⟩
  subst hnm
  have HL := Lib.hid hL
  have HK := Lib.hid hK
  clear hL hK
  go_enter Try.func18, Try.ntmps18
  go_wp2
  go_loopw [5] (fun v wr => ∃ k : Nat, k ≤ n ∧ v = .int .i64 k ∧ Ext w wr ∧ L.take k = K.take k) (fun v _ => n - (intOf v).toNat)
  case atStart => exact ⟨0, by omega, rfl, Ext.refl _, rfl⟩
  case round =>
    obtain ⟨k, hk, rfl, hX, htk⟩ := hrel
    have HX := Lib.hid hX
    have HTK := Lib.hid htk
    clear hX htk
    by_cases hlt : k < n
    · have hlL : k < L.length := by rw [HL.out.1]; exact hlt
      have hlK : k < K.length := by rw [HK.out.1]; exact hlt
      obtain ⟨b1, o1, rfl, hi1⟩ := (HL.out.ext HX.out).2 (by omega)
      obtain ⟨b2, o2, rfl, hi2⟩ := (HK.out.ext HX.out).2 (by omega)
      obtain ⟨x1, m1, c1, hc1, hl1, _, _, hs1, hb1, _⟩ := hi1 k hlL
      obtain ⟨x2, m2, c2, hc2, hl2, _, _, hs2, hb2, _⟩ := hi2 k hlK
      have hkn : (k : Int) < n := by omega
      have HT1 := Lib.hid (List.take_succ_eq_append_getElem hlL)
      have HT2 := Lib.hid (List.take_succ_eq_append_getElem hlK)
      have HG1 := Lib.hid (List.getElem?_eq_getElem hlL)
      have HG2 := Lib.hid (List.getElem?_eq_getElem hlK)
      generalize L[k] = xs at *
      generalize K[k] = ys at *
      clear hi1 hi2 hlL hlK
      obtain ⟨S1, hS1⟩ : ∃ q, q = strOf xs := ⟨_, rfl⟩
      by_cases hxy : xs = ys
      · have hS2 : S1 = strOf ys := by rw [← hxy]; exact hS1
        have hq1 : (S1.toList == S1.toList) = true := by simp
        have HALL := Lib.hid (show ∀ v : World, Ext wr v → (fun v => Ext wr v ∧ v.cell? ⟨b1, o1 + k, none⟩ = some (.slice x1 m1 c1) ∧ (convert 26 9 (.slice x1 m1 c1)).run Try.prog v = .ok (.string S1) v ∧ v.cell? ⟨b2, o2 + k, none⟩ = some (.slice x2 m2 c2) ∧ (convert 26 9 (.slice x2 m2 c2)).run Try.prog v = .ok (.string S1) v) v from fun v hv => ⟨hv, hv.keep hc1, by rw [hS1]; exact conv8 v c1 (hs1.ext hv) hl1, hv.keep hc2, by rw [hS2]; exact conv8 v c2 (hs2.ext hv) hl2⟩)
        clear hc1 hc2 hs1 hs2 hS1 hS2
        go_wp2_with fail
        refine wp_region_held_drew (S := (fun v => Ext wr v ∧ v.cell? ⟨b1, o1 + k, none⟩ = some (.slice x1 m1 c1) ∧ (convert 26 9 (.slice x1 m1 c1)).run Try.prog v = .ok (.string S1) v ∧ v.cell? ⟨b2, o2 + k, none⟩ = some (.slice x2 m2 c2) ∧ (convert 26 9 (.slice x2 m2 c2)).run Try.prog v = .ok (.string S1) v)) (by kernel_rfl) (HALL.out _ ((Ext.refl _).drew)) (fun hHeld => ?_)
        refine takeD (i := 0) (v := ?_) rfl rfl (by kernel_rfl) (by kernel_rfl) (by kernel_rfl) (fun _ _ _ h => h) (Or.inl ⟨by rfl, ?_⟩) hHeld ?_
        rotate_left
        · (intro v hv; (try obtain ⟨hv0, hv1, hv2, hv3, hv4⟩ := hv); go_simp; try (with_reducible rfl))
        (try simp only [List.setIfInBounds_toArray, List.set_cons_zero, List.set_cons_succ])
        refine takeD (i := 1) (v := ?_) rfl rfl (by kernel_rfl) (by kernel_rfl) (by kernel_rfl) (fun _ _ _ h => h) (Or.inl ⟨by rfl, ?_⟩) hHeld ?_
        rotate_left
        · (intro v hv; (try obtain ⟨hv0, hv1, hv2, hv3, hv4⟩ := hv); go_simp; try (with_reducible rfl))
        (try simp only [List.setIfInBounds_toArray, List.set_cons_zero, List.set_cons_succ])
        refine takeD (i := 2) (v := ?_) rfl rfl (by kernel_rfl) (by kernel_rfl) (by kernel_rfl) (fun _ _ _ h => h) (Or.inl ⟨by rfl, ?_⟩) hHeld ?_
        rotate_left
        · (intro v hv; (try obtain ⟨hv0, hv1, hv2, hv3, hv4⟩ := hv); go_simp; try (with_reducible rfl))
        (try simp only [List.setIfInBounds_toArray, List.set_cons_zero, List.set_cons_succ])
        refine takeD (i := 3) (v := ?_) rfl rfl (by kernel_rfl) (by kernel_rfl) (by kernel_rfl) (fun _ _ _ h => h) (Or.inl ⟨by rfl, ?_⟩) hHeld ?_
        rotate_left
        · (intro v hv; (try obtain ⟨hv0, hv1, hv2, hv3, hv4⟩ := hv); go_simp; try (with_reducible rfl))
        (try simp only [List.setIfInBounds_toArray, List.set_cons_zero, List.set_cons_succ])
        refine takeD (i := 4) (v := (.string S1)) rfl rfl (by kernel_rfl) (by kernel_rfl) (by kernel_rfl) (fun _ _ _ h => h) (Or.inl ⟨by rfl, ?_⟩) hHeld ?_
        · (intro v hv; (try obtain ⟨hv0, hv1, hv2, hv3, hv4⟩ := hv); go_simp; try (with_reducible rfl))
        (try simp only [List.setIfInBounds_toArray, List.set_cons_zero, List.set_cons_succ])
        refine takeD (i := 5) (v := ?_) rfl rfl (by kernel_rfl) (by kernel_rfl) (by kernel_rfl) (fun _ _ _ h => h) (Or.inl ⟨by rfl, ?_⟩) hHeld ?_
        rotate_left
        · (intro v hv; (try obtain ⟨hv0, hv1, hv2, hv3, hv4⟩ := hv); go_simp; try (with_reducible rfl))
        (try simp only [List.setIfInBounds_toArray, List.set_cons_zero, List.set_cons_succ])
        refine takeD (i := 6) (v := ?_) rfl rfl (by kernel_rfl) (by kernel_rfl) (by kernel_rfl) (fun _ _ _ h => h) (Or.inl ⟨by rfl, ?_⟩) hHeld ?_
        rotate_left
        · (intro v hv; (try obtain ⟨hv0, hv1, hv2, hv3, hv4⟩ := hv); go_simp; try (with_reducible rfl))
        (try simp only [List.setIfInBounds_toArray, List.set_cons_zero, List.set_cons_succ])
        refine takeD (i := 7) (v := ?_) rfl rfl (by kernel_rfl) (by kernel_rfl) (by kernel_rfl) (fun _ _ _ h => h) (Or.inl ⟨by rfl, ?_⟩) hHeld ?_
        rotate_left
        · (intro v hv; (try obtain ⟨hv0, hv1, hv2, hv3, hv4⟩ := hv); go_simp; try (with_reducible rfl))
        (try simp only [List.setIfInBounds_toArray, List.set_cons_zero, List.set_cons_succ])
        refine takeD (i := 8) (v := ?_) rfl rfl (by kernel_rfl) (by kernel_rfl) (by kernel_rfl) (fun _ _ _ h => h) (Or.inl ⟨by rfl, ?_⟩) hHeld ?_
        rotate_left
        · (intro v hv; (try obtain ⟨hv0, hv1, hv2, hv3, hv4⟩ := hv); go_simp; try (with_reducible rfl))
        (try simp only [List.setIfInBounds_toArray, List.set_cons_zero, List.set_cons_succ])
        refine takeD (i := 9) (v := (.string S1)) rfl rfl (by kernel_rfl) (by kernel_rfl) (by kernel_rfl) (fun _ _ _ h => h) (Or.inl ⟨by rfl, ?_⟩) hHeld ?_
        · (intro v hv; (try obtain ⟨hv0, hv1, hv2, hv3, hv4⟩ := hv); go_simp; try (with_reducible rfl))
        (try simp only [List.setIfInBounds_toArray, List.set_cons_zero, List.set_cons_succ])
        refine takeD (i := 10) (v := ?_) rfl rfl (by kernel_rfl) (by kernel_rfl) (by kernel_rfl) (fun _ _ _ h => h) (Or.inl ⟨by rfl, ?_⟩) hHeld ?_
        rotate_left
        · (intro v hv; (try obtain ⟨hv0, hv1, hv2, hv3, hv4⟩ := hv); go_simp; try (with_reducible rfl))
        (try simp only [List.setIfInBounds_toArray, List.set_cons_zero, List.set_cons_succ])
        refine wpAnyH_done (by kernel_rfl) ?_ _
        have HH := Lib.hid hHeld
        clear hHeld
        go_wp2
        go_roundw
        case rel => exact ⟨k + 1, hlt, by go_num, HX.out.trans HH.out.1, by rw [HT1.out, HT2.out, HTK.out, hxy]⟩
        case measure => simp [intOf]; omega
      · obtain ⟨S2, hS2⟩ : ∃ q, q = strOf ys := ⟨_, rfl⟩
        have hq1 : (S1.toList == S2.toList) = false := by rw [hS1, hS2, strOf_eq hb1 hb2]; simpa using hxy
        have hq2 : ¬ (S1.toList = S2.toList) := by simpa using hq1
        have HV := Lib.hid (show sameLs L K = false by
          unfold sameLs
          simp
          intro e
          have h1 := HG1.out
          rw [e, HG2.out] at h1
          cases h1
          exact hxy rfl)
        have HALL := Lib.hid (show ∀ v : World, Ext wr v → (fun v => Ext wr v ∧ v.cell? ⟨b1, o1 + k, none⟩ = some (.slice x1 m1 c1) ∧ (convert 26 9 (.slice x1 m1 c1)).run Try.prog v = .ok (.string S1) v ∧ v.cell? ⟨b2, o2 + k, none⟩ = some (.slice x2 m2 c2) ∧ (convert 26 9 (.slice x2 m2 c2)).run Try.prog v = .ok (.string S2) v) v from fun v hv => ⟨hv, hv.keep hc1, by rw [hS1]; exact conv8 v c1 (hs1.ext hv) hl1, hv.keep hc2, by rw [hS2]; exact conv8 v c2 (hs2.ext hv) hl2⟩)
        clear hc1 hc2 hs1 hs2 hS1 hS2
        go_wp2_with fail
        refine wp_region_held_drew (S := (fun v => Ext wr v ∧ v.cell? ⟨b1, o1 + k, none⟩ = some (.slice x1 m1 c1) ∧ (convert 26 9 (.slice x1 m1 c1)).run Try.prog v = .ok (.string S1) v ∧ v.cell? ⟨b2, o2 + k, none⟩ = some (.slice x2 m2 c2) ∧ (convert 26 9 (.slice x2 m2 c2)).run Try.prog v = .ok (.string S2) v)) (by kernel_rfl) (HALL.out _ ((Ext.refl _).drew)) (fun hHeld => ?_)
        refine takeD (i := 0) (v := ?_) rfl rfl (by kernel_rfl) (by kernel_rfl) (by kernel_rfl) (fun _ _ _ h => h) (Or.inl ⟨by rfl, ?_⟩) hHeld ?_
        rotate_left
        · (intro v hv; (try obtain ⟨hv0, hv1, hv2, hv3, hv4⟩ := hv); go_simp; try (with_reducible rfl))
        (try simp only [List.setIfInBounds_toArray, List.set_cons_zero, List.set_cons_succ])
        refine takeD (i := 1) (v := ?_) rfl rfl (by kernel_rfl) (by kernel_rfl) (by kernel_rfl) (fun _ _ _ h => h) (Or.inl ⟨by rfl, ?_⟩) hHeld ?_
        rotate_left
        · (intro v hv; (try obtain ⟨hv0, hv1, hv2, hv3, hv4⟩ := hv); go_simp; try (with_reducible rfl))
        (try simp only [List.setIfInBounds_toArray, List.set_cons_zero, List.set_cons_succ])
        refine takeD (i := 2) (v := ?_) rfl rfl (by kernel_rfl) (by kernel_rfl) (by kernel_rfl) (fun _ _ _ h => h) (Or.inl ⟨by rfl, ?_⟩) hHeld ?_
        rotate_left
        · (intro v hv; (try obtain ⟨hv0, hv1, hv2, hv3, hv4⟩ := hv); go_simp; try (with_reducible rfl))
        (try simp only [List.setIfInBounds_toArray, List.set_cons_zero, List.set_cons_succ])
        refine takeD (i := 3) (v := ?_) rfl rfl (by kernel_rfl) (by kernel_rfl) (by kernel_rfl) (fun _ _ _ h => h) (Or.inl ⟨by rfl, ?_⟩) hHeld ?_
        rotate_left
        · (intro v hv; (try obtain ⟨hv0, hv1, hv2, hv3, hv4⟩ := hv); go_simp; try (with_reducible rfl))
        (try simp only [List.setIfInBounds_toArray, List.set_cons_zero, List.set_cons_succ])
        refine takeD (i := 4) (v := (.string S1)) rfl rfl (by kernel_rfl) (by kernel_rfl) (by kernel_rfl) (fun _ _ _ h => h) (Or.inl ⟨by rfl, ?_⟩) hHeld ?_
        · (intro v hv; (try obtain ⟨hv0, hv1, hv2, hv3, hv4⟩ := hv); go_simp; try (with_reducible rfl))
        (try simp only [List.setIfInBounds_toArray, List.set_cons_zero, List.set_cons_succ])
        refine takeD (i := 5) (v := ?_) rfl rfl (by kernel_rfl) (by kernel_rfl) (by kernel_rfl) (fun _ _ _ h => h) (Or.inl ⟨by rfl, ?_⟩) hHeld ?_
        rotate_left
        · (intro v hv; (try obtain ⟨hv0, hv1, hv2, hv3, hv4⟩ := hv); go_simp; try (with_reducible rfl))
        (try simp only [List.setIfInBounds_toArray, List.set_cons_zero, List.set_cons_succ])
        refine takeD (i := 6) (v := ?_) rfl rfl (by kernel_rfl) (by kernel_rfl) (by kernel_rfl) (fun _ _ _ h => h) (Or.inl ⟨by rfl, ?_⟩) hHeld ?_
        rotate_left
        · (intro v hv; (try obtain ⟨hv0, hv1, hv2, hv3, hv4⟩ := hv); go_simp; try (with_reducible rfl))
        (try simp only [List.setIfInBounds_toArray, List.set_cons_zero, List.set_cons_succ])
        refine takeD (i := 7) (v := ?_) rfl rfl (by kernel_rfl) (by kernel_rfl) (by kernel_rfl) (fun _ _ _ h => h) (Or.inl ⟨by rfl, ?_⟩) hHeld ?_
        rotate_left
        · (intro v hv; (try obtain ⟨hv0, hv1, hv2, hv3, hv4⟩ := hv); go_simp; try (with_reducible rfl))
        (try simp only [List.setIfInBounds_toArray, List.set_cons_zero, List.set_cons_succ])
        refine takeD (i := 8) (v := ?_) rfl rfl (by kernel_rfl) (by kernel_rfl) (by kernel_rfl) (fun _ _ _ h => h) (Or.inl ⟨by rfl, ?_⟩) hHeld ?_
        rotate_left
        · (intro v hv; (try obtain ⟨hv0, hv1, hv2, hv3, hv4⟩ := hv); go_simp; try (with_reducible rfl))
        (try simp only [List.setIfInBounds_toArray, List.set_cons_zero, List.set_cons_succ])
        refine takeD (i := 9) (v := (.string S2)) rfl rfl (by kernel_rfl) (by kernel_rfl) (by kernel_rfl) (fun _ _ _ h => h) (Or.inl ⟨by rfl, ?_⟩) hHeld ?_
        · (intro v hv; (try obtain ⟨hv0, hv1, hv2, hv3, hv4⟩ := hv); go_simp; try (with_reducible rfl))
        (try simp only [List.setIfInBounds_toArray, List.set_cons_zero, List.set_cons_succ])
        refine takeD (i := 10) (v := (.bool true)) rfl rfl (by kernel_rfl) (by kernel_rfl) (by kernel_rfl) (fun _ _ _ h => h) (Or.inl ⟨by rfl, ?_⟩) hHeld ?_
        · (intro v hv; (try obtain ⟨hv0, hv1, hv2, hv3, hv4⟩ := hv); go_simp; try (with_reducible rfl))
        (try simp only [List.setIfInBounds_toArray, List.set_cons_zero, List.set_cons_succ])
        refine wpAnyH_done (by kernel_rfl) ?_ _
        have HH := Lib.hid hHeld
        clear hHeld
        go_wp2
        go_ret
        exact ⟨by rw [HV.out]; rfl, HX.out.trans HH.out.1⟩
    · obtain rfl : k = n := by omega
      have HV := Lib.hid (show sameLs L K = true by
        unfold sameLs
        have := HTK.out
        rw [List.take_of_length_le (by rw [HL.out.1]; exact Nat.le_refl _), List.take_of_length_le (by rw [HK.out.1]; exact Nat.le_refl _)] at this
        simpa using this)
      go_wp2
      go_ret
      exact ⟨by rw [HV.out]; rfl, HX.out⟩
end Go.Proofs.Ytnodinancnfoeaa.Mt
