/- outside, read (printed by gen_jnb.py). -/
import Derived.Test.YtfodpphbdbeciaaJnD
import Derived.Deep.RegionHeld3
namespace Go.Proofs.Ytfodpphbdbeciaa.Jn
open Go.RowKit Words Mem Plain Ops Agg OwnS Dk
set_option maxRecDepth 100000
set_option linter.ambiguousOpen false
set_option linter.unusedVariables false
set_option linter.unusedSimpArgs false

/-- Is a sector none of the journal's? -/
def outB (N : Nat) (f n i : Int) : Bool := decide (0 ≤ i) && (decide (i < N) && (decide (i < f) || decide (f + n ≤ i)))
theorem outB_iff {N : Nat} {f n i : Int} : outB N f n i = true ↔ 0 ≤ i ∧ i < N ∧ (i < f ∨ f + n ≤ i) := by simp [outB]
set_option maxHeartbeats 8000000 in
theorem outside_ok {w0 u : World} {g gs sc gj : Nat} {X : Nat → Prop} {D : Dsk} {f n s : Int} (hA : AtM w0 g gs sc D X u) (h : Row u gj 67 (jRow g f n s)) (hf : 0 ≤ f ∧ f ≤ 100000) (hn : 0 ≤ n ∧ n ≤ 100000) (i : Int) :
    Calls Try.prog 32 #[.pointer (some ⟨gj, 0, none⟩), .int .i64 i] u fun e w' => e = .returned (.bool (outB D.secs.length f n i)) ∧ Ext u w' := by
  by_cases h0 : 0 ≤ i
  · by_cases h1 : i < D.secs.length
    · by_cases h2 : i < f
      · have HV := Lib.hid (show outB D.secs.length f n i = true by simp [outB]; omega)
        go_enter Try.func32, Try.ntmps32
        go_wp2_with fail
        refine wp_region_held_drew (S := (fun v => Row v gj 67 (jRow g f n s) ∧ AtM w0 g gs sc D X v)) (by kernel_rfl) ⟨h.ext (Ext.refl _).drew, hA.ext (Ext.refl _).drew⟩ (fun hHeld => ?_)
        have HX := Lib.hid (show Ext u u.drew from (Ext.refl _).drew)
        generalize u.drew = v0 at *
        clear h hA
        refine takeD (i := 0) (v := ?_) rfl rfl (by kernel_rfl) (by kernel_rfl) (by kernel_rfl) (fun _ _ _ h => h) (Or.inl ⟨by rfl, ?_⟩) hHeld ?_
        rotate_left
        · (intro v hv; (obtain ⟨hv0, hv1⟩ := hv; have c0 := (hv0.cell? 0).trans rfl; have c1 := (hv0.cell? 1).trans rfl; have c2 := (hv0.cell? 2).trans rfl); go_simp; try (with_reducible rfl))
        (try simp only [List.setIfInBounds_toArray, List.set_cons_zero, List.set_cons_succ])
        refine takeD (i := 1) (v := ?_) rfl rfl (by kernel_rfl) (by kernel_rfl) (by kernel_rfl) (fun _ _ _ h => h) (Or.inl ⟨by rfl, ?_⟩) hHeld ?_
        rotate_left
        · (intro v hv; (obtain ⟨hv0, hv1⟩ := hv; have c0 := (hv0.cell? 0).trans rfl; have c1 := (hv0.cell? 1).trans rfl; have c2 := (hv0.cell? 2).trans rfl); go_simp; try (with_reducible rfl))
        (try simp only [List.setIfInBounds_toArray, List.set_cons_zero, List.set_cons_succ])
        refine takeD (i := 2) (v := ?_) rfl rfl (by kernel_rfl) (by kernel_rfl) (by kernel_rfl) (fun _ _ _ h => h) (Or.inl ⟨by rfl, ?_⟩) hHeld ?_
        rotate_left
        · (intro v hv; (obtain ⟨hv0, hv1⟩ := hv; have c0 := (hv0.cell? 0).trans rfl; have c1 := (hv0.cell? 1).trans rfl; have c2 := (hv0.cell? 2).trans rfl); go_simp; try (with_reducible rfl))
        (try simp only [List.setIfInBounds_toArray, List.set_cons_zero, List.set_cons_succ])
        refine takeD (i := 3) (v := ?_) rfl rfl (by kernel_rfl) (by kernel_rfl) (by kernel_rfl) (fun _ _ _ h => h) (Or.inl ⟨by rfl, ?_⟩) hHeld ?_
        rotate_left
        · (intro v hv; (obtain ⟨hv0, hv1⟩ := hv; have c0 := (hv0.cell? 0).trans rfl; have c1 := (hv0.cell? 1).trans rfl; have c2 := (hv0.cell? 2).trans rfl); go_simp; try (with_reducible rfl))
        (try simp only [List.setIfInBounds_toArray, List.set_cons_zero, List.set_cons_succ])
        refine takeD (i := 4) (v := ?_) rfl rfl (by kernel_rfl) (by kernel_rfl) (by kernel_rfl) (fun _ _ _ h => h) (Or.inl ⟨by rfl, ?_⟩) hHeld ?_
        rotate_left
        · (intro v hv; (obtain ⟨hv0, hv1⟩ := hv; have c0 := (hv0.cell? 0).trans rfl; have c1 := (hv0.cell? 1).trans rfl; have c2 := (hv0.cell? 2).trans rfl); go_simp; try (with_reducible rfl))
        (try simp only [List.setIfInBounds_toArray, List.set_cons_zero, List.set_cons_succ])
        refine takeD (i := 5) (v := ?_) rfl rfl (by kernel_rfl) (by kernel_rfl) (by kernel_rfl) (fun _ _ _ h => h) (Or.inl ⟨by rfl, ?_⟩) hHeld ?_
        rotate_left
        · (intro v hv; (obtain ⟨hv0, hv1⟩ := hv; have c0 := (hv0.cell? 0).trans rfl; have c1 := (hv0.cell? 1).trans rfl; have c2 := (hv0.cell? 2).trans rfl); go_simp; try (with_reducible rfl))
        (try simp only [List.setIfInBounds_toArray, List.set_cons_zero, List.set_cons_succ])
        refine takeD (i := 6) (v := ?_) rfl rfl (by kernel_rfl) (by kernel_rfl) (by kernel_rfl) (fun _ _ _ h => h) (Or.inl ⟨by rfl, ?_⟩) hHeld ?_
        rotate_left
        · (intro v hv; (obtain ⟨hv0, hv1⟩ := hv; have c0 := (hv0.cell? 0).trans rfl; have c1 := (hv0.cell? 1).trans rfl; have c2 := (hv0.cell? 2).trans rfl); go_simp; try (with_reducible rfl))
        (try simp only [List.setIfInBounds_toArray, List.set_cons_zero, List.set_cons_succ])
        refine takeD (i := 7) (v := ?_) rfl rfl (by kernel_rfl) (by kernel_rfl) (by kernel_rfl) (fun _ _ _ h => h) (Or.inl ⟨by rfl, ?_⟩) hHeld ?_
        rotate_left
        · (intro v hv; (obtain ⟨hv0, hv1⟩ := hv; have c0 := (hv0.cell? 0).trans rfl; have c1 := (hv0.cell? 1).trans rfl; have c2 := (hv0.cell? 2).trans rfl); go_simp; try (with_reducible rfl))
        (try simp only [List.setIfInBounds_toArray, List.set_cons_zero, List.set_cons_succ])
        refine wpAnyH_ready (rs := [8]) (by kernel_rfl) (by simp) ?_
        refine AllReadyH.cons rfl (fun K hK => ?_) AllReadyH.nil
        go_simp
        refine (Len_atM hHeld.2).mono ?_
        rintro e vn ⟨rfl, rfl⟩
        refine hK.out _ _ hHeld (fun hHeld => ?_)
        clear hK
        refine takeD (i := 9) (v := ?_) rfl rfl (by kernel_rfl) (by kernel_rfl) (by kernel_rfl) (fun _ _ _ h => h) (Or.inl ⟨by rfl, ?_⟩) hHeld ?_
        rotate_left
        · (intro v hv; (obtain ⟨hv0, hv1⟩ := hv; have c0 := (hv0.cell? 0).trans rfl; have c1 := (hv0.cell? 1).trans rfl; have c2 := (hv0.cell? 2).trans rfl); go_simp; try (with_reducible rfl))
        (try simp only [List.setIfInBounds_toArray, List.set_cons_zero, List.set_cons_succ])
        refine takeD (i := 10) (v := ?_) rfl rfl (by kernel_rfl) (by kernel_rfl) (by kernel_rfl) (fun _ _ _ h => h) (Or.inl ⟨by rfl, ?_⟩) hHeld ?_
        rotate_left
        · (intro v hv; (obtain ⟨hv0, hv1⟩ := hv; have c0 := (hv0.cell? 0).trans rfl; have c1 := (hv0.cell? 1).trans rfl; have c2 := (hv0.cell? 2).trans rfl); go_simp; try (with_reducible rfl))
        (try simp only [List.setIfInBounds_toArray, List.set_cons_zero, List.set_cons_succ])
        refine takeD (i := 11) (v := ?_) rfl rfl (by kernel_rfl) (by kernel_rfl) (by kernel_rfl) (fun _ _ _ h => h) (Or.inl ⟨by rfl, ?_⟩) hHeld ?_
        rotate_left
        · (intro v hv; (obtain ⟨hv0, hv1⟩ := hv; have c0 := (hv0.cell? 0).trans rfl; have c1 := (hv0.cell? 1).trans rfl; have c2 := (hv0.cell? 2).trans rfl); go_simp; try (with_reducible rfl))
        (try simp only [List.setIfInBounds_toArray, List.set_cons_zero, List.set_cons_succ])
        refine takeD (i := 12) (v := ?_) rfl rfl (by kernel_rfl) (by kernel_rfl) (by kernel_rfl) (fun _ _ _ h => h) (Or.inl ⟨by rfl, ?_⟩) hHeld ?_
        rotate_left
        · (intro v hv; (obtain ⟨hv0, hv1⟩ := hv; have c0 := (hv0.cell? 0).trans rfl; have c1 := (hv0.cell? 1).trans rfl; have c2 := (hv0.cell? 2).trans rfl); go_simp; try (with_reducible rfl))
        (try simp only [List.setIfInBounds_toArray, List.set_cons_zero, List.set_cons_succ])
        refine takeD (i := 13) (v := ?_) rfl rfl (by kernel_rfl) (by kernel_rfl) (by kernel_rfl) (fun _ _ _ h => h) (Or.inl ⟨by rfl, ?_⟩) hHeld ?_
        rotate_left
        · (intro v hv; (obtain ⟨hv0, hv1⟩ := hv; have c0 := (hv0.cell? 0).trans rfl; have c1 := (hv0.cell? 1).trans rfl; have c2 := (hv0.cell? 2).trans rfl); go_simp; try (with_reducible rfl))
        (try simp only [List.setIfInBounds_toArray, List.set_cons_zero, List.set_cons_succ])
        refine takeD (i := 14) (v := ?_) rfl rfl (by kernel_rfl) (by kernel_rfl) (by kernel_rfl) (fun _ _ _ h => h) (Or.inl ⟨by rfl, ?_⟩) hHeld ?_
        rotate_left
        · (intro v hv; (obtain ⟨hv0, hv1⟩ := hv; have c0 := (hv0.cell? 0).trans rfl; have c1 := (hv0.cell? 1).trans rfl; have c2 := (hv0.cell? 2).trans rfl); go_simp; try (with_reducible rfl))
        (try simp only [List.setIfInBounds_toArray, List.set_cons_zero, List.set_cons_succ])
        refine takeD (i := 15) (v := ?_) rfl rfl (by kernel_rfl) (by kernel_rfl) (by kernel_rfl) (fun _ _ _ h => h) (Or.inl ⟨by rfl, ?_⟩) hHeld ?_
        rotate_left
        · (intro v hv; (obtain ⟨hv0, hv1⟩ := hv; have c0 := (hv0.cell? 0).trans rfl; have c1 := (hv0.cell? 1).trans rfl; have c2 := (hv0.cell? 2).trans rfl); go_simp; try (with_reducible rfl))
        (try simp only [List.setIfInBounds_toArray, List.set_cons_zero, List.set_cons_succ])
        refine takeD (i := 16) (v := ?_) rfl rfl (by kernel_rfl) (by kernel_rfl) (by kernel_rfl) (fun _ _ _ h => h) (Or.inl ⟨by rfl, ?_⟩) hHeld ?_
        rotate_left
        · (intro v hv; (obtain ⟨hv0, hv1⟩ := hv; have c0 := (hv0.cell? 0).trans rfl; have c1 := (hv0.cell? 1).trans rfl; have c2 := (hv0.cell? 2).trans rfl); go_simp; try (with_reducible rfl))
        (try simp only [List.setIfInBounds_toArray, List.set_cons_zero, List.set_cons_succ])
        refine takeD (i := 17) (v := ?_) rfl rfl (by kernel_rfl) (by kernel_rfl) (by kernel_rfl) (fun _ _ _ h => h) (Or.inl ⟨by rfl, ?_⟩) hHeld ?_
        rotate_left
        · (intro v hv; (obtain ⟨hv0, hv1⟩ := hv; have c0 := (hv0.cell? 0).trans rfl; have c1 := (hv0.cell? 1).trans rfl; have c2 := (hv0.cell? 2).trans rfl); go_simp; try (with_reducible rfl))
        (try simp only [List.setIfInBounds_toArray, List.set_cons_zero, List.set_cons_succ])
        refine takeD (i := 18) (v := ?_) rfl rfl (by kernel_rfl) (by kernel_rfl) (by kernel_rfl) (fun _ _ _ h => h) (Or.inl ⟨by rfl, ?_⟩) hHeld ?_
        rotate_left
        · (intro v hv; (obtain ⟨hv0, hv1⟩ := hv; have c0 := (hv0.cell? 0).trans rfl; have c1 := (hv0.cell? 1).trans rfl; have c2 := (hv0.cell? 2).trans rfl); go_simp; try (with_reducible rfl))
        (try simp only [List.setIfInBounds_toArray, List.set_cons_zero, List.set_cons_succ])
        refine takeD (i := 19) (v := undef) rfl rfl (by kernel_rfl) (by kernel_rfl) (by kernel_rfl) (fun _ _ _ h => h) (Or.inr ⟨by rfl, rfl⟩) hHeld ?_
        (try simp only [List.setIfInBounds_toArray, List.set_cons_zero, List.set_cons_succ])
        refine takeD (i := 20) (v := undef) rfl rfl (by kernel_rfl) (by kernel_rfl) (by kernel_rfl) (fun _ _ _ h => h) (Or.inr ⟨by rfl, rfl⟩) hHeld ?_
        (try simp only [List.setIfInBounds_toArray, List.set_cons_zero, List.set_cons_succ])
        refine takeD (i := 21) (v := undef) rfl rfl (by kernel_rfl) (by kernel_rfl) (by kernel_rfl) (fun _ _ _ h => h) (Or.inr ⟨by rfl, rfl⟩) hHeld ?_
        (try simp only [List.setIfInBounds_toArray, List.set_cons_zero, List.set_cons_succ])
        refine takeD (i := 22) (v := undef) rfl rfl (by kernel_rfl) (by kernel_rfl) (by kernel_rfl) (fun _ _ _ h => h) (Or.inr ⟨by rfl, rfl⟩) hHeld ?_
        (try simp only [List.setIfInBounds_toArray, List.set_cons_zero, List.set_cons_succ])
        refine takeD (i := 23) (v := undef) rfl rfl (by kernel_rfl) (by kernel_rfl) (by kernel_rfl) (fun _ _ _ h => h) (Or.inr ⟨by rfl, rfl⟩) hHeld ?_
        (try simp only [List.setIfInBounds_toArray, List.set_cons_zero, List.set_cons_succ])
        refine takeD (i := 24) (v := undef) rfl rfl (by kernel_rfl) (by kernel_rfl) (by kernel_rfl) (fun _ _ _ h => h) (Or.inr ⟨by rfl, rfl⟩) hHeld ?_
        (try simp only [List.setIfInBounds_toArray, List.set_cons_zero, List.set_cons_succ])
        refine takeD (i := 25) (v := undef) rfl rfl (by kernel_rfl) (by kernel_rfl) (by kernel_rfl) (fun _ _ _ h => h) (Or.inr ⟨by rfl, rfl⟩) hHeld ?_
        (try simp only [List.setIfInBounds_toArray, List.set_cons_zero, List.set_cons_succ])
        refine takeD (i := 26) (v := undef) rfl rfl (by kernel_rfl) (by kernel_rfl) (by kernel_rfl) (fun _ _ _ h => h) (Or.inr ⟨by rfl, rfl⟩) hHeld ?_
        (try simp only [List.setIfInBounds_toArray, List.set_cons_zero, List.set_cons_succ])
        refine takeD (i := 27) (v := undef) rfl rfl (by kernel_rfl) (by kernel_rfl) (by kernel_rfl) (fun _ _ _ h => h) (Or.inr ⟨by rfl, rfl⟩) hHeld ?_
        (try simp only [List.setIfInBounds_toArray, List.set_cons_zero, List.set_cons_succ])
        refine takeD (i := 28) (v := undef) rfl rfl (by kernel_rfl) (by kernel_rfl) (by kernel_rfl) (fun _ _ _ h => h) (Or.inr ⟨by rfl, rfl⟩) hHeld ?_
        (try simp only [List.setIfInBounds_toArray, List.set_cons_zero, List.set_cons_succ])
        refine takeD (i := 29) (v := undef) rfl rfl (by kernel_rfl) (by kernel_rfl) (by kernel_rfl) (fun _ _ _ h => h) (Or.inr ⟨by rfl, rfl⟩) hHeld ?_
        (try simp only [List.setIfInBounds_toArray, List.set_cons_zero, List.set_cons_succ])
        refine takeD (i := 30) (v := ?_) rfl rfl (by kernel_rfl) (by kernel_rfl) (by kernel_rfl) (fun _ _ _ h => h) (Or.inl ⟨by rfl, ?_⟩) hHeld ?_
        rotate_left
        · (intro v hv; (obtain ⟨hv0, hv1⟩ := hv; have c0 := (hv0.cell? 0).trans rfl; have c1 := (hv0.cell? 1).trans rfl; have c2 := (hv0.cell? 2).trans rfl); go_simp; try (with_reducible rfl))
        (try simp only [List.setIfInBounds_toArray, List.set_cons_zero, List.set_cons_succ])
        refine takeD (i := 31) (v := ?_) rfl rfl (by kernel_rfl) (by kernel_rfl) (by kernel_rfl) (fun _ _ _ h => h) (Or.inl ⟨by rfl, ?_⟩) hHeld ?_
        rotate_left
        · (intro v hv; (obtain ⟨hv0, hv1⟩ := hv; have c0 := (hv0.cell? 0).trans rfl; have c1 := (hv0.cell? 1).trans rfl; have c2 := (hv0.cell? 2).trans rfl); go_simp; try (with_reducible rfl))
        (try simp only [List.setIfInBounds_toArray, List.set_cons_zero, List.set_cons_succ])
        refine takeD (i := 32) (v := ?_) rfl rfl (by kernel_rfl) (by kernel_rfl) (by kernel_rfl) (fun _ _ _ h => h) (Or.inl ⟨by rfl, ?_⟩) hHeld ?_
        rotate_left
        · (intro v hv; (obtain ⟨hv0, hv1⟩ := hv; have c0 := (hv0.cell? 0).trans rfl; have c1 := (hv0.cell? 1).trans rfl; have c2 := (hv0.cell? 2).trans rfl); go_simp; try (with_reducible rfl))
        (try simp only [List.setIfInBounds_toArray, List.set_cons_zero, List.set_cons_succ])
        refine wpAnyH_done (by kernel_rfl) ?_ _
        clear hHeld
        go_wp2
        go_ret
        exact ⟨by rw [HV.out]; rfl, HX.out⟩
      · have H2E := Lib.hid (show decide (i < f) = false by simp; omega)
        have HV := Lib.hid (show outB D.secs.length f n i = decide (IntKind.i64.wrap (f + n) ≤ i) by rw [IntWalk.i64_in _ (by omega)]; simp [outB, h0, h1, h2])
        go_enter Try.func32, Try.ntmps32
        go_wp2_with fail
        refine wp_region_held_drew (S := (fun v => Row v gj 67 (jRow g f n s) ∧ AtM w0 g gs sc D X v)) (by kernel_rfl) ⟨h.ext (Ext.refl _).drew, hA.ext (Ext.refl _).drew⟩ (fun hHeld => ?_)
        have HX := Lib.hid (show Ext u u.drew from (Ext.refl _).drew)
        generalize u.drew = v0 at *
        clear h hA
        refine takeD (i := 0) (v := ?_) rfl rfl (by kernel_rfl) (by kernel_rfl) (by kernel_rfl) (fun _ _ _ h => h) (Or.inl ⟨by rfl, ?_⟩) hHeld ?_
        rotate_left
        · (intro v hv; (obtain ⟨hv0, hv1⟩ := hv; have c0 := (hv0.cell? 0).trans rfl; have c1 := (hv0.cell? 1).trans rfl; have c2 := (hv0.cell? 2).trans rfl); go_simp; try (with_reducible rfl))
        (try simp only [List.setIfInBounds_toArray, List.set_cons_zero, List.set_cons_succ])
        refine takeD (i := 1) (v := ?_) rfl rfl (by kernel_rfl) (by kernel_rfl) (by kernel_rfl) (fun _ _ _ h => h) (Or.inl ⟨by rfl, ?_⟩) hHeld ?_
        rotate_left
        · (intro v hv; (obtain ⟨hv0, hv1⟩ := hv; have c0 := (hv0.cell? 0).trans rfl; have c1 := (hv0.cell? 1).trans rfl; have c2 := (hv0.cell? 2).trans rfl); go_simp; try (with_reducible rfl))
        (try simp only [List.setIfInBounds_toArray, List.set_cons_zero, List.set_cons_succ])
        refine takeD (i := 2) (v := ?_) rfl rfl (by kernel_rfl) (by kernel_rfl) (by kernel_rfl) (fun _ _ _ h => h) (Or.inl ⟨by rfl, ?_⟩) hHeld ?_
        rotate_left
        · (intro v hv; (obtain ⟨hv0, hv1⟩ := hv; have c0 := (hv0.cell? 0).trans rfl; have c1 := (hv0.cell? 1).trans rfl; have c2 := (hv0.cell? 2).trans rfl); go_simp; try (with_reducible rfl))
        (try simp only [List.setIfInBounds_toArray, List.set_cons_zero, List.set_cons_succ])
        refine takeD (i := 3) (v := ?_) rfl rfl (by kernel_rfl) (by kernel_rfl) (by kernel_rfl) (fun _ _ _ h => h) (Or.inl ⟨by rfl, ?_⟩) hHeld ?_
        rotate_left
        · (intro v hv; (obtain ⟨hv0, hv1⟩ := hv; have c0 := (hv0.cell? 0).trans rfl; have c1 := (hv0.cell? 1).trans rfl; have c2 := (hv0.cell? 2).trans rfl); go_simp; try (with_reducible rfl))
        (try simp only [List.setIfInBounds_toArray, List.set_cons_zero, List.set_cons_succ])
        refine takeD (i := 4) (v := ?_) rfl rfl (by kernel_rfl) (by kernel_rfl) (by kernel_rfl) (fun _ _ _ h => h) (Or.inl ⟨by rfl, ?_⟩) hHeld ?_
        rotate_left
        · (intro v hv; (obtain ⟨hv0, hv1⟩ := hv; have c0 := (hv0.cell? 0).trans rfl; have c1 := (hv0.cell? 1).trans rfl; have c2 := (hv0.cell? 2).trans rfl); go_simp; try (with_reducible rfl))
        (try simp only [List.setIfInBounds_toArray, List.set_cons_zero, List.set_cons_succ])
        refine takeD (i := 5) (v := ?_) rfl rfl (by kernel_rfl) (by kernel_rfl) (by kernel_rfl) (fun _ _ _ h => h) (Or.inl ⟨by rfl, ?_⟩) hHeld ?_
        rotate_left
        · (intro v hv; (obtain ⟨hv0, hv1⟩ := hv; have c0 := (hv0.cell? 0).trans rfl; have c1 := (hv0.cell? 1).trans rfl; have c2 := (hv0.cell? 2).trans rfl); go_simp; try (with_reducible rfl))
        (try simp only [List.setIfInBounds_toArray, List.set_cons_zero, List.set_cons_succ])
        refine takeD (i := 6) (v := ?_) rfl rfl (by kernel_rfl) (by kernel_rfl) (by kernel_rfl) (fun _ _ _ h => h) (Or.inl ⟨by rfl, ?_⟩) hHeld ?_
        rotate_left
        · (intro v hv; (obtain ⟨hv0, hv1⟩ := hv; have c0 := (hv0.cell? 0).trans rfl; have c1 := (hv0.cell? 1).trans rfl; have c2 := (hv0.cell? 2).trans rfl); go_simp; try (with_reducible rfl))
        (try simp only [List.setIfInBounds_toArray, List.set_cons_zero, List.set_cons_succ])
        refine takeD (i := 7) (v := ?_) rfl rfl (by kernel_rfl) (by kernel_rfl) (by kernel_rfl) (fun _ _ _ h => h) (Or.inl ⟨by rfl, ?_⟩) hHeld ?_
        rotate_left
        · (intro v hv; (obtain ⟨hv0, hv1⟩ := hv; have c0 := (hv0.cell? 0).trans rfl; have c1 := (hv0.cell? 1).trans rfl; have c2 := (hv0.cell? 2).trans rfl); go_simp; try (with_reducible rfl))
        (try simp only [List.setIfInBounds_toArray, List.set_cons_zero, List.set_cons_succ])
        refine wpAnyH_ready (rs := [8]) (by kernel_rfl) (by simp) ?_
        refine AllReadyH.cons rfl (fun K hK => ?_) AllReadyH.nil
        go_simp
        refine (Len_atM hHeld.2).mono ?_
        rintro e vn ⟨rfl, rfl⟩
        refine hK.out _ _ hHeld (fun hHeld => ?_)
        clear hK
        refine takeD (i := 9) (v := ?_) rfl rfl (by kernel_rfl) (by kernel_rfl) (by kernel_rfl) (fun _ _ _ h => h) (Or.inl ⟨by rfl, ?_⟩) hHeld ?_
        rotate_left
        · (intro v hv; (obtain ⟨hv0, hv1⟩ := hv; have c0 := (hv0.cell? 0).trans rfl; have c1 := (hv0.cell? 1).trans rfl; have c2 := (hv0.cell? 2).trans rfl); go_simp; try (with_reducible rfl))
        (try simp only [List.setIfInBounds_toArray, List.set_cons_zero, List.set_cons_succ])
        refine takeD (i := 10) (v := ?_) rfl rfl (by kernel_rfl) (by kernel_rfl) (by kernel_rfl) (fun _ _ _ h => h) (Or.inl ⟨by rfl, ?_⟩) hHeld ?_
        rotate_left
        · (intro v hv; (obtain ⟨hv0, hv1⟩ := hv; have c0 := (hv0.cell? 0).trans rfl; have c1 := (hv0.cell? 1).trans rfl; have c2 := (hv0.cell? 2).trans rfl); go_simp; try (with_reducible rfl))
        (try simp only [List.setIfInBounds_toArray, List.set_cons_zero, List.set_cons_succ])
        refine takeD (i := 11) (v := ?_) rfl rfl (by kernel_rfl) (by kernel_rfl) (by kernel_rfl) (fun _ _ _ h => h) (Or.inl ⟨by rfl, ?_⟩) hHeld ?_
        rotate_left
        · (intro v hv; (obtain ⟨hv0, hv1⟩ := hv; have c0 := (hv0.cell? 0).trans rfl; have c1 := (hv0.cell? 1).trans rfl; have c2 := (hv0.cell? 2).trans rfl); go_simp; try (with_reducible rfl))
        (try simp only [List.setIfInBounds_toArray, List.set_cons_zero, List.set_cons_succ])
        refine takeD (i := 12) (v := ?_) rfl rfl (by kernel_rfl) (by kernel_rfl) (by kernel_rfl) (fun _ _ _ h => h) (Or.inl ⟨by rfl, ?_⟩) hHeld ?_
        rotate_left
        · (intro v hv; (obtain ⟨hv0, hv1⟩ := hv; have c0 := (hv0.cell? 0).trans rfl; have c1 := (hv0.cell? 1).trans rfl; have c2 := (hv0.cell? 2).trans rfl); go_simp; try (with_reducible rfl))
        (try simp only [List.setIfInBounds_toArray, List.set_cons_zero, List.set_cons_succ])
        refine takeD (i := 13) (v := ?_) rfl rfl (by kernel_rfl) (by kernel_rfl) (by kernel_rfl) (fun _ _ _ h => h) (Or.inl ⟨by rfl, ?_⟩) hHeld ?_
        rotate_left
        · (intro v hv; (obtain ⟨hv0, hv1⟩ := hv; have c0 := (hv0.cell? 0).trans rfl; have c1 := (hv0.cell? 1).trans rfl; have c2 := (hv0.cell? 2).trans rfl); go_simp; try (with_reducible rfl))
        (try simp only [List.setIfInBounds_toArray, List.set_cons_zero, List.set_cons_succ])
        refine takeD (i := 14) (v := ?_) rfl rfl (by kernel_rfl) (by kernel_rfl) (by kernel_rfl) (fun _ _ _ h => h) (Or.inl ⟨by rfl, ?_⟩) hHeld ?_
        rotate_left
        · (intro v hv; (obtain ⟨hv0, hv1⟩ := hv; have c0 := (hv0.cell? 0).trans rfl; have c1 := (hv0.cell? 1).trans rfl; have c2 := (hv0.cell? 2).trans rfl); go_simp; try (with_reducible rfl))
        (try simp only [List.setIfInBounds_toArray, List.set_cons_zero, List.set_cons_succ])
        refine takeD (i := 15) (v := ?_) rfl rfl (by kernel_rfl) (by kernel_rfl) (by kernel_rfl) (fun _ _ _ h => h) (Or.inl ⟨by rfl, ?_⟩) hHeld ?_
        rotate_left
        · (intro v hv; (obtain ⟨hv0, hv1⟩ := hv; have c0 := (hv0.cell? 0).trans rfl; have c1 := (hv0.cell? 1).trans rfl; have c2 := (hv0.cell? 2).trans rfl); go_simp; try (with_reducible rfl))
        (try simp only [List.setIfInBounds_toArray, List.set_cons_zero, List.set_cons_succ])
        refine takeD (i := 16) (v := ?_) rfl rfl (by kernel_rfl) (by kernel_rfl) (by kernel_rfl) (fun _ _ _ h => h) (Or.inl ⟨by rfl, ?_⟩) hHeld ?_
        rotate_left
        · (intro v hv; (obtain ⟨hv0, hv1⟩ := hv; have c0 := (hv0.cell? 0).trans rfl; have c1 := (hv0.cell? 1).trans rfl; have c2 := (hv0.cell? 2).trans rfl); go_simp; try (with_reducible rfl))
        (try simp only [List.setIfInBounds_toArray, List.set_cons_zero, List.set_cons_succ])
        refine takeD (i := 17) (v := (.bool false)) rfl rfl (by kernel_rfl) (by kernel_rfl) (by kernel_rfl) (fun _ _ _ h => h) (Or.inl ⟨by rfl, ?_⟩) hHeld ?_
        · (intro v hv; (obtain ⟨hv0, hv1⟩ := hv; have c0 := (hv0.cell? 0).trans rfl; have c1 := (hv0.cell? 1).trans rfl; have c2 := (hv0.cell? 2).trans rfl; have e2 := H2E.out); go_simp; try (with_reducible rfl))
        (try simp only [List.setIfInBounds_toArray, List.set_cons_zero, List.set_cons_succ])
        refine takeD (i := 18) (v := ?_) rfl rfl (by kernel_rfl) (by kernel_rfl) (by kernel_rfl) (fun _ _ _ h => h) (Or.inl ⟨by rfl, ?_⟩) hHeld ?_
        rotate_left
        · (intro v hv; (obtain ⟨hv0, hv1⟩ := hv; have c0 := (hv0.cell? 0).trans rfl; have c1 := (hv0.cell? 1).trans rfl; have c2 := (hv0.cell? 2).trans rfl); go_simp; try (with_reducible rfl))
        (try simp only [List.setIfInBounds_toArray, List.set_cons_zero, List.set_cons_succ])
        refine takeD (i := 19) (v := ?_) rfl rfl (by kernel_rfl) (by kernel_rfl) (by kernel_rfl) (fun _ _ _ h => h) (Or.inl ⟨by rfl, ?_⟩) hHeld ?_
        rotate_left
        · (intro v hv; (obtain ⟨hv0, hv1⟩ := hv; have c0 := (hv0.cell? 0).trans rfl; have c1 := (hv0.cell? 1).trans rfl; have c2 := (hv0.cell? 2).trans rfl); go_simp; try (with_reducible rfl))
        (try simp only [List.setIfInBounds_toArray, List.set_cons_zero, List.set_cons_succ])
        refine takeD (i := 20) (v := ?_) rfl rfl (by kernel_rfl) (by kernel_rfl) (by kernel_rfl) (fun _ _ _ h => h) (Or.inl ⟨by rfl, ?_⟩) hHeld ?_
        rotate_left
        · (intro v hv; (obtain ⟨hv0, hv1⟩ := hv; have c0 := (hv0.cell? 0).trans rfl; have c1 := (hv0.cell? 1).trans rfl; have c2 := (hv0.cell? 2).trans rfl); go_simp; try (with_reducible rfl))
        (try simp only [List.setIfInBounds_toArray, List.set_cons_zero, List.set_cons_succ])
        refine takeD (i := 21) (v := ?_) rfl rfl (by kernel_rfl) (by kernel_rfl) (by kernel_rfl) (fun _ _ _ h => h) (Or.inl ⟨by rfl, ?_⟩) hHeld ?_
        rotate_left
        · (intro v hv; (obtain ⟨hv0, hv1⟩ := hv; have c0 := (hv0.cell? 0).trans rfl; have c1 := (hv0.cell? 1).trans rfl; have c2 := (hv0.cell? 2).trans rfl); go_simp; try (with_reducible rfl))
        (try simp only [List.setIfInBounds_toArray, List.set_cons_zero, List.set_cons_succ])
        refine takeD (i := 22) (v := ?_) rfl rfl (by kernel_rfl) (by kernel_rfl) (by kernel_rfl) (fun _ _ _ h => h) (Or.inl ⟨by rfl, ?_⟩) hHeld ?_
        rotate_left
        · (intro v hv; (obtain ⟨hv0, hv1⟩ := hv; have c0 := (hv0.cell? 0).trans rfl; have c1 := (hv0.cell? 1).trans rfl; have c2 := (hv0.cell? 2).trans rfl); go_simp; try (with_reducible rfl))
        (try simp only [List.setIfInBounds_toArray, List.set_cons_zero, List.set_cons_succ])
        refine takeD (i := 23) (v := ?_) rfl rfl (by kernel_rfl) (by kernel_rfl) (by kernel_rfl) (fun _ _ _ h => h) (Or.inl ⟨by rfl, ?_⟩) hHeld ?_
        rotate_left
        · (intro v hv; (obtain ⟨hv0, hv1⟩ := hv; have c0 := (hv0.cell? 0).trans rfl; have c1 := (hv0.cell? 1).trans rfl; have c2 := (hv0.cell? 2).trans rfl); go_simp; try (with_reducible rfl))
        (try simp only [List.setIfInBounds_toArray, List.set_cons_zero, List.set_cons_succ])
        refine takeD (i := 24) (v := ?_) rfl rfl (by kernel_rfl) (by kernel_rfl) (by kernel_rfl) (fun _ _ _ h => h) (Or.inl ⟨by rfl, ?_⟩) hHeld ?_
        rotate_left
        · (intro v hv; (obtain ⟨hv0, hv1⟩ := hv; have c0 := (hv0.cell? 0).trans rfl; have c1 := (hv0.cell? 1).trans rfl; have c2 := (hv0.cell? 2).trans rfl); go_simp; try (with_reducible rfl))
        (try simp only [List.setIfInBounds_toArray, List.set_cons_zero, List.set_cons_succ])
        refine takeD (i := 25) (v := ?_) rfl rfl (by kernel_rfl) (by kernel_rfl) (by kernel_rfl) (fun _ _ _ h => h) (Or.inl ⟨by rfl, ?_⟩) hHeld ?_
        rotate_left
        · (intro v hv; (obtain ⟨hv0, hv1⟩ := hv; have c0 := (hv0.cell? 0).trans rfl; have c1 := (hv0.cell? 1).trans rfl; have c2 := (hv0.cell? 2).trans rfl); go_simp; try (with_reducible rfl))
        (try simp only [List.setIfInBounds_toArray, List.set_cons_zero, List.set_cons_succ])
        refine takeD (i := 26) (v := ?_) rfl rfl (by kernel_rfl) (by kernel_rfl) (by kernel_rfl) (fun _ _ _ h => h) (Or.inl ⟨by rfl, ?_⟩) hHeld ?_
        rotate_left
        · (intro v hv; (obtain ⟨hv0, hv1⟩ := hv; have c0 := (hv0.cell? 0).trans rfl; have c1 := (hv0.cell? 1).trans rfl; have c2 := (hv0.cell? 2).trans rfl); go_simp; try (with_reducible rfl))
        (try simp only [List.setIfInBounds_toArray, List.set_cons_zero, List.set_cons_succ])
        refine takeD (i := 27) (v := ?_) rfl rfl (by kernel_rfl) (by kernel_rfl) (by kernel_rfl) (fun _ _ _ h => h) (Or.inl ⟨by rfl, ?_⟩) hHeld ?_
        rotate_left
        · (intro v hv; (obtain ⟨hv0, hv1⟩ := hv; have c0 := (hv0.cell? 0).trans rfl; have c1 := (hv0.cell? 1).trans rfl; have c2 := (hv0.cell? 2).trans rfl); go_simp; try (with_reducible rfl))
        (try simp only [List.setIfInBounds_toArray, List.set_cons_zero, List.set_cons_succ])
        refine takeD (i := 28) (v := ?_) rfl rfl (by kernel_rfl) (by kernel_rfl) (by kernel_rfl) (fun _ _ _ h => h) (Or.inl ⟨by rfl, ?_⟩) hHeld ?_
        rotate_left
        · (intro v hv; (obtain ⟨hv0, hv1⟩ := hv; have c0 := (hv0.cell? 0).trans rfl; have c1 := (hv0.cell? 1).trans rfl; have c2 := (hv0.cell? 2).trans rfl); go_simp; try (with_reducible rfl))
        (try simp only [List.setIfInBounds_toArray, List.set_cons_zero, List.set_cons_succ])
        refine takeD (i := 29) (v := ?_) rfl rfl (by kernel_rfl) (by kernel_rfl) (by kernel_rfl) (fun _ _ _ h => h) (Or.inl ⟨by rfl, ?_⟩) hHeld ?_
        rotate_left
        · (intro v hv; (obtain ⟨hv0, hv1⟩ := hv; have c0 := (hv0.cell? 0).trans rfl; have c1 := (hv0.cell? 1).trans rfl; have c2 := (hv0.cell? 2).trans rfl); go_simp; try (with_reducible rfl))
        (try simp only [List.setIfInBounds_toArray, List.set_cons_zero, List.set_cons_succ])
        refine takeD (i := 30) (v := ?_) rfl rfl (by kernel_rfl) (by kernel_rfl) (by kernel_rfl) (fun _ _ _ h => h) (Or.inl ⟨by rfl, ?_⟩) hHeld ?_
        rotate_left
        · (intro v hv; (obtain ⟨hv0, hv1⟩ := hv; have c0 := (hv0.cell? 0).trans rfl; have c1 := (hv0.cell? 1).trans rfl; have c2 := (hv0.cell? 2).trans rfl); go_simp; try (with_reducible rfl))
        (try simp only [List.setIfInBounds_toArray, List.set_cons_zero, List.set_cons_succ])
        refine takeD (i := 31) (v := ?_) rfl rfl (by kernel_rfl) (by kernel_rfl) (by kernel_rfl) (fun _ _ _ h => h) (Or.inl ⟨by rfl, ?_⟩) hHeld ?_
        rotate_left
        · (intro v hv; (obtain ⟨hv0, hv1⟩ := hv; have c0 := (hv0.cell? 0).trans rfl; have c1 := (hv0.cell? 1).trans rfl; have c2 := (hv0.cell? 2).trans rfl); go_simp; try (with_reducible rfl))
        (try simp only [List.setIfInBounds_toArray, List.set_cons_zero, List.set_cons_succ])
        refine takeD (i := 32) (v := ?_) rfl rfl (by kernel_rfl) (by kernel_rfl) (by kernel_rfl) (fun _ _ _ h => h) (Or.inl ⟨by rfl, ?_⟩) hHeld ?_
        rotate_left
        · (intro v hv; (obtain ⟨hv0, hv1⟩ := hv; have c0 := (hv0.cell? 0).trans rfl; have c1 := (hv0.cell? 1).trans rfl; have c2 := (hv0.cell? 2).trans rfl); go_simp; try (with_reducible rfl))
        (try simp only [List.setIfInBounds_toArray, List.set_cons_zero, List.set_cons_succ])
        refine wpAnyH_done (by kernel_rfl) ?_ _
        clear hHeld
        go_wp2
        go_ret
        exact ⟨by rw [HV.out]; rfl, HX.out⟩
    · have HV := Lib.hid (show outB D.secs.length f n i = false by simp [outB]; omega)
      have H2E := Lib.hid (show decide (i < (D.secs.length : Int)) = false by simp; omega)
      go_enter Try.func32, Try.ntmps32
      go_wp2_with fail
      refine wp_region_held_drew (S := (fun v => Row v gj 67 (jRow g f n s) ∧ AtM w0 g gs sc D X v)) (by kernel_rfl) ⟨h.ext (Ext.refl _).drew, hA.ext (Ext.refl _).drew⟩ (fun hHeld => ?_)
      have HX := Lib.hid (show Ext u u.drew from (Ext.refl _).drew)
      generalize u.drew = v0 at *
      clear h hA
      refine takeD (i := 0) (v := ?_) rfl rfl (by kernel_rfl) (by kernel_rfl) (by kernel_rfl) (fun _ _ _ h => h) (Or.inl ⟨by rfl, ?_⟩) hHeld ?_
      rotate_left
      · (intro v hv; (obtain ⟨hv0, hv1⟩ := hv; have c0 := (hv0.cell? 0).trans rfl; have c1 := (hv0.cell? 1).trans rfl; have c2 := (hv0.cell? 2).trans rfl); go_simp; try (with_reducible rfl))
      (try simp only [List.setIfInBounds_toArray, List.set_cons_zero, List.set_cons_succ])
      refine takeD (i := 1) (v := ?_) rfl rfl (by kernel_rfl) (by kernel_rfl) (by kernel_rfl) (fun _ _ _ h => h) (Or.inl ⟨by rfl, ?_⟩) hHeld ?_
      rotate_left
      · (intro v hv; (obtain ⟨hv0, hv1⟩ := hv; have c0 := (hv0.cell? 0).trans rfl; have c1 := (hv0.cell? 1).trans rfl; have c2 := (hv0.cell? 2).trans rfl); go_simp; try (with_reducible rfl))
      (try simp only [List.setIfInBounds_toArray, List.set_cons_zero, List.set_cons_succ])
      refine takeD (i := 2) (v := ?_) rfl rfl (by kernel_rfl) (by kernel_rfl) (by kernel_rfl) (fun _ _ _ h => h) (Or.inl ⟨by rfl, ?_⟩) hHeld ?_
      rotate_left
      · (intro v hv; (obtain ⟨hv0, hv1⟩ := hv; have c0 := (hv0.cell? 0).trans rfl; have c1 := (hv0.cell? 1).trans rfl; have c2 := (hv0.cell? 2).trans rfl); go_simp; try (with_reducible rfl))
      (try simp only [List.setIfInBounds_toArray, List.set_cons_zero, List.set_cons_succ])
      refine takeD (i := 3) (v := ?_) rfl rfl (by kernel_rfl) (by kernel_rfl) (by kernel_rfl) (fun _ _ _ h => h) (Or.inl ⟨by rfl, ?_⟩) hHeld ?_
      rotate_left
      · (intro v hv; (obtain ⟨hv0, hv1⟩ := hv; have c0 := (hv0.cell? 0).trans rfl; have c1 := (hv0.cell? 1).trans rfl; have c2 := (hv0.cell? 2).trans rfl); go_simp; try (with_reducible rfl))
      (try simp only [List.setIfInBounds_toArray, List.set_cons_zero, List.set_cons_succ])
      refine takeD (i := 4) (v := ?_) rfl rfl (by kernel_rfl) (by kernel_rfl) (by kernel_rfl) (fun _ _ _ h => h) (Or.inl ⟨by rfl, ?_⟩) hHeld ?_
      rotate_left
      · (intro v hv; (obtain ⟨hv0, hv1⟩ := hv; have c0 := (hv0.cell? 0).trans rfl; have c1 := (hv0.cell? 1).trans rfl; have c2 := (hv0.cell? 2).trans rfl); go_simp; try (with_reducible rfl))
      (try simp only [List.setIfInBounds_toArray, List.set_cons_zero, List.set_cons_succ])
      refine takeD (i := 5) (v := ?_) rfl rfl (by kernel_rfl) (by kernel_rfl) (by kernel_rfl) (fun _ _ _ h => h) (Or.inl ⟨by rfl, ?_⟩) hHeld ?_
      rotate_left
      · (intro v hv; (obtain ⟨hv0, hv1⟩ := hv; have c0 := (hv0.cell? 0).trans rfl; have c1 := (hv0.cell? 1).trans rfl; have c2 := (hv0.cell? 2).trans rfl); go_simp; try (with_reducible rfl))
      (try simp only [List.setIfInBounds_toArray, List.set_cons_zero, List.set_cons_succ])
      refine takeD (i := 6) (v := ?_) rfl rfl (by kernel_rfl) (by kernel_rfl) (by kernel_rfl) (fun _ _ _ h => h) (Or.inl ⟨by rfl, ?_⟩) hHeld ?_
      rotate_left
      · (intro v hv; (obtain ⟨hv0, hv1⟩ := hv; have c0 := (hv0.cell? 0).trans rfl; have c1 := (hv0.cell? 1).trans rfl; have c2 := (hv0.cell? 2).trans rfl); go_simp; try (with_reducible rfl))
      (try simp only [List.setIfInBounds_toArray, List.set_cons_zero, List.set_cons_succ])
      refine takeD (i := 7) (v := ?_) rfl rfl (by kernel_rfl) (by kernel_rfl) (by kernel_rfl) (fun _ _ _ h => h) (Or.inl ⟨by rfl, ?_⟩) hHeld ?_
      rotate_left
      · (intro v hv; (obtain ⟨hv0, hv1⟩ := hv; have c0 := (hv0.cell? 0).trans rfl; have c1 := (hv0.cell? 1).trans rfl; have c2 := (hv0.cell? 2).trans rfl); go_simp; try (with_reducible rfl))
      (try simp only [List.setIfInBounds_toArray, List.set_cons_zero, List.set_cons_succ])
      refine wpAnyH_ready (rs := [8]) (by kernel_rfl) (by simp) ?_
      refine AllReadyH.cons rfl (fun K hK => ?_) AllReadyH.nil
      go_simp
      refine (Len_atM hHeld.2).mono ?_
      rintro e vn ⟨rfl, rfl⟩
      refine hK.out _ _ hHeld (fun hHeld => ?_)
      clear hK
      refine takeD (i := 9) (v := (.bool false)) rfl rfl (by kernel_rfl) (by kernel_rfl) (by kernel_rfl) (fun _ _ _ h => h) (Or.inl ⟨by rfl, ?_⟩) hHeld ?_
      · (intro v hv; (obtain ⟨hv0, hv1⟩ := hv; have c0 := (hv0.cell? 0).trans rfl; have c1 := (hv0.cell? 1).trans rfl; have c2 := (hv0.cell? 2).trans rfl; have e2 := H2E.out); go_simp; try (with_reducible rfl))
      (try simp only [List.setIfInBounds_toArray, List.set_cons_zero, List.set_cons_succ])
      refine takeD (i := 10) (v := ?_) rfl rfl (by kernel_rfl) (by kernel_rfl) (by kernel_rfl) (fun _ _ _ h => h) (Or.inl ⟨by rfl, ?_⟩) hHeld ?_
      rotate_left
      · (intro v hv; (obtain ⟨hv0, hv1⟩ := hv; have c0 := (hv0.cell? 0).trans rfl; have c1 := (hv0.cell? 1).trans rfl; have c2 := (hv0.cell? 2).trans rfl); go_simp; try (with_reducible rfl))
      (try simp only [List.setIfInBounds_toArray, List.set_cons_zero, List.set_cons_succ])
      refine takeD (i := 11) (v := ?_) rfl rfl (by kernel_rfl) (by kernel_rfl) (by kernel_rfl) (fun _ _ _ h => h) (Or.inl ⟨by rfl, ?_⟩) hHeld ?_
      rotate_left
      · (intro v hv; (obtain ⟨hv0, hv1⟩ := hv; have c0 := (hv0.cell? 0).trans rfl; have c1 := (hv0.cell? 1).trans rfl; have c2 := (hv0.cell? 2).trans rfl); go_simp; try (with_reducible rfl))
      (try simp only [List.setIfInBounds_toArray, List.set_cons_zero, List.set_cons_succ])
      refine takeD (i := 12) (v := undef) rfl rfl (by kernel_rfl) (by kernel_rfl) (by kernel_rfl) (fun _ _ _ h => h) (Or.inr ⟨by rfl, rfl⟩) hHeld ?_
      (try simp only [List.setIfInBounds_toArray, List.set_cons_zero, List.set_cons_succ])
      refine takeD (i := 13) (v := undef) rfl rfl (by kernel_rfl) (by kernel_rfl) (by kernel_rfl) (fun _ _ _ h => h) (Or.inr ⟨by rfl, rfl⟩) hHeld ?_
      (try simp only [List.setIfInBounds_toArray, List.set_cons_zero, List.set_cons_succ])
      refine takeD (i := 14) (v := undef) rfl rfl (by kernel_rfl) (by kernel_rfl) (by kernel_rfl) (fun _ _ _ h => h) (Or.inr ⟨by rfl, rfl⟩) hHeld ?_
      (try simp only [List.setIfInBounds_toArray, List.set_cons_zero, List.set_cons_succ])
      refine takeD (i := 15) (v := undef) rfl rfl (by kernel_rfl) (by kernel_rfl) (by kernel_rfl) (fun _ _ _ h => h) (Or.inr ⟨by rfl, rfl⟩) hHeld ?_
      (try simp only [List.setIfInBounds_toArray, List.set_cons_zero, List.set_cons_succ])
      refine takeD (i := 16) (v := undef) rfl rfl (by kernel_rfl) (by kernel_rfl) (by kernel_rfl) (fun _ _ _ h => h) (Or.inr ⟨by rfl, rfl⟩) hHeld ?_
      (try simp only [List.setIfInBounds_toArray, List.set_cons_zero, List.set_cons_succ])
      refine takeD (i := 17) (v := undef) rfl rfl (by kernel_rfl) (by kernel_rfl) (by kernel_rfl) (fun _ _ _ h => h) (Or.inr ⟨by rfl, rfl⟩) hHeld ?_
      (try simp only [List.setIfInBounds_toArray, List.set_cons_zero, List.set_cons_succ])
      refine takeD (i := 18) (v := undef) rfl rfl (by kernel_rfl) (by kernel_rfl) (by kernel_rfl) (fun _ _ _ h => h) (Or.inr ⟨by rfl, rfl⟩) hHeld ?_
      (try simp only [List.setIfInBounds_toArray, List.set_cons_zero, List.set_cons_succ])
      refine takeD (i := 19) (v := undef) rfl rfl (by kernel_rfl) (by kernel_rfl) (by kernel_rfl) (fun _ _ _ h => h) (Or.inr ⟨by rfl, rfl⟩) hHeld ?_
      (try simp only [List.setIfInBounds_toArray, List.set_cons_zero, List.set_cons_succ])
      refine takeD (i := 20) (v := undef) rfl rfl (by kernel_rfl) (by kernel_rfl) (by kernel_rfl) (fun _ _ _ h => h) (Or.inr ⟨by rfl, rfl⟩) hHeld ?_
      (try simp only [List.setIfInBounds_toArray, List.set_cons_zero, List.set_cons_succ])
      refine takeD (i := 21) (v := undef) rfl rfl (by kernel_rfl) (by kernel_rfl) (by kernel_rfl) (fun _ _ _ h => h) (Or.inr ⟨by rfl, rfl⟩) hHeld ?_
      (try simp only [List.setIfInBounds_toArray, List.set_cons_zero, List.set_cons_succ])
      refine takeD (i := 22) (v := undef) rfl rfl (by kernel_rfl) (by kernel_rfl) (by kernel_rfl) (fun _ _ _ h => h) (Or.inr ⟨by rfl, rfl⟩) hHeld ?_
      (try simp only [List.setIfInBounds_toArray, List.set_cons_zero, List.set_cons_succ])
      refine takeD (i := 23) (v := undef) rfl rfl (by kernel_rfl) (by kernel_rfl) (by kernel_rfl) (fun _ _ _ h => h) (Or.inr ⟨by rfl, rfl⟩) hHeld ?_
      (try simp only [List.setIfInBounds_toArray, List.set_cons_zero, List.set_cons_succ])
      refine takeD (i := 24) (v := undef) rfl rfl (by kernel_rfl) (by kernel_rfl) (by kernel_rfl) (fun _ _ _ h => h) (Or.inr ⟨by rfl, rfl⟩) hHeld ?_
      (try simp only [List.setIfInBounds_toArray, List.set_cons_zero, List.set_cons_succ])
      refine takeD (i := 25) (v := undef) rfl rfl (by kernel_rfl) (by kernel_rfl) (by kernel_rfl) (fun _ _ _ h => h) (Or.inr ⟨by rfl, rfl⟩) hHeld ?_
      (try simp only [List.setIfInBounds_toArray, List.set_cons_zero, List.set_cons_succ])
      refine takeD (i := 26) (v := undef) rfl rfl (by kernel_rfl) (by kernel_rfl) (by kernel_rfl) (fun _ _ _ h => h) (Or.inr ⟨by rfl, rfl⟩) hHeld ?_
      (try simp only [List.setIfInBounds_toArray, List.set_cons_zero, List.set_cons_succ])
      refine takeD (i := 27) (v := undef) rfl rfl (by kernel_rfl) (by kernel_rfl) (by kernel_rfl) (fun _ _ _ h => h) (Or.inr ⟨by rfl, rfl⟩) hHeld ?_
      (try simp only [List.setIfInBounds_toArray, List.set_cons_zero, List.set_cons_succ])
      refine takeD (i := 28) (v := undef) rfl rfl (by kernel_rfl) (by kernel_rfl) (by kernel_rfl) (fun _ _ _ h => h) (Or.inr ⟨by rfl, rfl⟩) hHeld ?_
      (try simp only [List.setIfInBounds_toArray, List.set_cons_zero, List.set_cons_succ])
      refine takeD (i := 29) (v := undef) rfl rfl (by kernel_rfl) (by kernel_rfl) (by kernel_rfl) (fun _ _ _ h => h) (Or.inr ⟨by rfl, rfl⟩) hHeld ?_
      (try simp only [List.setIfInBounds_toArray, List.set_cons_zero, List.set_cons_succ])
      refine takeD (i := 30) (v := undef) rfl rfl (by kernel_rfl) (by kernel_rfl) (by kernel_rfl) (fun _ _ _ h => h) (Or.inr ⟨by rfl, rfl⟩) hHeld ?_
      (try simp only [List.setIfInBounds_toArray, List.set_cons_zero, List.set_cons_succ])
      refine takeD (i := 31) (v := ?_) rfl rfl (by kernel_rfl) (by kernel_rfl) (by kernel_rfl) (fun _ _ _ h => h) (Or.inl ⟨by rfl, ?_⟩) hHeld ?_
      rotate_left
      · (intro v hv; (obtain ⟨hv0, hv1⟩ := hv; have c0 := (hv0.cell? 0).trans rfl; have c1 := (hv0.cell? 1).trans rfl; have c2 := (hv0.cell? 2).trans rfl); go_simp; try (with_reducible rfl))
      (try simp only [List.setIfInBounds_toArray, List.set_cons_zero, List.set_cons_succ])
      refine takeD (i := 32) (v := ?_) rfl rfl (by kernel_rfl) (by kernel_rfl) (by kernel_rfl) (fun _ _ _ h => h) (Or.inl ⟨by rfl, ?_⟩) hHeld ?_
      rotate_left
      · (intro v hv; (obtain ⟨hv0, hv1⟩ := hv; have c0 := (hv0.cell? 0).trans rfl; have c1 := (hv0.cell? 1).trans rfl; have c2 := (hv0.cell? 2).trans rfl); go_simp; try (with_reducible rfl))
      (try simp only [List.setIfInBounds_toArray, List.set_cons_zero, List.set_cons_succ])
      refine wpAnyH_done (by kernel_rfl) ?_ _
      clear hHeld
      go_wp2
      go_ret
      exact ⟨by rw [HV.out]; rfl, HX.out⟩
  · have HV := Lib.hid (show outB D.secs.length f n i = false by simp [outB]; omega)
    have H2E := Lib.hid (show decide (0 ≤ i) = false by simp; omega)
    go_enter Try.func32, Try.ntmps32
    go_wp2_with fail
    refine wp_region_held_drew (S := (fun v => Row v gj 67 (jRow g f n s) ∧ AtM w0 g gs sc D X v)) (by kernel_rfl) ⟨h.ext (Ext.refl _).drew, hA.ext (Ext.refl _).drew⟩ (fun hHeld => ?_)
    have HX := Lib.hid (show Ext u u.drew from (Ext.refl _).drew)
    generalize u.drew = v0 at *
    clear h hA
    refine takeD (i := 0) (v := ?_) rfl rfl (by kernel_rfl) (by kernel_rfl) (by kernel_rfl) (fun _ _ _ h => h) (Or.inl ⟨by rfl, ?_⟩) hHeld ?_
    rotate_left
    · (intro v hv; (obtain ⟨hv0, hv1⟩ := hv; have c0 := (hv0.cell? 0).trans rfl; have c1 := (hv0.cell? 1).trans rfl; have c2 := (hv0.cell? 2).trans rfl); go_simp; try (with_reducible rfl))
    (try simp only [List.setIfInBounds_toArray, List.set_cons_zero, List.set_cons_succ])
    refine takeD (i := 1) (v := (.bool false)) rfl rfl (by kernel_rfl) (by kernel_rfl) (by kernel_rfl) (fun _ _ _ h => h) (Or.inl ⟨by rfl, ?_⟩) hHeld ?_
    · (intro v hv; (obtain ⟨hv0, hv1⟩ := hv; have c0 := (hv0.cell? 0).trans rfl; have c1 := (hv0.cell? 1).trans rfl; have c2 := (hv0.cell? 2).trans rfl; have e2 := H2E.out); go_simp; try (with_reducible rfl))
    (try simp only [List.setIfInBounds_toArray, List.set_cons_zero, List.set_cons_succ])
    refine takeD (i := 2) (v := ?_) rfl rfl (by kernel_rfl) (by kernel_rfl) (by kernel_rfl) (fun _ _ _ h => h) (Or.inl ⟨by rfl, ?_⟩) hHeld ?_
    rotate_left
    · (intro v hv; (obtain ⟨hv0, hv1⟩ := hv; have c0 := (hv0.cell? 0).trans rfl; have c1 := (hv0.cell? 1).trans rfl; have c2 := (hv0.cell? 2).trans rfl); go_simp; try (with_reducible rfl))
    (try simp only [List.setIfInBounds_toArray, List.set_cons_zero, List.set_cons_succ])
    refine takeD (i := 3) (v := undef) rfl rfl (by kernel_rfl) (by kernel_rfl) (by kernel_rfl) (fun _ _ _ h => h) (Or.inr ⟨by rfl, rfl⟩) hHeld ?_
    (try simp only [List.setIfInBounds_toArray, List.set_cons_zero, List.set_cons_succ])
    refine takeD (i := 4) (v := undef) rfl rfl (by kernel_rfl) (by kernel_rfl) (by kernel_rfl) (fun _ _ _ h => h) (Or.inr ⟨by rfl, rfl⟩) hHeld ?_
    (try simp only [List.setIfInBounds_toArray, List.set_cons_zero, List.set_cons_succ])
    refine takeD (i := 5) (v := undef) rfl rfl (by kernel_rfl) (by kernel_rfl) (by kernel_rfl) (fun _ _ _ h => h) (Or.inr ⟨by rfl, rfl⟩) hHeld ?_
    (try simp only [List.setIfInBounds_toArray, List.set_cons_zero, List.set_cons_succ])
    refine takeD (i := 6) (v := undef) rfl rfl (by kernel_rfl) (by kernel_rfl) (by kernel_rfl) (fun _ _ _ h => h) (Or.inr ⟨by rfl, rfl⟩) hHeld ?_
    (try simp only [List.setIfInBounds_toArray, List.set_cons_zero, List.set_cons_succ])
    refine takeD (i := 7) (v := undef) rfl rfl (by kernel_rfl) (by kernel_rfl) (by kernel_rfl) (fun _ _ _ h => h) (Or.inr ⟨by rfl, rfl⟩) hHeld ?_
    (try simp only [List.setIfInBounds_toArray, List.set_cons_zero, List.set_cons_succ])
    refine takeD (i := 8) (v := undef) rfl rfl (by kernel_rfl) (by kernel_rfl) (by kernel_rfl) (fun _ _ _ h => h) (Or.inr ⟨by rfl, rfl⟩) hHeld ?_
    (try simp only [List.setIfInBounds_toArray, List.set_cons_zero, List.set_cons_succ])
    refine takeD (i := 9) (v := undef) rfl rfl (by kernel_rfl) (by kernel_rfl) (by kernel_rfl) (fun _ _ _ h => h) (Or.inr ⟨by rfl, rfl⟩) hHeld ?_
    (try simp only [List.setIfInBounds_toArray, List.set_cons_zero, List.set_cons_succ])
    refine takeD (i := 10) (v := ?_) rfl rfl (by kernel_rfl) (by kernel_rfl) (by kernel_rfl) (fun _ _ _ h => h) (Or.inl ⟨by rfl, ?_⟩) hHeld ?_
    rotate_left
    · (intro v hv; (obtain ⟨hv0, hv1⟩ := hv; have c0 := (hv0.cell? 0).trans rfl; have c1 := (hv0.cell? 1).trans rfl; have c2 := (hv0.cell? 2).trans rfl); go_simp; try (with_reducible rfl))
    (try simp only [List.setIfInBounds_toArray, List.set_cons_zero, List.set_cons_succ])
    refine takeD (i := 11) (v := ?_) rfl rfl (by kernel_rfl) (by kernel_rfl) (by kernel_rfl) (fun _ _ _ h => h) (Or.inl ⟨by rfl, ?_⟩) hHeld ?_
    rotate_left
    · (intro v hv; (obtain ⟨hv0, hv1⟩ := hv; have c0 := (hv0.cell? 0).trans rfl; have c1 := (hv0.cell? 1).trans rfl; have c2 := (hv0.cell? 2).trans rfl); go_simp; try (with_reducible rfl))
    (try simp only [List.setIfInBounds_toArray, List.set_cons_zero, List.set_cons_succ])
    refine takeD (i := 12) (v := undef) rfl rfl (by kernel_rfl) (by kernel_rfl) (by kernel_rfl) (fun _ _ _ h => h) (Or.inr ⟨by rfl, rfl⟩) hHeld ?_
    (try simp only [List.setIfInBounds_toArray, List.set_cons_zero, List.set_cons_succ])
    refine takeD (i := 13) (v := undef) rfl rfl (by kernel_rfl) (by kernel_rfl) (by kernel_rfl) (fun _ _ _ h => h) (Or.inr ⟨by rfl, rfl⟩) hHeld ?_
    (try simp only [List.setIfInBounds_toArray, List.set_cons_zero, List.set_cons_succ])
    refine takeD (i := 14) (v := undef) rfl rfl (by kernel_rfl) (by kernel_rfl) (by kernel_rfl) (fun _ _ _ h => h) (Or.inr ⟨by rfl, rfl⟩) hHeld ?_
    (try simp only [List.setIfInBounds_toArray, List.set_cons_zero, List.set_cons_succ])
    refine takeD (i := 15) (v := undef) rfl rfl (by kernel_rfl) (by kernel_rfl) (by kernel_rfl) (fun _ _ _ h => h) (Or.inr ⟨by rfl, rfl⟩) hHeld ?_
    (try simp only [List.setIfInBounds_toArray, List.set_cons_zero, List.set_cons_succ])
    refine takeD (i := 16) (v := undef) rfl rfl (by kernel_rfl) (by kernel_rfl) (by kernel_rfl) (fun _ _ _ h => h) (Or.inr ⟨by rfl, rfl⟩) hHeld ?_
    (try simp only [List.setIfInBounds_toArray, List.set_cons_zero, List.set_cons_succ])
    refine takeD (i := 17) (v := undef) rfl rfl (by kernel_rfl) (by kernel_rfl) (by kernel_rfl) (fun _ _ _ h => h) (Or.inr ⟨by rfl, rfl⟩) hHeld ?_
    (try simp only [List.setIfInBounds_toArray, List.set_cons_zero, List.set_cons_succ])
    refine takeD (i := 18) (v := undef) rfl rfl (by kernel_rfl) (by kernel_rfl) (by kernel_rfl) (fun _ _ _ h => h) (Or.inr ⟨by rfl, rfl⟩) hHeld ?_
    (try simp only [List.setIfInBounds_toArray, List.set_cons_zero, List.set_cons_succ])
    refine takeD (i := 19) (v := undef) rfl rfl (by kernel_rfl) (by kernel_rfl) (by kernel_rfl) (fun _ _ _ h => h) (Or.inr ⟨by rfl, rfl⟩) hHeld ?_
    (try simp only [List.setIfInBounds_toArray, List.set_cons_zero, List.set_cons_succ])
    refine takeD (i := 20) (v := undef) rfl rfl (by kernel_rfl) (by kernel_rfl) (by kernel_rfl) (fun _ _ _ h => h) (Or.inr ⟨by rfl, rfl⟩) hHeld ?_
    (try simp only [List.setIfInBounds_toArray, List.set_cons_zero, List.set_cons_succ])
    refine takeD (i := 21) (v := undef) rfl rfl (by kernel_rfl) (by kernel_rfl) (by kernel_rfl) (fun _ _ _ h => h) (Or.inr ⟨by rfl, rfl⟩) hHeld ?_
    (try simp only [List.setIfInBounds_toArray, List.set_cons_zero, List.set_cons_succ])
    refine takeD (i := 22) (v := undef) rfl rfl (by kernel_rfl) (by kernel_rfl) (by kernel_rfl) (fun _ _ _ h => h) (Or.inr ⟨by rfl, rfl⟩) hHeld ?_
    (try simp only [List.setIfInBounds_toArray, List.set_cons_zero, List.set_cons_succ])
    refine takeD (i := 23) (v := undef) rfl rfl (by kernel_rfl) (by kernel_rfl) (by kernel_rfl) (fun _ _ _ h => h) (Or.inr ⟨by rfl, rfl⟩) hHeld ?_
    (try simp only [List.setIfInBounds_toArray, List.set_cons_zero, List.set_cons_succ])
    refine takeD (i := 24) (v := undef) rfl rfl (by kernel_rfl) (by kernel_rfl) (by kernel_rfl) (fun _ _ _ h => h) (Or.inr ⟨by rfl, rfl⟩) hHeld ?_
    (try simp only [List.setIfInBounds_toArray, List.set_cons_zero, List.set_cons_succ])
    refine takeD (i := 25) (v := undef) rfl rfl (by kernel_rfl) (by kernel_rfl) (by kernel_rfl) (fun _ _ _ h => h) (Or.inr ⟨by rfl, rfl⟩) hHeld ?_
    (try simp only [List.setIfInBounds_toArray, List.set_cons_zero, List.set_cons_succ])
    refine takeD (i := 26) (v := undef) rfl rfl (by kernel_rfl) (by kernel_rfl) (by kernel_rfl) (fun _ _ _ h => h) (Or.inr ⟨by rfl, rfl⟩) hHeld ?_
    (try simp only [List.setIfInBounds_toArray, List.set_cons_zero, List.set_cons_succ])
    refine takeD (i := 27) (v := undef) rfl rfl (by kernel_rfl) (by kernel_rfl) (by kernel_rfl) (fun _ _ _ h => h) (Or.inr ⟨by rfl, rfl⟩) hHeld ?_
    (try simp only [List.setIfInBounds_toArray, List.set_cons_zero, List.set_cons_succ])
    refine takeD (i := 28) (v := undef) rfl rfl (by kernel_rfl) (by kernel_rfl) (by kernel_rfl) (fun _ _ _ h => h) (Or.inr ⟨by rfl, rfl⟩) hHeld ?_
    (try simp only [List.setIfInBounds_toArray, List.set_cons_zero, List.set_cons_succ])
    refine takeD (i := 29) (v := undef) rfl rfl (by kernel_rfl) (by kernel_rfl) (by kernel_rfl) (fun _ _ _ h => h) (Or.inr ⟨by rfl, rfl⟩) hHeld ?_
    (try simp only [List.setIfInBounds_toArray, List.set_cons_zero, List.set_cons_succ])
    refine takeD (i := 30) (v := undef) rfl rfl (by kernel_rfl) (by kernel_rfl) (by kernel_rfl) (fun _ _ _ h => h) (Or.inr ⟨by rfl, rfl⟩) hHeld ?_
    (try simp only [List.setIfInBounds_toArray, List.set_cons_zero, List.set_cons_succ])
    refine takeD (i := 31) (v := ?_) rfl rfl (by kernel_rfl) (by kernel_rfl) (by kernel_rfl) (fun _ _ _ h => h) (Or.inl ⟨by rfl, ?_⟩) hHeld ?_
    rotate_left
    · (intro v hv; (obtain ⟨hv0, hv1⟩ := hv; have c0 := (hv0.cell? 0).trans rfl; have c1 := (hv0.cell? 1).trans rfl; have c2 := (hv0.cell? 2).trans rfl); go_simp; try (with_reducible rfl))
    (try simp only [List.setIfInBounds_toArray, List.set_cons_zero, List.set_cons_succ])
    refine takeD (i := 32) (v := ?_) rfl rfl (by kernel_rfl) (by kernel_rfl) (by kernel_rfl) (fun _ _ _ h => h) (Or.inl ⟨by rfl, ?_⟩) hHeld ?_
    rotate_left
    · (intro v hv; (obtain ⟨hv0, hv1⟩ := hv; have c0 := (hv0.cell? 0).trans rfl; have c1 := (hv0.cell? 1).trans rfl; have c2 := (hv0.cell? 2).trans rfl); go_simp; try (with_reducible rfl))
    (try simp only [List.setIfInBounds_toArray, List.set_cons_zero, List.set_cons_succ])
    refine wpAnyH_done (by kernel_rfl) ?_ _
    clear hHeld
    go_wp2
    go_ret
    exact ⟨by rw [HV.out]; rfl, HX.out⟩
set_option maxHeartbeats 4000000 in
theorem read_ok {w0 u : World} {g gs sc gj : Nat} {X : Nat → Prop} {D : Dsk} {f n s : Int} (hA : AtM w0 g gs sc D X u) (h : Row u gj 67 (jRow g f n s)) (i : Int) :
    Calls Try.prog 39 #[.pointer (some ⟨gj, 0, none⟩), .int .i64 i] u fun e w' => ∃ a c, e = .returned (.slice a (readR D i).1.length c) ∧ w'.ownsRow u.heap.size 5 1 (.slice a (readR D i).1.length c) (readR D i).1.length (ints .u8 (readR D i).1) ∧ Ext u w' := by
  have c0 := (h.cell? 0).trans rfl
  have hr := Read_atM hA i
  clear h hA
  go_enter Try.func39, Try.ntmps39
  go_wp2_with fail
  refine hr.mono ?_
  rintro e w' ⟨a, c, rfl, ho, hx⟩
  have HO := Lib.hid ho; have HX := Lib.hid hx
  clear ho hx hr c0
  go_wp2
  go_ret
  exact ⟨a, c, rfl, HO.out, HX.out⟩
end Go.Proofs.Ytfodpphbdbeciaa.Jn
