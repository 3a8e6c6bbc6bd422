/- intern.Retain, Release. -/
import Derived.Test.YtiknmifbhhfblaaWithI
namespace Go.Proofs.Ytiknmifbhhfblaa.Intern
open Go.RowKit Words Mem Plain Ops Agg
set_option linter.ambiguousOpen false
set_option linter.unusedVariables false
set_option linter.unusedSimpArgs false

set_option maxHeartbeats 2000000 in
theorem Retain_ok (L : List RowT) (s : Option Addr) (cap : Nat) (a : Int) (w : World) (hm : L.length ≤ 9223372036854775807) (hc : Sl w s (rowsC L)) (hwf : wfR L) :
    Calls Try.prog 13 #[.slice s L.length cap, .int .u16 a] w fun e w' => ∃ v, e = .returned (.tuple #[v, .int .i64 (retR L a).2.1, .int .i64 (retR L a).2.2]) ∧ OwnR 37 w (retR L a).1 v w' := by
  have hright := Right_ok L s cap w hc hwf hm
  have HOF := Lib.hid (fun (w2 : World) (h : Ext w w2) => of_ok L s cap a w2 hm (hc.ext h))
  rcases ret_cases L a with ⟨hr, hv⟩ | ⟨hr, hx⟩
  · rw [hr] at hright
    rw [hv]
    clear hm hc hwf hr hv HOF
    generalize L.length = n at *
    go_enter Try.func13, Try.ntmps13
    go_wp2_with fail
    refine hright.mono ?_
    rintro e w2 ⟨rfl, h2⟩
    have H2 := Lib.hid h2
    clear h2 hright
    go_wp2
    go_ret3
    exact ⟨_, rfl, OwnR.nil H2.out⟩
  · have hok := (right_iff L).1 hr
    have h16 := hok.1
    obtain ⟨b, off, rfl, hrows⟩ := rows_at hc (by omega)
    have hrows : RowsAt b off L w := hrows
    have HROWS := Lib.hid hrows
    have HC := Lib.hid hc
    have HFR := Lib.hid (fun (w2 : World) (h : Ext w w2) => rowF_ok L b off cap w2 hm (hrows.ext h))
    rw [hr] at hright
    have H16 := Lib.hid h16
    rw [h16] at hright HOF HFR ⊢
    clear hm hc hwf hr hok hrows
    rcases hx with ⟨k, hk, ho, hp, hl, he, _, hv⟩ | ⟨k, hk, ho, hp, hl, he, _, hv⟩ | ⟨ho, _, k, hk, hf, h0, _, hv⟩ | ⟨ho, _, hf, _, hv⟩
    · rw [hv]
      have hk16 : (k : Int) < 16 := by omega
      have hk0 : ¬ (k : Int) < 0 := by omega
      have HK := Lib.hid hk
      have HEQ := Lib.hid (show rg L k = (a, 65535) from Prod.ext hl he)
      rw [ho] at HOF
      clear hk h16 hp hl he hv ho HFR
      go_enter Try.func13, Try.ntmps13
      go_wp2_with fail
      refine hright.mono ?_
      rintro e w2 ⟨rfl, h2⟩
      have H2 := Lib.hid h2
      have hof := HOF.out w2 h2
      clear h2 hright HOF
      go_wp2_with fail
      refine hof.mono ?_
      rintro e w3 ⟨rfl, h3⟩
      have H3 := Lib.hid (H2.out.trans h3)
      obtain ⟨c0, c1⟩ := HROWS.out.ext H3.out k HK.out
      rw [HEQ.out] at c0 c1
      clear h3 hof H2 HROWS
      go_wp2
      go_ret3
      exact ⟨_, rfl, OwnR.nil H3.out⟩
    · rw [hv]
      have hk16 : (k : Int) < 16 := by omega
      have hk0 : ¬ (k : Int) < 0 := by omega
      have HK := Lib.hid hk
      obtain ⟨y, hy⟩ : ∃ y, y = (rg L k).2 := ⟨_, rfl⟩
      have HEQ := Lib.hid (show rg L k = (a, y) from Prod.ext hl hy.symm)
      rw [← hy] at hp he ⊢
      rw [ho] at HOF
      have hne : ¬ y = 65535 := by omega
      clear hl hv ho HFR hy
      go_enter Try.func13, Try.ntmps13
      go_wp2_with fail
      refine hright.mono ?_
      rintro e w2 ⟨rfl, h2⟩
      have H2 := Lib.hid h2
      have hof := HOF.out w2 h2
      clear h2 hright HOF
      go_wp2_with fail
      refine hof.mono ?_
      rintro e w3 ⟨rfl, h3⟩
      have H3 := Lib.hid (H2.out.trans h3)
      obtain ⟨c0, c1⟩ := HROWS.out.ext H3.out k HK.out
      rw [HEQ.out] at c0 c1
      have hwith := with_pos L k a (y + 1) b off cap w3 H16.out (by omega) (HC.out.ext H3.out)
      rw [H16.out] at hwith
      clear h3 hof H2 HROWS HC hk h16
      go_wp2_with fail
      refine hwith.mono ?_
      rintro e w4 ⟨v, rfl, h4⟩
      have H4 := Lib.hid (OwnR.up H3.out h4)
      clear h4 hwith
      go_wp2
      go_ret3
      exact ⟨_, rfl, H4.out⟩
    · rw [hv]
      have hk16 : (k : Int) < 16 := by omega
      have hk0 : ¬ (k : Int) < 0 := by omega
      have HK := Lib.hid hk
      obtain ⟨x, hx⟩ : ∃ x, x = (rg L k).1 := ⟨_, rfl⟩
      have HEQ := Lib.hid (show rg L k = (x, 0) from Prod.ext hx.symm h0)
      rw [ho] at HOF
      rw [hf] at HFR
      clear hv ho hx h0 hf
      go_enter Try.func13, Try.ntmps13
      go_wp2_with fail
      refine hright.mono ?_
      rintro e w2 ⟨rfl, h2⟩
      have H2 := Lib.hid h2
      have hof := HOF.out w2 h2
      clear h2 hright HOF
      go_wp2_with fail
      refine hof.mono ?_
      rintro e w3 ⟨rfl, h3⟩
      have H3 := Lib.hid (H2.out.trans h3)
      have hfr := HFR.out w3 H3.out
      clear h3 hof H2 HFR
      go_wp2_with fail
      refine hfr.mono ?_
      rintro e w4 ⟨rfl, h4⟩
      have H4 := Lib.hid (H3.out.trans h4)
      obtain ⟨c0, c1⟩ := HROWS.out.ext H4.out k HK.out
      rw [HEQ.out] at c0 c1
      have hwith := with_pos L k a 1 b off cap w4 H16.out (by omega) (HC.out.ext H4.out)
      rw [H16.out] at hwith
      clear h4 hfr H3 HROWS HC hk h16
      go_wp2_with fail
      refine hwith.mono ?_
      rintro e w5 ⟨v, rfl, h5⟩
      have H5 := Lib.hid (OwnR.up H4.out h5)
      clear h5 hwith
      go_wp2
      go_ret3
      exact ⟨_, rfl, H5.out⟩
    · rw [hv]
      rw [ho] at HOF
      rw [hf] at HFR
      clear hv ho hf h16
      go_enter Try.func13, Try.ntmps13
      go_wp2_with fail
      refine hright.mono ?_
      rintro e w2 ⟨rfl, h2⟩
      have H2 := Lib.hid h2
      have hof := HOF.out w2 h2
      clear h2 hright HOF
      go_wp2_with fail
      refine hof.mono ?_
      rintro e w3 ⟨rfl, h3⟩
      have H3 := Lib.hid (H2.out.trans h3)
      have hfr := HFR.out w3 H3.out
      clear h3 hof H2 HFR
      go_wp2_with fail
      refine hfr.mono ?_
      rintro e w4 ⟨rfl, h4⟩
      have H4 := Lib.hid (H3.out.trans h4)
      clear h4 hfr H3 HROWS HC
      go_wp2
      go_ret3
      exact ⟨_, rfl, OwnR.nil H4.out⟩

set_option maxHeartbeats 2000000 in
theorem Release_ok (L : List RowT) (s : Option Addr) (cap : Nat) (i : Int) (w : World) (hm : L.length ≤ 9223372036854775807) (hc : Sl w s (rowsC L)) (hwf : wfR L) :
    Calls Try.prog 15 #[.slice s L.length cap, .int .i64 i] w fun e w' => ∃ v, e = .returned (.tuple #[v, .int .i64 (relR L i).2]) ∧ OwnR 37 w (relR L i).1 v w' := by
  have hright := Right_ok L s cap w hc hwf hm
  rcases rel_cases L i with ⟨hno, hv⟩ | ⟨k, rfl, hk, hr, hx⟩
  · rw [hv]
    cases hR : rightB L
    · rw [hR] at hright
      clear hc hwf hv hno hR
      generalize L.length = n at *
      go_enter Try.func15, Try.ntmps15
      go_wp2_with fail
      refine hright.mono ?_
      rintro e w2 ⟨rfl, h2⟩
      have H2 := Lib.hid h2
      clear h2 hright
      go_wp2
      go_ret2
      exact ⟨_, rfl, OwnR.nil H2.out⟩
    · rw [hR] at hright
      have hno : i < 0 ∨ (L.length : Int) ≤ i := by
        rcases hno with h | h
        · rw [hR] at h; cases h
        · exact h
      clear hc hwf hv hR
      generalize L.length = n at *
      by_cases h0 : i < 0
      · clear hno
        go_enter Try.func15, Try.ntmps15
        go_wp2_with fail
        refine hright.mono ?_
        rintro e w2 ⟨rfl, h2⟩
        have H2 := Lib.hid h2
        clear h2 hright
        go_wp2
        go_ret2
        exact ⟨_, rfl, OwnR.nil H2.out⟩
      · have h1 : (n : Int) ≤ i := by omega
        clear hno
        go_enter Try.func15, Try.ntmps15
        go_wp2_with fail
        refine hright.mono ?_
        rintro e w2 ⟨rfl, h2⟩
        have H2 := Lib.hid h2
        clear h2 hright
        go_wp2
        go_ret2
        exact ⟨_, rfl, OwnR.nil H2.out⟩
  · have hok := (right_iff L).1 hr
    have h16 := hok.1
    obtain ⟨b, off, rfl, hrows⟩ := rows_at hc (by omega)
    have hrows : RowsAt b off L w := hrows
    have HROWS := Lib.hid hrows
    have HC := Lib.hid hc
    rw [hr] at hright
    have H16 := Lib.hid h16
    rw [h16] at hright ⊢
    have HK := Lib.hid hk
    have hk16 : ¬ (16 : Int) ≤ k := by omega
    have hk17 : (k : Int) < 16 := by omega
    have hk0 : ¬ (k : Int) < 0 := by omega
    obtain ⟨x, hx'⟩ : ∃ x, x = (rg L k).1 := ⟨_, rfl⟩
    obtain ⟨y, hy'⟩ : ∃ y, y = (rg L k).2 := ⟨_, rfl⟩
    have HEQ := Lib.hid (show rg L k = (x, y) from Prod.ext hx'.symm hy'.symm)
    rw [← hy', ← hx'] at hx
    clear hm hc hwf hr hok hrows hx' hy' hk h16
    rcases hx with ⟨h0, hv⟩ | ⟨h1, hv⟩ | ⟨h1, h2', hv⟩
    · rw [hv]
      subst h0
      clear hv
      go_enter Try.func15, Try.ntmps15
      go_wp2_with fail
      refine hright.mono ?_
      rintro e w2 ⟨rfl, h2⟩
      have H2 := Lib.hid h2
      obtain ⟨c0, c1⟩ := HROWS.out.ext H2.out k HK.out
      rw [HEQ.out] at c0 c1
      clear h2 hright
      go_wp2
      go_ret2
      exact ⟨_, rfl, OwnR.nil H2.out⟩
    · rw [hv]
      subst h1
      clear hv
      go_enter Try.func15, Try.ntmps15
      go_wp2_with fail
      refine hright.mono ?_
      rintro e w2 ⟨rfl, h2⟩
      have H2 := Lib.hid h2
      obtain ⟨c0, c1⟩ := HROWS.out.ext H2.out k HK.out
      rw [HEQ.out] at c0 c1
      have hwith := with_pos L k 0 0 b off cap w2 H16.out (by omega) (HC.out.ext H2.out)
      rw [H16.out] at hwith
      clear h2 hright HROWS HC
      go_wp2_with fail
      refine hwith.mono ?_
      rintro e w4 ⟨v, rfl, h4⟩
      have H4 := Lib.hid (OwnR.up H2.out h4)
      clear h4 hwith
      go_wp2
      go_ret2
      exact ⟨_, rfl, H4.out⟩
    · rw [hv]
      have hn0 : ¬ y = 0 := by omega
      have hn1 : ¬ y = 1 := by omega
      have hsub : IntKind.i64.wrap (y - 1) = y - 1 := IntWalk.i64_in _ (by omega)
      clear hv
      go_enter Try.func15, Try.ntmps15
      go_wp2_with fail
      refine hright.mono ?_
      rintro e w2 ⟨rfl, h2⟩
      have H2 := Lib.hid h2
      obtain ⟨c0, c1⟩ := HROWS.out.ext H2.out k HK.out
      rw [HEQ.out] at c0 c1
      have HW := Lib.hid (fun (v : World) (hv : Ext w2 v ∧ v.cell? ⟨b, off + k * 2, none⟩ = some (.int .u16 x) ∧ v.cell? ⟨b, off + k * 2 + 1, none⟩ = some (.int .i64 y)) => H16.out ▸ with_pos L k x (y - 1) b off cap v H16.out (by omega) (HC.out.ext (H2.out.trans hv.1)))
      have HS0 := Lib.hid (show Ext w2 w2 ∧ w2.cell? ⟨b, off + k * 2, none⟩ = some (.int .u16 x) ∧ w2.cell? ⟨b, off + k * 2 + 1, none⟩ = some (.int .i64 y) from ⟨Ext.refl _, c0, c1⟩)
      have HK' := Lib.hid (show ∀ v v' : World, (Ext w2 v ∧ v.cell? ⟨b, off + k * 2, none⟩ = some (.int .u16 x) ∧ v.cell? ⟨b, off + k * 2 + 1, none⟩ = some (.int .i64 y)) → Ext v v' → (Ext w2 v' ∧ v'.cell? ⟨b, off + k * 2, none⟩ = some (.int .u16 x) ∧ v'.cell? ⟨b, off + k * 2 + 1, none⟩ = some (.int .i64 y)) from fun v v' h e => ⟨h.1.trans e, e.keep h.2.1, e.keep h.2.2⟩)
      clear h2 hright HROWS HC
      go_wp2
      go_region_held3 (fun v => Ext w2 v ∧ v.cell? ⟨b, off + k * 2, none⟩ = some (.int .u16 x) ∧ v.cell? ⟨b, off + k * 2 + 1, none⟩ = some (.int .i64 y)) (first | exact HS0.out | exact HK'.out _ _ HS0.out ((Ext.refl _).drew) | exact HK'.out _ _ HS0.out (by assumption) | exact HK'.out _ _ (by assumption) (by assumption)) (
        (go_at_call 28; refine (HW.out _ (by first | exact HS0.out | exact HK'.out _ _ HS0.out ((Ext.refl _).drew) | assumption)).mono ?_; rintro e w4 ⟨v, rfl, h4⟩; have h5 := (h4 : OwnR _ _ _ _ _).choose_spec.choose_spec.2.2))
      rename_i hH
      have H4 := Lib.hid (OwnR.up (Ext.drew H2.out) h4)
      clear h4 h5 hH HS0 HK' HW
      go_wp2
      go_ret2
      exact ⟨_, rfl, H4.out⟩
end Go.Proofs.Ytiknmifbhhfblaa.Intern
