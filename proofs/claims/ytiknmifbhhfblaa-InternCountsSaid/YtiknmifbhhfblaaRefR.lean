/- The reference's Find, Retain, Release. -/
import Derived.Test.YtiknmifbhhfblaaRetI
import Derived.Test.YtiknmifbhhfblaaRrR
import Derived.Test.YtiknmifbhhfblaaGuard
namespace Go.Proofs.Ytiknmifbhhfblaa.Intern
open Go.RowKit Words Mem Plain Ops Agg
set_option linter.ambiguousOpen false
set_option linter.unusedVariables false
set_option linter.unusedSimpArgs false

theorem rFind_pos (L : List RowT) (b off cap : Nat) (a : Int) (w : World) (h16 : L.length = 16) (hr : rightB L = true) (hc : Sl w (some ⟨b, off, none⟩) (rowsC L)) (hwf : wfR L) (hrows : RowsAt b off L w) :
    Calls Try.prog 12 #[.slice (some ⟨b, off, none⟩) L.length cap, .int .u16 a] w fun e w' => e = .returned (.tuple #[.int .i64 (findR L a).1, .bool (findR L a).2]) ∧ Ext w w' := by
  have HC := Lib.hid hrows
  have HR := Lib.hid (fun (w2 : World) (h : Ext w w2) => hr ▸ rRight_ok L _ cap w2 (hc.ext h) hwf (by omega))
  have H16 := Lib.hid h16
  have HRR := Lib.hid hr
  rw [h16] at HR ⊢
  clear hc hwf hrows hr h16
  go_enter Try.func12, Try.ntmps12
  go_wp2
  go_loopw [6] (fun v wr => ∃ k : Nat, k ≤ 16 ∧ v = .int .i64 k ∧ (∀ j, j < k → isL a (rg L j) = false) ∧ Ext w wr) (fun v _ => 16 - (intOf v).toNat)
  case atStart => exact ⟨0, by omega, rfl, fun j hj => absurd hj (by omega), Ext.refl _⟩
  case round =>
    obtain ⟨k, hk, rfl, hno, hX⟩ := hrel
    by_cases hlt : k < 16
    · have hkL : k < L.length := by rw [H16.out]; exact hlt
      obtain ⟨x, hx⟩ : ∃ x, x = (rg L k).1 := ⟨_, rfl⟩
      obtain ⟨y, hy⟩ : ∃ y, y = (rg L k).2 := ⟨_, rfl⟩
      have HXY := Lib.hid (show rg L k = (x, y) by rw [hx, hy])
      have HX := Lib.hid hX
      have HNO := Lib.hid hno
      have hright := HR.out wr hX
      have hk0 : (0 : Int) ≤ k := by omega
      have hk1 : (k : Int) < 16 := by omega
      clear hno hX hx hy
      go_wp2_with fail
      refine hright.mono ?_
      rintro e w2 ⟨rfl, h2⟩
      have H2 := Lib.hid (HX.out.trans h2)
      obtain ⟨c0, c1⟩ := HC.out.ext H2.out k hkL
      rw [HXY.out] at c0 c1
      dsimp only at c0 c1
      clear h2 hright
      by_cases h0 : 0 < y
      · by_cases h1 : x = a
        · have HV := Lib.hid (show findR L a = ((k : Int), true) by
            have hl : isL a (rg L k) = true := by rw [HXY.out]; simp [isL, h0, h1]
            have : ofI L a = (k : Nat) := idxI_at hkL hl HNO.out
            unfold findR
            rw [this, if_neg (by rw [HRR.out]; simp)])
          go_wp2
          go_ret2
          exact ⟨by rw [HV.out]; rfl, H2.out⟩
        · have HS := Lib.hid (show isL a (rg L k) = false by rw [HXY.out]; simp [isL, h1])
          go_wp2
          go_roundw
          case rel => 
            refine ⟨k + 1, hlt, by go_num, fun j hj => ?_, H2.out⟩
            by_cases e : j = k
            · rw [e]; exact HS.out
            · exact HNO.out j (by omega)
          case measure => simp [intOf]; omega
      · have HS := Lib.hid (show isL a (rg L k) = false by rw [HXY.out]; simp [isL, h0])
        go_wp2
        go_roundw
        case rel => 
          refine ⟨k + 1, hlt, by go_num, fun j hj => ?_, H2.out⟩
          by_cases e : j = k
          · rw [e]; exact HS.out
          · exact HNO.out j (by omega)
        case measure => simp [intOf]; omega
    · have : k = 16 := by omega
      subst this
      have HV := Lib.hid (show findR L a = (0, false) by
        have : ofI L a = -1 := idxI_none (by rw [H16.out]; exact hno)
        unfold findR
        rw [this, if_pos (.inl (by decide))])
      have HX := Lib.hid hX
      clear hno hX
      go_wp2
      go_ret2
      exact ⟨by rw [HV.out]; rfl, HX.out⟩
theorem rFind_ok (L : List RowT) (s : Option Addr) (cap : Nat) (a : Int) (w : World) (hm : L.length ≤ 9223372036854775807) (hc : Sl w s (rowsC L)) (hwf : wfR L) :
    Calls Try.prog 12 #[.slice s L.length cap, .int .u16 a] w fun e w' => e = .returned (.tuple #[.int .i64 (findR L a).1, .bool (findR L a).2]) ∧ Ext w w' := by
  cases hr : rightB L
  · have HV := Lib.hid (show findR L a = (0, false) by unfold findR; rw [if_pos (.inr hr)])
    have hright := rRight_ok L s cap w hc hwf hm
    rw [hr] at hright
    clear hr hwf hc
    by_cases h0 : L.length = 0
    · rw [h0] at hright ⊢
      clear h0 hm
      go_enter Try.func12, Try.ntmps12
      go_wp2
      go_loopw [6] (fun v wr => v = .int .i64 0 ∧ wr = w) (fun v _ => 0)
      case atStart => exact ⟨rfl, rfl⟩
      case round =>
        obtain ⟨rfl, rfl⟩ := hrel
        go_wp2
        go_ret2
        exact ⟨by rw [HV.out]; rfl, Ext.refl _⟩
    · generalize L.length = n at *
      have hn : (0 : Int) < n := by omega
      go_enter Try.func12, Try.ntmps12
      go_wp2
      go_loopw [6] (fun v wr => v = .int .i64 0 ∧ wr = w) (fun v _ => 0)
      case atStart => exact ⟨rfl, rfl⟩
      case round =>
        obtain ⟨rfl, rfl⟩ := hrel
        go_wp2_with fail
        refine hright.mono ?_
        rintro e w2 ⟨rfl, h2⟩
        have H2 := Lib.hid h2
        clear h2 hright
        go_wp2
        go_ret2
        exact ⟨by rw [HV.out]; rfl, H2.out⟩
  · have h16 := ((right_iff L).1 hr).1
    obtain ⟨b, off, rfl, hrows⟩ := rows_at hc (by omega)
    exact rFind_pos L b off cap a w h16 hr hc hwf hrows

theorem OwnR.sl {t : TypeId} {w w' : World} {R : List RowT} {v : Value} (h : OwnR t w R v w') : ∃ a cap, v = .slice a R.length cap ∧ Sl w' a (rowsC R) := by
  obtain ⟨a, cap, e, ho, _⟩ := h
  exact ⟨a, cap, e, own2_sl ho⟩

/-- A copy of rows that has 16 of them, apart from all. -/
theorem own16 {w0 w : World} {a : Option Addr} {n cap : Nat} {t : TypeId} {L : List RowT} (h : w.ownsRow w0.heap.size t 2 (.slice a n cap) n (rowsC L)) (hn : n = L.length) (h0 : 0 < n) : ∃ g, a = some ⟨g, 0, none⟩ ∧ w0.heap.size ≤ g ∧ (∀ k, k < L.length → w.cell? ⟨g, k * 2, none⟩ = some (.int .u16 (rg L k).1) ∧ w.cell? ⟨g, k * 2 + 1, none⟩ = some (.int .i64 (rg L k).2)) ∧ ∀ j, w.frozen? ⟨g, j, none⟩ = false := by
  rcases own2_cases h with ⟨_, e, _⟩ | ⟨g, M, rfl, hg, hr, _⟩
  · omega
  · obtain ⟨b, off, e, hc⟩ := rows_at (own2_sl h) (by omega)
    cases e
    refine ⟨g, rfl, hg, fun k hk => ?_, fun j => hr.frozen j⟩
    have := hc k hk
    simpa using this

set_option maxHeartbeats 2000000 in
theorem rRetain_ok (L : List RowT) (s : Option Addr) (cap : Nat) (a : Int) (w : World) (hm : L.length ≤ 9223372036854775807) (hc : Sl w s (rowsC L)) (hwf : wfR L) :
    Calls Try.prog 14 #[.slice s L.length cap, .int .u16 a] w fun e w' => ∃ v, e = .returned (.tuple #[v, .int .i64 (retR L a).2.1, .int .i64 (retR L a).2.2]) ∧ OwnR 37 w (retR L a).1 v w' := by
  have hright := rRight_ok L s cap w hc hwf hm
  rcases ret_cases L a with ⟨hr, hv⟩ | ⟨hr, hx⟩
  · rw [hr] at hright
    rw [hv]
    clear hm hc hwf hr hv
    generalize L.length = n at *
    go_enter Try.func14, Try.ntmps14
    go_wp2_with fail
    refine hright.mono ?_
    rintro e w2 ⟨rfl, h2⟩
    have H2 := Lib.hid h2
    clear h2 hright
    go_wp2
    go_ret3
    exact ⟨_, rfl, OwnR.nil H2.out⟩
  · have hok := (right_iff L).1 hr
    have h16 := hok.1
    obtain ⟨b, off, rfl, hrows⟩ := rows_at hc (by omega)
    have hrows : RowsAt b off L w := hrows
    have HROWS := Lib.hid hrows
    have HF := Lib.hid (fun (w2 : World) (h : Ext w w2) => rFind_ok L _ cap a w2 hm (hc.ext h) hwf)
    have HAP := Lib.hid (fun (w2 : World) (h : Ext w w2) => run_copy_out (P := Try.prog) w2 22 22 37 _ 16 Try.underlying22 infoRowZ rfl cap (m := L.length) (by rw [rowsC_length, Nat.mul_comm]) (hc.ext h) (by simp) (rowsC_one L) (by omega) hm)
    rw [hr] at hright
    obtain ⟨n, hn⟩ : ∃ n, n = L.length := ⟨_, rfl⟩
    have HN := Lib.hid hn
    have hn0 : 0 < n := by omega
    rw [← hn] at hright HF HAP hm ⊢
    clear hc hwf hr hok hrows
    -- the head, alike in all ways
    rcases hx with ⟨k, hk, ho, hp, hl, he, hf, hv⟩ | ⟨k, hk, ho, hp, hl, he, hf, hv⟩ | ⟨ho, hff, k, hk, hf, h0, hfirst, hv⟩ | ⟨ho, hff, hf, hfirst, hv⟩
    · rw [hv]
      rw [hf] at HF
      have hk16 : (k : Int) < n := by omega
      have hk0 : (0 : Int) ≤ (k : Int) := by omega
      have HK := Lib.hid hk
      have HEQ := Lib.hid (show rg L k = (a, 65535) from Prod.ext hl he)
      clear hn hk h16 hp hl he hv ho hf
      go_enter Try.func14, Try.ntmps14
      go_wp2_with fail
      refine hright.mono ?_
      rintro e w2 ⟨rfl, h2⟩
      have H2 := Lib.hid h2
      obtain ⟨a', cap', w3, hap, how, hx3⟩ := HAP.out w2 h2
      have H3 := Lib.hid (hx3 w H2.out)
      have hfind := HF.out w3 H3.out
      clear h2 hright how hx3 HAP HF
      go_wp2_with (at_builtin; refine Guard.wpList_append_want _ rfl _ _ _ _ rfl _ _ rfl rfl _ _ hap ?_)
      refine hfind.mono ?_
      rintro e w4 ⟨rfl, h4⟩
      have H4 := Lib.hid (H3.out.trans h4)
      obtain ⟨c0, c1⟩ := HROWS.out.ext H4.out k HK.out
      rw [HEQ.out] at c0 c1
      clear h4 hfind hap
      go_wp2
      go_ret3
      exact ⟨_, rfl, OwnR.nil H4.out⟩
    · rw [hv]
      rw [hf] at HF
      have hk16 : (k : Int) < n := by omega
      have hk0 : (0 : Int) ≤ (k : Int) := by omega
      have HK := Lib.hid hk
      obtain ⟨y, hy⟩ : ∃ y, y = (rg L k).2 := ⟨_, rfl⟩
      have HEQ := Lib.hid (show rg L k = (a, y) from Prod.ext hl hy.symm)
      rw [← hy] at hp he ⊢
      have hne : ¬ y = 65535 := by omega
      have hadd : IntKind.i64.wrap (y + 1) = y + 1 := IntWalk.i64_in _ (by omega)
      have HSET := Lib.hid (show (rowsC L).set (k * 2 + 1) (.int .i64 (y + 1)) = rowsC (L.set k (a, y + 1)) by rw [Nat.mul_comm, rowsC_set1, HEQ.out])
      clear hn hk h16 hl hv ho hf hy
      go_enter Try.func14, Try.ntmps14
      go_wp2_with fail
      refine hright.mono ?_
      rintro e w2 ⟨rfl, h2⟩
      have H2 := Lib.hid h2
      obtain ⟨a', cap', w3, hap, how, hx3⟩ := HAP.out w2 h2
      have H3 := Lib.hid (hx3 w H2.out)
      have hfind := HF.out w3 H3.out
      obtain ⟨g, rfl, hg, hcells, hfro⟩ := own16 how HN.out hn0
      have HOW := Lib.hid how
      have HG := Lib.hid (Nat.le_trans H2.out.size hg)
      clear h2 hright how hx3 HAP HF hcells hfro
      go_wp2_with (at_builtin; refine Guard.wpList_append_want _ rfl _ _ _ _ rfl _ _ rfl rfl _ _ hap ?_)
      refine hfind.mono ?_
      rintro e w4 ⟨rfl, h4⟩
      have H4 := Lib.hid (H3.out.trans h4)
      obtain ⟨c0, c1⟩ := HROWS.out.ext H4.out k HK.out
      rw [HEQ.out] at c0 c1
      have how4 := own2_ext HOW.out h4
      obtain ⟨g', e', _, hcells, hfro⟩ := own16 how4 HN.out hn0
      cases e'
      obtain ⟨d0, d1⟩ := hcells k HK.out
      rw [HEQ.out] at d0 d1
      have f1 := hfro (k * 2 + 1)
      have HO := Lib.hid (own2_base (own2_set how4 (k * 2 + 1) (.int .i64 (y + 1))) H2.out.size)
      have HX := Lib.hid (Ext.setCell H4.out (p := ⟨g, k * 2 + 1, none⟩) HG.out (.int .i64 (y + 1)))
      clear h4 hfind hap hcells hfro how4 hg
      have HLN := Lib.hid (show (L.set k (a, y + 1)).length = n by rw [List.length_set, HN.out])
      go_wp2
      go_ret3
      rw [HSET.out] at HO
      refine ⟨_, rfl, some ⟨g, 0, none⟩, cap', by rw [HLN.out]; rfl, ?_, HX.out⟩
      rw [HLN.out]
      exact HO.out
    · rw [hv]
      rw [hff] at HF
      have hk16 : (k : Int) < n := by omega
      have hk0 : (0 : Int) ≤ (k : Int) := by omega
      have HK := Lib.hid hk
      obtain ⟨x, hx⟩ : ∃ x, x = (rg L k).1 := ⟨_, rfl⟩
      have HEQ := Lib.hid (show rg L k = (x, 0) from Prod.ext hx.symm h0)
      have HSET := Lib.hid (rowsC_set L k a 1)
      have HFI := Lib.hid hfirst
      have HLN := Lib.hid (show (L.set k (a, 1)).length = n by rw [List.length_set, ← hn])
      have hnm : n ≤ 9223372036854775807 := hm
      clear hn hk h16 hv ho hf hff h0 hx hfirst
      go_enter Try.func14, Try.ntmps14
      go_wp2_with fail
      refine hright.mono ?_
      rintro e w2 ⟨rfl, h2⟩
      have H2 := Lib.hid h2
      obtain ⟨a', cap', w3, hap, how, hx3⟩ := HAP.out w2 h2
      have H3 := Lib.hid (hx3 w H2.out)
      have hfind := HF.out w3 H3.out
      obtain ⟨g, rfl, hg, hcells, hfro⟩ := own16 how HN.out hn0
      have HOW := Lib.hid how
      have HG := Lib.hid (Nat.le_trans H2.out.size hg)
      clear h2 hright how hx3 HAP HF hcells hfro
      go_wp2_with (at_builtin; refine Guard.wpList_append_want _ rfl _ _ _ _ rfl _ _ rfl rfl _ _ hap ?_)
      refine hfind.mono ?_
      rintro e w4 ⟨rfl, h4⟩
      have H4 := Lib.hid (H3.out.trans h4)
      have how4 := own2_ext HOW.out h4
      have HOW4 := Lib.hid (own2_base how4 H2.out.size)
      clear h4 hfind how4 hg HOW hap
      go_wp2
      go_loopw [10] (fun v wr => ∃ j : Nat, j ≤ k ∧ v = .int .i64 j ∧ wr = w4) (fun v _ => n - (intOf v).toNat)
      case atStart => exact ⟨0, by omega, rfl, rfl⟩
      case round =>
        obtain ⟨j, hj, rfl, rfl⟩ := hrel
        have hj0 : (0 : Int) ≤ j := by omega
        have hj1 : (j : Int) < n := by omega
        by_cases hlt : j < k
        · obtain ⟨c0, c1⟩ := HROWS.out.ext H4.out j (Nat.lt_trans hlt HK.out)
          have hne := HFI.out j hlt
          obtain ⟨y, hy⟩ : ∃ y, y = (rg L j).2 := ⟨_, rfl⟩
          rw [← hy] at c1 hne
          clear hy
          go_wp2
          go_roundw
          case rel => exact ⟨j + 1, hlt, by go_num, trivial⟩
          case measure => simp [intOf]; omega
        · have : j = k := by omega
          subst this
          obtain ⟨c0, c1⟩ := HROWS.out.ext H4.out j HK.out
          rw [HEQ.out] at c0 c1
          obtain ⟨g', e', _, hcells, hfro⟩ := own16 HOW4.out HN.out hn0
          cases e'
          rcases own2_cases HOW4.out with ⟨_, e, _⟩ | ⟨g', M, e, hb, hr, hle, hmm, hl, htk⟩
          · omega
          · cases e
            have ht := there_row hr (j * 2) (by have := HK.out; have := HN.out; omega)
            have HR := Lib.hid (Row.setCells2 hr (j * 2) (.int .u16 a) (.int .i64 1))
            have HX := Lib.hid (Ext.setCells2 H4.out HG.out (j * 2) (.int .u16 a) (.int .i64 1))
            have HT := Lib.hid ht
            have HLE := Lib.hid (And.intro hb (And.intro hle (And.intro hmm (And.intro hl htk))))
            clear hcells hfro hr ht hb hle hmm hl htk
            go_wp2_with (refine wpList_store_mid rfl 37 _ _ rfl g (j * 2) #[.int .u16 a, .int .i64 1] rfl rfl HT.out infoRow (oneRow a 1) ?_)
            go_ret3
            obtain ⟨hb, hle, hmm, hl, htk⟩ := HLE.out
            refine ⟨_, rfl, _, _, by rw [HLN.out]; rfl, ?_, HX.out⟩
            rw [HLN.out, ← HSET.out]
            refine ⟨by rw [List.length_set, List.length_set, rowsC_length, ← HN.out, Nat.mul_comm], .inr ⟨g, _, _, rfl, hb, HR.out, hle, hmm, by simpa using hl, ?_⟩⟩
            rw [← htk]
            simp [List.take_set]
    · rw [hv]
      rw [hff] at HF
      have HFI := Lib.hid hfirst
      have hnm : n ≤ 9223372036854775807 := hm
      clear hn h16 hv ho hf hff hfirst
      go_enter Try.func14, Try.ntmps14
      go_wp2_with fail
      refine hright.mono ?_
      rintro e w2 ⟨rfl, h2⟩
      have H2 := Lib.hid h2
      obtain ⟨a', cap', w3, hap, how, hx3⟩ := HAP.out w2 h2
      have H3 := Lib.hid (hx3 w H2.out)
      have hfind := HF.out w3 H3.out
      clear h2 hright how hx3 HAP HF
      go_wp2_with (at_builtin; refine Guard.wpList_append_want _ rfl _ _ _ _ rfl _ _ rfl rfl _ _ hap ?_)
      refine hfind.mono ?_
      rintro e w4 ⟨rfl, h4⟩
      have H4 := Lib.hid (H3.out.trans h4)
      clear h4 hfind hap
      go_wp2
      go_loopw [10] (fun v wr => ∃ j : Nat, j ≤ n ∧ v = .int .i64 j ∧ wr = w4) (fun v _ => n - (intOf v).toNat)
      case atStart => exact ⟨0, by omega, rfl, rfl⟩
      case round =>
        obtain ⟨j, hj, rfl, rfl⟩ := hrel
        have hj0 : (0 : Int) ≤ j := by omega
        by_cases hlt : j < n
        · have hj1 : (j : Int) < n := by omega
          have hjL : j < L.length := by rw [← HN.out]; exact hlt
          obtain ⟨c0, c1⟩ := HROWS.out.ext H4.out j hjL
          have hne := HFI.out j hjL
          obtain ⟨y, hy⟩ : ∃ y, y = (rg L j).2 := ⟨_, rfl⟩
          rw [← hy] at c1 hne
          clear hy
          go_wp2
          go_roundw
          case rel => exact ⟨j + 1, hlt, by go_num, trivial⟩
          case measure => simp [intOf]; omega
        · have : j = n := by omega
          subst this
          go_wp2
          go_ret3
          exact ⟨_, rfl, OwnR.nil H4.out⟩
end Go.Proofs.Ytiknmifbhhfblaa.Intern
