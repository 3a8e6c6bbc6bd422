/- The reference's Release, Same. -/
import Derived.Test.YtiknmifbhhfblaaRefR
namespace Go.Proofs.Ytiknmifbhhfblaa.Intern
open Go.RowKit Words Mem Plain Ops Agg
set_option linter.ambiguousOpen false
set_option linter.unusedVariables false
set_option linter.unusedSimpArgs false

theorem own2_row {w : World} {base n cap : Nat} {t : TypeId} {a : Option Addr} {xs : List Value} (h : w.ownsRow base t 2 (.slice a n cap) n xs) (h0 : 0 < n) : ∃ g, a = some ⟨g, 0, none⟩ ∧ base ≤ g ∧ (∀ j, j < n * 2 → w.cell? ⟨g, j, none⟩ = xs[j]?) ∧ ∀ j, w.frozen? ⟨g, j, none⟩ = false := by
  rcases own2_cases h with ⟨_, e, _⟩ | ⟨g, M, rfl, hg, hr, _, _, _, htk⟩
  · omega
  · refine ⟨g, rfl, hg, fun j hj => ?_, fun j => hr.frozen j⟩
    rw [hr.cell?, ← htk, List.getElem?_take, if_pos hj]

set_option maxHeartbeats 2000000 in
theorem rRelease_ok (L : List RowT) (s : Option Addr) (cap : Nat) (i : Int) (w : World) (hm : L.length ≤ 9223372036854775807) (hc : Sl w s (rowsC L)) (hwf : wfR L) :
    Calls Try.prog 16 #[.slice s L.length cap, .int .i64 i] w fun e w' => ∃ v, e = .returned (.tuple #[v, .int .i64 (relR L i).2]) ∧ OwnR 37 w (relR L i).1 v w' := by
  have hright := rRight_ok L s cap w hc hwf hm
  rcases rel_cases L i with ⟨hno, hv⟩ | ⟨k, rfl, hk, hr, hx⟩
  · rw [hv]
    cases hR : rightB L
    · rw [hR] at hright
      clear hc hwf hv hno hR
      generalize L.length = n at *
      go_enter Try.func16, Try.ntmps16
      go_wp2_with fail
      refine hright.mono ?_
      rintro e w2 ⟨rfl, h2⟩
      have H2 := Lib.hid h2
      clear h2 hright
      go_wp2
      go_ret2
      exact ⟨_, rfl, OwnR.nil H2.out⟩
    · rw [hR] at hright
      have hno : i < 0 ∨ (L.length : Int) ≤ i := by
        rcases hno with h | h
        · rw [hR] at h; cases h
        · exact h
      clear hc hwf hv hR
      generalize L.length = n at *
      by_cases h0 : i < 0
      · clear hno
        go_enter Try.func16, Try.ntmps16
        go_wp2_with fail
        refine hright.mono ?_
        rintro e w2 ⟨rfl, h2⟩
        have H2 := Lib.hid h2
        clear h2 hright
        go_wp2
        go_ret2
        exact ⟨_, rfl, OwnR.nil H2.out⟩
      · have h1 : (n : Int) ≤ i := by omega
        clear hno
        go_enter Try.func16, Try.ntmps16
        go_wp2_with fail
        refine hright.mono ?_
        rintro e w2 ⟨rfl, h2⟩
        have H2 := Lib.hid h2
        clear h2 hright
        go_wp2
        go_ret2
        exact ⟨_, rfl, OwnR.nil H2.out⟩
  · have hok := (right_iff L).1 hr
    have h16 := hok.1
    obtain ⟨b, off, rfl, hrows⟩ := rows_at hc (by omega)
    have hrows : RowsAt b off L w := hrows
    have HROWS := Lib.hid hrows
    have HAP := Lib.hid (fun (w2 : World) (h : Ext w w2) => run_copy_out (P := Try.prog) w2 22 22 37 _ 16 Try.underlying22 infoRowZ rfl cap (m := L.length) (by rw [rowsC_length, Nat.mul_comm]) (hc.ext h) (by simp) (rowsC_one L) (by omega) hm)
    rw [hr] at hright
    obtain ⟨n, hn⟩ : ∃ n, n = L.length := ⟨_, rfl⟩
    have HN := Lib.hid hn
    have hn0 : 0 < n := by omega
    have HL2 := Lib.hid (show n * 2 = (rowsC L).length by rw [rowsC_length, hn, Nat.mul_comm])
    have HK := Lib.hid hk
    rw [← hn] at hright HAP hm hk ⊢
    have hk16 : ¬ (n : Int) ≤ k := by omega
    have hk17 : (k : Int) < n := by omega
    have hk0 : ¬ (k : Int) < 0 := by omega
    have hk1 : (0 : Int) ≤ k := by omega
    obtain ⟨x, hx'⟩ : ∃ x, x = (rg L k).1 := ⟨_, rfl⟩
    obtain ⟨y, hy'⟩ : ∃ y, y = (rg L k).2 := ⟨_, rfl⟩
    have HEQ := Lib.hid (show rg L k = (x, y) from Prod.ext hx'.symm hy'.symm)
    rw [← hy', ← hx'] at hx
    clear hc hwf hr hok hrows hx' hy' h16 hn
    have hLK : ∀ r, (L.set k r).length = n := fun r => by rw [List.length_set, HN.out]
    have HLK := Lib.hid hLK
    have HS1 := Lib.hid (fun z : Int => show (rowsC L).set (k * 2 + 1) (.int .i64 z) = rowsC (L.set k (x, z)) by rw [Nat.mul_comm, rowsC_set1, HEQ.out])
    have HKC := Lib.hid hk
    clear hLK hk
    rcases hx with ⟨h0, hv⟩ | ⟨h1, hv⟩ | ⟨h1, h2', hv⟩
    · rw [hv]
      subst h0
      clear hv
      go_enter Try.func16, Try.ntmps16
      go_wp2_with fail
      refine hright.mono ?_
      rintro e w2 ⟨rfl, h2⟩
      have H2 := Lib.hid h2
      obtain ⟨c0, c1⟩ := HROWS.out.ext H2.out k HK.out
      rw [HEQ.out] at c0 c1
      clear h2 hright
      go_wp2
      go_ret2
      exact ⟨_, rfl, OwnR.nil H2.out⟩
    · rw [hv]
      subst h1
      have hsub : IntKind.i64.wrap ((1 : Int) - 1) = 0 := by decide
      have HSET := Lib.hid (show (rowsC (L.set k (x, 0))).set (k * 2) (.int .u16 0) = rowsC (L.set k (0, 0)) by
        rw [Nat.mul_comm, rowsC_set0, rg_set _ _ _ _ HK.out, if_pos rfl, List.set_set])
      clear hv
      go_enter Try.func16, Try.ntmps16
      go_wp2_with fail
      refine hright.mono ?_
      rintro e w2 ⟨rfl, h2⟩
      have H2 := Lib.hid h2
      obtain ⟨c0, c1⟩ := HROWS.out.ext H2.out k HK.out
      rw [HEQ.out] at c0 c1
      obtain ⟨a', cap', w3, hap, how, hx3⟩ := HAP.out w2 h2
      have H3 := Lib.hid (hx3 w H2.out)
      obtain ⟨g, rfl, hg, hcells, hfro⟩ := own16 how HN.out hn0
      obtain ⟨d0, d1⟩ := hcells k HK.out
      rw [HEQ.out] at d0 d1
      dsimp only at c0 c1 d0 d1
      have f1 := hfro (k * 2 + 1)
      have f0 := hfro (k * 2)
      have how1 := own2_set how (k * 2 + 1) (.int .i64 0)
      have how2 := own2_set how1 (k * 2) (.int .u16 0)
      have HO := Lib.hid (own2_base how2 H2.out.size)
      have HG : w.heap.size ≤ g := Nat.le_trans H2.out.size hg
      have HX := Lib.hid (Ext.setCell (Ext.setCell H3.out (p := ⟨g, k * 2 + 1, none⟩) HG (.int .i64 0)) (p := ⟨g, k * 2, none⟩) HG (.int .u16 0))
      clear h2 hright how hx3 HAP hcells hfro how1 how2 hg HG
      go_wp2_with (at_builtin; refine Guard.wpList_append_want _ rfl _ _ _ _ rfl _ _ rfl rfl _ _ hap ?_)
      go_ret2
      rw [HS1.out, HSET.out] at HO
      refine ⟨_, rfl, some ⟨g, 0, none⟩, cap', by rw [HLK.out]; rfl, ?_, HX.out⟩
      rw [HLK.out]
      exact HO.out
    · rw [hv]
      have hn0' : ¬ y = 0 := by omega
      have hn1' : ¬ y - 1 = 0 := by omega
      have hsub : IntKind.i64.wrap (y - 1) = y - 1 := IntWalk.i64_in _ (by omega)
      clear hv
      go_enter Try.func16, Try.ntmps16
      go_wp2_with fail
      refine hright.mono ?_
      rintro e w2 ⟨rfl, h2⟩
      have H2 := Lib.hid h2
      obtain ⟨c0, c1⟩ := HROWS.out.ext H2.out k HK.out
      rw [HEQ.out] at c0 c1
      obtain ⟨a', cap', w3, hap, how, hx3⟩ := HAP.out w2 h2
      have H3 := Lib.hid (hx3 w H2.out)
      obtain ⟨g, rfl, hg, hcells, hfro⟩ := own16 how HN.out hn0
      obtain ⟨d0, d1⟩ := hcells k HK.out
      rw [HEQ.out] at d0 d1
      dsimp only at c0 c1 d0 d1
      have f1 := hfro (k * 2 + 1)
      have how1 := own2_set how (k * 2 + 1) (.int .i64 (y - 1))
      have HO := Lib.hid (own2_base how1 H2.out.size)
      have HG : w.heap.size ≤ g := Nat.le_trans H2.out.size hg
      have HX := Lib.hid (Ext.setCell H3.out (p := ⟨g, k * 2 + 1, none⟩) HG (.int .i64 (y - 1)))
      clear h2 hright how hx3 HAP hcells hfro how1 hg HG
      go_wp2_with (at_builtin; refine Guard.wpList_append_want _ rfl _ _ _ _ rfl _ _ rfl rfl _ _ hap ?_)
      go_ret2
      rw [HS1.out] at HO
      refine ⟨_, rfl, some ⟨g, 0, none⟩, cap', by rw [HLK.out]; rfl, ?_, HX.out⟩
      rw [HLK.out]
      exact HO.out

/-! Same. -/
theorem eqRow (r s : RowT) (w : World) : (Op.equalIn 10000 37 (.agg #[.int .u16 r.1, .int .i64 r.2]) (.agg #[.int .u16 s.1, .int .i64 s.2])).run Try.prog w = .ok (r.1 == s.1 && r.2 == s.2) w := by
  have hi : ∀ (a b : Int), (Op.equalIn 9999 3 (.int .i64 a) (.int .i64 b)).run Try.prog w = .ok (a == b) w := fun a b => run_equalIn_int w 9998 3 .i64 .i64 a b Try.underlying3
  have hl : ∀ (a b : Int), (Op.equalIn 9999 24 (.int .u16 a) (.int .u16 b)).run Try.prog w = .ok (a == b) w := fun a b => run_equalIn_int w 9998 24 .u16 .u16 a b Try.underlying24
  have ha : (isAgg 3).run Try.prog w = .ok false w := by kernel_rfl
  have hb : (isAgg 24).run Try.prog w = .ok false w := by kernel_rfl
  rw [run_equalIn_agg w 9999 37 _ _ (by kernel_rfl) (by kernel_rfl)]
  simp only [Program.fieldsOf, Try.underlying37]
  simp [Op.eqFields, part, ha, hb, hi, hl]
  by_cases h1 : r.1 = s.1
  case neg => simp [h1]
  by_cases h2 : r.2 = s.2 <;> simp [h1, h2]
theorem neqRow (r s : RowT) (w : World) : (binOp .neq 37 (.agg #[.int .u16 r.1, .int .i64 r.2]) (.agg #[.int .u16 s.1, .int .i64 s.2])).run Try.prog w = .ok (.bool (!(r.1 == s.1 && r.2 == s.2))) w := by
  rw [run_neq_struct, eqRow]; rfl
def sameR (L M : List RowT) : Bool := L == M
end Go.Proofs.Ytiknmifbhhfblaa.Intern
