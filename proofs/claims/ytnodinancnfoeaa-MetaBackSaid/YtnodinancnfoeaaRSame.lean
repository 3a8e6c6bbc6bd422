/- The reference's Same; few. -/
import Derived.Test.YtnodinancnfoeaaRwLay
import Derived.Deep.RegionHeld3
import Derived.Laws.StructEq
namespace Go.Proofs.Ytnodinancnfoeaa.Intern
open Go.RowKit Words Mem Plain Ops Agg
set_option linter.ambiguousOpen false
set_option linter.unusedVariables false
set_option linter.unusedSimpArgs false

theorem eqRow (r s : RowT) (w : World) : (Op.equalIn 10000 45 (.agg #[.int .u16 r.1, .int .i64 r.2]) (.agg #[.int .u16 s.1, .int .i64 s.2])).run Try.prog w = .ok (r.1 == s.1 && r.2 == s.2) w := by
  have hi : ∀ (a b : Int), (Op.equalIn 9999 3 (.int .i64 a) (.int .i64 b)).run Try.prog w = .ok (a == b) w := fun a b => run_equalIn_int w 9998 3 .i64 .i64 a b Try.underlying3
  have hl : ∀ (a b : Int), (Op.equalIn 9999 43 (.int .u16 a) (.int .u16 b)).run Try.prog w = .ok (a == b) w := fun a b => run_equalIn_int w 9998 43 .u16 .u16 a b Try.underlying43
  have ha : (isAgg 3).run Try.prog w = .ok false w := by kernel_rfl
  have hb : (isAgg 43).run Try.prog w = .ok false w := by kernel_rfl
  rw [run_equalIn_agg w 9999 45 _ _ (by kernel_rfl) (by kernel_rfl)]
  simp only [Program.fieldsOf, Try.underlying45]
  simp [Op.eqFields, part, ha, hb, hi, hl]
  by_cases h1 : r.1 = s.1
  case neg => simp [h1]
  by_cases h2 : r.2 = s.2 <;> simp [h1, h2]
theorem neqRow (r s : RowT) (w : World) : (binOp .neq 45 (.agg #[.int .u16 r.1, .int .i64 r.2]) (.agg #[.int .u16 s.1, .int .i64 s.2])).run Try.prog w = .ok (.bool (!(r.1 == s.1 && r.2 == s.2))) w := by
  rw [run_neq_struct, eqRow]; rfl
def sameR (L M : List RowT) : Bool := L == M
theorem sameR_no {L M : List RowT} {k : Nat} (h : rg L k ≠ rg M k) : sameR L M = false := by
  cases e : sameR L M
  · rfl
  · have : L = M := by simpa [sameR] using e
    rw [this] at h
    exact absurd rfl h
theorem sameR_len {L M : List RowT} (h : L.length ≠ M.length) : sameR L M = false := by
  cases e : sameR L M
  · rfl
  · have : L = M := by simpa [sameR] using e
    rw [this] at h
    exact absurd rfl h
theorem sameR_yes {L M : List RowT} (h : L.length = M.length) (hk : ∀ k, k < L.length → rg L k = rg M k) : sameR L M = true := by
  rw [rg_ext h hk]; simp [sameR]

set_option maxHeartbeats 1000000 in
theorem Same_pos (L M : List RowT) (b1 o1 b2 o2 c1 c2 : Nat) (w : World) (hm : L.length ≤ 9223372036854775807) (hl : L.length = M.length) (h1 : RowsAt b1 o1 L w) (h2 : RowsAt b2 o2 M w) :
    Calls Try.prog 31 #[.slice (some ⟨b1, o1, none⟩) L.length c1, .slice (some ⟨b2, o2, none⟩) M.length c2] w fun e w' => e = .returned (.bool (sameR L M)) ∧ Ext w w' := by
  have H1 := Lib.hid h1
  have H2 := Lib.hid h2
  obtain ⟨n, hn⟩ : ∃ n, n = L.length := ⟨_, rfl⟩
  have HN := Lib.hid hn
  have HM := Lib.hid (hn.trans hl)
  rw [← hl, ← hn]
  rw [← hn] at hm
  have hnq : ∀ (r s : RowT) (v : World), (binOp .neq 45 (.agg #[.int .u16 r.1, .int .i64 r.2]) (.agg #[.int .u16 s.1, .int .i64 s.2])).run Try.prog v = .ok (.bool (!(r.1 == s.1 && r.2 == s.2))) v := neqRow
  have HNQ := Lib.hid hnq
  clear h1 h2 hl hn hnq
  go_enter Try.func31, Try.ntmps31
  go_wp2
  go_loopw [5] (fun v wr => ∃ k : Nat, k ≤ n ∧ v = .int .i64 k ∧ (∀ j, j < k → rg L j = rg M j) ∧ Ext w wr) (fun v _ => n - (intOf v).toNat)
  case atStart => exact ⟨0, by omega, rfl, fun j hj => absurd hj (by omega), Ext.refl _⟩
  case round =>
    obtain ⟨k, hk, rfl, heq, hX⟩ := hrel
    by_cases hlt : k < n
    · have hkL : k < L.length := by rw [← HN.out]; exact hlt
      have hkM : k < M.length := by rw [← HM.out]; exact hlt
      obtain ⟨c0, c1⟩ := H1.out.ext hX k hkL
      obtain ⟨d0, d1⟩ := H2.out.ext hX k hkM
      obtain ⟨x, hx⟩ : ∃ x, x = (rg L k).1 := ⟨_, rfl⟩
      obtain ⟨y, hy⟩ : ∃ y, y = (rg L k).2 := ⟨_, rfl⟩
      obtain ⟨u, hu⟩ : ∃ x, x = (rg M k).1 := ⟨_, rfl⟩
      obtain ⟨v, hv⟩ : ∃ y, y = (rg M k).2 := ⟨_, rfl⟩
      have HE1 := Lib.hid (show rg L k = (x, y) by rw [hx, hy])
      have HE2 := Lib.hid (show rg M k = (u, v) by rw [hu, hv])
      rw [← hx] at c0
      rw [← hy] at c1
      rw [← hu] at d0
      rw [← hv] at d1
      have HX := Lib.hid hX
      have HEQ := Lib.hid heq
      have hk0 : (0 : Int) ≤ k := by omega
      have hk1 : (k : Int) < n := by omega
      clear heq hX hx hy hu hv
      have hnq := fun w' => HNQ.out (x, y) (u, v) w'
      dsimp only at hnq
      cases hb : (x == u && y == v)
      · rw [hb] at hnq
        have HV := Lib.hid (show sameR L M = false from sameR_no (k := k) (by
          rw [HE1.out, HE2.out]
          intro e
          cases e
          simp at hb))
        clear hb
        go_wp2
        go_quiet (fail)
        go_wp2
        go_ret
        exact ⟨by rw [HV.out]; rfl, by repeat (first | exact HX.out | apply Ext.drewN)⟩
      · rw [hb] at hnq
        have HE := Lib.hid (show rg L k = rg M k by
          rw [HE1.out, HE2.out]
          have : x = u ∧ y = v := by simpa using hb
          rw [this.1, this.2])
        clear hb
        go_wp2
        go_quiet (fail)
        go_wp2
        go_roundw
        case rel =>
          refine ⟨k + 1, hlt, by go_num, fun j hj => ?_, by repeat (first | exact HX.out | apply Ext.drewN)⟩
          by_cases e : j = k
          · rw [e]; exact HE.out
          · exact HEQ.out j (by omega)
        case measure => simp [intOf]; omega
    · have : k = n := by omega
      subst this
      have HV := Lib.hid (sameR_yes (HN.out.symm.trans HM.out) (by rw [← HN.out]; exact heq))
      have HX := Lib.hid hX
      clear heq hX
      go_wp2
      go_ret
      exact ⟨by rw [HV.out]; rfl, HX.out⟩
theorem Same_ok (L M : List RowT) (a b : Option Addr) (c1 c2 : Nat) (w : World) (hm : L.length ≤ 9223372036854775807) (h1 : Sl w a (rowsC L)) (h2 : Sl w b (rowsC M)) :
    Calls Try.prog 31 #[.slice a L.length c1, .slice b M.length c2] w fun e w' => e = .returned (.bool (sameR L M)) ∧ Ext w w' := by
  by_cases hl : L.length = M.length
  · by_cases h0 : 0 < L.length
    · obtain ⟨b1, o1, rfl, g1⟩ := rows_at h1 h0
      obtain ⟨b2, o2, rfl, g2⟩ := rows_at h2 (by omega)
      exact Same_pos L M b1 o1 b2 o2 c1 c2 w hm hl g1 g2
    · have e1 : L = [] := List.eq_nil_of_length_eq_zero (by omega)
      have e2 : M = [] := List.eq_nil_of_length_eq_zero (by omega)
      subst e1 e2
      have HV := Lib.hid (show sameR [] [] = true from rfl)
      rw [show ([] : List RowT).length = 0 from rfl]
      clear hl h0 h1 h2 hm
      go_enter Try.func31, Try.ntmps31
      go_wp2
      go_loopw [5] (fun v wr => v = .int .i64 0 ∧ wr = w) (fun v _ => 0)
      case atStart => exact ⟨rfl, rfl⟩
      case round =>
        obtain ⟨rfl, rfl⟩ := hrel
        go_wp2
        go_ret
        exact ⟨by rw [HV.out]; rfl, Ext.refl _⟩
  · have HV := Lib.hid (sameR_len hl)
    have hne : ¬ ((L.length : Int) = (M.length : Int)) := by omega
    clear h1 h2
    generalize L.length = n at *
    generalize M.length = m at *
    go_enter Try.func31, Try.ntmps31
    go_wp2
    go_ret
    exact ⟨by rw [HV.out]; rfl, Ext.refl _⟩
end Go.Proofs.Ytnodinancnfoeaa.Intern
