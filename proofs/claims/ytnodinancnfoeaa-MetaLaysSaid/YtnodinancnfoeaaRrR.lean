/- The reference's Right. -/
import Derived.Test.YtnodinancnfoeaaRows
import Derived.Test.YtnodinancnfoeaaRwP
import Derived.OwnWalk
import Derived.BigQuiet
import Derived.Deep.QuietTactic
import Derived.Deep.RegionHeld3
import Derived.WalkSpells
import Derived.IntWalk
import Derived.Lib.Hide
namespace Go.Proofs.Ytnodinancnfoeaa.Intern
open Go.RowKit Words Mem Plain Ops
set_option linter.ambiguousOpen false
set_option linter.unusedVariables false
set_option linter.unusedSimpArgs false

set_option maxRecDepth 100000 in
set_option maxHeartbeats 500000 in
theorem rRight_pos (L : List RowT) (b off cap : Nat) (w : World) (h16 : L.length = 16)
    (hc : ∀ k, k < L.length → w.cell? ⟨b, off + k * 2, none⟩ = some (.int .u16 (rg L k).1) ∧ w.cell? ⟨b, off + k * 2 + 1, none⟩ = some (.int .i64 (rg L k).2)) (hwf : wfR L) :
    Calls Try.prog 35 #[.slice (some ⟨b, off, none⟩) L.length cap] w fun e w' => e = .returned (.bool (rightB L)) ∧ Ext w w' := by
  have HC := Lib.hid hc
  have HWF := Lib.hid hwf
  have HL := Lib.hid h16
  rw [h16]
  clear hc hwf h16
  go_enter Try.func35, Try.ntmps35
  go_wp2
  go_loopw [3] (fun v wr => ∃ k : Nat, k ≤ 16 ∧ v = .int .i64 k ∧ (∀ j, j < k → goodAt L j) ∧ Ext w wr) (fun v _ => 16 - (intOf v).toNat)
  case atStart => exact ⟨0, by omega, rfl, fun j hj => absurd hj (by omega), Ext.refl _⟩
  case round =>
    obtain ⟨k, hk, rfl, hgood, hX⟩ := hrel
    by_cases hlt : k < 16
    · have hkL : k < L.length := by rw [HL.out]; exact hlt
      obtain ⟨a0, a1⟩ := HC.out k hkL
      have c0 := hX.keep a0
      have c1 := hX.keep a1
      obtain ⟨⟨p0, p1⟩, q0, q1⟩ := HWF.out.at hkL
      obtain ⟨x, hx⟩ : ∃ x, x = (rg L k).1 := ⟨_, rfl⟩
      obtain ⟨y, hy⟩ : ∃ y, y = (rg L k).2 := ⟨_, rfl⟩
      have HG := Lib.hid hgood
      have HX := Lib.hid hX
      have HXY := Lib.hid (And.intro hx hy)
      rw [← hx] at c0 p0 p1
      rw [← hy] at c1 q0 q1
      clear hgood hX a0 a1 hx hy
      by_cases hbad : y < 0 ∨ y > 65535 ∨ (y = 0 ∧ ¬ x = 0)
      · have hv : rightB L = false := right_no hkL (fun hg => by
          obtain ⟨g0, g1, g2, _⟩ := hg
          rw [← HXY.out.2] at g0 g1 g2
          rw [← HXY.out.1] at g2
          omega)
        have HV := Lib.hid hv; clear hv
        by_cases h1 : y < 0
        · go_wp2
          go_ret
          exact ⟨by rw [HV.out]; rfl, HX.out⟩
        · by_cases h2 : y > 65535
          · go_wp2
            go_ret
            exact ⟨by rw [HV.out]; rfl, HX.out⟩
          · obtain ⟨rfl, hx0⟩ : y = 0 ∧ ¬ x = 0 := by omega
            clear h1 h2 hbad
            go_wp2
            go_ret
            exact ⟨by rw [HV.out]; rfl, HX.out⟩
      · have h1 : ¬ y < 0 := by omega
        have h2 : ¬ y > 65535 := by omega
        have h3 : ¬ y = 0 ∨ x = 0 := by omega
        have HB := Lib.hid hbad
        clear hbad
        have key : ∀ (G : Prop) , (¬ y = 0 → G) → (y = 0 ∧ x = 0 → G) → G := fun G h h' => by
          by_cases e : y = 0
          · exact h' ⟨e, by omega⟩
          · exact h e
        have hk16 : (k : Int) < 16 := by omega
        have hk0 : (0 : Int) ≤ k := by omega
        refine key _ ?_ ?_
        · intro h4
          clear h3 key
          go_wp2
          go_loopw [4] (fun v wi => ∃ j : Nat, j ≤ k ∧ v = .int .i64 j ∧ (∀ i, i < j → 0 < y → 0 < (rg L i).2 → (rg L i).1 ≠ x) ∧ Ext w wi) (fun v _ => k - (intOf v).toNat)
          case atStart => exact ⟨0, by omega, rfl, fun i hi => absurd hi (by omega), HX.out⟩
          case round =>
            obtain ⟨j, hj, rfl, hne, hXi⟩ := hrel
            by_cases hjlt : j < k
            · have hjL : j < L.length := by omega
              obtain ⟨a0, a1⟩ := HC.out j hjL
              have d0 := hXi.keep a0
              have d1 := hXi.keep a1
              obtain ⟨b0, b1⟩ := HC.out k hkL
              rw [← HXY.out.1] at b0
              rw [← HXY.out.2] at b1
              have e0 := hXi.keep b0
              have e1 := hXi.keep b1
              obtain ⟨⟨r0, r1⟩, s0, s1⟩ := HWF.out.at hjL
              obtain ⟨u, hu⟩ : ∃ u, u = (rg L j).1 := ⟨_, rfl⟩
              obtain ⟨v, hv⟩ : ∃ v, v = (rg L j).2 := ⟨_, rfl⟩
              have HUV := Lib.hid (And.intro hu hv)
              rw [← hu] at d0 r0 r1
              rw [← hv] at d1 s0 s1
              have HNE := Lib.hid hne
              have HXI := Lib.hid hXi
              have hj16 : (j : Int) < 16 := by omega
              have hj0 : (0 : Int) ≤ j := by omega
              clear hne hXi a0 a1 b0 b1 hu hv c0 c1
              have hjk : (j : Int) < k := by omega
              have next : ¬ (0 < y ∧ 0 < v ∧ x = u) → (∀ i, i < j + 1 → 0 < y → 0 < (rg L i).2 → (rg L i).1 ≠ x) := fun hn i hi hy0 hi0 => by
                by_cases e : i = j
                · subst e
                  rw [← HUV.out.1]
                  rw [← HUV.out.2] at hi0
                  intro e2
                  exact hn ⟨hy0, hi0, e2.symm⟩
                · exact HNE.out i (by omega) hy0 hi0
              have HNX := Lib.hid next
              clear next
              by_cases hy0 : 0 < y
              · by_cases hv0 : 0 < v
                · by_cases hxu : x = u
                  · subst hxu
                    have hv : rightB L = false := right_no hkL (fun hg => by
                      have := hg.2.2.2 (by rw [← HXY.out.2]; exact hy0) j hjlt (by rw [← HUV.out.2]; exact hv0)
                      rw [← HXY.out.1, ← HUV.out.1] at this
                      exact this rfl)
                    have HV := Lib.hid hv; clear hv
                    go_wp2
                    go_quiet (fail)
                    go_wp2
                    go_ret
                    exact ⟨by rw [HV.out]; rfl, by repeat (first | exact HXI.out | apply Ext.drewN)⟩
                  · have hb : (x == u) = false := by simpa using hxu
                    have HNY := Lib.hid (HNX.out (by omega))
                    clear hxu HNX hjk
                    go_wp2
                    go_quiet (fail)
                    go_wp2
                    go_roundw
                    case rel => exact ⟨j + 1, hjlt, by go_num, HNY.out, by repeat (first | exact HXI.out | apply Ext.drewN)⟩
                    case measure => simp [intOf]; omega
                · have hb : decide (0 < v) = false := by simpa using hv0
                  have HNY := Lib.hid (HNX.out (by omega))
                  clear hv0 HNX hjk
                  go_wp2
                  go_quiet (fail)
                  go_wp2
                  go_roundw
                  case rel => exact ⟨j + 1, hjlt, by go_num, HNY.out, by repeat (first | exact HXI.out | apply Ext.drewN)⟩
                  case measure => simp [intOf]; omega
              · have hb : decide (0 < y) = false := by simpa using hy0
                have HNY := Lib.hid (HNX.out (by omega))
                clear hy0 HNX hjk
                go_wp2
                go_quiet (fail)
                go_wp2
                go_roundw
                case rel => exact ⟨j + 1, hjlt, by go_num, HNY.out, by repeat (first | exact HXI.out | apply Ext.drewN)⟩
                case measure => simp [intOf]; omega
            · have : j = k := by omega
              subst this
              have HNE := Lib.hid hne
              have HXI := Lib.hid hXi
              clear hne hXi
              go_wp2
              go_roundw
              case rel => 
                refine ⟨j + 1, hlt, by go_num, fun i hi => ?_, HXI.out⟩
                by_cases e : i = j
                · subst e
                  refine ⟨?_, ?_, ?_, ?_⟩
                  · rw [← HXY.out.2]; omega
                  · rw [← HXY.out.2]; omega
                  · rw [← HXY.out.2]; exact fun e => absurd e h4
                  · rw [← HXY.out.2, ← HXY.out.1]
                    exact fun y0 i hi hi0 => HNE.out i hi y0 hi0
                · exact HG.out i (by omega)
              case measure => simp [intOf]; omega
        · rintro ⟨rfl, rfl⟩
          clear h3 key
          go_wp2
          go_loopw [4] (fun v wi => ∃ j : Nat, j ≤ k ∧ v = .int .i64 j ∧ Ext w wi) (fun v _ => k - (intOf v).toNat)
          case atStart => exact ⟨0, by omega, rfl, HX.out⟩
          case round =>
            obtain ⟨j, hj, rfl, hXi⟩ := hrel
            by_cases hjlt : j < k
            · obtain ⟨b0, b1⟩ := HC.out k hkL
              rw [← HXY.out.1] at b0
              rw [← HXY.out.2] at b1
              have e0 := hXi.keep b0
              have e1 := hXi.keep b1
              have HXI := Lib.hid hXi
              have hj16 : (j : Int) < 16 := by omega
              have hj0 : (0 : Int) ≤ j := by omega
              have hjk : (j : Int) < k := by omega
              clear hXi b0 b1 c0 c1
              go_wp2
              go_quiet (fail)
              go_wp2
              go_roundw
              case rel => exact ⟨j + 1, hjlt, by go_num, by repeat (first | exact HXI.out | apply Ext.drewN)⟩
              case measure => simp [intOf]; omega
            · have : j = k := by omega
              subst this
              have HXI := Lib.hid hXi
              clear hXi
              go_wp2
              go_roundw
              case rel => 
                refine ⟨j + 1, hlt, by go_num, fun i hi => ?_, HXI.out⟩
                by_cases e : i = j
                · subst e
                  refine ⟨?_, ?_, ?_, ?_⟩
                  · rw [← HXY.out.2]; exact Int.le_refl _
                  · rw [← HXY.out.2]; decide
                  · rw [← HXY.out.1]; exact fun _ => rfl
                  · rw [← HXY.out.2]; exact fun h => absurd h (by decide)
                · exact HG.out i (by omega)
              case measure => simp [intOf]; omega
    · have : k = 16 := by omega
      subst this
      have hv : rightB L = true := right_yes HL.out (by rw [HL.out]; exact hgood)
      have HV := Lib.hid hv
      have HX := Lib.hid hX
      clear hv hX hgood
      go_wp2
      go_ret
      exact ⟨by rw [HV.out]; rfl, HX.out⟩

theorem rRight_ok (L : List RowT) (a : Option Addr) (cap : Nat) (w : World) (hs : Sl w a (rowsC L)) (hwf : wfR L) (hm : L.length ≤ 9223372036854775807) :
    Calls Try.prog 35 #[.slice a L.length cap] w fun e w' => e = .returned (.bool (rightB L)) ∧ Ext w w' := by
  by_cases h : L.length = 16
  · obtain ⟨b, off, rfl, hc⟩ := rows_at hs (by omega)
    exact rRight_pos L b off cap w h hc hwf
  · have hv := right_len h
    have h' : ¬ (L.length : Int) = 16 := by omega
    have HV := Lib.hid hv
    generalize L.length = n at *
    clear hv
    go_enter Try.func35, Try.ntmps35
    go_wp2
    go_ret
    exact ⟨by rw [HV.out]; rfl, Ext.refl _⟩
end Go.Proofs.Ytnodinancnfoeaa.Intern
