/- Commit, on the laws' disk. -/
import Derived.Test.YtfodpphbdbeciaaJnS
import Derived.Test.YtfodpphbdbeciaaJnK
namespace Go.Proofs.Ytfodpphbdbeciaa.Jn
open Go.RowKit Words Mem Plain Ops Agg OwnS Dk
set_option maxRecDepth 100000
set_option linter.ambiguousOpen false
set_option linter.unusedVariables false
set_option linter.unusedSimpArgs false

theorem commit_calm_ok {w0 u : World} {g gs sc gj nn b : Nat} {X : Nat → Prop} {D : Dsk} (hA : AtM w0 g gs sc D X u) (hwf : D.Wf b) (hj : Row u gj 67 (jRow g 12 48 nn)) (hX : X gj) (hc : Calm D nn) (hnn : nn ≤ 100000) (a : Option Addr) (m cap : Nat) (L : List PT) (hL : PatsIn X u a m L) (hm : m ≤ 60) (hcap : m ≤ cap) (hcm : cap ≤ 9223372036854775807) (hb : b ≤ 1000000) :
    Calls Try.prog 15 #[.pointer (some ⟨gj, 0, none⟩), .slice a m cap] u fun e w' => ∃ (D6 : Dsk) (s6 : Nat) (c6 : Int), e = .returned (.int .i64 c6) ∧ s6 = (if c6 = 0 ∧ 0 < m then nn + 1 else nn) ∧ AtM w0 g gs sc D6 X w' ∧ Row w' gj 67 (jRow g 12 48 s6) ∧ Calm D6 s6 ∧ D6.Wf (b + 500) ∧ Same (fun q => X q ∧ q ≠ gj) u w' := by
  have hcc := calm_commit hc (by omega) hwf hL.2.1 (by rw [hL.1]; exact hm)
  rw [hL.1] at hcc
  refine (Commit_ok (b := b) (nk := 47) hA hwf hj hX (by decide) (by decide) (by omega) a m cap L hL (by omega) hcap hcm hb).mono ?_
  rintro e w' ⟨h1, h2, h3, h4⟩
  generalize commitR D 12 (47 + 1 : Nat) nn L = CR at *
  obtain ⟨D6, s6, c6⟩ := CR
  dsimp only at *
  obtain ⟨k1, k2, k3⟩ := hcc
  by_cases h : c6 = 0 ∧ 0 < m
  · rw [if_pos h] at k3
    refine ⟨D6, nn + 1, c6, h1, by rw [if_pos h], h2, ?_, ?_, k2, h4⟩
    · rw [k3] at h3; exact h3
    · rw [k3] at k1; exact k1
  · rw [if_neg h] at k3
    refine ⟨D6, nn, c6, h1, by rw [if_neg h], h2, ?_, ?_, k2, h4⟩
    · rw [k3] at h3; exact h3
    · rw [k3] at k1; exact k1
end Go.Proofs.Ytfodpphbdbeciaa.Jn
