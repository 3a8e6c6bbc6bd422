/- moatlaw07's few. -/
import Derived.Test.YtfodpphbdbeciaaJnF
namespace Go.Proofs.Ytfodpphbdbeciaa.Jn
open Go.RowKit Words Mem Plain Ops Agg OwnS Dk
open Go.Joins Go.ChangeShapes Go.WideShapes Go.Deep
set_option maxRecDepth 100000
set_option linter.ambiguousOpen false
set_option linter.unusedVariables false
set_option linter.unusedSimpArgs false

set_option maxHeartbeats 4000000 in
theorem few_ok (a : Option Addr) (n cap : Nat) (L : List ActT) (w : World) (hn : n ≤ cap) (hm : cap ≤ 9223372036854775807) (hs : ActsIn w a n L) :
    Calls Try.prog 17 #[.slice a n cap] w fun e w' => w = w' ∧ ∃ m : Nat, e = .returned (.slice a m cap) ∧ m ≤ n ∧ m ≤ 40 ∧ ∀ i (h : i < L.length), i < m → L[i].ln ≤ 60 := by
  by_cases h0 : 0 < n
  · obtain ⟨b, off, rfl, hk⟩ := hs.2 h0
    have HK := Lib.hid hk
    have HL := Lib.hid hs.1
    clear hk hs
    go_enter Try.func17, Try.ntmps17
    go_wp2
    go_loopw [6] (fun v wr => ∃ k : Nat, k ≤ n ∧ k ≤ 40 ∧ v = .int .i64 k ∧ w = wr ∧ ∀ i (h : i < L.length), i < k → L[i].ln ≤ 60) (fun v _ => n - (intOf v).toNat)
    case atStart => exact ⟨0, by omega, by omega, rfl, rfl, fun i _ hi => absurd hi (by omega)⟩
    case round =>
      obtain ⟨k, hkn, hk40, rfl, rfl, hfew⟩ := hrel
      have HF := Lib.hid hfew
      clear hfew
      by_cases hlt : k < n
      · have hkL : k < L.length := by rw [HL.out]; exact hlt
        obtain ⟨hok, hc⟩ := HK.out k hkL
        have HNX := Lib.hid (show L[k].ln ≤ 60 → ∀ i (h : i < L.length), i < k + 1 → L[i].ln ≤ 60 from fun h60 i h hi => by
          by_cases e : i < k
          · exact HF.out i h e
          · have : i = k := by omega
            subst this; exact h60)
        have c1 := hc 1 (by decide)
        have c4 := hc 4 (by decide)
        have hln := hok.ln
        have hbl := hok.bl
        generalize L[k] = x at *
        obtain ⟨kind, la, ln, lc, pos, c, bp, bl, bc, there, S⟩ := x
        replace c1 : w.cell? ⟨b, off + k * 6 + 1, none⟩ = some (.slice la ln lc) := c1
        replace c4 : w.cell? ⟨b, off + k * 6 + 4, none⟩ = some (.slice bp bl bc) := c4
        dsimp only at hln hbl HNX
        clear hc hok hkL
        by_cases h40 : k = 40
        · subst h40
          go_wp2
          go_ret
          exact ⟨rfl, 40, rfl, by omega, by omega, HF.out⟩
        · have hk2 : ¬ (40 : Int) ≤ k := by omega
          by_cases h60 : 60 < ln
          · have h60' : (60 : Int) < ln := by omega
            go_wp2
            go_ret
            exact ⟨rfl, k, rfl, by omega, by omega, HF.out⟩
          · have h60' : ¬ (60 : Int) < ln := by omega
            have HN2 := Lib.hid (HNX.out (by omega))
            by_cases hb : 200 < bl
            · have hb2 : (200 : Int) < bl := by omega
              go_wp2
              go_ret
              exact ⟨rfl, k, rfl, by omega, by omega, HF.out⟩
            · have hb2 : ¬ (200 : Int) < bl := by omega
              go_wp2
              go_roundw
              case rel => exact ⟨k + 1, by omega, by omega, by go_num, (by first | rfl | trivial), HN2.out⟩
              case measure => simp [intOf]; omega
      · obtain rfl : k = n := by omega
        go_wp2
        go_ret
        exact ⟨rfl, k, rfl, by omega, by omega, HF.out⟩
  · obtain rfl : n = 0 := by omega
    go_enter Try.func17, Try.ntmps17
    go_wp2
    go_loopw [6] (fun v wr => v = .int .i64 0 ∧ w = wr) (fun v _ => 0)
    case atStart => exact ⟨rfl, rfl⟩
    case round =>
      obtain ⟨rfl, rfl⟩ := hrel
      go_wp2
      go_ret
      exact ⟨rfl, 0, rfl, by omega, by omega, fun i _ hi => absurd hi (by omega)⟩
end Go.Proofs.Ytfodpphbdbeciaa.Jn
