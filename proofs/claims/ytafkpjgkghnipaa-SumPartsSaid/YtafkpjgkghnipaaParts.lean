/- The walk of the law SumParts. -/
import Derived.Test.YtafkpjgkghnipaaOfs
import Derived.Test.YtafkpjgkghnipaaGuard
import Derived.OwnWalk
namespace Go.Proofs.Ytafkpjgkghnipaa.Sum
open Go.RowKit Words Mem Plain Ops
open Go.Proofs.Ytafkpjgkghnipaa.Field
set_option linter.ambiguousOpen false
set_option linter.unusedVariables false
set_option linter.unusedSimpArgs false

set_option maxHeartbeats 2000000 in
theorem parts_walk (a0 : Option Addr) (len0 cap0 : Nat) (z0 : List Int) (a1 : Option Addr) (len1 cap1 : Nat) (z1 : List Int) (w : World) (w0 : RowIn .u8 w a0 len0 cap0 z0) (w1 : RowIn .u8 w a1 len1 cap1 z1) :
    Calls Try.prog 4 #[.slice a0 len0 cap0, .slice a1 len1 cap1] w fun e w' => e = .returned (.bool true) ∧ Below w.heap.size w w' := by
  obtain ⟨xs, hl, hb, hs, hlc, hc, hnil⟩ := bytesIn w0
  obtain ⟨ys, kl, kb, ks, klc, kc, knil⟩ := bytesIn w1
  clear w0 w1
  go_enter Try.func4, Try.ntmps4
  go_wp2_with fail
  refine (few_ok a0 len0 cap0 xs _ hl (by omega) hlc hs).mono ?_
  rintro e w' ⟨⟨rfl, hs'⟩, rfl⟩
  go_wp2_with fail
  refine (few_ok a1 len1 cap1 ys _ kl (by omega) klc ks).mono ?_
  rintro e w' ⟨⟨rfl, ks'⟩, rfl⟩
  have hl' : (xs.take 50000).length = min len0 50000 := by rw [List.length_take]; omega
  have hn : min len0 50000 ≤ 50000 := Nat.min_le_right _ _
  have hb' := isBytes_take hb 50000
  have hnc : min len0 50000 ≤ cap0 := by omega
  have hnil' : a0 = none → min len0 50000 = 0 ∧ cap0 = 0 := fun e => by have := hnil e; omega
  generalize xs.take 50000 = X at *
  generalize min len0 50000 = n at *
  have kl' : (ys.take 50000).length = min len1 50000 := by rw [List.length_take]; omega
  have kn : min len1 50000 ≤ 50000 := Nat.min_le_right _ _
  have kb' := isBytes_take kb 50000
  have knc : min len1 50000 ≤ cap1 := by omega
  have knil' : a1 = none → min len1 50000 = 0 ∧ cap1 = 0 := fun e => by have := knil e; omega
  generalize ys.take 50000 = Y at *
  generalize min len1 50000 = m at *
  clear hl hb hs hlc hnil kl kb ks klc knil
  go_wp2_with fail
  refine (shown_ok _).mono ?_
  rintro e w1 ⟨rfl, hX1⟩
  have r0 := Row.new w1 5 []
  have o0 := ownsRow_of (base := w1.heap.size) (n := 0) r0 (Nat.le_refl _) rfl (by decide)
  have XA := (Ext.refl w1).alloc (.cells (List.toArray []) 5)
  have hszA : w1.heap.size ≤ (w1.alloc (.cells (List.toArray []) 5)).heap.size := XA.size
  obtain ⟨a2, c2, w2, hrun2, hown2, hext2⟩ := run_append_sl (P := Try.prog) _ w1.heap.size 23 23 5 (.int .u8 0) 1 Try.underlying23 info8 rfl o0 cap0 (by rw [ints_length]; exact hl') ((hs'.ext hX1).ext XA) hnil' (ints_oneCell' _ _) (by omega) (by omega) hszA
  have X2 := hext2 w1 XA (Nat.le_refl _)
  rw [Nat.zero_add] at hown2 hrun2
  rw [List.nil_append] at hown2
  obtain ⟨a3, c3, w3, hrun3, hown3, hext3⟩ := run_append_sl (P := Try.prog) w2 w1.heap.size 23 23 5 (.int .u8 0) 1 Try.underlying23 info8 rfl hown2 cap1 (by rw [ints_length]; exact kl') ((ks'.ext hX1).ext X2) knil' (ints_oneCell' _ _) (by omega) (by omega) X2.size
  have X3 := hext3 w1 X2 (Nat.le_refl _)
  rw [← ints_append] at hown3
  clear r0 o0 hext2 hext3 hszA hown2
  have hc3 : n + m ≤ c3 ∧ c3 ≤ 9223372036854775807 := by
    rcases ownsRow_cases hown3 with ⟨_, h1, h2, _⟩ | ⟨g, L, _, _, _, h1, h2, _⟩
    · omega
    · unfold maxLen at h2; omega
  have hq3 := ownsRow_sl hown3
  have hXY : (X ++ Y).length = n + m := by rw [List.length_append, hl', kl']
  have hbXY : isBytes (X ++ Y) := by
    intro v hv
    rcases List.mem_append.1 hv with h | h
    · exact hb' v h
    · exact kb' v h
  have hap := more_append 1 X Y
  have hsb := more_bd 1 X
  have HAP := Lib.hid hap; clear hap
  go_wp2_with (first
    | (at_builtin; refine Guard.wpList_append_want _ rfl _ _ _ _ rfl _ _ rfl rfl _ _ hrun2 ?_)
    | (at_builtin; refine Guard.wpList_append_want _ rfl _ _ _ _ rfl _ _ rfl rfl _ _ hrun3 ?_))
  refine (Of_ok _ (n + m) _ (X ++ Y) w3 hXY (by omega) hbXY hq3 hc3.1 hc3.2).mono ?_
  rintro e w' ⟨rfl, rfl⟩
  rw [HAP.out]
  clear hrun2 hrun3
  go_wp2_with fail
  refine (Of_ok _ n _ X w3 hl' (by omega) hb' ((hs'.ext hX1).ext X3) hnc hc).mono ?_
  rintro e w' ⟨rfl, rfl⟩
  go_wp2_with fail
  refine (More_ok _ m _ Y _ w3 kl' (by omega) kb' ((ks'.ext hX1).ext X3) knc kc hsb.1 hsb.2).mono ?_
  rintro e w' ⟨rfl, rfl⟩
  go_wp2
  go_ret
  exact ⟨rfl, hX1.trans X3⟩
end Go.Proofs.Ytafkpjgkghnipaa.Sum
