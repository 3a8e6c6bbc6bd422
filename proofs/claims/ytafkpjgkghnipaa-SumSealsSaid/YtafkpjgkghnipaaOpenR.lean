/- The contract of the reference's Open. -/
import Derived.Test.YtafkpjgkghnipaaSealR
import Derived.BigQuiet
import Derived.Deep.QuietTactic
import Derived.Deep.RegionHeld
namespace Go.Proofs.Ytafkpjgkghnipaa.Sum
open Go.RowKit Words Mem Plain Ops
open Go.Proofs.Ytafkpjgkghnipaa.Field
set_option linter.ambiguousOpen false
set_option linter.unusedVariables false
set_option linter.unusedSimpArgs false

theorem rOpen_short (a : Option Addr) (n cap : Nat) (w : World) (hn : n < 4) :
    Calls Try.prog 17 #[.slice a n cap] w fun e w' => e = .returned (.tuple #[.slice none 0 0, .int .i64 30]) ∧ Ext w w' := by
  go_enter Try.func17, Try.ntmps17
  go_wp2
  have hn' : (n : Int) < 4 := by omega
  go_quiet (fail)
  go_wp2
  go_ret2
  exact ⟨rfl, (Ext.refl _).drewN _⟩

set_option maxHeartbeats 8000000 in
theorem rOpen_ok (a : Option Addr) (n cap : Nat) (xs : List Int) (w : World) (hl : xs.length = n + 4) (hn : n ≤ 1000000) (hb : isBytes xs) (hs : Sl w a (ints .u8 xs)) (hnil : a = none → n + 4 = 0 ∧ cap = 0) (hcap : n + 4 ≤ cap) (hcm : cap ≤ 9223372036854775807) :
    Calls Try.prog 17 #[.slice a (n + 4) cap] w fun e w' => e = .returned (if sealN (xs.take n) = xs then .tuple #[.slice a n cap, .int .i64 0] else .tuple #[.slice none 0 0, .int .i64 30]) ∧ Ext w w' := by
  obtain ⟨bb, oo, rfl, _⟩ := hs.ints (by omega)
  have htl : (xs.take n).length = n := by rw [List.length_take]; omega
  have htb : isBytes (xs.take n) := isBytes_take hb n
  have hts := hs.take n
  rw [ints_take] at hts
  go_enter Try.func17, Try.ntmps17
  have hnil' : (some ⟨bb, oo, none⟩ : Option Addr) = none → n = 0 ∧ cap = 0 := fun e => by cases e
  have hcw : ∀ v : World, Ext w v → (convert 23 9 (.slice (some ⟨bb, oo, none⟩) (n + 4) cap)).run Try.prog v = .ok (.string (strOf xs)) v := fun v hv =>
    run_conv_str (P := Try.prog) v _ _ 5 Try.underlying23 Try.underlying5 Try.underlying9 cap (hs.ext hv) hl
  have hS0 : Ext w w ∧ (convert 23 9 (.slice (some ⟨bb, oo, none⟩) (n + 4) cap)).run Try.prog w = .ok (.string (strOf xs)) w := ⟨Ext.refl w, hcw w (Ext.refl w)⟩
  have hK : ∀ v u : World, (Ext w v ∧ (convert 23 9 (.slice (some ⟨bb, oo, none⟩) (n + 4) cap)).run Try.prog v = .ok (.string (strOf xs)) v) → Ext v u → (Ext w u ∧ (convert 23 9 (.slice (some ⟨bb, oo, none⟩) (n + 4) cap)).run Try.prog u = .ok (.string (strOf xs)) u) := fun v u h hu => ⟨h.1.trans hu, hcw u (h.1.trans hu)⟩
  have HS0 := Lib.hid hS0; have HK := Lib.hid hK; have HTS := Lib.hid (show ∀ v : World, (Ext w v ∧ (convert 23 9 (.slice (some ⟨bb, oo, none⟩) (n + 4) cap)).run Try.prog v = .ok (.string (strOf xs)) v) → Sl v (some ⟨bb, oo, none⟩) (ints .u8 (xs.take n)) from fun v h => hts.ext h.1); have HNIL := Lib.hid hnil'
  clear hS0 hK hcw hs hts hnil hnil'
  generalize hP : xs.take n = P at *
  have b1 : (n : Int) ≤ cap := by omega
  have b2 : n ≤ cap := by omega
  have b3 : (n : Int) + 4 - 4 = n := by omega
  have b6 : ¬ cap = 0 := by omega
  have hslc : ∀ v : World, (Instr.slice 23 (.slice (some ⟨bb, oo, none⟩) (n + 4) cap) none (some (.int .i64 n)) none).run Try.prog v = .ok (.slice (some ⟨bb, oo, none⟩) n cap) v := fun v => by
    simp [Instr.slice, Instr.sliceBounds, go_sem, run_underlying Try.underlying23, b1, b2, b6]
  have b7 : (0 : Int) ≤ n ∧ (n : Int) ≤ cap := by omega
  have b8 : 0 < cap := by omega
  have b9 : (cap : Int) ≠ 0 := by omega
  have bd : decide ((n : Int) + 4 < 4) = false := by simp; omega
  have bw : IntKind.i64.wrap (n : Int) = n := IntWalk.i64_in _ (by omega)
  have b4 : ¬ ((n : Int) + 4 < 4) := by omega
  have b5 : (0 : Int) ≤ n := by omega
  go_wp2
  go_region_held (fun v => Ext w v ∧ (convert 23 9 (.slice (some ⟨bb, oo, none⟩) (n + 4) cap)).run Try.prog v = .ok (.string (strOf xs)) v) (first | assumption | exact HS0.out | exact HK.out _ _ HS0.out ((Ext.refl _).drew) | exact HK.out _ _ (by assumption) (by assumption)) (first
    | (go_at_call 19; refine (rSeal_ok _ n _ P _ htl (by omega) htb (HTS.out _ (by assumption)) HNIL.out).mono ?_; rintro e u ⟨ar, cr, rfl, hown, hX⟩; rw [length_seal, htl] at hown; rw [length_seal, htl]; have hcv := run_conv_str (P := Try.prog) u 23 9 5 Try.underlying23 Try.underlying5 Try.underlying9 cr (ownsRow_sl hown) (by rw [length_seal, htl])))
  rename_i hH
  obtain ⟨hE, _⟩ := hH
  have heq : ((strOf (sealN P)).toList == (strOf xs).toList) = decide (sealN P = xs) := strOf_eq (isBytes_seal htb) hb
  clear HS0 HK hcv hown
  by_cases h : sealN P = xs
  · rw [decide_eq_true h] at heq
    simp only [heq, bd, Bool.not_true, Bool.false_or, Bool.or_false]
    have HH := Lib.hid h; clear h
    go_wp2
    go_ret2
    exact ⟨by first | rfl | (rw [if_pos HH.out]; rfl), hE⟩
  · rw [decide_eq_false h] at heq
    simp only [heq, bd, Bool.not_false, Bool.false_or, Bool.or_true]
    have HH := Lib.hid h; clear h
    go_wp2
    go_ret2
    exact ⟨by first | rfl | (rw [if_neg HH.out]; rfl), hE⟩
end Go.Proofs.Ytafkpjgkghnipaa.Sum
