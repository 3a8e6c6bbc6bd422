/- The walk of the law SumBack. -/
import Derived.Test.YtafkpjgkghnipaaOpenR
import Derived.Test.YtafkpjgkghnipaaOfs
import Derived.Deep.RegionHeld3
namespace Go.Proofs.Ytafkpjgkghnipaa.Sum
open Go.RowKit Words Mem Plain Ops
open Go.Proofs.Ytafkpjgkghnipaa.Field
set_option linter.ambiguousOpen false
set_option linter.unusedVariables false
set_option linter.unusedSimpArgs false

theorem take_seal (xs : List Int) : (sealN xs).take xs.length = xs := by unfold sealN; simp
theorem num_seal (xs : List Int) : numOf (((sealN xs).drop xs.length).take 4) = moreN 1 xs := by
  unfold sealN
  rw [List.drop_left, List.take_of_length_le (by rw [length_bytesOf]; omega)]
  have := more_bd 1 xs
  exact numOf_bytesOf_of 4 _ this.1 (by omega)
/-- What is opened was sealed so. -/
theorem seal_open (ys : List Int) (n : Nat) (hl : ys.length = n + 4) (hb : isBytes ys) (h : numOf ((ys.drop n).take 4) = moreN 1 (ys.take n)) : sealN (ys.take n) = ys := by
  unfold sealN
  rw [← h]
  have hd : ((ys.drop n).take 4).length = 4 := by rw [List.length_take, List.length_drop]; omega
  have e := bytesOf_numOf ((ys.drop n).take 4) (isBytes_take (isBytes_drop hb n) 4)
  rw [hd] at e
  rw [e, show (ys.drop n).take 4 = ys.drop n from List.take_of_length_le (by rw [List.length_drop]; omega), List.take_append_drop]

theorem Seal_g (a : Option Addr) (n cap : Nat) (xs : List Int) (w : World) (hl : xs.length = n) (hn : n ≤ 1000000) (hb : isBytes xs) (hs : Sl w a (ints .u8 xs)) (hcap : n ≤ cap) (hcm : cap ≤ 9223372036854775807) :
    Calls Try.prog 18 #[.slice a n cap] w fun e w' => ∃ g, e = .returned (.slice (some ⟨g, 0, none⟩) (n + 4) (n + 4)) ∧ Row w' g 5 (ints .u8 (sealN xs)) ∧ Ext w w' :=
  (Seal_ok a n cap xs w hl hn hb hs hcap hcm).mono fun _ _ h => ⟨_, h.1, h.2.1, h.2.2⟩

set_option maxHeartbeats 8000000 in
theorem back_walk (a0 : Option Addr) (len0 cap0 : Nat) (z0 : List Int) (a1 : Option Addr) (len1 cap1 : Nat) (z1 : List Int) (w : World) (w0 : RowIn .u8 w a0 len0 cap0 z0) (w1 : RowIn .u8 w a1 len1 cap1 z1) :
    Calls Try.prog 8 #[.slice a0 len0 cap0, .slice a1 len1 cap1] w fun e w' => e = .returned (.bool true) ∧ Below w.heap.size w w' := by
  obtain ⟨xs, hl, hb, hs, hlc, hc, hnil⟩ := bytesIn w0
  obtain ⟨ys, kl, kb, ks, klc, kc, knil⟩ := bytesIn w1
  clear w0 w1
  go_enter Try.func8, Try.ntmps8
  go_wp2_with fail
  refine (shown_ok _).mono ?_
  rintro e w1 ⟨rfl, hX1⟩
  replace hs := hs.ext hX1
  replace ks := ks.ext hX1
  go_wp2_with fail
  refine (few_ok a0 len0 cap0 xs _ hl (by omega) hlc hs).mono ?_
  rintro e w' ⟨⟨rfl, hs'⟩, rfl⟩
  go_wp2_with fail
  refine (few_ok a1 len1 cap1 ys _ kl (by omega) klc ks).mono ?_
  rintro e w' ⟨⟨rfl, ks'⟩, rfl⟩
  have hl' : (xs.take 50000).length = min len0 50000 := by rw [List.length_take]; omega
  have hn : min len0 50000 ≤ 50000 := Nat.min_le_right _ _
  have hb' := isBytes_take hb 50000
  have hnc : min len0 50000 ≤ cap0 := by omega
  generalize xs.take 50000 = X at *
  generalize min len0 50000 = n at *
  have kl' : (ys.take 50000).length = min len1 50000 := by rw [List.length_take]; omega
  have kn : min len1 50000 ≤ 50000 := Nat.min_le_right _ _
  have kb' := isBytes_take kb 50000
  have knc : min len1 50000 ≤ cap1 := by omega
  generalize ys.take 50000 = Y at *
  generalize min len1 50000 = m at *
  clear hl hb hs hlc hnil kl kb ks klc knil
  go_wp2_with fail
  refine (Seal_ok a0 n cap0 X _ hl' (by omega) hb' hs' hnc hc).mono ?_
  rintro e w2 ⟨rfl, hr2, hX2⟩
  have hsl : (sealN X).length = n + 4 := by rw [length_seal, hl']
  have hnum := num_seal X
  have htake := take_seal X
  rw [hl'] at hnum htake
  have ks2 := ks'.ext hX2
  have hs2 := hs'.ext hX2
  go_wp2_with fail
  refine (Open_yes _ n _ (sealN X) w2 hsl (by omega) (isBytes_seal hb') hr2.sl0 (Nat.le_refl _) (by omega) (by rw [htake]; exact hnum)).mono ?_
  rintro e w3 ⟨rfl, rfl⟩
  rw [htake]
  have hr3 := Row.new w2 5 (ints .u8 X)
  have hX3 := (Ext.refl w2).alloc (.cells (ints .u8 X).toArray 5)
  generalize w2.alloc (.cells (ints .u8 X).toArray 5) = w3 at *
  have X3 := (hX1.trans hX2).trans hX3
  have ks3 := ks2.ext hX3
  have hs3 := hs2.ext hX3
  generalize w2.heap.size = g3 at *
  clear hs2 ks2 hr2 hX2 hX3 hsl hnum htake hs' ks'
  have e1 := run_conv_str (P := Try.prog) w3 23 9 5 Try.underlying23 Try.underlying5 Try.underlying9 n hr3.sl0 hl'
  have e2 := run_conv_str (P := Try.prog) w3 23 9 5 Try.underlying23 Try.underlying5 Try.underlying9 cap0 hs3 hl'
  go_wp2_with fail
  have hcase : m < 4 ∨ (∃ q, m = q + 4 ∧ numOf ((Y.drop q).take 4) ≠ moreN 1 (Y.take q)) ∨ ∃ q, m = q + 4 ∧ numOf ((Y.drop q).take 4) = moreN 1 (Y.take q) := by
    by_cases h : m < 4
    · exact .inl h
    · by_cases g : numOf ((Y.drop (m - 4)).take 4) = moreN 1 (Y.take (m - 4))
      · exact .inr (.inr ⟨m - 4, by omega, g⟩)
      · exact .inr (.inl ⟨m - 4, by omega, g⟩)
  rcases hcase with h | ⟨q, rfl, h⟩ | ⟨q, rfl, h⟩
  · refine (Open_short a1 m cap1 w3 h).mono ?_
    rintro e w' ⟨rfl, rfl⟩
    go_wp2_with fail
    have d1 : ∀ k, (convert 23 9 (.slice (some ⟨g3, 0, none⟩) n n)).run Try.prog (w3.drewN k) = .ok (.string (strOf X)) (w3.drewN k) := fun k => run_conv_str (P := Try.prog) (w3.drewN k) 23 9 5 Try.underlying23 Try.underlying5 Try.underlying9 n (hr3.sl0.ext ((Ext.refl _).drewN k)) hl'
    have d2 : ∀ k, (convert 23 9 (.slice a0 n cap0)).run Try.prog (w3.drewN k) = .ok (.string (strOf X)) (w3.drewN k) := fun k => run_conv_str (P := Try.prog) (w3.drewN k) 23 9 5 Try.underlying23 Try.underlying5 Try.underlying9 cap0 (hs3.ext ((Ext.refl _).drewN k)) hl'
    go_big_quiet (fail)
    go_wp2
    go_ret
    exact ⟨rfl, X3.drewN _⟩
  · refine (Open_no a1 q cap1 Y w3 kl' (by omega) kb' ks3 knc kc h).mono ?_
    rintro e w' ⟨rfl, rfl⟩
    go_wp2_with fail
    have d1 : ∀ k, (convert 23 9 (.slice (some ⟨g3, 0, none⟩) n n)).run Try.prog (w3.drewN k) = .ok (.string (strOf X)) (w3.drewN k) := fun k => run_conv_str (P := Try.prog) (w3.drewN k) 23 9 5 Try.underlying23 Try.underlying5 Try.underlying9 n (hr3.sl0.ext ((Ext.refl _).drewN k)) hl'
    have d2 : ∀ k, (convert 23 9 (.slice a0 n cap0)).run Try.prog (w3.drewN k) = .ok (.string (strOf X)) (w3.drewN k) := fun k => run_conv_str (P := Try.prog) (w3.drewN k) 23 9 5 Try.underlying23 Try.underlying5 Try.underlying9 cap0 (hs3.ext ((Ext.refl _).drewN k)) hl'
    go_big_quiet (fail)
    go_wp2
    go_ret
    exact ⟨rfl, X3.drewN _⟩
  · refine (Open_yes a1 q cap1 Y w3 kl' (by omega) kb' ks3 knc kc h).mono ?_
    rintro e w4 ⟨rfl, rfl⟩
    have hso := seal_open Y q kl' kb' h
    have hr4 := Row.new w3 5 (ints .u8 (Y.take q))
    have hX4 := (Ext.refl w3).alloc (.cells (ints .u8 (Y.take q)).toArray 5)
    generalize w3.alloc (.cells (ints .u8 (Y.take q)).toArray 5) = w4 at *
    have hS4 := hr4.sl0
    have htl : (Y.take q).length = q := by rw [List.length_take]; omega
    have htb : isBytes (Y.take q) := isBytes_take kb' q
    have X4 := X3.trans hX4
    have hall : ∀ v : World, Ext w4 v → Ext w4 v ∧ (convert 23 9 (.slice (some ⟨g3, 0, none⟩) n n)).run Try.prog v = .ok (.string (strOf X)) v ∧ (convert 23 9 (.slice a0 n cap0)).run Try.prog v = .ok (.string (strOf X)) v ∧ (convert 23 9 (.slice a1 (q + 4) cap1)).run Try.prog v = .ok (.string (strOf Y)) v := fun v hv => ⟨hv, run_conv_str (P := Try.prog) v 23 9 5 Try.underlying23 Try.underlying5 Try.underlying9 n ((hr3.sl0.ext hX4).ext hv) hl', run_conv_str (P := Try.prog) v 23 9 5 Try.underlying23 Try.underlying5 Try.underlying9 cap0 ((hs3.ext hX4).ext hv) hl', run_conv_str (P := Try.prog) v 23 9 5 Try.underlying23 Try.underlying5 Try.underlying9 cap1 ((ks3.ext hX4).ext hv) kl'⟩
    have hK : ∀ v u : World, (Ext w4 v ∧ (convert 23 9 (.slice (some ⟨g3, 0, none⟩) n n)).run Try.prog v = .ok (.string (strOf X)) v ∧ (convert 23 9 (.slice a0 n cap0)).run Try.prog v = .ok (.string (strOf X)) v ∧ (convert 23 9 (.slice a1 (q + 4) cap1)).run Try.prog v = .ok (.string (strOf Y)) v) → Ext v u → (Ext w4 u ∧ (convert 23 9 (.slice (some ⟨g3, 0, none⟩) n n)).run Try.prog u = .ok (.string (strOf X)) u ∧ (convert 23 9 (.slice a0 n cap0)).run Try.prog u = .ok (.string (strOf X)) u ∧ (convert 23 9 (.slice a1 (q + 4) cap1)).run Try.prog u = .ok (.string (strOf Y)) u) := fun v u h hu => hall u (h.1.trans hu)
    have hT : ∀ v : World, (Ext w4 v ∧ (convert 23 9 (.slice (some ⟨g3, 0, none⟩) n n)).run Try.prog v = .ok (.string (strOf X)) v ∧ (convert 23 9 (.slice a0 n cap0)).run Try.prog v = .ok (.string (strOf X)) v ∧ (convert 23 9 (.slice a1 (q + 4) cap1)).run Try.prog v = .ok (.string (strOf Y)) v) → Sl v (some ⟨w3.heap.size, 0, none⟩) (ints .u8 (Y.take q)) := fun v h => hS4.ext h.1
    have HS0 := Lib.hid (hall w4 (Ext.refl w4)); have HK := Lib.hid hK; have HT := Lib.hid hT; have HSO := Lib.hid hso
    clear e1 e2 h hso ks3 hs3 hr3 X3 hr4 hS4 hall hK hT hX4
    generalize w3.heap.size = g4 at *
    generalize Y.take q = P at *
    go_wp2_with fail
    have hun : undef = Value.tuple #[] := rfl
    first | go_region_held (fun v => Ext w4 v ∧ (convert 23 9 (.slice (some ⟨g3, 0, none⟩) n n)).run Try.prog v = .ok (.string (strOf X)) v ∧ (convert 23 9 (.slice a0 n cap0)).run Try.prog v = .ok (.string (strOf X)) v ∧ (convert 23 9 (.slice a1 (q + 4) cap1)).run Try.prog v = .ok (.string (strOf Y)) v) (first | assumption | exact HS0.out | exact HK.out _ _ HS0.out ((Ext.refl _).drew) | exact HK.out _ _ (by assumption) (by assumption)) (first
      | (go_at_call 18; refine (Seal_g _ q _ P _ htl (by omega) htb (HT.out _ (by assumption)) (Nat.le_refl _) (by omega)).mono ?_; rintro e u ⟨g, rfl, hrow, hX⟩; rw [HSO.out] at hrow; have hcv := run_conv_str (P := Try.prog) u 23 9 5 Try.underlying23 Try.underlying5 Try.underlying9 (q + 4) hrow.sl0 kl')) | fail
    rename_i hH
    obtain ⟨hE, _⟩ := hH
    clear hun
    go_wp2
    go_ret
    exact ⟨rfl, X4.trans hE⟩
end Go.Proofs.Ytafkpjgkghnipaa.Sum
