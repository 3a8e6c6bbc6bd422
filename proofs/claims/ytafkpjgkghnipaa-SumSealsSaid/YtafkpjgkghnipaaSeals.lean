/- The walk of the law SumSeals. -/
import Derived.Test.YtafkpjgkghnipaaBack
namespace Go.Proofs.Ytafkpjgkghnipaa.Sum
open Go.RowKit Words Mem Plain Ops
open Go.Proofs.Ytafkpjgkghnipaa.Field
set_option linter.ambiguousOpen false
set_option linter.unusedVariables false
set_option linter.unusedSimpArgs false

/-- What is opened: bytes and a code. -/
def openR (xs : List Int) : List Int × Int := if 4 ≤ xs.length ∧ sealN (xs.take (xs.length - 4)) = xs then (xs.take (xs.length - 4), 0) else ([], 30)
def GaveS (w : World) (r : List Int × Int) (e : Ending) (w' : World) : Prop :=
  ∃ a cap, e = .returned (.tuple #[.slice a r.1.length cap, .int .i64 r.2]) ∧ w'.ownsRow w.heap.size 5 1 (.slice a r.1.length cap) r.1.length (ints .u8 r.1) ∧ Ext w w'
def ReadS (w : World) (r : List Int × Int) (e : Ending) (w' : World) : Prop :=
  ∃ a cap, e = .returned (.tuple #[.slice a r.1.length cap, .int .i64 r.2]) ∧ Sl w a (ints .u8 r.1) ∧ Ext w w'

theorem Open_gave (a : Option Addr) (n cap : Nat) (xs : List Int) (w : World) (hl : xs.length = n) (hn : n ≤ 1000000) (hb : isBytes xs) (hs : Sl w a (ints .u8 xs)) (hcap : n ≤ cap) (hcm : cap ≤ 9223372036854775807) :
    Calls Try.prog 16 #[.slice a n cap] w (GaveS w (openR xs)) := by
  unfold openR
  rw [hl]
  by_cases h4 : 4 ≤ n
  · obtain ⟨q, rfl⟩ : ∃ q, n = q + 4 := ⟨n - 4, by omega⟩
    rw [Nat.add_sub_cancel]
    by_cases h : numOf ((xs.drop q).take 4) = moreN 1 (xs.take q)
    · have hso := seal_open xs q hl hb h
      rw [if_pos ⟨h4, hso⟩]
      refine (Open_yes a q cap xs w hl (by omega) hb hs hcap hcm h).mono fun e w' ⟨h1, h2⟩ => ?_
      subst h2
      have htl : (xs.take q).length = q := by rw [List.length_take]; omega
      refine ⟨some ⟨w.heap.size, 0, none⟩, q, by rw [h1]; simp only [htl], ?_, (Ext.refl w).alloc _⟩
      simp only [htl]
      exact ownsRow_of (Row.new w 5 (ints .u8 (xs.take q))) (Nat.le_refl _) (by rw [ints_length]; exact htl) (by unfold maxLen; omega)
    · rw [if_neg]
      · refine (Open_no a q cap xs w hl (by omega) hb hs hcap hcm h).mono fun e w' ⟨h1, h2⟩ => ?_
        subst h2
        exact ⟨none, 0, h1, ownsRow_nil _ _ _, Ext.refl _⟩
      · intro hh
        apply h
        have := num_seal (xs.take q)
        rw [hh.2, show (xs.take q).length = q by rw [List.length_take]; omega] at this
        exact this
  · rw [if_neg (by omega)]
    refine (Open_short a n cap w (by omega)).mono fun e w' ⟨h1, h2⟩ => ?_
    subst h2
    exact ⟨none, 0, h1, ownsRow_nil _ _ _, Ext.refl _⟩

theorem rOpen_gave (a : Option Addr) (n cap : Nat) (xs : List Int) (w : World) (hl : xs.length = n) (hn : n ≤ 1000000) (hb : isBytes xs) (hs : Sl w a (ints .u8 xs)) (hnil : a = none → n = 0 ∧ cap = 0) (hcap : n ≤ cap) (hcm : cap ≤ 9223372036854775807) :
    Calls Try.prog 17 #[.slice a n cap] w (ReadS w (openR xs)) := by
  unfold openR
  rw [hl]
  by_cases h4 : 4 ≤ n
  · obtain ⟨q, rfl⟩ : ∃ q, n = q + 4 := ⟨n - 4, by omega⟩
    rw [Nat.add_sub_cancel]
    refine (rOpen_ok a q cap xs w hl (by omega) hb hs hnil hcap hcm).mono fun e w' ⟨h1, h2⟩ => ?_
    by_cases h : sealN (xs.take q) = xs
    · rw [if_pos ⟨h4, h⟩]
      rw [if_pos h] at h1
      have htl : (xs.take q).length = q := by rw [List.length_take]; omega
      refine ⟨a, cap, by rw [h1]; simp only [htl], ?_, h2⟩
      have := hs.take q
      rwa [ints_take] at this
    · rw [if_neg (fun hh => h hh.2)]
      rw [if_neg h] at h1
      exact ⟨none, 0, h1, Sl.nil _ _, h2⟩
  · rw [if_neg (by omega)]
    exact (rOpen_short a n cap w (by omega)).mono fun e w' ⟨h1, h2⟩ => ⟨none, 0, h1, Sl.nil _ _, h2⟩

/-- A slice of bytes of the call's own, whatever they are. -/
def Scr (w0 : World) (t : TypeId) (k : IntKind) (a : Option Addr) (n : Nat) (w : World) : Prop :=
  Ext w0 w ∧ (0 < n → ∃ g M, a = some ⟨g, 0, none⟩ ∧ w0.heap.size ≤ g ∧ Row w g t M ∧ ∀ j, j < n → ∃ x : Int, M[j]? = some (.int k x))
theorem Scr.ext {w0 w : World} {t : TypeId} {k : IntKind} {a : Option Addr} {n : Nat} (h : Scr w0 t k a n w) : Ext w0 w := h.1
theorem Scr.of {w0 w1 w : World} {t : TypeId} {k : IntKind} {a : Option Addr} {n cap : Nat} {L : List Int} (h : w.ownsRow w1.heap.size t 1 (.slice a n cap) n (ints k L)) (hX : Ext w0 w) (h1 : Ext w0 w1) : Scr w0 t k a n w := by
  refine ⟨hX, fun h0 => ?_⟩
  rcases ownsRow_cases h with ⟨_, h2, _⟩ | ⟨g, M, e, hg, hr, _, _, _, ht⟩
  · omega
  · refine ⟨g, M, e, Nat.le_trans h1.size hg, hr, fun j hj => ?_⟩
    have hl := ownsRow_len h
    rw [ints_length] at hl
    have h2 : (M.take n)[j]? = M[j]? := by rw [List.getElem?_take]; rw [if_pos hj]
    rw [← h2, ht, ints_getElem?]
    exact ⟨L[j]'(by omega), by simp⟩
theorem Scr.later {w0 w w' : World} {t : TypeId} {k : IntKind} {a : Option Addr} {n : Nat} (h : Scr w0 t k a n w) (hX : Ext w w') : Scr w0 t k a n w' := by
  refine ⟨h.1.trans hX, fun h0 => ?_⟩
  obtain ⟨g, M, e, hg, hr, hc⟩ := h.2 h0
  exact ⟨g, M, e, hg, hr.ext hX, hc⟩
theorem Scr.at {w0 w : World} {t : TypeId} {k : IntKind} {a : Option Addr} {n j : Nat} (h : Scr w0 t k a n w) (hj : j < n) :
    ∃ g x, a = some ⟨g, 0, none⟩ ∧ w.cell? ⟨g, j, none⟩ = some (.int k x) ∧ w.frozen? ⟨g, j, none⟩ = false ∧ ∀ y, Scr w0 t k (some ⟨g, 0, none⟩) n (w.setCell ⟨g, j, none⟩ (.int k y)) := by
  obtain ⟨g, M, rfl, hg, hr, hc⟩ := h.2 (by omega)
  obtain ⟨x, hx⟩ := hc j hj
  refine ⟨g, x, rfl, by rw [hr.cell?]; exact hx, hr.frozen j, fun y => ⟨h.1.setCell hg _, fun _ => ⟨g, M.set j (.int k y), rfl, hg, hr.set j _, fun i hi => ?_⟩⟩⟩
  by_cases e : j = i
  · subst e
    exact ⟨y, by rw [List.getElem?_set]; simp [(List.getElem?_eq_some_iff.1 hx).1]⟩
  · rw [List.getElem?_set, if_neg e]; exact hc i hi

set_option maxRecDepth 100000 in
set_option maxHeartbeats 4000000 in
theorem walk_SumSeals (a0 : Option Addr) (len0 cap0 : Nat) (z0 : List Int) (w : World) (w0 : RowIn .u8 w a0 len0 cap0 z0) :
    Calls Try.prog 7 #[.slice a0 len0 cap0] w fun e w' => e = .returned (.bool true) ∧ Below w.heap.size w w' := by
  obtain ⟨xs, hl, hb, hs, hlc, hc, hnil⟩ := bytesIn w0
  clear w0
  have hl' : (xs.take 50000).length = min len0 50000 := by rw [List.length_take]; omega
  have hn : min len0 50000 ≤ 50000 := Nat.min_le_right _ _
  have hb' := isBytes_take hb 50000
  have hnc : min len0 50000 ≤ cap0 := by omega
  have hnil' : a0 = none → min len0 50000 = 0 ∧ cap0 = 0 := fun e => by have := hnil e; omega
  go_enter Try.func7, Try.ntmps7
  go_wp2_with fail
  refine (shown_ok w).mono ?_
  rintro e w1 ⟨rfl, hX1⟩
  go_wp2_with fail
  refine (few_ok a0 len0 cap0 xs _ hl (by omega) hlc (hs.ext hX1)).mono ?_
  rintro e w' ⟨⟨rfl, hs1⟩, rfl⟩
  have hs' : Sl w a0 (ints .u8 (xs.take 50000)) := by have := hs.take 50000; rwa [ints_take] at this
  generalize xs.take 50000 = X at *
  generalize min len0 50000 = n at *
  clear hl hb hs hlc hnil
  have e0 := run_conv_str (P := Try.prog) w1 23 9 5 Try.underlying23 Try.underlying5 Try.underlying9 cap0 hs1 hl'
  go_wp2_with fail
  refine (Open_gave a0 n cap0 X w1 hl' (by omega) hb' hs1 hnc hc).mono ?_
  rintro e w2 ⟨a4, c4, rfl, ho4, hX2⟩
  have hs2 := hs1.ext hX2
  go_wp2_with fail
  refine (rOpen_gave a0 n cap0 X w2 hl' (by omega) hb' hs2 hnil' hnc hc).mono ?_
  rintro e w3 ⟨a5, c5, rfl, hs5, hX3⟩
  have XX3 := (hX1.trans hX2).trans hX3
  have hs3 := hs2.ext hX3
  generalize openR X = R at *
  have hscr : Scr w 5 .u8 a4 R.1.length w3 := (Scr.of ho4 (hX1.trans hX2) hX1).later hX3
  have sl4 := (ownsRow_sl ho4).ext hX3
  have sl5 := hs5.ext hX3
  have cb : R.1.length ≤ 9223372036854775807 := by
    rcases ownsRow_cases ho4 with ⟨_, h2, h3, _⟩ | ⟨g, M, h1, _, _, h4, h5, _⟩
    · omega
    · unfold maxLen at h5; omega
  have hall : ∀ v : World, Ext w3 v → Ext w3 v ∧ (convert 23 9 (.slice a4 R.1.length c4)).run Try.prog v = .ok (.string (strOf R.1)) v ∧ (convert 23 9 (.slice a5 R.1.length c5)).run Try.prog v = .ok (.string (strOf R.1)) v := fun v hv => ⟨hv, run_conv_str (P := Try.prog) v 23 9 5 Try.underlying23 Try.underlying5 Try.underlying9 c4 (sl4.ext hv) rfl, run_conv_str (P := Try.prog) v 23 9 5 Try.underlying23 Try.underlying5 Try.underlying9 c5 (sl5.ext hv) rfl⟩
  have hK : ∀ v u : World, (Ext w3 v ∧ (convert 23 9 (.slice a4 R.1.length c4)).run Try.prog v = .ok (.string (strOf R.1)) v ∧ (convert 23 9 (.slice a5 R.1.length c5)).run Try.prog v = .ok (.string (strOf R.1)) v) → Ext v u → (Ext w3 u ∧ (convert 23 9 (.slice a4 R.1.length c4)).run Try.prog u = .ok (.string (strOf R.1)) u ∧ (convert 23 9 (.slice a5 R.1.length c5)).run Try.prog u = .ok (.string (strOf R.1)) u) := fun v u h hu => hall u (h.1.trans hu)
  have hT : ∀ v : World, (Ext w3 v ∧ (convert 23 9 (.slice a4 R.1.length c4)).run Try.prog v = .ok (.string (strOf R.1)) v ∧ (convert 23 9 (.slice a5 R.1.length c5)).run Try.prog v = .ok (.string (strOf R.1)) v) → Sl v a0 (ints .u8 X) := fun v h => hs3.ext h.1
  have HS0 := Lib.hid (hall w3 (Ext.refl w3)); have HK := Lib.hid hK; have HT := Lib.hid hT; have HNIL := Lib.hid hnil'; have HSC := Lib.hid hscr; have HS := Lib.hid hs'
  have hls : (sealN X).length = n + 4 := by rw [length_seal, hl']
  have HLS := Lib.hid hls
  clear hs' e0 hs1 hs2 hs3 ho4 hs5 hall hK hT hX2 hX3 hnil' hscr hls sl4 sl5
  generalize hQ : sealN X = Q at *
  have hun : undef = Value.tuple #[] := rfl
  go_wp2_with fail
  first | go_region_held (fun v => Ext w3 v ∧ (convert 23 9 (.slice a4 R.1.length c4)).run Try.prog v = .ok (.string (strOf R.1)) v ∧ (convert 23 9 (.slice a5 R.1.length c5)).run Try.prog v = .ok (.string (strOf R.1)) v) (first | assumption | exact HS0.out | exact HK.out _ _ HS0.out ((Ext.refl _).drew) | exact HK.out _ _ (by assumption) (by assumption)) (first
      | (go_at_call 18; refine (Seal_g _ n _ X _ hl' (by omega) hb' (HT.out _ (by assumption)) hnc hc).mono ?_; rintro e u ⟨g, rfl, hrow1, hX⟩; rw [hQ] at hrow1; have hcv1 := run_conv_str (P := Try.prog) u 23 9 5 Try.underlying23 Try.underlying5 Try.underlying9 (n + 4) hrow1.sl0 HLS.out)
      | (go_at_call 19; refine (rSeal_ok _ n _ X _ hl' (by omega) hb' (HT.out _ (by assumption)) HNIL.out).mono ?_; rintro e u2 ⟨ar, cr, rfl, hown, hX⟩; rw [hQ, HLS.out] at hown; rw [hQ, HLS.out]; have hcv2 := run_conv_str (P := Try.prog) u2 23 9 5 Try.underlying23 Try.underlying5 Try.underlying9 cr (ownsRow_sl hown) HLS.out; have hcv1 := run_conv_str (P := Try.prog) u2 23 9 5 Try.underlying23 Try.underlying5 Try.underlying9 (n + 4) (hrow1.ext hX).sl0 HLS.out)) | fail
  all_goals
    rename_i hH
    obtain ⟨hE, _⟩ := hH
    have hscr := HSC.out.later hE
    clear hun hcv1 hcv2 hown hX hrow1 hE HK HT HS0 HNIL HSC
    rename_i u0 _
    go_wp2_with fail
    generalize R.1.length = m at *
    go_loopw [48] (fun v wr => ∃ k : Nat, k ≤ m ∧ v = .int .i64 k ∧ Scr w 5 .u8 a4 m wr) (fun v _ => m - (intOf v).toNat)
    case atStart => exact ⟨0, by omega, rfl, hscr⟩
    case round =>
      obtain ⟨k, hk, rfl, hsc⟩ := hrel
      by_cases hlt : k < m
      · obtain ⟨g, x, rfl, hcell, hfr, hnext⟩ := hsc.at hlt
        have HN := Lib.hid hnext
        clear hnext hscr hsc
        go_wp2
        go_roundw
        case rel => exact ⟨k + 1, hlt, by go_num, HN.out _⟩
        case measure => simp [intOf]; omega
      · have : k = m := by omega
        subst this
        have e0 := run_conv_str (P := Try.prog) wr 23 9 5 Try.underlying23 Try.underlying5 Try.underlying9 cap0 (HS.out.ext hsc.ext) hl'
        go_wp2
        go_ret
        exact ⟨rfl, hsc.ext⟩
end Go.Proofs.Ytafkpjgkghnipaa.Sum
