/- field.Lay where it refuses; the reference's Lay. -/
import Derived.Test.YtgflpbbdohmhiaaTake
import Derived.Test.YtgflpbbdohmhiaaSet
namespace Go.Proofs.Ytgflpbbdohmhiaa.Field
open Go.RowKit Words Mem Plain Ops
set_option linter.unusedVariables false
set_option linter.unusedSimpArgs false

/-- May the numbers be laid, in s bytes each (1 ≤ s ≤ 8)? -/
def okLay (s : Nat) (l : List Int) : Bool := decide (s * l.length ≤ 4096) && l.all (fitsB · s)
theorem okLay_true {s : Nat} {l : List Int} (h : okLay s l = true) : s * l.length ≤ 4096 ∧ ∀ x ∈ l, fitsB x s = true := by
  unfold okLay at h; rw [Bool.and_eq_true] at h
  exact ⟨by simpa using h.1, by simpa using h.2⟩
theorem okLay_false {s : Nat} {l : List Int} (h : okLay s l = false) : 4096 < s * l.length ∨ ∃ x ∈ l, fitsB x s = false := by
  unfold okLay at h
  by_cases h1 : s * l.length ≤ 4096
  · right
    rw [decide_eq_true h1, Bool.true_and] at h
    simpa using h
  · left; omega

theorem Lay_arg (a : Option Addr) (n cap : Nat) (s : Int) (w : World) (h : s < 1 ∨ 8 < s) :
    Calls Try.prog 16 #[.int .i64 s, .slice a n cap] w fun e w' => e = .returned (.tuple #[.slice none 0 0, .int .i64 1]) ∧ w = w' := by
  by_cases h1 : s < 1
  · clear h
    go_enter Try.func16, Try.ntmps16
    go_wp2
    go_ret2
    exact ⟨rfl, rfl⟩
  · have h2 : 8 < s := by omega
    clear h
    go_enter Try.func16, Try.ntmps16
    go_wp2
    go_ret2
    exact ⟨rfl, rfl⟩
theorem Lay_long (s : Nat) (a : Option Addr) (n cap : Nat) (w : World) (hs1 : 1 ≤ s) (hs8 : s ≤ 8) (hn : 4096 < s * n) (hm : n ≤ 9223372036854775807) :
    Calls Try.prog 16 #[.int .i64 s, .slice a n cap] w fun e w' => e = .returned (.tuple #[.slice none 0 0, .int .i64 4]) ∧ w = w' := by
  have hq : (4096 : Int) / (s : Int) < n := by
    have h1 : 4096 / s < n := Nat.div_lt_of_lt_mul hn
    have : (4096 : Int) / (s : Int) = ((4096 / s : Nat) : Int) := by simp
    omega
  have hq0 : (0 : Int) ≤ (4096 : Int) / (s : Int) := Int.ediv_nonneg (by decide) (by omega)
  clear hn
  go_enter Try.func16, Try.ntmps16
  go_wp2
  go_ret2
  exact ⟨rfl, rfl⟩

/-- What is as long as it was, whatever it holds now. -/
def RowN (w : World) (g : Nat) (t : TypeId) (n : Nat) : Prop := ∃ L, L.length = n ∧ Row w g t L

set_option maxHeartbeats 1000000 in
theorem Lay_unfit (s b off n cap : Nat) (l : List Int) (w : World) (hs1 : 1 ≤ s) (hs8 : s ≤ 8) (hl : l.length = n) (hc : ∀ j (hj : j < l.length), w.cell? ⟨b, off + j, none⟩ = some (.int .u64 l[j])) (hbw : b < w.heap.size) (hu : ∀ x ∈ l, 0 ≤ x ∧ x < 18446744073709551616) (hn : s * n ≤ 4096) (hf : ∃ x ∈ l, fitsB x s = false) :
    Calls Try.prog 16 #[.int .i64 s, .slice (some ⟨b, off, none⟩) n cap] w fun e w' => e = .returned (.tuple #[.slice none 0 0, .int .i64 4]) ∧ Ext w w' := by
  have hmk := make8 w ((s : Int) * n) (s * n) (by simp) (by omega)
  have hn1 : (n : Int) ≤ 4096 / (s : Int) := by
    have h1 : n ≤ 4096 / s := (Nat.le_div_iff_mul_le hs1).2 (by rw [Nat.mul_comm]; exact hn)
    rw [show (4096 : Int) / (s : Int) = ((4096 / s : Nat) : Int) by simp]; omega
  have hn2 : n ≤ 4096 := by have := Nat.mul_le_mul_right n hs1; omega
  have HU := Lib.hid hu; clear hu
  have HF := Lib.hid hf; clear hf
  have HC := Lib.hid hc; clear hc
  have HL := Lib.hid hl; clear hl
  go_enter Try.func16, Try.ntmps16
  go_wp2_with fail
  clear hmk hn1
  go_loopw [29] (fun v wr => ∃ k : Nat, k ≤ n ∧ v = .int .i64 k ∧ RowN wr w.heap.size 5 (s * n) ∧ Ext w wr ∧ Hid (∀ x ∈ l.take k, fitsB x s = true)) (fun v _ => n - (intOf v).toNat)
  case atStart => exact ⟨0, by omega, rfl, ⟨_, by simp [ints_length], Row.new w 5 (ints .u8 (List.replicate (s * n) 0))⟩, (Ext.refl w).alloc _, fun x hx => by simp at hx⟩
  case round =>
    obtain ⟨k, hk, rfl, ⟨M, hML, hr⟩, hX, hfit⟩ := hrel
    by_cases hlt : k < n
    · have hlk : k < l.length := by rw [HL.out]; exact hlt
      have hcell := HC.out k hlk
      rw [← hX.cell (p := ⟨b, off + k, none⟩) hbw] at hcell
      have hux := HU.out l[k] (List.getElem_mem hlk)
      have hts : Hid (l.take (k + 1) = l.take k ++ [l[k]]) := List.take_succ_eq_append_getElem hlk
      generalize l[k] = x at *
      clear hlk
      obtain ⟨hu0, hu1⟩ := hux
      have e1 : (k : Int) * s = ((s * k : Nat) : Int) := by simp [Int.mul_comm]
      have e2 : ((k : Int) + 1) * s = ((s * k : Nat) : Int) + s := by rw [Int.add_mul, e1]; simp
      have e3 : s * (k + 1) ≤ s * n := Nat.mul_le_mul_left s hlt
      have e4 : s * (k + 1) = s * k + s := by rw [Nat.mul_add]; omega
      rw [e4] at e3
      clear e4
      have hp : ¬ (s * n = s * k) := by omega
      generalize hq : s * n = q at *
      generalize hpp : s * k = p at *
      have HQ := Lib.hid hq; clear hq
      have HP := Lib.hid hpp; clear hpp
      have HML := Lib.hid hML; clear hML
      by_cases hfx : fitsB x s = true
      · have HFX := Lib.hid hfx
        go_wp2_with fail
        refine (fits_ok x s hu0 hu1 hs1 hs8 _).mono ?_
        rintro e w' ⟨rfl, rfl⟩
        rw [hfx]
        clear hfx
        go_wp2_with fail
        refine (put_ok w.heap.size p s (q - p) x _ wr hu0 hu1 hs8 (by rw [HML.out]; omega) hr).mono ?_
        rintro e w' ⟨rfl, hr', hby⟩
        replace hX := hX.by hby (Nat.le_refl _)
        have hlen : Hid ((splice M p (ints .u8 (bytesOf s x))).length = q) := by
          have h1 : (splice M p (ints .u8 (bytesOf s x))).length = M.length := length_splice _ _ _ (by rw [ints_length, length_bytesOf, HML.out]; exact e3)
          exact h1.trans HML.out
        generalize splice M p (ints .u8 (bytesOf s x)) = M' at *
        clear hr hby hp e3
        go_wp2
        go_roundw
        case rel => exact ⟨k + 1, hlt, by go_num, ⟨_, hlen.out, hr'⟩, hX, by
          intro y hy
          rw [hts.out] at hy
          rcases List.mem_append.1 hy with h1 | h1
          · exact hfit.out y h1
          · rw [List.mem_singleton] at h1; rw [h1]; exact HFX.out⟩
        case measure => simp [intOf]; omega
      · have hfx' : fitsB x s = false := by simpa using hfx
        clear hfx
        go_wp2_with fail
        refine (fits_ok x s hu0 hu1 hs1 hs8 _).mono ?_
        rintro e w' ⟨rfl, rfl⟩
        rw [hfx']
        clear hfx'
        go_wp2_with fail
        go_ret2
        exact ⟨rfl, hX⟩
    · have : k = n := by omega
      subst this
      exfalso
      obtain ⟨x, hx, hx'⟩ := HF.out
      rw [hfit.out x (by rw [List.take_of_length_le (by rw [HL.out]; exact Nat.le_refl _)]; exact hx)] at hx'
      cases hx'

theorem Lay_no (s : Nat) (a : Option Addr) (n cap : Nat) (l : List Int) (w : World) (hs1 : 1 ≤ s) (hs8 : s ≤ 8) (hl : l.length = n) (hx : Sl w a (ints .u64 l)) (hu : ∀ x ∈ l, 0 ≤ x ∧ x < 18446744073709551616) (hm : n ≤ 9223372036854775807) (h : okLay s l = false) :
    Calls Try.prog 16 #[.int .i64 s, .slice a n cap] w fun e w' => e = .returned (.tuple #[.slice none 0 0, .int .i64 4]) ∧ Ext w w' := by
  by_cases h4 : s * n ≤ 4096
  · rcases okLay_false h with h1 | h1
    · rw [hl] at h1; omega
    · have h1' := h1
      obtain ⟨x, hx1, _⟩ := h1
      have h0 : 0 < l.length := List.length_pos_of_mem hx1
      obtain ⟨b, off, rfl, hc⟩ := hx.ints h0
      exact Lay_unfit s b off n cap l w hs1 hs8 hl hc (hx.lt (by rw [ints_length]; exact h0) _ rfl) hu h4 h1'
  · exact (Lay_long s a n cap w hs1 hs8 (by omega) hm).mono fun e w' ⟨h1, h2⟩ => ⟨h1, by subst h2; exact Ext.refl _⟩
theorem Lay_yes (s : Nat) (a : Option Addr) (n cap : Nat) (l : List Int) (w : World) (hs1 : 1 ≤ s) (hs8 : s ≤ 8) (hl : l.length = n) (hx : Sl w a (ints .u64 l)) (hu : ∀ x ∈ l, 0 ≤ x ∧ x < 18446744073709551616) (h : okLay s l = true) :
    Calls Try.prog 16 #[.int .i64 s, .slice a n cap] w fun e w' => e = .returned (.tuple #[.slice (some ⟨w.heap.size, 0, none⟩) (s * n) (s * n), .int .i64 0]) ∧ Row w' w.heap.size 5 (ints .u8 (layed s l)) ∧ Ext w w' := by
  obtain ⟨h1, h2⟩ := okLay_true h
  rw [hl] at h1
  exact Lay_ok s a n cap l w hs1 hs8 hl hx hu ((Nat.le_div_iff_mul_le hs1).2 (by rw [Nat.mul_comm]; exact h1)) h2

theorem rLay_arg (a : Option Addr) (n cap : Nat) (s : Int) (w : World) (h : s < 1 ∨ 8 < s) :
    Calls Try.prog 17 #[.int .i64 s, .slice a n cap] w fun e w' => e = .returned (.tuple #[.slice none 0 0, .int .i64 1]) ∧ w = w' := by
  by_cases h1 : s < 1
  · clear h
    go_enter Try.func17, Try.ntmps17
    go_wp2
    go_ret2
    exact ⟨rfl, rfl⟩
  · have h2 : 8 < s := by omega
    clear h
    go_enter Try.func17, Try.ntmps17
    go_wp2
    go_ret2
    exact ⟨rfl, rfl⟩

/-- What the reference's Lay answers. -/
def RLay (w : World) (s : Nat) (l : List Int) (e : Ending) (w' : World) : Prop :=
  (okLay s l = true ∧ OwnB0 w (layed s l) e w') ∨ (okLay s l = false ∧ e = .returned (.tuple #[.slice none 0 0, .int .i64 4]) ∧ Ext w w')

theorem okLay_of {s : Nat} {l : List Int} {n : Nat} (hl : l.length = n) (h1 : s * n ≤ 4096) (h2 : ∀ x ∈ l, fitsB x s = true) : okLay s l = true := by
  unfold okLay
  rw [hl, decide_eq_true h1, Bool.true_and]
  simpa using h2
theorem okLay_not_long {s : Nat} {l : List Int} {n : Nat} (hl : l.length = n) (h1 : 4096 < s * n) : okLay s l = false := by
  unfold okLay
  rw [hl, decide_eq_false (by omega)]; rfl
theorem okLay_not_fit {s : Nat} {l : List Int} {x : Int} (hx : x ∈ l) (h1 : fitsB x s = false) : okLay s l = false := by
  unfold okLay
  have : l.all (fitsB · s) = false := by simp; exact ⟨x, hx, h1⟩
  rw [this, Bool.and_false]

set_option maxHeartbeats 2000000 in
theorem rLay_pos (s b off n cap : Nat) (l : List Int) (w : World) (hs1 : 1 ≤ s) (hs8 : s ≤ 8) (hl : l.length = n) (hm : n ≤ 9223372036854775807) (hc : ∀ j (hj : j < l.length), w.cell? ⟨b, off + j, none⟩ = some (.int .u64 l[j])) (hbw : b < w.heap.size) (hu : ∀ x ∈ l, 0 ≤ x ∧ x < 18446744073709551616) :
    Calls Try.prog 17 #[.int .i64 s, .slice (some ⟨b, off, none⟩) n cap] w (RLay w s l) := by
  have HU := Lib.hid hu; clear hu
  have HC := Lib.hid hc; clear hc
  have HL := Lib.hid hl; clear hl
  go_enter Try.func17, Try.ntmps17
  go_wp2_with fail
  go_loopw [6, 7] (fun u v wr => ∃ (k m c : Nat) (ao : Option Addr), k ≤ n ∧ Hid (m = s * k) ∧ m ≤ 4096 ∧ v = .int .i64 k ∧ u = .slice ao m c ∧ wr.ownsRow w.heap.size 5 1 (.slice ao m c) m (ints .u8 (layed s (l.take k))) ∧ Ext w wr ∧ Hid (∀ x ∈ l.take k, fitsB x s = true)) (fun _ v _ => n - (intOf v).toNat)
  case atStart => exact ⟨0, 0, 0, none, by omega, rfl, by omega, rfl, rfl, ownsRow_nil _ _ _, Ext.refl _, fun x hx => by simp at hx⟩
  case round =>
    obtain ⟨k, m, c, ao, hk, hmk, hm4, rfl, rfl, hown, hX, hfit⟩ := hrel
    by_cases hlt : k < n
    · have hlk : k < l.length := by rw [HL.out]; exact hlt
      have hcell := HC.out k hlk
      rw [← hX.cell (p := ⟨b, off + k, none⟩) hbw] at hcell
      have hux := HU.out l[k] (List.getElem_mem hlk)
      have hmem : Hid (l[k] ∈ l) := List.getElem_mem hlk
      have hts : Hid (l.take (k + 1) = l.take k ++ [l[k]]) := List.take_succ_eq_append_getElem hlk
      generalize l[k] = x at *
      clear hlk
      obtain ⟨hu0, hu1⟩ := hux
      have e3 : Hid (s * k + s ≤ s * n) := by show s * k + s ≤ s * n; rw [← Nat.mul_succ]; exact Nat.mul_le_mul_left s hlt
      by_cases hfx : fitsB x s = true
      · have HFX := Lib.hid hfx
        by_cases hle : m + s ≤ 4096
        · have hle' : (m : Int) + s ≤ 4096 := by omega
          go_wp2_with fail
          refine (rfits_ok x s hu0 hu1 hs1 hs8 _).mono ?_
          rintro e w' ⟨rfl, rfl⟩
          rw [hfx]
          clear hfx
          go_wp2_with fail
          refine (rNum_ok x s _ hu0 hu1 hs8).mono ?_
          rintro e w3 ⟨a3, c3, rfl, hown3, hX3⟩
          rw [length_bytesOf] at hown3
          rw [length_bytesOf]
          have hown2' := ownsRow_ext hown hX3
          have X3 := hX.trans hX3
          obtain ⟨a4, c4, w4, hrun4, hown4, hext4⟩ := run_append_sl (P := Try.prog) w3 w.heap.size 22 22 5 (.int .u8 0) 1 Try.underlying22 info8 rfl hown2' (m := s) c3 (by rw [ints_length, length_bytesOf]) (ownsRow_sl hown3) (own_nil hown3) (ints_oneCell' _ _) (by omega) (by omega) X3.size
          have X4 := hext4 w X3 (Nat.le_refl _)
          rw [← ints_append, ← layed_snoc, ← hts.out] at hown4
          have hmk' : Hid (m + s = s * (k + 1)) := by show m + s = s * (k + 1); rw [hmk.out, Nat.mul_succ]
          clear hext4 hown3 hown hown2'
          go_wp2_with (at_builtin; refine Lib.wpList_append_run _ rfl _ _ _ _ rfl _ _ rfl rfl _ _ hrun4 ?_)
          go_roundw
          case rel => exact ⟨k + 1, m + s, c4, a4, hlt, hmk', hle, by go_num, rfl, hown4, X4, by
            intro y hy
            rw [hts.out] at hy
            rcases List.mem_append.1 hy with h1 | h1
            · exact hfit.out y h1
            · rw [List.mem_singleton] at h1; rw [h1]; exact HFX.out⟩
          case measure => simp [intOf]; omega
        · have hle' : (4096 : Int) < (m : Int) + s := by omega
          have hno : Hid (okLay s l = false) := okLay_not_long HL.out (by have := e3.out; have := hmk.out; omega)
          clear hle
          go_wp2_with fail
          refine (rfits_ok x s hu0 hu1 hs1 hs8 _).mono ?_
          rintro e w' ⟨rfl, rfl⟩
          rw [hfx]
          clear hfx
          go_wp2_with fail
          go_ret2
          exact .inr ⟨hno.out, rfl, hX⟩
      · have hfx' : fitsB x s = false := by simpa using hfx
        have hno : Hid (okLay s l = false) := okLay_not_fit hmem.out hfx'
        clear hfx
        go_wp2_with fail
        refine (rfits_ok x s hu0 hu1 hs1 hs8 _).mono ?_
        rintro e w' ⟨rfl, rfl⟩
        rw [hfx']
        clear hfx'
        go_wp2_with fail
        go_ret2
        exact .inr ⟨hno.out, rfl, hX⟩
    · have : k = n := by omega
      subst this
      have htk : l.take k = l := List.take_of_length_le (by rw [HL.out]; exact Nat.le_refl _)
      rw [htk] at hown hfit
      have hyes : Hid (okLay s l = true) := okLay_of HL.out (by have := hmk.out; omega) hfit.out
      have hml : Hid ((layed s l).length = m) := by show _ = _; rw [length_layed, HL.out, hmk.out]
      clear htk
      go_wp2
      go_ret2
      exact .inl ⟨hyes.out, ao, c, by rw [hml.out]; rfl, by rw [hml.out]; exact hown, hX⟩

set_option maxHeartbeats 400000 in
theorem rLay_zero (s : Nat) (a : Option Addr) (cap : Nat) (w : World) (hs1 : 1 ≤ s) (hs8 : s ≤ 8) :
    Calls Try.prog 17 #[.int .i64 s, .slice a 0 cap] w fun e w' => e = .returned (.tuple #[.slice none 0 0, .int .i64 0]) ∧ w = w' := by
  go_enter Try.func17, Try.ntmps17
  go_wp2
  refine wp_loop_once ?_
  go_wp2
  go_ret2
  exact ⟨rfl, rfl⟩

theorem rLay_ok (s : Nat) (a : Option Addr) (n cap : Nat) (l : List Int) (w : World) (hs1 : 1 ≤ s) (hs8 : s ≤ 8) (hl : l.length = n) (hm : n ≤ 9223372036854775807) (hx : Sl w a (ints .u64 l)) (hu : ∀ x ∈ l, 0 ≤ x ∧ x < 18446744073709551616) :
    Calls Try.prog 17 #[.int .i64 s, .slice a n cap] w (RLay w s l) := by
  by_cases h0 : n = 0
  · subst h0
    have : l = [] := List.eq_nil_of_length_eq_zero hl
    subst this
    exact (rLay_zero s a cap w hs1 hs8).mono fun e w' ⟨h1, h2⟩ => .inl ⟨by simp [okLay], none, 0, h1, ownsRow_nil _ _ _, by subst h2; exact Ext.refl _⟩
  · obtain ⟨b, off, rfl, hc⟩ := hx.ints (by omega)
    exact rLay_pos s b off n cap l w hs1 hs8 hl hm hc (hx.lt (by rw [ints_length]; omega) _ rfl) hu
end Go.Proofs.Ytgflpbbdohmhiaa.Field
