/- field.Lay, whatever comes in. -/
import Derived.Test.YtfodpphbdbeciaaField
import Derived.Test.YtfodpphbdbeciaaGv
namespace Go.Proofs.Ytfodpphbdbeciaa.Field
open Go.RowKit Words Mem Plain Ops
set_option maxRecDepth 100000
set_option linter.unusedVariables false
set_option linter.unusedSimpArgs false

def okLay (s : Nat) (l : List Int) : Bool := decide (s * l.length ≤ 4096) && l.all (fitsB · s)
theorem okLay_true {s : Nat} {l : List Int} (h : okLay s l = true) : s * l.length ≤ 4096 ∧ ∀ x ∈ l, fitsB x s = true := by
  unfold okLay at h; rw [Bool.and_eq_true] at h
  exact ⟨by simpa using h.1, by simpa using h.2⟩
theorem okLay_false {s : Nat} {l : List Int} (h : okLay s l = false) : 4096 < s * l.length ∨ ∃ x ∈ l, fitsB x s = false := by
  unfold okLay at h
  by_cases h1 : s * l.length ≤ 4096
  · right
    rw [decide_eq_true h1, Bool.true_and] at h
    simpa using h
  · left; omega
theorem Lay_arg (a : Option Addr) (n cap : Nat) (s : Int) (w : World) (h : s < 1 ∨ 8 < s) :
    Calls Try.prog 40 #[.int .i64 s, .slice a n cap] w fun e w' => e = .returned (.tuple #[.slice none 0 0, .int .i64 1]) ∧ w = w' := by
  by_cases h1 : s < 1
  · clear h
    go_enter Try.func40, Try.ntmps40
    go_wp2
    go_ret2
    exact ⟨rfl, rfl⟩
  · have h2 : 8 < s := by omega
    clear h
    go_enter Try.func40, Try.ntmps40
    go_wp2
    go_ret2
    exact ⟨rfl, rfl⟩
theorem Lay_long (s : Nat) (a : Option Addr) (n cap : Nat) (w : World) (hs1 : 1 ≤ s) (hs8 : s ≤ 8) (hn : 4096 < s * n) (hm : n ≤ 9223372036854775807) :
    Calls Try.prog 40 #[.int .i64 s, .slice a n cap] w fun e w' => e = .returned (.tuple #[.slice none 0 0, .int .i64 4]) ∧ w = w' := by
  have hq : (4096 : Int) / (s : Int) < n := by
    have h1 : 4096 / s < n := Nat.div_lt_of_lt_mul hn
    have : (4096 : Int) / (s : Int) = ((4096 / s : Nat) : Int) := by simp
    omega
  have hq0 : (0 : Int) ≤ (4096 : Int) / (s : Int) := Int.ediv_nonneg (by decide) (by omega)
  clear hn
  go_enter Try.func40, Try.ntmps40
  go_wp2
  go_ret2
  exact ⟨rfl, rfl⟩
def RowN (w : World) (g : Nat) (t : TypeId) (n : Nat) : Prop := ∃ L, L.length = n ∧ Row w g t L
theorem Lay_unfit (s b off n cap : Nat) (l : List Int) (w : World) (hs1 : 1 ≤ s) (hs8 : s ≤ 8) (hl : l.length = n) (hc : ∀ j (hj : j < l.length), w.cell? ⟨b, off + j, none⟩ = some (.int .u64 l[j])) (hbw : b < w.heap.size) (hu : ∀ x ∈ l, 0 ≤ x ∧ x < 18446744073709551616) (hn : s * n ≤ 4096) (hf : ∃ x ∈ l, fitsB x s = false) :
    Calls Try.prog 40 #[.int .i64 s, .slice (some ⟨b, off, none⟩) n cap] w fun e w' => e = .returned (.tuple #[.slice none 0 0, .int .i64 4]) ∧ Ext w w' := by
  have hmk := make8 w ((s : Int) * n) (s * n) (by simp) (by omega)
  have hn1 : (n : Int) ≤ 4096 / (s : Int) := by
    have h1 : n ≤ 4096 / s := (Nat.le_div_iff_mul_le hs1).2 (by rw [Nat.mul_comm]; exact hn)
    rw [show (4096 : Int) / (s : Int) = ((4096 / s : Nat) : Int) by simp]; omega
  have hn2 : n ≤ 4096 := by have := Nat.mul_le_mul_right n hs1; omega
  have HU := Lib.hid hu; clear hu
  have HF := Lib.hid hf; clear hf
  have HC := Lib.hid hc; clear hc
  have HL := Lib.hid hl; clear hl
  go_enter Try.func40, Try.ntmps40
  go_wp2_with fail
  clear hmk hn1
  go_loopw [29] (fun v wr => ∃ k : Nat, k ≤ n ∧ v = .int .i64 k ∧ RowN wr w.heap.size 5 (s * n) ∧ Ext w wr ∧ Hid (∀ x ∈ l.take k, fitsB x s = true)) (fun v _ => n - (intOf v).toNat)
  case atStart => exact ⟨0, by omega, rfl, ⟨_, by simp [ints_length], Row.new w 5 (ints .u8 (List.replicate (s * n) 0))⟩, (Ext.refl w).alloc _, fun x hx => by simp at hx⟩
  case round =>
    obtain ⟨k, hk, rfl, ⟨M, hML, hr⟩, hX, hfit⟩ := hrel
    by_cases hlt : k < n
    · have hlk : k < l.length := by rw [HL.out]; exact hlt
      have hcell := HC.out k hlk
      rw [← hX.cell (p := ⟨b, off + k, none⟩) hbw] at hcell
      have hux := HU.out l[k] (List.getElem_mem hlk)
      have hts : Hid (l.take (k + 1) = l.take k ++ [l[k]]) := List.take_succ_eq_append_getElem hlk
      generalize l[k] = x at *
      clear hlk
      obtain ⟨hu0, hu1⟩ := hux
      have e1 : (k : Int) * s = ((s * k : Nat) : Int) := by simp [Int.mul_comm]
      have e2 : ((k : Int) + 1) * s = ((s * k : Nat) : Int) + s := by rw [Int.add_mul, e1]; simp
      have e3 : s * (k + 1) ≤ s * n := Nat.mul_le_mul_left s hlt
      have e4 : s * (k + 1) = s * k + s := by rw [Nat.mul_add]; omega
      rw [e4] at e3
      clear e4
      have hp : ¬ (s * n = s * k) := by omega
      generalize hq : s * n = q at *
      generalize hpp : s * k = p at *
      have HQ := Lib.hid hq; clear hq
      have HP := Lib.hid hpp; clear hpp
      have HML := Lib.hid hML; clear hML
      by_cases hfx : fitsB x s = true
      · have HFX := Lib.hid hfx
        go_wp2_with fail
        refine (fits_ok x s hu0 hu1 hs1 hs8 _).mono ?_
        rintro e w' ⟨rfl, rfl⟩
        rw [hfx]
        clear hfx
        go_wp2_with fail
        refine (put_ok w.heap.size p s (q - p) x _ wr hu0 hu1 hs8 (by rw [HML.out]; omega) hr).mono ?_
        rintro e w' ⟨rfl, hr', hby⟩
        replace hX := hX.by hby (Nat.le_refl _)
        have hlen : Hid ((splice M p (ints .u8 (bytesOf s x))).length = q) := by
          have h1 : (splice M p (ints .u8 (bytesOf s x))).length = M.length := length_splice _ _ _ (by rw [ints_length, length_bytesOf, HML.out]; exact e3)
          exact h1.trans HML.out
        generalize splice M p (ints .u8 (bytesOf s x)) = M' at *
        clear hr hby hp e3
        go_wp2
        go_roundw
        case rel => exact ⟨k + 1, hlt, by go_num, ⟨_, hlen.out, hr'⟩, hX, by
          intro y hy
          rw [hts.out] at hy
          rcases List.mem_append.1 hy with h1 | h1
          · exact hfit.out y h1
          · rw [List.mem_singleton] at h1; rw [h1]; exact HFX.out⟩
        case measure => simp [intOf]; omega
      · have hfx' : fitsB x s = false := by simpa using hfx
        clear hfx
        go_wp2_with fail
        refine (fits_ok x s hu0 hu1 hs1 hs8 _).mono ?_
        rintro e w' ⟨rfl, rfl⟩
        rw [hfx']
        clear hfx'
        go_wp2_with fail
        go_ret2
        exact ⟨rfl, hX⟩
    · have : k = n := by omega
      subst this
      exfalso
      obtain ⟨x, hx, hx'⟩ := HF.out
      rw [hfit.out x (by rw [List.take_of_length_le (by rw [HL.out]; exact Nat.le_refl _)]; exact hx)] at hx'
      cases hx'
theorem Lay_no (s : Nat) (a : Option Addr) (n cap : Nat) (l : List Int) (w : World) (hs1 : 1 ≤ s) (hs8 : s ≤ 8) (hl : l.length = n) (hx : Sl w a (ints .u64 l)) (hu : ∀ x ∈ l, 0 ≤ x ∧ x < 18446744073709551616) (hm : n ≤ 9223372036854775807) (h : okLay s l = false) :
    Calls Try.prog 40 #[.int .i64 s, .slice a n cap] w fun e w' => e = .returned (.tuple #[.slice none 0 0, .int .i64 4]) ∧ Ext w w' := by
  by_cases h4 : s * n ≤ 4096
  · rcases okLay_false h with h1 | h1
    · rw [hl] at h1; omega
    · have h1' := h1
      obtain ⟨x, hx1, _⟩ := h1
      have h0 : 0 < l.length := List.length_pos_of_mem hx1
      obtain ⟨b, off, rfl, hc⟩ := hx.ints h0
      exact Lay_unfit s b off n cap l w hs1 hs8 hl hc (hx.lt (by rw [ints_length]; exact h0) _ rfl) hu h4 h1'
  · exact (Lay_long s a n cap w hs1 hs8 (by omega) hm).mono fun e w' ⟨h1, h2⟩ => ⟨h1, by subst h2; exact Ext.refl _⟩
theorem Lay_yes (s : Nat) (a : Option Addr) (n cap : Nat) (l : List Int) (w : World) (hs1 : 1 ≤ s) (hs8 : s ≤ 8) (hl : l.length = n) (hx : Sl w a (ints .u64 l)) (hu : ∀ x ∈ l, 0 ≤ x ∧ x < 18446744073709551616) (h : okLay s l = true) :
    Calls Try.prog 40 #[.int .i64 s, .slice a n cap] w fun e w' => e = .returned (.tuple #[.slice (some ⟨w.heap.size, 0, none⟩) (s * n) (s * n), .int .i64 0]) ∧ Row w' w.heap.size 5 (ints .u8 (layed s l)) ∧ Ext w w' := by
  obtain ⟨h1, h2⟩ := okLay_true h
  rw [hl] at h1
  exact Lay_ok s a n cap l w hs1 hs8 hl hx hu ((Nat.le_div_iff_mul_le hs1).2 (by rw [Nat.mul_comm]; exact h1)) h2
theorem okLay_of {s : Nat} {l : List Int} {n : Nat} (hl : l.length = n) (h1 : s * n ≤ 4096) (h2 : ∀ x ∈ l, fitsB x s = true) : okLay s l = true := by
  unfold okLay
  rw [hl, decide_eq_true h1, Bool.true_and]
  simpa using h2
theorem okLay_not_long {s : Nat} {l : List Int} {n : Nat} (hl : l.length = n) (h1 : 4096 < s * n) : okLay s l = false := by
  unfold okLay
  rw [hl, decide_eq_false (by omega)]; rfl
theorem okLay_not_fit {s : Nat} {l : List Int} {x : Int} (hx : x ∈ l) (h1 : fitsB x s = false) : okLay s l = false := by
  unfold okLay
  have : l.all (fitsB · s) = false := by simp; exact ⟨x, hx, h1⟩
  rw [this, Bool.and_false]
def layR (s : Int) (l : List Int) : List Int × Int :=
  if s < 1 ∨ 8 < s then ([], 1) else if okLay s.toNat l then (layed s.toNat l, 0) else ([], 4)
theorem Lay_gave (a : Option Addr) (n cap : Nat) (xs : List Int) (w : World) (s : Int) (hl : xs.length = n) (hm : n ≤ 9223372036854775807) (hx : Sl w a (ints .u64 xs)) (hu : ∀ x ∈ xs, 0 ≤ x ∧ x < 18446744073709551616) :
    Calls Try.prog 40 #[.int .i64 s, .slice a n cap] w (Gave .u8 5 w (layR s xs)) := by
  unfold layR
  by_cases h : s < 1 ∨ 8 < s
  · rw [if_pos h]
    exact (Lay_arg a n cap s w h).mono fun e w' ⟨h1, h2⟩ => Gave.nil h1 (by subst h2; exact Ext.refl _)
  · rw [if_neg h]
    obtain ⟨q, rfl⟩ : ∃ q : Nat, s = q := ⟨s.toNat, by omega⟩
    rw [Int.toNat_natCast]
    by_cases h4 : okLay q xs = true
    · rw [if_pos h4]
      have hb := (okLay_true h4).1
      refine (Lay_yes q a n cap xs w (by omega) (by omega) hl hx hu h4).mono fun e w' ⟨h1, h2, h3⟩ => Gave.row h1 (by rw [length_layed, hl]) (by unfold maxLen; rw [hl] at hb; omega) h2 h3
    · rw [if_neg h4]
      exact (Lay_no q a n cap xs w (by omega) (by omega) hl hx hu hm (by simpa using h4)).mono fun e w' ⟨h1, h2⟩ => Gave.nil h1 h2
end Go.Proofs.Ytfodpphbdbeciaa.Field
