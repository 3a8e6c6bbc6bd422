/- Contracts of bits.Has, within, Count, First, List and of the reference's. -/
import Derived.Test.YtnodinancnfoeaaRows
import Derived.Test.YtnodinancnfoeaaOps
import Derived.Laws.BitsAllLaws
import Derived.LoopTactic
namespace Go.Proofs.Ytnodinancnfoeaa.Bit
open Go.RowKit Words Mem Plain Ops
set_option linter.unusedVariables false
set_option linter.unusedSimpArgs false

theorem and_one_u8 (y : Int) (h0 : 0 ≤ y) (h1 : y < 256) : bits .and .u8 y 1 = y % 2 := by
  rw [u8_and y 1 h0 h1 (by decide) (by decide)]
  obtain ⟨m, rfl⟩ := Int.eq_ofNat_of_zero_le h0
  have : (m &&& 1) = m % 2 := Nat.and_one_is_mod m
  simp [this]

/-- Bit k of bytes. -/
def bitN (xs : List Int) (k : Nat) : Bool := xs.getD (k / 8) 0 / 2 ^ (k % 8) % 2 == 1
/-- Is bit i there, and 1? -/
def bitB (xs : List Int) (i : Int) : Bool := decide (0 ≤ i) && (decide (i < 8 * xs.length) && bitN xs i.toNat)

theorem Has_no (a : Option Addr) (n cap : Nat) (xs : List Int) (i : Int) (w : World) (hl : xs.length = n) (hn : n ≤ 1152921504606846975) (h : i < 0 ∨ 8 * (n : Int) ≤ i) : Calls Try.prog 55 #[.slice a n cap, .int .i64 i] w fun e w' => e = .returned (.bool (bitB xs i)) ∧ w = w' := by
  have hb : bitB xs i = false := by
    unfold bitB; rw [hl]
    rcases h with h | h
    · rw [decide_eq_false (by omega)]; rfl
    · rw [decide_eq_false (p := i < _) (by omega)]; simp
  rw [hb]
  by_cases h0 : i < 0
  · clear h
    go_enter Try.func55, Try.ntmps55
    go_wp2
    go_ret
    exact ⟨rfl, rfl⟩
  · have h1 : 8 * (n : Int) ≤ i := by omega
    clear h
    go_enter Try.func55, Try.ntmps55
    go_wp2
    go_ret
    exact ⟨rfl, rfl⟩

theorem Has_yes (b off n cap : Nat) (xs : List Int) (k : Nat) (x : Int) (w : World) (hl : xs.length = n) (hn : n ≤ 1152921504606846975) (h : k < 8 * n) (hx : x = xs.getD (k / 8) 0) (h0 : 0 ≤ x) (h1 : x < 256) (hc : w.cell? ⟨b, off + k / 8, none⟩ = some (.int .u8 x)) : Calls Try.prog 55 #[.slice (some ⟨b, off, none⟩) n cap, .int .i64 k] w fun e w' => e = .returned (.bool (bitB xs k)) ∧ w = w' := by
  have hk : k / 8 < n := by omega
  have HX := Lib.hid hx; clear hx
  have HL := Lib.hid hl; clear hl
  go_enter Try.func55, Try.ntmps55
  go_wp2
  go_ret
  refine ⟨?_, rfl⟩
  have hq0 : 0 ≤ x / 2 ^ (k % 8) := Int.ediv_nonneg h0 (Int.le_of_lt (Int.pow_pos (by decide)))
  have hq1 : x / 2 ^ (k % 8) ≤ x := Int.ediv_le_self _ h0
  have e : bitB xs k = (bits BinOp.and IntKind.u8 (x / 2 ^ (k % 8)) 1 == 1) := by
    rw [and_one_u8 _ hq0 (by omega)]
    unfold bitB bitN
    rw [HL.out, decide_eq_true (by omega), decide_eq_true (p := (k : Int) < _) (by omega), Int.toNat_natCast, ← HX.out]
    simp
  rw [e]; rfl

theorem Has_ok (a : Option Addr) (n cap : Nat) (xs : List Int) (i : Int) (w : World) (hl : xs.length = n) (hn : n ≤ 1152921504606846975) (hb : isBytes xs) (hs : Sl w a (ints .u8 xs)) : Calls Try.prog 55 #[.slice a n cap, .int .i64 i] w fun e w' => e = .returned (.bool (bitB xs i)) ∧ w = w' := by
  by_cases h : i < 0 ∨ 8 * (n : Int) ≤ i
  · exact Has_no a n cap xs i w hl hn h
  · obtain ⟨k, rfl⟩ := Int.eq_ofNat_of_zero_le (show 0 ≤ i by omega)
    obtain ⟨b, off, rfl, hc⟩ := hs.ints (by omega)
    have hk : k / 8 < xs.length := by omega
    have hx := hb xs[k / 8] (List.getElem_mem hk)
    exact Has_yes b off n cap xs k xs[k / 8] w hl hn (by omega) (by simp [List.getD, hk]) hx.1 hx.2 (hc _ hk)

theorem rHas_no (a : Option Addr) (n cap : Nat) (xs : List Int) (i : Int) (w : World) (hl : xs.length = n) (hn : n ≤ 1152921504606846975) (h : i < 0 ∨ 8 * (n : Int) ≤ i) : Calls Try.prog 36 #[.slice a n cap, .int .i64 i] w fun e w' => e = .returned (.bool (bitB xs i)) ∧ w = w' := by
  have hb : bitB xs i = false := by
    unfold bitB; rw [hl]
    rcases h with h | h
    · rw [decide_eq_false (by omega)]; rfl
    · rw [decide_eq_false (p := i < _) (by omega)]; simp
  rw [hb]
  by_cases h0 : i < 0
  · clear h
    go_enter Try.func36, Try.ntmps36
    go_wp2
    go_ret
    exact ⟨rfl, rfl⟩
  · have h1 : 8 * (n : Int) ≤ i := by omega
    clear h
    go_enter Try.func36, Try.ntmps36
    go_wp2
    go_ret
    exact ⟨rfl, rfl⟩

theorem half_pow (x : Int) (k : Nat) : x / 2 ^ k / 2 = x / 2 ^ (k + 1) := by
  rw [Int.pow_succ, ← Int.ediv_ediv_of_nonneg (Int.le_of_lt (Int.pow_pos (by decide)))]

set_option maxHeartbeats 400000 in
theorem rHas_yes (b off n cap : Nat) (xs : List Int) (k : Nat) (x : Int) (w : World) (hl : xs.length = n) (hn : n ≤ 1152921504606846975) (h : k < 8 * n) (hx : x = xs.getD (k / 8) 0) (h0 : 0 ≤ x) (h1 : x < 256) (hc : w.cell? ⟨b, off + k / 8, none⟩ = some (.int .u8 x)) : Calls Try.prog 36 #[.slice (some ⟨b, off, none⟩) n cap, .int .i64 k] w fun e w' => e = .returned (.bool (bitB xs k)) ∧ w = w' := by
  have hk : k / 8 < n := by omega
  have HX := Lib.hid hx; clear hx
  have HL := Lib.hid hl; clear hl
  go_enter Try.func36, Try.ntmps36
  go_wp2
  go_loop [5, 6] (fun u v => ∃ m : Nat, m ≤ k % 8 ∧ v = .int .i64 m ∧ u = .int .u8 (x / 2 ^ m)) (fun _ v => k % 8 - (intOf v).toNat)
  case atStart => exact ⟨0, by omega, rfl, by simp⟩
  case round =>
    obtain ⟨m, hm, rfl, rfl⟩ := hrel
    have hh := half_pow x m
    have HH := Lib.hid hh; clear hh
    have hq0 : 0 ≤ x / 2 ^ m := Int.ediv_nonneg h0 (Int.le_of_lt (Int.pow_pos (by decide)))
    have hq1 : x / 2 ^ m ≤ x := Int.ediv_le_self _ h0
    generalize hy : x / 2 ^ m = y at *
    have HY := Lib.hid hy; clear hy
    by_cases hlt : m < k % 8
    · go_wp2
      go_round
      case rel => exact ⟨m + 1, hlt, by go_num, by rw [← HH.out]⟩
      case measure => simp [intOf]; omega
    · have : m = k % 8 := by omega
      go_wp2
      go_ret
      refine ⟨?_, rfl⟩
      have e : bitB xs k = (y % 2 == 1) := by
        unfold bitB bitN
        rw [HL.out, decide_eq_true (by omega), decide_eq_true (p := (k : Int) < _) (by omega), Int.toNat_natCast, ← HX.out, ← this, HY.out]
        simp
      rw [e]; rfl

theorem rHas_ok (a : Option Addr) (n cap : Nat) (xs : List Int) (i : Int) (w : World) (hl : xs.length = n) (hn : n ≤ 1152921504606846975) (hb : isBytes xs) (hs : Sl w a (ints .u8 xs)) : Calls Try.prog 36 #[.slice a n cap, .int .i64 i] w fun e w' => e = .returned (.bool (bitB xs i)) ∧ w = w' := by
  by_cases h : i < 0 ∨ 8 * (n : Int) ≤ i
  · exact rHas_no a n cap xs i w hl hn h
  · obtain ⟨k, rfl⟩ := Int.eq_ofNat_of_zero_le (show 0 ≤ i by omega)
    obtain ⟨b, off, rfl, hc⟩ := hs.ints (by omega)
    have hk : k / 8 < xs.length := by omega
    have hx := hb xs[k / 8] (List.getElem_mem hk)
    exact rHas_yes b off n cap xs k xs[k / 8] w hl hn (by omega) (by simp [List.getD, hk]) hx.1 hx.2 (hc _ hk)

def mx (x : Int) : Int := if x < 0 then 0 else x
def mn (y m : Int) : Int := if m < y then m else y
theorem within_ok (a : Option Addr) (n cap : Nat) (x y : Int) (w : World) (hn : n ≤ 1152921504606846975) : Calls Try.prog 54 #[.slice a n cap, .int .i64 x, .int .i64 y] w fun e w' => e = .returned (.tuple #[.int .i64 (mx x), .int .i64 (mn y (8 * n))]) ∧ w = w' := by
  unfold mx mn
  by_cases h1 : x < 0 <;> by_cases h2 : 8 * (n : Int) < y <;> simp only [h1, h2, if_true, if_false]
  all_goals
    go_enter Try.func54, Try.ntmps54
    go_wp2
    go_ret2
    exact ⟨rfl, rfl⟩

/-- Does bit k count, from one on up to another one? -/
def inR (xs : List Int) (x y : Int) (on : Bool) (k : Nat) : Bool := decide (x ≤ k) && (decide ((k : Int) < y) && (bitN xs k == on))
def countTo (xs : List Int) (x y : Int) (m : Nat) : Nat := ((List.range m).filter (inR xs x y true)).length
def countN (xs : List Int) (x y : Int) : Nat := countTo xs x y (8 * xs.length)
theorem countTo_succ (xs : List Int) (x y : Int) (m : Nat) : countTo xs x y (m + 1) = countTo xs x y m + if inR xs x y true m then 1 else 0 := by
  unfold countTo
  rw [List.range_succ, List.filter_append, List.length_append]
  cases h : inR xs x y true m <;> simp [h]
theorem countTo_same (xs : List Int) (x y : Int) (m d : Nat) (h : ∀ k, m ≤ k → k < m + d → inR xs x y true k = false) : countTo xs x y (m + d) = countTo xs x y m := by
  induction d with
  | zero => rfl
  | succ d ih =>
    rw [← Nat.add_assoc, countTo_succ, h (m + d) (by omega) (by omega), ih (fun k h1 h2 => h k h1 (by omega))]; rfl
theorem countTo_le (xs : List Int) (x y : Int) (m : Nat) : countTo xs x y m ≤ m := by
  unfold countTo
  have := List.length_filter_le (inR xs x y true) (List.range m)
  simpa using this
theorem bitB_nat (xs : List Int) (k : Nat) (h : k < 8 * xs.length) : bitB xs k = bitN xs k := by
  unfold bitB; rw [decide_eq_true (by omega), decide_eq_true (p := (k : Int) < _) (by omega)]; simp

theorem rCount_step (xs : List Int) (x y : Int) (k : Nat) (h : k < 8 * xs.length) : inR xs x y true k = (decide (x ≤ k) && (decide ((k : Int) < y) && bitB xs k)) := by
  rw [bitB_nat xs k h]; unfold inR; simp

end Go.Proofs.Ytnodinancnfoeaa.Bit
