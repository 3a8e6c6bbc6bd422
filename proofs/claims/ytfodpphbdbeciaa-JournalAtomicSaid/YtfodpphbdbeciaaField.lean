/- Contracts of package field: fits, put, get. -/
import Derived.Test.YtfodpphbdbeciaaRows
import Derived.Test.YtfodpphbdbeciaaOps
import Derived.Laws.ShiftsVarLaws
import Derived.Lib.Hide
namespace Go.Proofs.Ytfodpphbdbeciaa.Field
open Go.RowKit Words Mem Plain Ops
set_option maxRecDepth 100000
set_option linter.unusedVariables false


theorem shr_byte (m : Int) (k : Nat) (hk : k < 8) : m / 2 ^ min (8 * (k : Int)).toNat 64 % 256 = byteAt m k := by
  unfold byteAt
  rw [← two_pow, show min (8 * (k : Int)).toNat 64 = 8 * k by omega]

set_option maxHeartbeats 400000 in
theorem put_ok (g off n cap : Nat) (m : Int) (L : List Value) (w : World) (hm0 : 0 ≤ m) (hm : m < 18446744073709551616) (hn : n ≤ 8) (hL : off + n ≤ L.length) (hR : Row w g 5 L) :
    Calls Try.prog 50 #[.slice (some ⟨g, off, none⟩) n cap, .int .u64 m] w fun e w' => e = .returned (.tuple #[]) ∧ Row w' g 5 (splice L off (ints .u8 (bytesOf n m))) ∧ By g w w' := by
  go_enter Try.func50, Try.ntmps50
  go_wp2
  go_loopw [7] (fun v wr => ∃ k : Nat, k ≤ n ∧ v = .int .i64 k ∧ Row wr g 5 (splice L off (ints .u8 (bytesOf k m))) ∧ By g w wr) (fun v _ => n - (intOf v).toNat)
  case atStart => exact ⟨0, by omega, rfl, by simpa [bytesOf, ints_nil, splice_nil] using hR, By.refl _ _⟩
  case round =>
    obtain ⟨k, hk, rfl, hr, hby⟩ := hrel
    by_cases hlt : k < n
    · have hlen : (splice L off (ints .u8 (bytesOf k m))).length = L.length := length_splice _ _ _ (by simp [ints_length, length_bytesOf]; omega)
      have hc := hr.cell (j := off + k) (by rw [hlen]; omega)
      have hf := hr.frozen (off + k)
      generalize (splice L off (ints .u8 (bytesOf k m)))[off + k] = old at hc
      clear hlen
      go_wp2
      go_roundw
      case rel =>
        refine ⟨k + 1, hlt, by go_num, ?_, hby.setTo _ _⟩
        have h1 := hr.set (off + k) (Value.int .u8 (m / 2 ^ (8 * k) % 256))
        have h2 := splice_set L off (ints .u8 (bytesOf k m)) (Value.int .u8 (m / 2 ^ (8 * k) % 256)) (by simp [ints_length, length_bytesOf]; omega)
        simp only [ints_length, length_bytesOf] at h2
        rw [h2] at h1
        rw [bytesOf_succ, ints_append, ints_single]
        unfold byteAt
        rw [← two_pow]
        exact h1
      case measure => simp [intOf]; omega
    · have : k = n := by omega
      subst this
      go_wp2
      go_end0
      exact ⟨rfl, hr, hby⟩

theorem or_join (s x : Int) (k : Nat) (hk : k < 8) (h0 : 0 ≤ s) (h1 : s < 256 ^ k) (hx0 : 0 ≤ x) (hx1 : x < 256) : bits .or .u64 s (IntKind.u64.wrap (x * 2 ^ (8 * k))) = s + 256 ^ k * x := by
  have hp := pow_pos k
  have h8 : (256 : Int) ^ (k + 1) ≤ 256 ^ 8 := pow_mono (by omega)
  rw [p8, Int.pow_succ] at h8
  have hxm : x * 256 ^ k ≤ 255 * 256 ^ k := Int.mul_le_mul_of_nonneg_right (by omega) (by omega)
  have hx00 : 0 ≤ x * 256 ^ k := Int.mul_nonneg hx0 (by omega)
  rw [two_pow, IntKind.wrap_u64, Int.emod_eq_of_lt hx00 (by omega)]
  obtain ⟨a, rfl⟩ := Int.eq_ofNat_of_zero_le h0
  obtain ⟨b, rfl⟩ := Int.eq_ofNat_of_zero_le hx0
  have h2 : (2 : Nat) ^ (8 * k) = 256 ^ k := by rw [Nat.pow_mul]
  have hN : (256 : Int) ^ k = ((256 ^ k : Nat) : Int) := by simp
  rw [hN] at hp h8 h1 hxm hx00 ⊢
  generalize 256 ^ k = N at *
  rw [← Int.natCast_mul, u64_or_nat _ _ (by omega) (by rw [← Int.natCast_mul] at hxm; omega), Nat.or_comm, nat_join (8 * k) _ _ (by rw [h2]; simp) (by omega)]
  rw [Int.natCast_add, Int.natCast_mul, Int.mul_comm, Int.add_comm]

theorem numOf_take_lt {xs : List Int} (h : isBytes xs) (k : Nat) : 0 ≤ numOf (xs.take k) ∧ numOf (xs.take k) < 256 ^ k := by
  refine ⟨numOf_nonneg (isBytes_take h k), ?_⟩
  have h1 := numOf_lt (isBytes_take h k)
  have h2 : (256 : Int) ^ (xs.take k).length ≤ 256 ^ k := pow_mono (by simp; omega)
  omega

set_option maxHeartbeats 400000 in
theorem get_pos (b off n cap : Nat) (xs : List Int) (w : World) (hl : xs.length = n) (hn : n ≤ 8) (hx : isBytes xs) (hc : ∀ j (hj : j < xs.length), w.cell? ⟨b, off + j, none⟩ = some (.int .u8 xs[j])) :
    Calls Try.prog 48 #[.slice (some ⟨b, off, none⟩) n cap] w fun e w' => e = .returned (.int .u64 (numOf xs)) ∧ w = w' := by
  have Hc := Lib.hid hc; clear hc
  go_enter Try.func48, Try.ntmps48
  go_wp2
  go_loop [3, 7] (fun s v => ∃ k : Nat, k ≤ n ∧ v = .int .i64 k ∧ s = .int .u64 (numOf (xs.take k))) (fun _ v => n - (intOf v).toNat)
  case atStart => exact ⟨0, by omega, rfl, by simp [numOf]⟩
  case round =>
    obtain ⟨k, hk, rfl, rfl⟩ := hrel
    by_cases hlt : k < n
    · have hcell := Hc.out k (by omega)
      have hb := hx xs[k] (List.getElem_mem (by omega))
      have hs := numOf_snoc (xs.take k) xs[k]
      have ht := numOf_take_lt hx k
      have hlk : (xs.take k).length = k := by simp; omega
      rw [hlk] at hs
      have HS := Lib.hid hs; clear hs
      generalize numOf (xs.take k) = s at *
      have hj := or_join s xs[k] k (by omega) ht.1 ht.2 hb.1 hb.2
      have HJ := Lib.hid hj; clear hj
      clear ht
      go_wp2
      go_round
      case rel => exact ⟨k + 1, hlt, by go_num, by rw [HJ.out, ← HS.out, List.take_succ_eq_append_getElem (by omega)]⟩
      case measure => simp [intOf]; omega
    · have : k = n := by omega
      subst this
      go_wp2
      go_ret
      rw [List.take_of_length_le (by omega)]
      exact ⟨rfl, rfl⟩

set_option maxHeartbeats 400000 in
theorem get_zero (a : Option Addr) (cap : Nat) (w : World) : Calls Try.prog 48 #[.slice a 0 cap] w fun e w' => e = .returned (.int .u64 0) ∧ w = w' := by
  go_enter Try.func48, Try.ntmps48
  go_wp2
  refine wp_loop_once ?_
  go_wp2
  go_ret
  exact ⟨rfl, rfl⟩

theorem get_ok (a : Option Addr) (n cap : Nat) (xs : List Int) (w : World) (hl : xs.length = n) (hn : n ≤ 8) (hx : isBytes xs) (hs : Sl w a (ints .u8 xs)) :
    Calls Try.prog 48 #[.slice a n cap] w fun e w' => e = .returned (.int .u64 (numOf xs)) ∧ w = w' := by
  by_cases h0 : n = 0
  · subst h0
    have : xs = [] := List.eq_nil_of_length_eq_zero hl
    subst this
    exact get_zero a cap w
  · obtain ⟨b, off, rfl, hc⟩ := hs.ints (by omega)
    exact get_pos b off n cap xs w hl hn hx hc

/-- May a number stand in so many bytes? -/
def fitsB (n : Int) (s : Nat) : Bool := decide (n < 256 ^ s)
theorem fits_ok (n : Int) (s : Nat) (h0 : 0 ≤ n) (h : n < 18446744073709551616) (h1 : 1 ≤ s) (h8 : s ≤ 8) (w : World) :
    Calls Try.prog 49 #[.int .u64 n, .int .i64 s] w fun e w' => e = .returned (.bool (fitsB n s)) ∧ w = w' := by
  by_cases hs : s = 8
  · subst hs
    have : fitsB n 8 = true := by unfold fitsB; rw [p8]; simp; omega
    rw [this]
    go_enter Try.func49, Try.ntmps49
    go_wp2
    go_ret
    exact ⟨rfl, rfl⟩
  · have hq : (n / 2 ^ (8 * s) == 0) = fitsB n s := by
      unfold fitsB
      rw [two_pow]
      have hp := pow_pos s
      rw [Bool.eq_iff_iff]
      simp only [beq_iff_eq, decide_eq_true_eq]
      exact div_zero h0 hp
    have hs' : ((s : Int) == 8) = false := by simp; omega
    rw [← hq]
    clear hq
    go_enter Try.func49, Try.ntmps49
    go_wp2
    go_ret
    exact ⟨rfl, rfl⟩

theorem info8 : (Try.prog.info? 5).map (fun i => (i.zero, i.size, i.bytes)) = some (some (.int .u8 0), 1, 1) := by kernel_rfl
theorem size8 : (Try.prog.info? 5).map (·.size) = some 1 := by kernel_rfl
theorem make8 (w : World) (N : Int) (n : Nat) (hN : N = n) (hm : n ≤ 281474976710656) : (Instr.makeSlice 34 (.int .i64 N) (.int .i64 N)).run Try.prog w = .ok (.slice (some ⟨w.heap.size, 0, none⟩) n n) (w.alloc (.cells (ints .u8 (List.replicate n 0)).toArray 5)) :=
  run_make_ints w 34 5 .u8 1 Try.underlying34 info8 .i64 .i64 N n hN (by omega) (by omega)

/-- Numbers one behind the other, in s bytes each. -/
def layed (s : Nat) (l : List Int) : List Int := l.flatMap (bytesOf s)
theorem length_layed (s : Nat) (l : List Int) : (layed s l).length = s * l.length := by
  induction l with
  | nil => simp [layed]
  | cons x l ih => simp only [layed, List.flatMap_cons, List.length_append, length_bytesOf, List.length_cons] at ih ⊢; rw [ih, Nat.mul_add]; omega
theorem layed_snoc (s : Nat) (l : List Int) (x : Int) : layed s (l ++ [x]) = layed s l ++ bytesOf s x := by simp [layed]
theorem isBytes_layed (s : Nat) (l : List Int) : isBytes (layed s l) := by
  intro x hx
  obtain ⟨y, _, hy⟩ := List.mem_flatMap.1 hx
  exact isBytes_bytesOf s y x hy

/-- The numbers that stand there, up to the one that does not fit. -/
def allFit (s : Nat) (l : List Int) : Bool := l.all (fitsB · s)


theorem Lay_step (s k n : Nat) (l : List Int) (x : Int) (hk : k < n) (hl : l.length = n) (hx : l[k]? = some x) :
    splice (ints .u8 (layed s (l.take k) ++ List.replicate (s * n - s * k) 0)) (s * k) (ints .u8 (bytesOf s x)) = ints .u8 (layed s (l.take (k + 1)) ++ List.replicate (s * n - s * (k + 1)) 0) := by
  obtain ⟨hk', e⟩ := List.getElem?_eq_some_iff.1 hx
  rw [List.take_succ_eq_append_getElem hk', layed_snoc, e]
  have h1 : (layed s (l.take k)).length = s * k := by rw [length_layed, List.length_take]; congr 1; omega
  have h2 : s * (k + 1) = s * k + s := by rw [Nat.mul_add]; omega
  have h3 : s * (k + 1) ≤ s * n := Nat.mul_le_mul_left s hk
  rw [h2] at h3 ⊢
  generalize s * k = p at *
  generalize s * n = q at *
  unfold splice
  simp only [ints_take, ints_drop, ints_length, length_bytesOf, ← ints_append]
  congr 1
  rw [List.take_append_of_le_length (by omega), List.take_of_length_le (by omega), List.drop_append, List.drop_of_length_le (by omega), h1]
  simp only [List.nil_append, List.drop_replicate, List.append_assoc]
  congr 3
  omega

set_option maxHeartbeats 1000000 in
theorem Lay_pos (s b off n cap : Nat) (l : List Int) (w : World) (hs1 : 1 ≤ s) (hs8 : s ≤ 8) (hl : l.length = n) (hc : ∀ j (hj : j < l.length), w.cell? ⟨b, off + j, none⟩ = some (.int .u64 l[j])) (hbw : b < w.heap.size) (hu : ∀ x ∈ l, 0 ≤ x ∧ x < 18446744073709551616) (hn : n ≤ 4096 / s) (hf : ∀ x ∈ l, fitsB x s = true) :
    Calls Try.prog 40 #[.int .i64 s, .slice (some ⟨b, off, none⟩) n cap] w fun e w' => e = .returned (.tuple #[.slice (some ⟨w.heap.size, 0, none⟩) (s * n) (s * n), .int .i64 0]) ∧ Row w' w.heap.size 5 (ints .u8 (layed s l)) ∧ Ext w w' := by
  have hsn : s * n ≤ 4096 := by have := Nat.mul_le_mul_left s hn; have := Nat.mul_div_le 4096 s; omega
  have hmk := make8 w ((s : Int) * n) (s * n) (by simp) (by omega)
  have hn1 : (n : Int) ≤ 4096 / (s : Int) := by rw [show (4096 : Int) / (s : Int) = ((4096 / s : Nat) : Int) by simp]; omega
  have hn2 : n ≤ 4096 := by have := Nat.mul_le_mul_right n hs1; omega
  clear hn
  have HU := Lib.hid hu; clear hu
  have HF := Lib.hid hf; clear hf
  have HC := Lib.hid hc; clear hc
  have HL := Lib.hid hl; clear hl
  go_enter Try.func40, Try.ntmps40
  go_wp2_with fail
  clear hmk hn1
  go_loopw [29] (fun v wr => ∃ k : Nat, k ≤ n ∧ v = .int .i64 k ∧ Row wr w.heap.size 5 (ints .u8 (layed s (l.take k) ++ List.replicate (s * n - s * k) 0)) ∧ Ext w wr) (fun v _ => n - (intOf v).toNat)
  case atStart => exact ⟨0, by omega, rfl, by simpa [layed] using Row.new w 5 (ints .u8 (List.replicate (s * n) 0)), (Ext.refl w).alloc _⟩
  case round =>
    obtain ⟨k, hk, rfl, hr, hX⟩ := hrel
    by_cases hlt : k < n
    · have hlk : k < l.length := by rw [HL.out]; exact hlt
      have hcell := HC.out k hlk
      rw [← hX.cell (p := ⟨b, off + k, none⟩) hbw] at hcell
      have hfx := HF.out l[k] (List.getElem_mem hlk)
      have hux := HU.out l[k] (List.getElem_mem hlk)
      have hstep := Lay_step s k n l l[k] hlt HL.out (by simp)
      generalize l[k] = x at *
      have HS := Lib.hid hstep; clear hstep
      have hy : (layed s (l.take k)).length = s * k := by rw [length_layed, List.length_take]; congr 1; omega
      have HY := Lib.hid hy; clear hy
      clear hlk
      obtain ⟨hu0, hu1⟩ := hux
      have e1 : (k : Int) * s = ((s * k : Nat) : Int) := by simp [Int.mul_comm]
      have e2 : ((k : Int) + 1) * s = ((s * k : Nat) : Int) + s := by rw [Int.add_mul, e1]; simp
      have e3 : s * (k + 1) ≤ s * n := Nat.mul_le_mul_left s hlt
      have e4 : s * (k + 1) = s * k + s := by rw [Nat.mul_add]; omega
      rw [e4] at e3 HS
      clear e4
      have hp : ¬ (s * n = s * k) := by omega
      generalize hq : s * n = q at *
      generalize hpp : s * k = p at *
      have HQ := Lib.hid hq; clear hq
      have HP := Lib.hid hpp; clear hpp
      go_wp2_with fail
      refine (fits_ok x s hu0 hu1 hs1 hs8 _).mono ?_
      rintro e w' ⟨rfl, rfl⟩
      rw [hfx]
      go_wp2_with fail
      refine (put_ok w.heap.size p s (q - p) x _ wr hu0 hu1 hs8 (by rw [ints_length, List.length_append, List.length_replicate, HY.out]; omega) hr).mono ?_
      rintro e w' ⟨rfl, hr', hby⟩
      rw [HS.out] at hr'
      replace hX := hX.by hby (Nat.le_refl _)
      clear hr hby hp e3
      go_wp2
      go_roundw
      case rel => exact ⟨k + 1, hlt, by go_num, by rw [Nat.mul_add, HP.out, Nat.mul_one]; exact hr', hX⟩
      case measure => simp [intOf]; omega
    · have : k = n := by omega
      subst this
      go_wp2
      go_ret2
      refine ⟨rfl, ?_, hX⟩
      rw [List.take_of_length_le (by rw [HL.out]; exact Nat.le_refl _), Nat.sub_self] at hr
      simpa using hr

set_option maxHeartbeats 400000 in
theorem Lay_zero (s : Nat) (a : Option Addr) (cap : Nat) (w : World) (hs1 : 1 ≤ s) (hs8 : s ≤ 8) :
    Calls Try.prog 40 #[.int .i64 s, .slice a 0 cap] w fun e w' => e = .returned (.tuple #[.slice (some ⟨w.heap.size, 0, none⟩) 0 0, .int .i64 0]) ∧ Row w' w.heap.size 5 [] ∧ Ext w w' := by
  have hmk := make8 w 0 0 (by simp) (by omega)
  have hq : (0 : Int) ≤ 4096 / (s : Int) := Int.ediv_nonneg (by decide) (by omega)
  go_enter Try.func40, Try.ntmps40
  go_wp2_with fail
  clear hmk hq
  refine wp_loop_once ?_
  go_wp2
  go_ret2
  exact ⟨rfl, Row.new w 5 [], (Ext.refl w).alloc _⟩

theorem Lay_ok (s : Nat) (a : Option Addr) (n cap : Nat) (l : List Int) (w : World) (hs1 : 1 ≤ s) (hs8 : s ≤ 8) (hl : l.length = n) (hx : Sl w a (ints .u64 l)) (hu : ∀ x ∈ l, 0 ≤ x ∧ x < 18446744073709551616) (hn : n ≤ 4096 / s) (hf : ∀ x ∈ l, fitsB x s = true) :
    Calls Try.prog 40 #[.int .i64 s, .slice a n cap] w fun e w' => e = .returned (.tuple #[.slice (some ⟨w.heap.size, 0, none⟩) (s * n) (s * n), .int .i64 0]) ∧ Row w' w.heap.size 5 (ints .u8 (layed s l)) ∧ Ext w w' := by
  by_cases h0 : n = 0
  · subst h0
    have : l = [] := List.eq_nil_of_length_eq_zero hl
    subst this
    exact Lay_zero s a cap w hs1 hs8
  · obtain ⟨b, off, rfl, hc⟩ := hx.ints (by omega)
    exact Lay_pos s b off n cap l w hs1 hs8 hl hc (hx.lt (by rw [ints_length]; omega) _ rfl) hu hn hf
end Go.Proofs.Ytfodpphbdbeciaa.Field
