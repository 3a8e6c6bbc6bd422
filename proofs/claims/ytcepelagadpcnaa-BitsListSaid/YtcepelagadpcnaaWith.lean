/- The contract of bits.With. -/
import Derived.Test.YtcepelagadpcnaaBitD
import Derived.StillTailTactics
import Derived.IntWalk
namespace Go.Proofs.Ytcepelagadpcnaa.Bit
open Go.RowKit Words Mem Plain Ops
set_option linter.unusedVariables false
set_option linter.unusedSimpArgs false

/-- A byte with bit j another one. -/
def clearBit (x : Int) (j : Nat) : Int := x - x / 2 ^ j % 2 * 2 ^ j
def setBit (x : Int) (j : Nat) (on : Bool) : Int := if on then clearBit x j + 2 ^ j else clearBit x j
def withN (xs : List Int) (k : Nat) (on : Bool) : List Int := xs.set (k / 8) (setBit (xs.getD (k / 8) 0) (k % 8) on)

theorem andNot_nat : ∀ x < 256, ∀ j < 8, x &&& (255 - 2 ^ j) = x - x / 2 ^ j % 2 * 2 ^ j := by decide +kernel
theorem or_nat : ∀ x < 256, ∀ j < 8, (x - x / 2 ^ j % 2 * 2 ^ j) ||| 2 ^ j = x - x / 2 ^ j % 2 * 2 ^ j + 2 ^ j := by decide +kernel
theorem bit_le : ∀ x < 256, ∀ j < 8, x / 2 ^ j % 2 * 2 ^ j ≤ x ∧ x - x / 2 ^ j % 2 * 2 ^ j + 2 ^ j < 256 ∧ 2 ^ j < 256 := by decide +kernel
theorem clear_nat (x : Nat) (hx : x < 256) (j : Nat) (hj : j < 8) : clearBit x j = ((x - x / 2 ^ j % 2 * 2 ^ j : Nat) : Int) := by
  have := (bit_le x hx j hj).1
  unfold clearBit
  rw [Int.natCast_sub this]
  simp
theorem andNot_ok (x : Int) (h0 : 0 ≤ x) (h1 : x < 256) (j : Nat) (hj : j < 8) : bits .andNot .u8 x (2 ^ j) = clearBit x j := by
  obtain ⟨x, rfl⟩ := Int.eq_ofNat_of_zero_le h0
  have hx : x < 256 := by omega
  rw [clear_nat x hx j hj, ← andNot_nat x hx j hj]
  have e : ((2 : Int) ^ j) = ((2 ^ j : Nat) : Int) := by simp
  rw [e, u8_andNot_nat x (2 ^ j) hx (bit_le x hx j hj).2.2]
theorem or_ok (x : Int) (h0 : 0 ≤ x) (h1 : x < 256) (j : Nat) (hj : j < 8) : bits .or .u8 (clearBit x j) (2 ^ j) = clearBit x j + 2 ^ j := by
  obtain ⟨x, rfl⟩ := Int.eq_ofNat_of_zero_le h0
  have hx : x < 256 := by omega
  have hb := bit_le x hx j hj
  rw [clear_nat x hx j hj]
  have e : ((2 : Int) ^ j) = ((2 ^ j : Nat) : Int) := by simp
  rw [e, u8_or_nat _ (2 ^ j) (by omega) hb.2.2, or_nat x hx j hj]
  simp
theorem clear_bd (x : Int) (h0 : 0 ≤ x) (h1 : x < 256) (j : Nat) (hj : j < 8) : 0 ≤ clearBit x j ∧ clearBit x j + 2 ^ j < 256 ∧ clearBit x j < 256 := by
  obtain ⟨x, rfl⟩ := Int.eq_ofNat_of_zero_le h0
  have hx : x < 256 := by omega
  have hb := bit_le x hx j hj
  rw [clear_nat x hx j hj]
  have e : ((2 : Int) ^ j) = ((2 ^ j : Nat) : Int) := by simp
  rw [e]
  omega
theorem shl_one (j : Nat) (hj : j < 8) : IntKind.u8.wrap (1 * 2 ^ j) = 2 ^ j := by
  rw [IntKind.wrap_u8, Int.one_mul]
  have : ∀ j < 8, (2 : Nat) ^ j < 256 := by decide
  have h := this j hj
  have e : ((2 : Int) ^ j) = ((2 ^ j : Nat) : Int) := by simp
  rw [e]
  exact Int.emod_eq_of_lt (Int.natCast_nonneg _) (Int.ofNat_lt.2 h)

theorem With_no (a : Option Addr) (n cap : Nat) (i : Int) (on : Bool) (w : World) (hn : n ≤ 1152921504606846975) (h : (i < 0 ∨ 8 * (n : Int) ≤ i) ∨ 512 < n) : Calls Try.prog 11 #[.slice a n cap, .int .i64 i, .bool on] w fun e w' => e = .returned (.tuple #[.slice none 0 0, .int .i64 (if i < 0 ∨ 8 * (n : Int) ≤ i then 1 else 4)]) ∧ w = w' := by
  by_cases h0 : i < 0
  · rw [if_pos (.inl h0)]
    clear h
    go_enter Try.func11, Try.ntmps11
    go_wp2
    go_ret2
    exact ⟨rfl, rfl⟩
  · by_cases h1 : 8 * (n : Int) ≤ i
    · rw [if_pos (.inr h1)]
      clear h
      go_enter Try.func11, Try.ntmps11
      go_wp2
      go_ret2
      exact ⟨rfl, rfl⟩
    · rw [if_neg (by omega)]
      have h2 : 512 < n := by omega
      clear h
      go_enter Try.func11, Try.ntmps11
      go_wp2
      go_ret2
      exact ⟨rfl, rfl⟩

theorem infoB : (Try.prog.info? 5).map (fun i => (i.zero, i.size, i.bytes)) = some (some (.int .u8 0), 1, 1) := by kernel_rfl

/-- Bytes of the call's own, and no error. -/
def OwnBytes (w : World) (L : List Int) (e : Ending) (w' : World) : Prop :=
  ∃ a cap, e = .returned (.tuple #[.slice a L.length cap, .int .i64 0]) ∧ w'.ownsRow w.heap.size 5 1 (.slice a L.length cap) L.length (ints .u8 L) ∧ Ext w w'

set_option maxHeartbeats 1000000 in
theorem With_yes (a : Option Addr) (n cap : Nat) (xs : List Int) (k : Nat) (on : Bool) (w : World) (hl : xs.length = n) (hn : n ≤ 512) (hb : isBytes xs) (hs : Sl w a (ints .u8 xs)) (hk : k < 8 * n) (hnil : a = none → n = 0 ∧ cap = 0) :
    Calls Try.prog 11 #[.slice a n cap, .int .i64 k, .bool on] w (OwnBytes w (withN xs k on)) := by
  obtain ⟨a', c', w2, hrun, hown, hext⟩ := run_append_sl (P := Try.prog) w w.heap.size 22 22 5 (.int .u8 0) 1 Try.underlying22 infoB rfl (ownsRow_nil w w.heap.size 5) cap (by rw [ints_length]; exact hl) hs hnil (ints_oneCell' _ _) (by omega) (by omega) (Nat.le_refl _)
  have hX := hext w (Ext.refl w) (Nat.le_refl _)
  rw [Nat.zero_add] at hown hrun
  rw [List.nil_append] at hown
  clear hext
  rcases ownsRow_cases hown with ⟨_, h0, _⟩ | ⟨g, L, rfl, hg, hr, hnc, hcm, hL, hLt⟩
  · omega
  · have hk8 : k / 8 < n := by omega
    have hx := hb xs[k / 8] (List.getElem_mem (by omega))
    have hc := hown.cellAt (k / 8) (by omega)
    rw [ints_getElem?] at hc
    simp only [show k / 8 < xs.length by omega, getElem?_pos, Option.map_some] at hc
    have hf := hown.frozenAt (k / 8)
    have hgd : xs.getD (k / 8) 0 = xs[k / 8] := by simp [List.getD, show k / 8 < xs.length by omega]
    have HGD := Lib.hid hgd; clear hgd
    generalize xs[k / 8] = x at *
    obtain ⟨hx0, hx1⟩ := hx
    have ha := andNot_ok x hx0 hx1 (k % 8) (by omega)
    have hw1 := shl_one (k % 8) (by omega)
    clear hr hLt hL
    have hd : IntKind.i64.wrap (Int.tdiv (k : Int) 8) = ((k / 8 : Nat) : Int) := by
      rw [Int.tdiv_eq_ediv_of_nonneg (by omega), IntWalk.i64_in _ (by omega)]; omega
    have hd2 : IntKind.i64.wrap ((k : Int) / 8) = ((k / 8 : Nat) : Int) := by rw [IntWalk.i64_in _ (by omega)]; omega
    have hm2 : (k : Int) % 8 = ((k % 8 : Nat) : Int) := by omega
    have hm : Int.tmod (k : Int) 8 = ((k % 8 : Nat) : Int) := by rw [Int.tmod_eq_emod_of_nonneg (by omega)]; omega
    have hj8 : k % 8 < 8 := by omega
    have hor := or_ok x hx0 hx1 (k % 8) hj8
    have hcb := clear_bd x hx0 hx1 (k % 8) hj8
    have hki : (k : Int) < 8 * n := by omega
    have hwN : withN xs k on = xs.set (k / 8) (setBit x (k % 8) on) := by unfold withN; rw [HGD.out]
    have HWN := Lib.hid hwN; clear hwN
    generalize k / 8 = q at *
    generalize k % 8 = j at *
    have q0 : (0 : Int) ≤ q := by omega
    have q1 : (q : Int) < n := by omega
    have j0 : (0 : Int) ≤ j := by omega
    have j1 : (j : Int) < 8 := by omega
    have hw2 : (2 : Int) ^ j % 256 = 2 ^ j := by rw [← IntKind.wrap_u8, ← hw1, Int.one_mul]; rw [Int.one_mul] at hw1; rw [hw1, hw1]
    have hc2 : World.cell? { heap := w2.heap, tape := w2.tape, drawn := w2.drawn + 1, os := w2.os, output := w2.output } ⟨g, q, none⟩ = some (.int .u8 x) := hc
    have hst := hown.stored q (.int .u8 (clearBit x j))
    obtain ⟨hown3, hby3⟩ := hst
    have hX3 := Ext.setCell hX (p := ⟨g, q, none⟩) hg (.int .u8 (clearBit x j))
    have hL3 : (ints .u8 xs).set q (.int .u8 (clearBit x j)) = ints .u8 (xs.set q (clearBit x j)) := by simp [ints]
    rw [hL3] at hown3
    clear hby3 hL3
    cases on
    · go_enter Try.func11, Try.ntmps11
      go_wp2_with (at_builtin; refine Lib.wpList_append_run _ rfl _ _ _ _ rfl _ _ rfl rfl _ _ hrun ?_)
      go_still_tail 10, (by kernel_rfl)
      change wpList _ _ _ _ _ w2.drew
      go_wp2
      rw [ha]
      go_ret2
      have hlen : (withN xs k false).length = n := by rw [HWN.out]; simpa using hl
      exact ⟨_, c', by rw [hlen]; rfl, by rw [hlen, HWN.out]; exact hown3.drew, hX3.drew⟩
    · replace hown3 := hown3.drew
      replace hX3 := hX3.drew
      have hf3 := hown3.frozenAt q
      have hc3 := hown3.cellAt q (by omega)
      rw [ints_getElem?] at hc3
      simp only [List.length_set, show q < xs.length by omega, List.getElem?_set_self, Option.map_some] at hc3
      go_enter Try.func11, Try.ntmps11
      go_wp2_with (at_builtin; refine Lib.wpList_append_run _ rfl _ _ _ _ rfl _ _ rfl rfl _ _ hrun ?_)
      go_still_tail 10, (by kernel_rfl)
      change wpList _ _ _ _ _ w2.drew
      go_wp2
      rw [ha]
      clear ha hw1 hc2 hc hf hown hX hrun
      generalize (w2.setCell ⟨g, q, none⟩ (.int .u8 (clearBit x j))).drew = w3 at *
      have hc4 : World.cell? { heap := w3.heap, tape := w3.tape, drawn := w3.drawn + 1, os := w3.os, output := w3.output } ⟨g, q, none⟩ = some (.int .u8 (clearBit x j)) := hc3
      obtain ⟨hb0, hb1, hb2⟩ := hcb
      go_still_tail 10, (by kernel_rfl)
      change wpList _ _ _ _ _ w3.drew
      go_wp2
      rw [hor]
      go_ret2
      have hst := hown3.stored q (.int .u8 (clearBit x j + 2 ^ j))
      obtain ⟨hown4, hby4⟩ := hst
      have hX4 := Ext.setCell hX3 (p := ⟨g, q, none⟩) hg (.int .u8 (clearBit x j + 2 ^ j))
      have hL4 : (ints .u8 (xs.set q (clearBit x j))).set q (.int .u8 (clearBit x j + 2 ^ j)) = ints .u8 (xs.set q (clearBit x j + 2 ^ j)) := by simp [ints]
      rw [hL4] at hown4
      have hlen : (withN xs k true).length = n := by rw [HWN.out]; simpa using hl
      exact ⟨_, c', by rw [hlen]; rfl, by rw [hlen, HWN.out]; exact hown4.drew, hX4.drew⟩
end Go.Proofs.Ytcepelagadpcnaa.Bit
