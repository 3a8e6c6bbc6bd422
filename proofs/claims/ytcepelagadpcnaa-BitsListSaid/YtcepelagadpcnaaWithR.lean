/- The contract of the reference's With. -/
import Derived.Test.YtcepelagadpcnaaBitP
namespace Go.Proofs.Ytcepelagadpcnaa.Bit
open Go.RowKit Words Mem Plain Ops
set_option linter.unusedVariables false
set_option linter.unusedSimpArgs false

theorem rWith_no (a : Option Addr) (n cap : Nat) (i : Int) (on : Bool) (w : World) (hn : n ≤ 1152921504606846975) (h : (i < 0 ∨ 8 * (n : Int) ≤ i) ∨ 512 < n) : Calls Try.prog 12 #[.slice a n cap, .int .i64 i, .bool on] w fun e w' => e = .returned (.tuple #[.slice none 0 0, .int .i64 (if i < 0 ∨ 8 * (n : Int) ≤ i then 1 else 4)]) ∧ w = w' := by
  by_cases h0 : i < 0
  · rw [if_pos (.inl h0)]
    clear h
    go_enter Try.func12, Try.ntmps12
    go_wp2
    go_ret2
    exact ⟨rfl, rfl⟩
  · by_cases h1 : 8 * (n : Int) ≤ i
    · rw [if_pos (.inr h1)]
      clear h
      go_enter Try.func12, Try.ntmps12
      go_wp2
      go_ret2
      exact ⟨rfl, rfl⟩
    · rw [if_neg (by omega)]
      have h2 : 512 < n := by omega
      clear h
      go_enter Try.func12, Try.ntmps12
      go_wp2
      go_ret2
      exact ⟨rfl, rfl⟩

theorem mod_step (y : Int) (h0 : 0 ≤ y) (m : Nat) : y % 2 ^ (m + 1) = y % 2 ^ m + if (y / 2 ^ m % 2 == 1) then 2 ^ m else 0 := by
  obtain ⟨y, rfl⟩ := Int.eq_ofNat_of_zero_le h0
  rw [bit_cast]
  have e : ∀ t : Nat, ((2 : Int) ^ t) = ((2 ^ t : Nat) : Int) := by intro t; simp
  rw [e, e, ← Int.natCast_emod, ← Int.natCast_emod, Nat.mod_pow_succ]
  have h2 : y / 2 ^ m % 2 = 0 ∨ y / 2 ^ m % 2 = 1 := by omega
  rcases h2 with h | h <;> rw [h] <;> simp
theorem pow_wrap (m : Nat) (hm : m < 8) : (2 : Int) ^ m % 256 = 2 ^ m ∧ (2 : Int) ^ m < 256 ∧ 0 < (2 : Int) ^ m ∧ (2 : Int) ^ m * 2 % 256 = 2 ^ (m + 1) % 256 := by
  have : ∀ m < 8, (2 : Int) ^ m % 256 = 2 ^ m ∧ (2 : Int) ^ m < 256 ∧ 0 < (2 : Int) ^ m ∧ (2 : Int) ^ m * 2 % 256 = 2 ^ (m + 1) % 256 := by decide
  exact this m hm

set_option maxHeartbeats 2000000 in
theorem rWith_yes (a : Option Addr) (n cap : Nat) (xs : List Int) (i : Nat) (on : Bool) (w : World) (hl : xs.length = n) (hn : n ≤ 512) (hb : isBytes xs) (hs : Sl w a (ints .u8 xs)) (hi : i < 8 * n) :
    Calls Try.prog 12 #[.slice a n cap, .int .i64 i, .bool on] w (OwnBytes w (withN xs i on)) := by
  have HL := Lib.hid hl
  have hbw := isBytes_with hb i on
  have HW := Lib.hid (fun t => bitN_with hb i (by omega) on t)
  have hwl : (withN xs i on).length = n := by rw [length_with]; exact hl
  generalize hys : withN xs i on = ys at *
  have HY := Lib.hid hwl
  clear hl hys hwl
  go_enter Try.func12, Try.ntmps12
  go_wp2
  go_loopw [8, 9] (fun u v wr => ∃ (k c : Nat) (ao : Option Addr), k ≤ n ∧ v = .int .i64 k ∧ u = .slice ao k c ∧ wr.ownsRow w.heap.size 5 1 (.slice ao k c) k (ints .u8 (ys.take k)) ∧ Ext w wr) (fun _ v _ => n - (intOf v).toNat)
  case atStart => exact ⟨0, 0, none, by omega, rfl, rfl, ownsRow_nil _ _ _, Ext.refl _⟩
  case round =>
    obtain ⟨k, c, ao, hk, rfl, rfl, hown, hX⟩ := hrel
    by_cases hlt : k < n
    · have hs' := hs.ext hX
      have hyk : k < ys.length := by rw [HY.out]; exact hlt
      have hyb := hbw ys[k] (List.getElem_mem hyk)
      have hbit : ∀ m, m < 8 → (ys[k] / 2 ^ m % 2 == 1) = if 8 * k + m = i then on else bitB xs ((8 * k + m : Nat) : Int) := by
        intro m hm
        rw [bitB_nat xs _ (by have := HL.out; omega), ← HW.out (8 * k + m)]
        unfold bitN
        rw [show (8 * k + m) / 8 = k by omega, show (8 * k + m) % 8 = m by omega]
        simp [List.getD, hyk]
      have HB := Lib.hid hbit; clear hbit
      have htk : ys.take (k + 1) = ys.take k ++ [ys[k]] := List.take_succ_eq_append_getElem hyk
      have HT := Lib.hid htk; clear htk
      generalize ys[k] = y at *
      obtain ⟨hy0, hy1⟩ := hyb
      clear hyk
      obtain ⟨wo, rfl⟩ : ∃ wo : World, wo = wr := ⟨_, rfl⟩
      go_wp2_with fail
      go_loop [10, 11, 12] (fun nn p mm => ∃ m : Nat, m ≤ 8 ∧ mm = .int .i64 m ∧ p = .int .u8 (2 ^ m % 256) ∧ nn = .int .u8 (y % 2 ^ m)) (fun _ _ mm => 8 - (intOf mm).toNat)
      case atStart => exact ⟨0, by omega, rfl, rfl, by simp [Int.emod_one]⟩
      case round =>
        obtain ⟨m, hm, rfl, rfl, rfl⟩ := hrel
        by_cases hm8 : m < 8
        · have hst := mod_step y hy0 m
          rw [HB.out m hm8] at hst
          obtain ⟨hp, hp1, hp0, hp2⟩ := pow_wrap m hm8
          have hmod0 : 0 ≤ y % 2 ^ m := Int.emod_nonneg _ (by omega)
          have hmod1 : y % 2 ^ m < 2 ^ m := Int.emod_lt_of_pos _ hp0
          have hle : y % 2 ^ (m + 1) ≤ y := by
            obtain ⟨y, rfl⟩ := Int.eq_ofNat_of_zero_le hy0
            have e : ((2 : Int) ^ (m + 1)) = ((2 ^ (m + 1) : Nat) : Int) := by simp
            rw [e, ← Int.natCast_emod]
            exact Int.ofNat_le.2 (Nat.mod_le _ _)
          rw [hp]
          clear hp
          have HP := Lib.hid hp2; clear hp2
          have HS := Lib.hid hst; clear hst
          rw [HS.out] at hle
          generalize hs1 : y % 2 ^ m = s at *
          generalize hp1 : (2 : Int) ^ m = p at *
          clear hs1 hp1
          have hkm : ((8 * k + m : Nat) : Int) = 8 * (k : Int) + m := by simp
          rw [hkm] at hle HS
          by_cases he : 8 * k + m = i
          · have hei : ((8 * (k : Int) + m) == (i : Int)) = true := by simp; omega
            rw [if_pos he] at hle HS
            clear he
            cases on
            · go_wp2_with (go_at_call 14; refine (rHas_ok _ _ _ xs _ _ HL.out (by omega) hb hs').mono ?_; rintro e w' ⟨rfl, rfl⟩)
              go_round
              case rel => exact ⟨m + 1, hm8, by go_num, by rw [← HP.out], by rw [HS.out]; simp⟩
              case measure => simp [intOf]; omega
            · simp only [if_true] at hle
              go_wp2_with (go_at_call 14; refine (rHas_ok _ _ _ xs _ _ HL.out (by omega) hb hs').mono ?_; rintro e w' ⟨rfl, rfl⟩)
              go_round
              case rel => exact ⟨m + 1, hm8, by go_num, by rw [← HP.out], by rw [HS.out]; simp⟩
              case measure => simp [intOf]; omega
          · have hei : ((8 * (k : Int) + m) == (i : Int)) = false := by simp; omega
            rw [if_neg he] at hle HS
            clear he
            cases hbit : bitB xs (8 * (k : Int) + m)
            · go_wp2_with (go_at_call 14; refine (rHas_ok _ _ _ xs _ _ HL.out (by omega) hb hs').mono ?_; rintro e w' ⟨rfl, rfl⟩)
              go_round
              case rel => exact ⟨m + 1, hm8, by go_num, by rw [← HP.out], by rw [HS.out, hbit]; simp⟩
              case measure => simp [intOf]; omega
            · rw [hbit] at hle
              simp only [if_true] at hle
              go_wp2_with (go_at_call 14; refine (rHas_ok _ _ _ xs _ _ HL.out (by omega) hb hs').mono ?_; rintro e w' ⟨rfl, rfl⟩)
              go_round
              case rel => exact ⟨m + 1, hm8, by go_num, by rw [← HP.out], by rw [HS.out, hbit]; simp⟩
              case measure => simp [intOf]; omega
        · have : m = 8 := by omega
          subst this
          have hy8 : y % 2 ^ 8 = y := Int.emod_eq_of_lt hy0 hy1
          rw [hy8]
          clear hy8
          obtain ⟨a', c', w2, hrun, hown', hext⟩ := run_append_one (P := Try.prog) wo w.heap.size 22 22 5 .u8 1 Try.underlying22 infoB hown y (by omega) (by omega) hX.size
          have hX' := hext w hX (Nat.le_refl _)
          clear hext hown
          go_wp2_with (at_builtin; refine Lib.wpList_append_run _ rfl _ _ _ _ rfl _ _ rfl rfl _ _ hrun ?_)
          go_roundw
          case rel => exact ⟨k + 1, c', a', hlt, by go_num, rfl, by rw [HT.out]; exact hown', hX'⟩
          case measure => simp [intOf]; omega
    · have : k = n := by omega
      subst this
      go_wp2
      go_ret2
      have e : ys.take k = ys := List.take_of_length_le (by rw [HY.out]; exact Nat.le_refl _)
      rw [e] at hown
      exact ⟨ao, c, by rw [HY.out]; rfl, by rw [HY.out]; exact hown, hX⟩
end Go.Proofs.Ytcepelagadpcnaa.Bit
