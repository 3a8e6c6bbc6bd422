/- Contracts of the reference's Take and Fill. -/
import Derived.Test.YtgflpbbdohmhiaaLayR
import Derived.Test.YtgflpbbdohmhiaaFill
namespace Go.Proofs.Ytgflpbbdohmhiaa.Field
open Go.RowKit Words Mem Plain Ops
set_option linter.unusedVariables false
set_option linter.unusedSimpArgs false

theorem rTake_arg (a : Option Addr) (n cap : Nat) (s : Int) (w : World) (hn : n ≤ 9223372036854775807) (h : s < 1 ∨ 8 < s ∨ (n : Int) % s ≠ 0) :
    Calls Try.prog 21 #[.int .i64 s, .slice a n cap] w fun e w' => e = .returned (.tuple #[.slice none 0 0, .int .i64 1]) ∧ w = w' := by
  by_cases h1 : s < 1
  · clear h
    go_enter Try.func21, Try.ntmps21
    go_wp2
    go_ret2
    exact ⟨rfl, rfl⟩
  · by_cases h2 : 8 < s
    · clear h
      go_enter Try.func21, Try.ntmps21
      go_wp2
      go_ret2
      exact ⟨rfl, rfl⟩
    · have h3 : ((n : Int) % s != 0) = true := by simp; omega
      have h4 : 1 ≤ s := by omega
      have h5 : s ≤ 8 := by omega
      clear h
      go_enter Try.func21, Try.ntmps21
      go_wp2
      go_ret2
      exact ⟨rfl, rfl⟩
theorem rTake_long (a : Option Addr) (n cap : Nat) (s : Int) (w : World) (hn : n ≤ 9223372036854775807) (h1 : 1 ≤ s) (h2 : s ≤ 8) (h3 : (n : Int) % s = 0) (h4 : 4096 < n) :
    Calls Try.prog 21 #[.int .i64 s, .slice a n cap] w fun e w' => e = .returned (.tuple #[.slice none 0 0, .int .i64 4]) ∧ w = w' := by
  go_enter Try.func21, Try.ntmps21
  go_wp2
  go_ret2
  exact ⟨rfl, rfl⟩

set_option maxHeartbeats 1000000 in
theorem rTake_yes (a : Option Addr) (n cap s q : Nat) (xs : List Int) (w : World) (hs1 : 1 ≤ s) (hs8 : s ≤ 8) (hl : xs.length = n) (hn : n ≤ 4096) (hq : n = s * q) (hb : isBytes xs) (hs : Sl w a (ints .u8 xs)) :
    Calls Try.prog 21 #[.int .i64 s, .slice a n cap] w (OwnU0 w (takenL s xs q)) := by
  have hmod : (n : Int) % s = 0 := by rw [hq]; simp
  have HQ := Lib.hid hq; have HL := Lib.hid hl
  clear hq hl
  go_enter Try.func21, Try.ntmps21
  go_wp2
  clear hmod
  go_loopw [6, 7] (fun o v wr => ∃ (k i co : Nat) (ao : Option Addr), k ≤ q ∧ Hid (i = s * k) ∧ i ≤ n ∧ v = .int .i64 i ∧ o = .slice ao k co ∧ wr.ownsRow w.heap.size 23 1 (.slice ao k co) k (ints .u64 (takenL s xs k)) ∧ Ext w wr) (fun _ v _ => n - (intOf v).toNat)
  case atStart => exact ⟨0, 0, 0, none, by omega, rfl, by omega, rfl, rfl, ownsRow_nil _ _ _, Ext.refl _⟩
  case round =>
    obtain ⟨k, i, co, ao, hk, hik, hin, rfl, rfl, hown, hX⟩ := hrel
    by_cases hlt : k < q
    · have hge : s * k + s ≤ s * q := by rw [← Nat.mul_succ]; exact Nat.mul_le_mul_left s hlt
      rw [← HQ.out, ← hik.out] at hge
      have hi0 : i < n := by omega
      have hk4 : k ≤ 4096 := by
        have h1 := HQ.out
        have h2 : 1 * q ≤ s * q := Nat.mul_le_mul_right q hs1
        omega
      have hst : standsB n i s = true := by
        unfold standsB
        rw [decide_eq_true (by omega), decide_eq_true (by omega), decide_eq_true (by omega), decide_eq_true (by omega), decide_eq_true (by omega)]; rfl
      have hts := takenL_succ s xs k
      rw [← hik.out] at hts
      have hPb : isBytes ((xs.drop i).take s) := isBytes_take (isBytes_drop hb _) _
      have hik' : Hid (i + s = s * (k + 1)) := by show i + s = s * (k + 1); rw [hik.out, Nat.mul_succ]
      have hAt := At_ok a n cap xs i s wr HL.out (by omega) hb (hs.ext hX) hst
      have hbd := numOf_nonneg hPb
      generalize (xs.drop i).take s = P at *
      have HT := Lib.hid hts; have HA := Lib.hid hAt
      clear hts hik hAt hst hPb
      obtain ⟨wo, rfl⟩ : ∃ wo : World, wo = wr := ⟨_, rfl⟩
      obtain ⟨a', c', w2, hrun, hown', hext⟩ := run_append_one (P := Try.prog) wo w.heap.size 32 32 23 .u64 8 Try.underlying32 info64 hown (numOf P) (by omega) (by omega) hX.size
      have hX' := hext w hX (Nat.le_refl _)
      clear hext hown
      go_wp2_with fail
      refine HA.out.mono ?_
      rintro e w' ⟨rfl, rfl⟩
      go_wp2_with (at_builtin; refine Lib.wpList_append_run _ rfl _ _ _ _ rfl _ _ rfl rfl _ _ hrun ?_)
      go_roundw
      case rel => exact ⟨k + 1, i + s, c', a', hlt, hik', hge, by go_num, rfl, by rw [HT.out]; exact hown', hX'⟩
      case measure => simp [intOf]; omega
    · have : k = q := by omega
      subst this
      have hin2 : i = n := by have h1 := hik.out; have h2 := HQ.out; omega
      clear hik HQ
      subst hin2
      go_wp2
      go_ret2
      exact ⟨ao, co, by rw [length_takenL]; rfl, by rw [length_takenL]; exact hown, hX⟩

theorem rFill_no (a : Option Addr) (n cap : Nat) (s : Int) (w : World) (b0 : -9223372036854775808 ≤ s) (b1 : s ≤ 9223372036854775807) (h : s < 0 ∨ 4096 < s ∨ s < n) (hm : n ≤ 9223372036854775807) :
    Calls Try.prog 19 #[.slice a n cap, .int .i64 s] w fun e w' => e = .returned (.tuple #[.slice none 0 0, .int .i64 (if s < 0 then 1 else 4)]) ∧ w = w' := by
  by_cases h0 : s < 0
  · rw [if_pos h0]
    clear h
    go_enter Try.func19, Try.ntmps19
    go_wp2
    go_ret2
    exact ⟨rfl, rfl⟩
  · rw [if_neg h0]
    by_cases h2 : s < n
    · clear h
      go_enter Try.func19, Try.ntmps19
      go_wp2
      go_ret2
      exact ⟨rfl, rfl⟩
    · have h1 : 4096 < s := by omega
      clear h
      go_enter Try.func19, Try.ntmps19
      go_wp2
      go_ret2
      exact ⟨rfl, rfl⟩

theorem filled_more (xs : List Int) (k : Nat) (h : xs.length ≤ k) : filled xs k ++ [0] = filled xs (k + 1) := by
  unfold filled
  rw [List.append_assoc]
  congr 1
  rw [show k + 1 - xs.length = (k - xs.length) + 1 by omega, List.replicate_succ']
theorem length_filled (xs : List Int) (s : Nat) (h : xs.length ≤ s) : (filled xs s).length = s := by unfold filled; rw [List.length_append, List.length_replicate]; omega
theorem isBytes_filled (xs : List Int) (s : Nat) (h : isBytes xs) : isBytes (filled xs s) := by
  unfold filled
  refine isBytes_append.2 ⟨h, fun x hx => ?_⟩
  rw [List.eq_of_mem_replicate hx]; omega
theorem filled_self (xs : List Int) (n : Nat) (h : xs.length = n) : filled xs n = xs := by unfold filled; rw [h]; simp

set_option maxHeartbeats 1000000 in
theorem rFill_ok (a : Option Addr) (n cap s : Nat) (xs : List Int) (w : World) (hl : xs.length = n) (hx : Sl w a (ints .u8 xs)) (hnil : a = none → n = 0 ∧ cap = 0) (hns : n ≤ s) (hs : s ≤ 4096) :
    Calls Try.prog 19 #[.slice a n cap, .int .i64 s] w (OwnB0 w (filled xs s)) := by
  have r0 := Row.new w 5 []
  have o0 := ownsRow_of (base := w.heap.size) (n := 0) r0 (Nat.le_refl _) rfl (by decide)
  have XA := (Ext.refl w).alloc (.cells (List.toArray []) 5)
  obtain ⟨a2, c2, w2, hrun2, hown2, hext2⟩ := run_append_sl (P := Try.prog) _ w.heap.size 22 22 5 (.int .u8 0) 1 Try.underlying22 info8 rfl o0 (m := n) cap (by rw [ints_length]; exact hl) (hx.ext XA) hnil (ints_oneCell' _ _) (by omega) (by omega) XA.size
  have X2 := hext2 w XA (Nat.le_refl _)
  rw [Nat.zero_add] at hown2 hrun2
  rw [List.nil_append, ← filled_self xs n hl] at hown2
  have HL := Lib.hid hl
  clear r0 o0 hext2 XA hx hl
  go_enter Try.func19, Try.ntmps19
  go_wp2_with (at_builtin; refine Lib.wpList_append_run _ rfl _ _ _ _ rfl _ _ rfl rfl _ _ hrun2 ?_)
  clear hrun2
  go_loopw [6] (fun u wr => ∃ (k c : Nat) (ao : Option Addr), n ≤ k ∧ k ≤ s ∧ u = .slice ao k c ∧ wr.ownsRow w.heap.size 5 1 (.slice ao k c) k (ints .u8 (filled xs k)) ∧ Ext w wr) (fun u _ => s - lenOfV u)
  case atStart => exact ⟨n, c2, a2, Nat.le_refl _, hns, rfl, hown2, X2⟩
  case round =>
    obtain ⟨k, c, ao, hnk, hk, rfl, hown, hX⟩ := hrel
    by_cases hlt : k < s
    · have hfm := filled_more xs k (by rw [HL.out]; exact hnk)
      have HF := Lib.hid hfm; clear hfm
      obtain ⟨wo, rfl⟩ : ∃ wo : World, wo = wr := ⟨_, rfl⟩
      obtain ⟨a', c', w3, hrun, hown', hext⟩ := run_append_one (P := Try.prog) wo w.heap.size 22 22 5 .u8 1 Try.underlying22 info8 hown 0 (by omega) (by omega) hX.size
      have hX' := hext w hX (Nat.le_refl _)
      rw [HF.out] at hown'
      clear hext hown
      go_wp2_with (at_builtin; refine Lib.wpList_append_run _ rfl _ _ _ _ rfl _ _ rfl rfl _ _ hrun ?_)
      go_roundw
      case rel => exact ⟨k + 1, c', a', by omega, hlt, rfl, hown', hX'⟩
      case measure => simp [lenOfV]; omega
    · have : k = s := by omega
      subst this
      have hml : Hid ((filled xs k).length = k) := length_filled _ _ (by rw [HL.out]; exact hns)
      go_wp2
      go_ret2
      exact ⟨ao, c, by rw [hml.out]; rfl, by rw [hml.out]; exact hown, hX⟩
end Go.Proofs.Ytgflpbbdohmhiaa.Field
