/- The reference's Fill, whatever comes in. -/
import Derived.Test.YtnodinancnfoeaaFillP
import Derived.Lib.AppendZeros
import Derived.OwnWalk
namespace Go.Proofs.Ytnodinancnfoeaa.Field
open Go.RowKit Words Mem Plain Ops
set_option linter.unusedVariables false
set_option linter.unusedSimpArgs false

theorem rFill_no (a : Option Addr) (n cap : Nat) (s : Int) (w : World) (b0 : -9223372036854775808 ≤ s) (b1 : s ≤ 9223372036854775807) (h : s < 0 ∨ 4096 < s ∨ s < n) (hm : n ≤ 9223372036854775807) :
    Calls Try.prog 29 #[.slice a n cap, .int .i64 s] w fun e w' => e = .returned (.tuple #[.slice none 0 0, .int .i64 (if s < 0 then 1 else 4)]) ∧ w = w' := by
  by_cases h0 : s < 0
  · rw [if_pos h0]
    clear h
    go_enter Try.func29, Try.ntmps29
    go_wp2
    go_ret2
    exact ⟨rfl, rfl⟩
  · rw [if_neg h0]
    by_cases h2 : s < n
    · clear h
      go_enter Try.func29, Try.ntmps29
      go_wp2
      go_ret2
      exact ⟨rfl, rfl⟩
    · have h1 : 4096 < s := by omega
      clear h
      go_enter Try.func29, Try.ntmps29
      go_wp2
      go_ret2
      exact ⟨rfl, rfl⟩
theorem rFill_ok (a : Option Addr) (n cap s : Nat) (xs : List Int) (w : World) (hl : xs.length = n) (hx : Sl w a (ints .u8 xs)) (hnil : a = none → n = 0 ∧ cap = 0) (hns : n ≤ s) (hs : s ≤ 4096) :
    Calls Try.prog 29 #[.slice a n cap, .int .i64 s] w (OwnB0 w (filled xs s)) := by
  have r0 := Row.new w 5 []
  have o0 := ownsRow_of (base := w.heap.size) (n := 0) r0 (Nat.le_refl _) rfl (by decide)
  have XA := (Ext.refl w).alloc (.cells (List.toArray []) 5)
  obtain ⟨a2, c2, w2, hrun2, hown2, hext2⟩ := run_append_sl (P := Try.prog) _ w.heap.size 26 26 5 (.int .u8 0) 1 Try.underlying26 info8 rfl o0 (m := n) cap (by rw [ints_length]; exact hl) (hx.ext XA) hnil (ints_oneCell' _ _) (by omega) (by omega) XA.size
  have X2 := hext2 w XA (Nat.le_refl _)
  rw [Nat.zero_add] at hown2 hrun2
  rw [List.nil_append, ← filled_self xs n hl] at hown2
  have HL := Lib.hid hl
  clear r0 o0 hext2 XA hx hl
  go_enter Try.func29, Try.ntmps29
  go_wp2_with (at_builtin; refine Lib.wpList_append_run _ rfl _ _ _ _ rfl _ _ rfl rfl _ _ hrun2 ?_)
  clear hrun2
  go_loopw [6] (fun u wr => ∃ (k c : Nat) (ao : Option Addr), n ≤ k ∧ k ≤ s ∧ u = .slice ao k c ∧ wr.ownsRow w.heap.size 5 1 (.slice ao k c) k (ints .u8 (filled xs k)) ∧ Ext w wr) (fun u _ => s - lenOfV u)
  case atStart => exact ⟨n, c2, a2, Nat.le_refl _, hns, rfl, hown2, X2⟩
  case round =>
    obtain ⟨k, c, ao, hnk, hk, rfl, hown, hX⟩ := hrel
    by_cases hlt : k < s
    · have hfm := filled_more xs k (by rw [HL.out]; exact hnk)
      have HF := Lib.hid hfm; clear hfm
      obtain ⟨wo, rfl⟩ : ∃ wo : World, wo = wr := ⟨_, rfl⟩
      obtain ⟨a', c', w3, hrun, hown', hext⟩ := run_append_one (P := Try.prog) wo w.heap.size 26 26 5 .u8 1 Try.underlying26 info8 hown 0 (by omega) (by omega) hX.size
      have hX' := hext w hX (Nat.le_refl _)
      rw [HF.out] at hown'
      clear hext hown
      go_wp2_with (at_builtin; refine Lib.wpList_append_run _ rfl _ _ _ _ rfl _ _ rfl rfl _ _ hrun ?_)
      go_roundw
      case rel => exact ⟨k + 1, c', a', by omega, hlt, rfl, hown', hX'⟩
      case measure => simp [lenOfV]; omega
    · have : k = s := by omega
      subst this
      have hml : Hid ((filled xs k).length = k) := length_filled _ _ (by rw [HL.out]; exact hns)
      go_wp2
      go_ret2
      exact ⟨ao, c, by rw [hml.out]; rfl, by rw [hml.out]; exact hown, hX⟩
theorem rFill_gave (a : Option Addr) (n cap : Nat) (xs : List Int) (w : World) (s : Int) (b0 : -9223372036854775808 ≤ s) (b1 : s ≤ 9223372036854775807) (hl : xs.length = n) (hn : n ≤ 9223372036854775807) (hs : Sl w a (ints .u8 xs)) (hnil : a = none → n = 0 ∧ cap = 0) :
    Calls Try.prog 29 #[.slice a n cap, .int .i64 s] w (Gave .u8 5 w (fillR xs s)) := by
  unfold fillR
  rw [hl]
  by_cases h : s < 0 ∨ 4096 < s ∨ s < n
  · refine (rFill_no a n cap s w b0 b1 h hn).mono fun e w' ⟨h1, h2⟩ => ?_
    by_cases h0 : s < 0
    · rw [if_pos h0] at h1 ⊢
      exact Gave.nil h1 (by subst h2; exact Ext.refl _)
    · rw [if_neg h0] at h1 ⊢
      rw [if_pos (by omega)]
      exact Gave.nil h1 (by subst h2; exact Ext.refl _)
  · rw [if_neg (by omega), if_neg (by omega)]
    obtain ⟨q, rfl⟩ : ∃ q : Nat, s = q := ⟨s.toNat, by omega⟩
    rw [Int.toNat_natCast]
    exact rFill_ok a n cap q xs w hl hs hnil (by omega) (by omega)
end Go.Proofs.Ytnodinancnfoeaa.Field
