/- field.Take, whatever comes in. -/
import Derived.Test.YtfodpphbdbeciaaField
import Derived.Test.YtfodpphbdbeciaaSlices
import Derived.Test.YtfodpphbdbeciaaGv
import Derived.Lib.AppendZeros
import Derived.OwnWalk
namespace Go.Proofs.Ytfodpphbdbeciaa.Field
open Go.RowKit Words Mem Plain Ops
set_option maxRecDepth 100000
set_option linter.unusedVariables false
set_option linter.unusedSimpArgs false

theorem info64 : (Try.prog.info? 40).map (fun i => (i.zero, i.size, i.bytes)) = some (some (.int .u64 0), 1, 8) := by kernel_rfl
def takenL (s : Nat) (xs : List Int) (q : Nat) : List Int := (List.range q).map fun i => numOf ((xs.drop (s * i)).take s)
theorem takenL_succ (s : Nat) (xs : List Int) (q : Nat) : takenL s xs (q + 1) = takenL s xs q ++ [numOf ((xs.drop (s * q)).take s)] := by simp [takenL, List.range_succ]
theorem length_takenL (s : Nat) (xs : List Int) (q : Nat) : (takenL s xs q).length = q := by simp [takenL]
theorem getElem_takenL (s : Nat) (xs : List Int) (q i : Nat) (h : i < q) : (takenL s xs q)[i]? = some (numOf ((xs.drop (s * i)).take s)) := by simp [takenL, h]
theorem takenL_bd (s : Nat) (xs : List Int) (q : Nat) (hb : isBytes xs) (hs : s ≤ 8) : ∀ x ∈ takenL s xs q, 0 ≤ x ∧ x < 256 ^ s := by
  intro x hx
  obtain ⟨i, _, rfl⟩ := List.mem_map.1 hx
  refine ⟨numOf_nonneg (isBytes_take (isBytes_drop hb _) _), ?_⟩
  have h1 := numOf_lt (isBytes_take (isBytes_drop hb (s * i)) s)
  have h2 : (256 : Int) ^ ((xs.drop (s * i)).take s).length ≤ 256 ^ s := pow_mono (by rw [List.length_take]; omega)
  omega
def OwnU0 (w : World) (L : List Int) (e : Ending) (w' : World) : Prop :=
  ∃ a cap, e = .returned (.tuple #[.slice a L.length cap, .int .i64 0]) ∧ w'.ownsRow w.heap.size 40 1 (.slice a L.length cap) L.length (ints .u64 L) ∧ Ext w w'
theorem Take_yes (a : Option Addr) (n cap s q : Nat) (xs : List Int) (w : World) (hs1 : 1 ≤ s) (hs8 : s ≤ 8) (hl : xs.length = n) (hn : n ≤ 4096) (hq : n = s * q) (hb : isBytes xs) (hs : Sl w a (ints .u8 xs)) (hcap : n ≤ cap) (hcm : cap ≤ 9223372036854775807) :
    Calls Try.prog 38 #[.int .i64 s, .slice a n cap] w (OwnU0 w (takenL s xs q)) := by
  have hmod : (n : Int) % s = 0 := by rw [hq]; simp
  have HQ := Lib.hid hq; have HL := Lib.hid hl
  clear hq hl
  have hS0 := hs
  go_enter Try.func38, Try.ntmps38
  go_wp2
  clear hmod
  go_loopw [6, 7] (fun o r wr => ∃ (k m c co : Nat) (ao ar : Option Addr), k ≤ q ∧ Hid (m + s * k = n) ∧ m ≤ c ∧ c ≤ cap ∧ m ≤ 4096 ∧ r = .slice ar m c ∧ o = .slice ao k co ∧ Sl w ar (ints .u8 (xs.drop (s * k))) ∧ wr.ownsRow w.heap.size 40 1 (.slice ao k co) k (ints .u64 (takenL s xs k)) ∧ Ext w wr) (fun _ r _ => lenOfV r)
  case atStart => exact ⟨0, n, cap, 0, none, a, by omega, by exact Nat.add_zero n, hcap, Nat.le_refl _, hn, rfl, rfl, by simpa using hs, ownsRow_nil _ _ _, Ext.refl _⟩
  case round =>
    obtain ⟨k, m, c, co, ao, ar, hk, hmk, hmc, hcc, hm4, rfl, rfl, hS, hown, hX⟩ := hrel
    by_cases hlt : k < q
    · have hge : s * k + s ≤ s * q := by rw [← Nat.mul_succ]; exact Nat.mul_le_mul_left s hlt
      rw [← HQ.out] at hge
      have hsm : s ≤ m := by have := hmk.out; omega
      have hm0 : 0 < m := by omega
      have hP : ((xs.drop (s * k)).take s).length = s := by rw [List.length_take, List.length_drop, HL.out]; have := hmk.out; omega
      have hPb : isBytes ((xs.drop (s * k)).take s) := isBytes_take (isBytes_drop hb _) _
      have hts := takenL_succ s xs k
      have hSt := hS.take s
      rw [ints_take] at hSt
      have hSd := hS.cutA c s (by intro e; rw [ints_length, List.length_drop, HL.out]; have := hmk.out; omega)
      rw [ints_drop, List.drop_drop] at hSd
      have hmk' : Hid (m - s + s * (k + 1) = n) := by have := hmk.out; rw [Nat.mul_succ]; show _ = _; omega
      have hbd := numOf_nonneg hPb
      have hbd2 := numOf_lt64 hPb (by omega)
      have hsl1 : ∀ v : World, (Instr.slice 34 (.slice ar m c) none (some (.int .i64 s)) none).run Try.prog v = .ok (.slice ar s c) v := fun v => run_slice_upto v _ _ Try.underlying34 size8 ar m c s _ _ rfl (by omega)
      have hsl2 : ∀ v : World, (Instr.slice 34 (.slice ar m c) (some (.int .i64 s)) none none).run Try.prog v = .ok (.slice (cutA ar c s) (m - s) (c - s)) v := fun v => run_slice_from v _ _ Try.underlying34 size8 ar m c s _ _ rfl hsm
      generalize (xs.drop (s * k)).take s = P at *
      have HT := Lib.hid hts; have HPL := Lib.hid hP
      have HSD := Lib.hid hSd
      clear hts hP hS hge hmk hSd
      obtain ⟨wo, rfl⟩ : ∃ wo : World, wo = wr := ⟨_, rfl⟩
      obtain ⟨a', c', w2, hrun, hown', hext⟩ := run_append_one (P := Try.prog) wo w.heap.size 88 88 40 .u64 8 Try.underlying88 info64 hown (numOf P) (by have : k ≤ 4096 := by { have h1 := HQ.out; have h2 : 1 * q ≤ s * q := Nat.mul_le_mul_right q hs1; omega }; omega) (by have : k ≤ 4096 := by { have h1 := HQ.out; have h2 : 1 * q ≤ s * q := Nat.mul_le_mul_right q hs1; omega }; omega) hX.size
      have hX' := hext w hX (Nat.le_refl _)
      clear hext hown
      have hm0' : (0 : Int) < m := by omega
      go_wp2_with fail
      refine (get_ok ar s c P _ HPL.out hs8 hPb (hSt.ext hX)).mono ?_
      rintro e w' ⟨rfl, rfl⟩
      go_wp2_with (at_builtin; refine Lib.wpList_append_run _ rfl _ _ _ _ rfl _ _ rfl rfl _ _ hrun ?_)
      go_roundw
      case rel => exact ⟨k + 1, m - s, c - s, c', a', cutA ar c s, hlt, hmk', by omega, by omega, by omega, rfl, rfl, HSD.out, by rw [HT.out]; exact hown', hX'⟩
      case measure => simp [lenOfV]; omega
    · have : k = q := by omega
      subst this
      have hm : m = 0 := by have h1 := hmk.out; have h2 := HQ.out; omega
      subst hm
      go_wp2
      go_ret2
      exact ⟨ao, co, by rw [length_takenL]; rfl, by rw [length_takenL]; exact hown, hX⟩
theorem Take_arg (a : Option Addr) (n cap : Nat) (s : Int) (w : World) (hn : n ≤ 9223372036854775807) (h : s < 1 ∨ 8 < s ∨ (n : Int) % s ≠ 0) :
    Calls Try.prog 38 #[.int .i64 s, .slice a n cap] w fun e w' => e = .returned (.tuple #[.slice none 0 0, .int .i64 1]) ∧ w = w' := by
  by_cases h1 : s < 1
  · clear h
    go_enter Try.func38, Try.ntmps38
    go_wp2
    go_ret2
    exact ⟨rfl, rfl⟩
  · by_cases h2 : 8 < s
    · clear h
      go_enter Try.func38, Try.ntmps38
      go_wp2
      go_ret2
      exact ⟨rfl, rfl⟩
    · have h3 : ((n : Int) % s != 0) = true := by simp; omega
      have h4 : 1 ≤ s := by omega
      have h5 : s ≤ 8 := by omega
      clear h
      go_enter Try.func38, Try.ntmps38
      go_wp2
      go_ret2
      exact ⟨rfl, rfl⟩
theorem Take_long (a : Option Addr) (n cap : Nat) (s : Int) (w : World) (hn : n ≤ 9223372036854775807) (h1 : 1 ≤ s) (h2 : s ≤ 8) (h3 : (n : Int) % s = 0) (h4 : 4096 < n) :
    Calls Try.prog 38 #[.int .i64 s, .slice a n cap] w fun e w' => e = .returned (.tuple #[.slice none 0 0, .int .i64 4]) ∧ w = w' := by
  go_enter Try.func38, Try.ntmps38
  go_wp2
  go_ret2
  exact ⟨rfl, rfl⟩
def takeR (s : Int) (xs : List Int) : List Int × Int :=
  if s < 1 ∨ 8 < s ∨ (xs.length : Int) % s ≠ 0 then ([], 1) else if 4096 < xs.length then ([], 4) else (takenL s.toNat xs (xs.length / s.toNat), 0)
theorem Take_gave (a : Option Addr) (n cap : Nat) (xs : List Int) (w : World) (s : Int) (hl : xs.length = n) (hn : n ≤ 9223372036854775807) (hb : isBytes xs) (hs : Sl w a (ints .u8 xs)) (hcap : n ≤ cap) (hcm : cap ≤ 9223372036854775807) :
    Calls Try.prog 38 #[.int .i64 s, .slice a n cap] w (Gave .u64 40 w (takeR s xs)) := by
  unfold takeR
  rw [hl]
  by_cases h : s < 1 ∨ 8 < s ∨ (n : Int) % s ≠ 0
  · rw [if_pos h]
    exact (Take_arg a n cap s w hn h).mono fun e w' ⟨h1, h2⟩ => Gave.nil h1 (by subst h2; exact Ext.refl _)
  · rw [if_neg h]
    have h1 : 1 ≤ s := by omega
    have h2 : s ≤ 8 := by omega
    have h3 : (n : Int) % s = 0 := by omega
    by_cases h4 : 4096 < n
    · rw [if_pos h4]
      exact (Take_long a n cap s w hn h1 h2 h3 h4).mono fun e w' ⟨h1, h2⟩ => Gave.nil h1 (by subst h2; exact Ext.refl _)
    · rw [if_neg h4]
      obtain ⟨q, rfl⟩ : ∃ q : Nat, s = q := ⟨s.toNat, by omega⟩
      rw [Int.toNat_natCast]
      have hd : n % q = 0 := by exact_mod_cast h3
      exact (Take_yes a n cap q (n / q) xs w (by omega) (by omega) hl (by omega) (by rw [Nat.mul_div_cancel' (Nat.dvd_of_mod_eq_zero hd)]) hb hs hcap hcm)
end Go.Proofs.Ytfodpphbdbeciaa.Field
