/- Contracts: inode.pointer, moatref11.pointer, inode.Block, moatref11.two, moatref11.Block, moatref11.Where, moatref11.Blocks. -/
import Derived.Test.YtdimnnnklhjnfaaBase
import Derived.Test.YtdimnnnklhjnfaaLayP
import Derived.Test.YtdimnnnklhjnfaaNum
import Derived.Test.YtdimnnnklhjnfaaTakeP
import Derived.LoopTactic
namespace Go.Proofs.Ytdimnnnklhjnfaa.Ino
open Go.RowKit Words Mem Plain Ops Base
open Go.Proofs.Ytdimnnnklhjnfaa.Field
set_option linter.ambiguousOpen false
set_option linter.unusedVariables false
set_option linter.unusedSimpArgs false

def ptrB (x : Int) : Bool := decide (0 ≤ x) && decide (x ≤ 512)
theorem ptrB_true {x : Int} (h : ptrB x = true) : 0 ≤ x ∧ x ≤ 512 := by simpa [ptrB] using h
theorem ptrB_false {x : Int} (h : ptrB x = false) : x < 0 ∨ 512 < x := by
  simp only [ptrB, Bool.and_eq_false_iff, decide_eq_false_iff_not] at h; omega
theorem pointer_ok (x : Int) (w : World) : Calls Try.prog 27 #[.int .i64 x] w fun e w' => e = .returned (.bool (ptrB x)) ∧ w = w' := by
  unfold ptrB
  by_cases h : 0 ≤ x
  · go_enter Try.func27, Try.ntmps27
    go_wp2
    go_ret
    exact ⟨by simp [h], rfl⟩
  · go_enter Try.func27, Try.ntmps27
    go_wp2
    go_ret
    exact ⟨by simp; omega, rfl⟩
theorem rpointer_ok (x : Int) (w : World) : Calls Try.prog 29 #[.int .i64 x] w fun e w' => e = .returned (.bool (ptrB x)) ∧ w = w' := by
  unfold ptrB
  by_cases h : 0 ≤ x
  · go_enter Try.func29, Try.ntmps29
    go_wp2
    go_ret
    exact ⟨by simp [h], rfl⟩
  · go_enter Try.func29, Try.ntmps29
    go_wp2
    go_ret
    exact ⟨by simp; omega, rfl⟩

theorem fits2 {x : Int} (h : 0 ≤ x) (h' : x < 65536) : fitsB x 2 = true := by unfold fitsB; rw [p2]; simpa using h'

/-- A list and no code, of the call's own. -/
def blockR (l : List Int) : List Int × Int := if l.length = 32 ∧ ∀ x ∈ l, ptrB x = true then (layed 2 l, 0) else ([], 1)
theorem blockR_len {l : List Int} (h : l.length ≠ 32) : blockR l = ([], 1) := by unfold blockR; rw [if_neg (fun e => h e.1)]
theorem blockR_bad {l : List Int} {x : Int} (h : x ∈ l) (hx : ptrB x = false) : blockR l = ([], 1) := by
  unfold blockR; rw [if_neg (fun e => by have := e.2 x h; rw [hx] at this; cases this)]
theorem blockR_yes {l : List Int} (h : l.length = 32) (hx : ∀ x ∈ l, ptrB x = true) : blockR l = (layed 2 l, 0) := by
  unfold blockR; rw [if_pos ⟨h, hx⟩]

theorem Block_len (a : Option Addr) (n cap : Nat) (w : World) (h : n ≠ 32) :
    Calls Try.prog 15 #[.slice a n cap] w fun e w' => e = .returned (.tuple #[.slice none 0 0, .int .i64 1]) ∧ w = w' := by
  have hd : ((n : Int) == 32) = false := by simp; omega
  have hd' : ((n : Int) != 32) = true := by simp; omega
  go_enter Try.func15, Try.ntmps15
  go_wp2
  go_ret2
  exact ⟨rfl, rfl⟩
theorem rBlock_len (a : Option Addr) (n cap : Nat) (w : World) (h : n ≠ 32) :
    Calls Try.prog 16 #[.slice a n cap] w fun e w' => e = .returned (.tuple #[.slice none 0 0, .int .i64 1]) ∧ w = w' := by
  have hd : ((n : Int) == 32) = false := by simp; omega
  have hd' : ((n : Int) != 32) = true := by simp; omega
  go_enter Try.func16, Try.ntmps16
  go_wp2
  go_ret2
  exact ⟨rfl, rfl⟩

set_option maxHeartbeats 1000000 in
theorem Block_ok (a : Option Addr) (n cap : Nat) (l : List Int) (w : World) (hl : l.length = n) (hs : Sl w a (ints .i64 l)) :
    Calls Try.prog 15 #[.slice a n cap] w (Gave .u8 5 w (blockR l)) := by
  by_cases h32 : n = 32
  case neg =>
    rw [blockR_len (by omega)]
    exact (Block_len a n cap w h32).mono fun e w' ⟨h1, h2⟩ => by subst h2; exact Gave.nil h1 (Ext.refl _)
  subst h32
  obtain ⟨b, off, rfl, hc⟩ := hs.ints (by omega)
  have HC := Lib.hid hc; have HL := Lib.hid hl
  have hbw : b < w.heap.size := World.block_lt_of_cell? w _ (hc 0 (by omega))
  clear hc hl hs
  go_enter Try.func15, Try.ntmps15
  go_wp2_with fail
  go_loopw [4, 12] (fun u v wr => ∃ (k c : Nat) (ao : Option Addr), k ≤ 32 ∧ v = .int .i64 k ∧ u = .slice ao k c ∧ wr.ownsRow w.heap.size 27 1 (.slice ao k c) k (ints .u64 (l.take k)) ∧ Ext w wr ∧ Hid (∀ x ∈ l.take k, ptrB x = true)) (fun _ v _ => 32 - (intOf v).toNat)
  case atStart => exact ⟨0, 0, none, by omega, rfl, rfl, ownsRow_nil _ _ _, Ext.refl _, fun x hx => by simp at hx⟩
  case round =>
    obtain ⟨k, c, ao, hk, rfl, rfl, hown, hX, hgood⟩ := hrel
    by_cases hlt : k < 32
    · have hlk : k < l.length := by rw [HL.out]; exact hlt
      have hcell := HC.out k hlk
      rw [← hX.cell (p := ⟨b, off + k, none⟩) hbw] at hcell
      have hts : Hid (l.take (k + 1) = l.take k ++ [l[k]]) := List.take_succ_eq_append_getElem hlk
      have hmem : Hid (l[k] ∈ l) := List.getElem_mem hlk
      generalize l[k] = x at *
      clear hlk
      cases hp : ptrB x
      · have hno := Lib.hid (blockR_bad hmem.out hp)
        go_wp2_with fail
        refine (pointer_ok x _).mono ?_
        rintro e w' ⟨rfl, rfl⟩
        rw [hp]
        go_wp2_with fail
        go_ret2
        rw [hno.out]
        exact Gave.nil rfl hX
      · obtain ⟨x0, x1⟩ := ptrB_true hp
        obtain ⟨wo, rfl⟩ : ∃ wo : World, wo = wr := ⟨_, rfl⟩
        obtain ⟨a', c', w2, hrun, hown', hext⟩ := run_append_one (P := Try.prog) wo w.heap.size 50 50 27 .u64 8 Try.underlying50 info64 hown x (by omega) (by omega) hX.size
        have hX' := hext w hX (Nat.le_refl _)
        have HP := Lib.hid hp
        clear hext hown
        go_wp2_with fail
        refine (pointer_ok x _).mono ?_
        rintro e w' ⟨rfl, rfl⟩
        rw [hp]
        clear hp
        go_wp2_with (at_builtin; refine Lib.wpList_append_run _ rfl _ _ _ _ rfl _ _ rfl rfl _ _ hrun ?_)
        go_roundw
        case rel => exact ⟨k + 1, c', a', hlt, by go_num, rfl, by rw [hts.out]; exact hown', hX', by
          intro y hy
          rw [hts.out] at hy
          rcases List.mem_append.1 hy with h1 | h1
          · exact hgood.out y h1
          · rw [List.mem_singleton] at h1; rw [h1]; exact HP.out⟩
        case measure => simp [intOf]; omega
    · have : k = 32 := by omega
      subst this
      have htk : Hid (l.take 32 = l) := List.take_of_length_le (by rw [HL.out]; exact Nat.le_refl _)
      rw [htk.out] at hown
      have hgood' : Hid (∀ x ∈ l, ptrB x = true) := by have := hgood.out; rw [htk.out] at this; exact this
      clear hgood hlt hk
      have hsl := ownsRow_sl hown
      go_wp2_with fail
      have k0 : Calls Try.prog 28 #[.int .i64 2, .slice ao 32 c] wr _ := Lay_gave ao 32 c l wr 2 HL.out (by decide) hsl (fun x hx => by have := ptrB_true (hgood'.out x hx); omega)
      refine k0.mono ?_
      clear k0
      rintro e w2 ⟨a4, c4, rfl, ho4, hX2⟩
      have hok : okLay 2 l = true := okLay_of HL.out (by decide) (fun x hx => by have := ptrB_true (hgood'.out x hx); exact fits2 (by omega) (by omega))
      have hlr : layR 2 l = (layed 2 l, 0) := by unfold layR; rw [if_neg (by decide)]; show (if okLay 2 l = true then _ else _) = _; rw [if_pos hok]; rfl
      have hbr := blockR_yes HL.out hgood'.out
      rw [hlr] at ho4 ⊢
      dsimp only at ho4 ⊢
      have X2 := hX.trans hX2
      have ho5 := ownsRow_base ho4 hX.size
      go_wp2_with fail
      go_ret2
      rw [hbr]
      exact ⟨a4, c4, rfl, ho5, X2⟩

/-- Numbers of two bytes each, by the reference. -/
theorem two_ok (a : Option Addr) (n cap : Nat) (l : List Int) (w : World) (hl : l.length = n) (hn : n ≤ 1000000) (hs : Sl w a (ints .i64 l)) (hu : ∀ x ∈ l, 0 ≤ x ∧ x ≤ 9223372036854775807) :
    Calls Try.prog 30 #[.slice a n cap] w (OwnB w (layed 2 l)) := by
  have hs0 := hs
  have HS := Lib.hid hs; have HL := Lib.hid hl; have HU := Lib.hid hu
  clear hs hl hu hs0
  go_enter Try.func30, Try.ntmps30
  go_wp2_with fail
  go_loopw [3, 4] (fun u v wr => ∃ (k m c : Nat) (ao : Option Addr), k ≤ n ∧ m = 2 * k ∧ v = .int .i64 k ∧ u = .slice ao m c ∧ wr.ownsRow w.heap.size 5 1 (.slice ao m c) m (ints .u8 (layed 2 (l.take k))) ∧ Ext w wr) (fun _ v _ => n - (intOf v).toNat)
  case atStart => exact ⟨0, 0, 0, none, by omega, rfl, rfl, rfl, ownsRow_nil _ _ _, Ext.refl _⟩
  case round =>
    obtain ⟨k, m, c, ao, hk, hm, rfl, rfl, hown, hX⟩ := hrel
    have HM := Lib.hid hm; have hm2 : m ≤ 2 * k := by omega
    clear hm
    by_cases hlt : k < n
    · have hlk : k < l.length := by rw [HL.out]; exact hlt
      obtain ⟨bb, oo, rfl, hc⟩ := (HS.out.ext hX).ints (by omega)
      have hcell := hc k hlk
      have hts : Hid (l.take (k + 1) = l.take k ++ [l[k]]) := List.take_succ_eq_append_getElem hlk
      obtain ⟨x0, x1⟩ := HU.out l[k] (List.getElem_mem hlk)
      generalize l[k] = x at *
      clear hlk hc
      go_wp2_with fail
      have k0 : Calls Try.prog 39 #[.int .u64 x, .int .i64 2] wr _ := rNum_ok x 2 wr x0 (by omega) (by decide)
      refine k0.mono ?_
      clear k0
      rintro e w3 ⟨a3, c3, rfl, hown3, hX3⟩
      rw [length_bytesOf] at hown3
      rw [length_bytesOf]
      have hown2' := ownsRow_ext hown hX3
      have X3 := hX.trans hX3
      obtain ⟨a4, c4, w4, hrun4, hown4, hext4⟩ := run_append_sl (P := Try.prog) w3 w.heap.size 33 33 5 (.int .u8 0) 1 Try.underlying33 info8 rfl hown2' (m := 2) c3 (by rw [ints_length, length_bytesOf]) (ownsRow_sl hown3) (own_nil hown3) (ints_oneCell' _ _) (by omega) (by omega) X3.size
      have X4 := hext4 w X3 (Nat.le_refl _)
      rw [← ints_append, ← layed_snoc, ← hts.out] at hown4
      clear hext4 hown3 hown hown2'
      go_wp2_with (at_builtin; refine Lib.wpList_append_run _ rfl _ _ _ _ rfl _ _ rfl rfl _ _ hrun4 ?_)
      go_roundw
      case rel => exact ⟨k + 1, m + 2, c4, a4, hlt, by have := HM.out; omega, by go_num, rfl, hown4, X4⟩
      case measure => simp [intOf]; omega
    · have : k = n := by omega
      subst this
      have htk : Hid (l.take k = l) := List.take_of_length_le (by rw [HL.out]; exact Nat.le_refl _)
      rw [htk.out] at hown
      have hlen : Hid ((layed 2 l).length = m) := by show (layed 2 l).length = m; rw [length_layed, HL.out, HM.out]
      go_wp2_with fail
      go_ret
      exact ⟨ao, c, by rw [hlen.out]; rfl, by rw [hlen.out]; exact hown, hX⟩

theorem rBlock_ok (a : Option Addr) (n cap : Nat) (l : List Int) (w : World) (hl : l.length = n) (hs : Sl w a (ints .i64 l)) :
    Calls Try.prog 16 #[.slice a n cap] w (Gave .u8 5 w (blockR l)) := by
  by_cases h32 : n = 32
  case neg =>
    rw [blockR_len (by omega)]
    exact (rBlock_len a n cap w h32).mono fun e w' ⟨h1, h2⟩ => by subst h2; exact Gave.nil h1 (Ext.refl _)
  subst h32
  have HSL := Lib.hid hs
  obtain ⟨b, off, rfl, hc⟩ := hs.ints (by omega)
  have HC := Lib.hid hc; have HL := Lib.hid hl
  clear hc hl hs
  go_enter Try.func16, Try.ntmps16
  go_wp2_with fail
  go_loop [4] (fun v => ∃ (k : Nat), k ≤ 32 ∧ v = .int .i64 k ∧ Hid (∀ x ∈ l.take k, ptrB x = true)) (fun v => 32 - (intOf v).toNat)
  case atStart => exact ⟨0, by omega, rfl, fun x hx => by simp at hx⟩
  case round =>
    obtain ⟨k, hk, rfl, hgood⟩ := hrel
    by_cases hlt : k < 32
    · have hlk : k < l.length := by rw [HL.out]; exact hlt
      have hcell := HC.out k hlk
      have hts : Hid (l.take (k + 1) = l.take k ++ [l[k]]) := List.take_succ_eq_append_getElem hlk
      have hmem : Hid (l[k] ∈ l) := List.getElem_mem hlk
      generalize l[k] = x at *
      clear hlk
      cases hp : ptrB x
      · have hno := Lib.hid (blockR_bad hmem.out hp)
        go_wp2_with fail
        refine (rpointer_ok x _).mono ?_
        rintro e w' ⟨rfl, rfl⟩
        rw [hp]
        go_wp2_with fail
        go_ret2
        rw [hno.out]
        exact Gave.nil rfl (Ext.refl _)
      · have HP := Lib.hid hp
        go_wp2_with fail
        refine (rpointer_ok x _).mono ?_
        rintro e w' ⟨rfl, rfl⟩
        rw [hp]
        clear hp
        go_wp2_with fail
        go_round
        case rel => exact ⟨k + 1, hlt, by go_num, by
          intro y hy
          rw [hts.out] at hy
          rcases List.mem_append.1 hy with h1 | h1
          · exact hgood.out y h1
          · rw [List.mem_singleton] at h1; rw [h1]; exact HP.out⟩
        case measure => simp [intOf]; omega
    · have : k = 32 := by omega
      subst this
      have htk : Hid (l.take 32 = l) := List.take_of_length_le (by rw [HL.out]; exact Nat.le_refl _)
      have hgood' : Hid (∀ x ∈ l, ptrB x = true) := by have := hgood.out; rw [htk.out] at this; exact this
      clear hgood hlt hk
      go_wp2_with fail
      refine (two_ok _ 32 cap l w HL.out (by decide) HSL.out (fun x hx => by have := ptrB_true (hgood'.out x hx); omega)).mono ?_
      rintro e w2 ⟨a4, c4, rfl, ho4, hX2⟩
      have hbr := blockR_yes HL.out hgood'.out
      go_wp2_with fail
      go_ret2
      rw [hbr]
      exact ⟨a4, c4, rfl, ho4, hX2⟩

/-! The reference's way. -/
theorem rWhere_ok (n : Int) (w : World) : ∃ v : Value, (Calls Try.prog 13 #[.int .i64 n] w fun e w' => e = .returned v ∧ w = w') ∧ (∀ w, Calls Try.prog 14 #[.int .i64 n] w fun e w' => e = .returned v ∧ w = w') ∧ ∃ x y z t : Int, v = .tuple #[.int .i64 x, .int .i64 y, .int .i64 z, .int .i64 t] := by
  by_cases h : n < 0 ∨ 60 ≤ n
  · refine ⟨_, Where_bad n h w, fun w => ?_, _, _, _, _, rfl⟩
    rcases h with h | h
    all_goals
      go_enter Try.func14, Try.ntmps14
      go_wp2
      exact bodyPost_ret (v := .tuple #[.int .i64 0, .int .i64 0, .int .i64 0, .int .i64 1]) (by simp [results, Try.results14, go_sem]) rfl ⟨rfl, rfl⟩
  · have h0 : 0 ≤ n := by omega
    by_cases h1 : n < 8
    · refine ⟨_, Where_lo n (by omega) h1 w, fun w => ?_, _, _, _, _, rfl⟩
      clear h
      go_enter Try.func14, Try.ntmps14
      go_wp2
      exact bodyPost_ret (v := .tuple #[.int .i64 0, .int .i64 n, .int .i64 0, .int .i64 0]) (by simp [results, Try.results14, go_sem]) rfl ⟨rfl, rfl⟩
    · by_cases h2 : n < 40
      · refine ⟨_, Where_mid n (by omega) h2 w, fun w => ?_, _, _, _, _, rfl⟩
        clear h
        go_enter Try.func14, Try.ntmps14
        go_wp2
        exact bodyPost_ret (v := .tuple #[.int .i64 1, .int .i64 (n - 8), .int .i64 0, .int .i64 0]) (by simp [results, Try.results14, go_sem]) rfl ⟨rfl, rfl⟩
      · have h3 : n < 60 := by omega
        refine ⟨_, Where_hi n (by omega) h3 w, fun w => ?_, _, _, _, _, rfl⟩
        clear h
        go_enter Try.func14, Try.ntmps14
        go_wp2
        exact bodyPost_ret (v := .tuple #[.int .i64 2, .int .i64 ((n - 40) / 32), .int .i64 ((n - 40) % 32), .int .i64 0]) (by simp [results, Try.results14, go_sem]) rfl ⟨rfl, rfl⟩

theorem rblocks_ok (n : Int) (h2 : n ≤ 9223372036854775807) (w : World) : Calls Try.prog 17 #[.int .i64 n] w fun e w' => e = .returned (.int .i64 (blocks n)) ∧ w = w' := by
  by_cases h : n < 1
  · have hb : blocks n = 0 := by unfold blocks; rw [if_pos h]
    rw [hb]
    go_enter Try.func17, Try.ntmps17
    go_wp2
    go_ret
    exact ⟨rfl, rfl⟩
  · have hb : blocks n = (n - 1) / 64 + 1 := by unfold blocks; rw [if_neg h]
    have h0 : 1 ≤ n := by omega
    rw [hb]
    go_enter Try.func17, Try.ntmps17
    go_wp2
    go_ret
    exact ⟨rfl, rfl⟩
end Go.Proofs.Ytdimnnnklhjnfaa.Ino
