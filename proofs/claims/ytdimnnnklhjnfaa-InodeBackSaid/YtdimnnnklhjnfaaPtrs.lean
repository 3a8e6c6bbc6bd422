/- Contracts: inode.Pointers, moatref11.Pointers; plain laws on blocks of pointers. -/
import Derived.Test.YtdimnnnklhjnfaaPtr
import Derived.Test.YtdimnnnklhjnfaaInoP
namespace Go.Proofs.Ytdimnnnklhjnfaa.Ino
open Go.RowKit Words Mem Plain Ops Base
open Go.Proofs.Ytdimnnnklhjnfaa.Field
set_option linter.ambiguousOpen false
set_option linter.unusedVariables false
set_option linter.unusedSimpArgs false

theorem infoI : (Try.prog.info? 3).map (fun i => (i.zero, i.size, i.bytes)) = some (some (.int .i64 0), 1, 8) := by kernel_rfl
def ptrsR (xs : List Int) : List Int × Int := if xs.length = 64 ∧ ∀ x ∈ takenL 2 xs 32, ptrB x = true then (takenL 2 xs 32, 0) else ([], 1)
theorem ptrsR_len {xs : List Int} (h : xs.length ≠ 64) : ptrsR xs = ([], 1) := by unfold ptrsR; rw [if_neg (fun e => h e.1)]
theorem ptrsR_bad {xs : List Int} {x : Int} (h : x ∈ takenL 2 xs 32) (hx : ptrB x = false) : ptrsR xs = ([], 1) := by
  unfold ptrsR; rw [if_neg (fun e => by have := e.2 x h; rw [hx] at this; cases this)]
theorem ptrsR_yes {xs : List Int} (h : xs.length = 64) (hx : ∀ x ∈ takenL 2 xs 32, ptrB x = true) : ptrsR xs = (takenL 2 xs 32, 0) := by
  unfold ptrsR; rw [if_pos ⟨h, hx⟩]

theorem block_cases (Y : List Int) : (blockR Y = (layed 2 Y, 0) ∧ ptrsR (layed 2 Y) = (Y, 0) ∧ (layed 2 Y).length = 64 ∧ isBytes (layed 2 Y)) ∨ blockR Y = ([], 1) := by
  by_cases h : Y.length = 32 ∧ ∀ x ∈ Y, ptrB x = true
  · left
    have hl : (layed 2 Y).length = 64 := by rw [length_layed, h.1]
    have ht : takenL 2 (layed 2 Y) 32 = Y := by
      have := takenL_layed 2 Y (fun x hx => (ptrB_true (h.2 x hx)).1) (fun x hx => by have := ptrB_true (h.2 x hx); exact fits2 (by omega) (by omega))
      rwa [h.1] at this
    exact ⟨blockR_yes h.1 h.2, by rw [ptrsR_yes hl (by rw [ht]; exact h.2), ht], hl, isBytes_layed _ _⟩
  · right
    unfold blockR; rw [if_neg h]
theorem ptrs_cases (xs : List Int) (hb : isBytes xs) : (∃ Z, ptrsR xs = (Z, 0) ∧ blockR Z = (xs, 0)) ∨ ptrsR xs = ([], 1) := by
  by_cases h : xs.length = 64 ∧ ∀ x ∈ takenL 2 xs 32, ptrB x = true
  · left
    exact ⟨_, ptrsR_yes h.1 h.2, by rw [blockR_yes (length_takenL _ _ _) h.2, layed_takenL 2 32 xs hb h.1]⟩
  · right
    unfold ptrsR; rw [if_neg h]

theorem Ptrs_len (a : Option Addr) (n cap : Nat) (xs : List Int) (w : World) (hl : xs.length = n) (hn : n ≤ 9223372036854775807) (hb : isBytes xs) (hs : Sl w a (ints .u8 xs)) (hcap : n ≤ cap) (hcm : cap ≤ 9223372036854775807) (h : n ≠ 64) :
    Calls Try.prog 22 #[.slice a n cap] w fun e w' => e = .returned (.tuple #[.slice none 0 0, .int .i64 1]) ∧ Ext w w' := by
  have hd : ((n : Int) == 64) = false := by simp; omega
  have hd' : ((n : Int) != 64) = true := by simp; omega
  go_enter Try.func22, Try.ntmps22
  go_wp2_with fail
  refine (Take_gave a n cap xs w 2 hl hn hb hs hcap hcm).mono ?_
  rintro e w2 ⟨a4, c4, rfl, ho4, hX2⟩
  generalize Field.takeR 2 xs = R at *
  by_cases h0 : R.2 = 0
  · have h0' : (R.2 != 0) = false := by simp [h0]
    clear h0
    go_wp2_with fail
    go_ret2
    exact ⟨rfl, hX2⟩
  · have h0' : (R.2 != 0) = true := by simp [h0]
    clear h0
    go_wp2_with fail
    go_ret2
    exact ⟨rfl, hX2⟩

set_option maxHeartbeats 1000000 in
theorem Ptrs_ok (a : Option Addr) (n cap : Nat) (xs : List Int) (w : World) (hl : xs.length = n) (hn : n ≤ 9223372036854775807) (hb : isBytes xs) (hs : Sl w a (ints .u8 xs)) (hcap : n ≤ cap) (hcm : cap ≤ 9223372036854775807) :
    Calls Try.prog 22 #[.slice a n cap] w (Gave .i64 3 w (ptrsR xs)) := by
  by_cases h64 : n = 64
  case neg =>
    rw [ptrsR_len (by omega)]
    exact (Ptrs_len a n cap xs w hl hn hb hs hcap hcm h64).mono fun e w' ⟨h1, h2⟩ => Gave.nil h1 h2
  subst h64
  have htr : Field.takeR 2 xs = (takenL 2 xs 32, 0) := by unfold Field.takeR; rw [hl, if_neg (by decide), if_neg (by decide)]; rfl
  have hno := fun (x : Int) (hx : x ∈ takenL 2 xs 32) (h : ptrB x = false) => ptrsR_bad hx h
  have hyes := fun (hx : ∀ x ∈ takenL 2 xs 32, ptrB x = true) => ptrsR_yes hl hx
  have hlN := length_takenL 2 xs 32
  have hbd := takenL_bd 2 xs 32 hb (by decide)
  rw [p2] at hbd
  have k0 : Calls Try.prog 33 #[.int .i64 2, .slice a 64 cap] w _ := Take_gave a 64 cap xs w 2 hl (by decide) hb hs hcap hcm
  rw [htr] at k0
  generalize takenL 2 xs 32 = N at *
  generalize ptrsR xs = R at *
  have HNO := Lib.hid hno; have HYES := Lib.hid hyes; have HLN := Lib.hid hlN; have HBD := Lib.hid hbd; have HK := Lib.hid k0
  clear hno hyes hlN hbd hb htr hl k0
  go_enter Try.func22, Try.ntmps22
  go_wp2_with fail
  refine HK.out.mono ?_
  rintro e w2 ⟨a4, c4, rfl, ho4, hX2⟩
  dsimp only at ho4 ⊢
  rw [HLN.out] at ho4 ⊢
  obtain ⟨b, off, rfl, hc⟩ := (ownsRow_sl ho4).ints (by rw [HLN.out]; decide)
  have HC := Lib.hid hc
  have hbw : b < w2.heap.size := World.block_lt_of_cell? w2 _ (hc 0 (by rw [HLN.out]; decide))
  clear hc ho4
  go_wp2_with fail
  go_loopw [6, 23] (fun u v wr => ∃ (k c : Nat) (ao : Option Addr), k ≤ 32 ∧ v = .int .i64 k ∧ u = .slice ao k c ∧ wr.ownsRow w2.heap.size 3 1 (.slice ao k c) k (ints .i64 (N.take k)) ∧ Ext w2 wr ∧ Hid (∀ x ∈ N.take k, ptrB x = true)) (fun _ v _ => 32 - (intOf v).toNat)
  case atStart => exact ⟨0, 0, none, by omega, rfl, rfl, ownsRow_nil _ _ _, Ext.refl _, fun x hx => by simp at hx⟩
  case round =>
    obtain ⟨k, c, ao, hk, rfl, rfl, hown, hX, hgood⟩ := hrel
    by_cases hlt : k < 32
    · have hlk : k < N.length := by rw [HLN.out]; exact hlt
      have hcell := HC.out k hlk
      rw [← hX.cell (p := ⟨b, off + k, none⟩) hbw] at hcell
      have hts : Hid (N.take (k + 1) = N.take k ++ [N[k]]) := List.take_succ_eq_append_getElem hlk
      have hmem : Hid (N[k] ∈ N) := List.getElem_mem hlk
      generalize N[k] = x at *
      obtain ⟨x0, x1⟩ := HBD.out x hmem.out
      clear hlk
      have X2 := hX2.trans hX
      cases hp : ptrB x
      · have hno := Lib.hid (HNO.out x hmem.out hp)
        go_wp2_with fail
        refine (pointer_ok x _).mono ?_
        rintro e w' ⟨rfl, rfl⟩
        rw [hp]
        go_wp2_with fail
        go_ret2
        rw [hno.out]
        exact Gave.nil rfl X2
      · obtain ⟨wo, rfl⟩ : ∃ wo : World, wo = wr := ⟨_, rfl⟩
        obtain ⟨a', c', w3, hrun, hown', hext⟩ := run_append_one (P := Try.prog) wo w2.heap.size 29 29 3 .i64 8 Try.underlying29 infoI hown x (by omega) (by omega) hX.size
        have hX' := hext w2 hX (Nat.le_refl _)
        have HP := Lib.hid hp
        clear hext hown
        go_wp2_with fail
        refine (pointer_ok x _).mono ?_
        rintro e w' ⟨rfl, rfl⟩
        rw [hp]
        clear hp
        go_wp2_with (at_builtin; refine Lib.wpList_append_run _ rfl _ _ _ _ rfl _ _ rfl rfl _ _ hrun ?_)
        go_roundw
        case rel => exact ⟨k + 1, c', a', hlt, by go_num, rfl, by rw [hts.out]; exact hown', hX', by
          intro y hy
          rw [hts.out] at hy
          rcases List.mem_append.1 hy with h1 | h1
          · exact hgood.out y h1
          · rw [List.mem_singleton] at h1; rw [h1]; exact HP.out⟩
        case measure => simp [intOf]; omega
    · have : k = 32 := by omega
      subst this
      have htk : Hid (N.take 32 = N) := List.take_of_length_le (by rw [HLN.out]; exact Nat.le_refl _)
      rw [htk.out] at hown
      have hgood' : Hid (∀ x ∈ N, ptrB x = true) := by have := hgood.out; rw [htk.out] at this; exact this
      clear hgood hlt hk
      go_wp2_with fail
      go_ret2
      rw [HYES.out hgood'.out]
      exact Gave.own rfl HLN.out (ownsRow_base hown hX2.size) (hX2.trans hX)

theorem rPtrs_len (a : Option Addr) (n cap : Nat) (w : World) (h : n ≠ 64) :
    Calls Try.prog 26 #[.slice a n cap] w fun e w' => e = .returned (.tuple #[.slice none 0 0, .int .i64 1]) ∧ w = w' := by
  have hd : ((n : Int) == 64) = false := by simp; omega
  have hd' : ((n : Int) != 64) = true := by simp; omega
  go_enter Try.func26, Try.ntmps26
  go_wp2_with fail
  go_ret2
  exact ⟨rfl, rfl⟩

set_option maxHeartbeats 1000000 in
theorem rPtrs_ok (a : Option Addr) (n cap : Nat) (xs : List Int) (w : World) (hl : xs.length = n) (hn : n ≤ 9223372036854775807) (hb : isBytes xs) (hs : Sl w a (ints .u8 xs)) :
    Calls Try.prog 26 #[.slice a n cap] w (Gave .i64 3 w (ptrsR xs)) := by
  by_cases h64 : n = 64
  case neg =>
    rw [ptrsR_len (by omega)]
    exact (rPtrs_len a n cap w h64).mono fun e w' ⟨h1, h2⟩ => by subst h2; exact Gave.nil h1 (Ext.refl _)
  subst h64
  have hno := fun (x : Int) (hx : x ∈ takenL 2 xs 32) (h : ptrB x = false) => ptrsR_bad hx h
  have hyes := fun (hx : ∀ x ∈ takenL 2 xs 32, ptrB x = true) => ptrsR_yes hl hx
  have hlN := length_takenL 2 xs 32
  have hbd := takenL_bd 2 xs 32 hb (by decide)
  rw [p2] at hbd
  have hat : ∀ (k : Nat), k < 32 → ∃ x, (takenL 2 xs 32)[k]? = some x ∧ ∀ v : World, Ext w v → Calls Try.prog 36 #[.slice a 64 cap, .int .i64 (2 * (k : Int)), .int .i64 2] v fun e w' => e = .returned (.int .u64 x) ∧ v = w' := fun k hk =>
    ⟨_, getElem_takenL 2 xs 32 k hk, fun v hv => by
      have := At_ok a 64 cap xs (2 * k) 2 v hl (by decide) hb (hs.ext hv) (standsB_of (by decide) (by decide) (by omega) (by omega) (by omega))
      have e : ((2 * k : Nat) : Int) = 2 * (k : Int) := by omega
      rw [e] at this
      exact this⟩
  generalize takenL 2 xs 32 = N at *
  generalize ptrsR xs = R at *
  have HNO := Lib.hid hno; have HYES := Lib.hid hyes; have HLN := Lib.hid hlN; have HBD := Lib.hid hbd; have HAT := Lib.hid hat
  clear hno hyes hlN hbd hb hl hs hat
  go_enter Try.func26, Try.ntmps26
  go_wp2_with fail
  go_loopw [4, 5] (fun u v wr => ∃ (k c : Nat) (ao : Option Addr), k ≤ 32 ∧ v = .int .i64 k ∧ u = .slice ao k c ∧ wr.ownsRow w.heap.size 3 1 (.slice ao k c) k (ints .i64 (N.take k)) ∧ Ext w wr ∧ Hid (∀ x ∈ N.take k, ptrB x = true)) (fun _ v _ => 32 - (intOf v).toNat)
  case atStart => exact ⟨0, 0, none, by omega, rfl, rfl, ownsRow_nil _ _ _, Ext.refl _, fun x hx => by simp at hx⟩
  case round =>
    obtain ⟨k, c, ao, hk, rfl, rfl, hown, hX, hgood⟩ := hrel
    by_cases hlt : k < 32
    · obtain ⟨x, hx, hcall⟩ := HAT.out k hlt
      have HC := Lib.hid (hcall _ hX)
      have hts : Hid (N.take (k + 1) = N.take k ++ [x]) := by
        obtain ⟨h1, h2⟩ := List.getElem?_eq_some_iff.1 hx
        show N.take (k + 1) = _
        rw [List.take_succ_eq_append_getElem h1, h2]
      have hmem : Hid (x ∈ N) := List.mem_of_getElem? hx
      obtain ⟨x0, x1⟩ := HBD.out x hmem.out
      clear hx hcall
      cases hp : ptrB x
      · have hno := Lib.hid (HNO.out x hmem.out hp)
        go_wp2_with fail
        refine HC.out.mono ?_
        rintro e w' ⟨rfl, rfl⟩
        go_wp2_with fail
        refine (rpointer_ok x _).mono ?_
        rintro e w' ⟨rfl, rfl⟩
        rw [hp]
        go_wp2_with fail
        go_ret2
        rw [hno.out]
        exact Gave.nil rfl hX
      · obtain ⟨wo, rfl⟩ : ∃ wo : World, wo = wr := ⟨_, rfl⟩
        obtain ⟨a', c', w3, hrun, hown', hext⟩ := run_append_one (P := Try.prog) wo w.heap.size 29 29 3 .i64 8 Try.underlying29 infoI hown x (by omega) (by omega) hX.size
        have hX' := hext w hX (Nat.le_refl _)
        have HP := Lib.hid hp
        clear hext hown
        go_wp2_with fail
        refine HC.out.mono ?_
        rintro e w' ⟨rfl, rfl⟩
        go_wp2_with fail
        refine (rpointer_ok x _).mono ?_
        rintro e w' ⟨rfl, rfl⟩
        rw [hp]
        clear hp
        go_wp2_with (at_builtin; refine Lib.wpList_append_run _ rfl _ _ _ _ rfl _ _ rfl rfl _ _ hrun ?_)
        go_roundw
        case rel => exact ⟨k + 1, c', a', hlt, by go_num, rfl, by rw [hts.out]; exact hown', hX', by
          intro y hy
          rw [hts.out] at hy
          rcases List.mem_append.1 hy with h1 | h1
          · exact hgood.out y h1
          · rw [List.mem_singleton] at h1; rw [h1]; exact HP.out⟩
        case measure => simp [intOf]; omega
    · have : k = 32 := by omega
      subst this
      have htk : Hid (N.take 32 = N) := List.take_of_length_le (by rw [HLN.out]; exact Nat.le_refl _)
      rw [htk.out] at hown
      have hgood' : Hid (∀ x ∈ N, ptrB x = true) := by have := hgood.out; rw [htk.out] at this; exact this
      clear hgood hlt hk
      go_wp2_with fail
      go_ret2
      rw [HYES.out hgood'.out]
      exact Gave.own rfl HLN.out hown hX
end Go.Proofs.Ytdimnnnklhjnfaa.Ino
