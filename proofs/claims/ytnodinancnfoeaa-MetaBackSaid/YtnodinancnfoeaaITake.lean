/- Contracts: slices.ContainsFunc of what is not 0, inode.Take, moatref11.Take. -/
import Derived.Test.YtnodinancnfoeaaILay
import Derived.Test.YtnodinancnfoeaaAgg
import Derived.BigQuiet
import Derived.Deep.QuietTactic
import Derived.Deep.RegionHeld3
import Derived.RegionTactic
import Derived.BigRegion
namespace Go.Proofs.Ytnodinancnfoeaa.Ino
open Go.RowKit Words Mem Plain Ops
open Go.Proofs.Ytnodinancnfoeaa.Field Agg
set_option linter.ambiguousOpen false
set_option linter.unusedVariables false
set_option linter.unusedSimpArgs false

theorem nz_ok (x : Int) (w : World) : Calls Try.prog 63 #[.int .u64 x] w fun e w' => e = .returned (.bool (x != 0)) ∧ w = w' := by
  go_enter Try.func63, Try.ntmps63
  go_wp2
  go_ret
  exact ⟨rfl, rfl⟩

/-- Is any of them not 0? -/
def anyNz (l : List Int) : Bool := l.any (· != 0)
/-- Where the first one is that is not 0; -1: nowhere. -/
def idxNz : List Int → Int
  | [] => -1
  | x :: l => if x != 0 then 0 else if idxNz l < 0 then -1 else idxNz l + 1
theorem idxNz_ge (l : List Int) : -1 ≤ idxNz l := by
  induction l with
  | nil => simp [idxNz]
  | cons x l ih => simp only [idxNz]; split <;> (try split) <;> omega
theorem idxNz_iff (l : List Int) : decide (0 ≤ idxNz l) = anyNz l := by
  induction l with
  | nil => rfl
  | cons x l ih =>
    simp only [idxNz, anyNz, List.any_cons]
    by_cases h : (x != 0) = true
    · simp [h]
    · have hf : (x != 0) = false := by simpa using h
      simp only [hf, Bool.false_or, Bool.false_eq_true, if_false]
      unfold anyNz at ih
      rw [← ih, Bool.eq_iff_iff, decide_eq_true_iff, decide_eq_true_iff]
      split <;> omega
theorem idx_before {l : List Int} {k : Nat} (hk : k ≤ l.length) (h : anyNz (l.take k) = false) : idxNz l = if idxNz (l.drop k) < 0 then -1 else k + idxNz (l.drop k) := by
  induction k generalizing l with
  | zero => simp only [List.drop_zero]; have := idxNz_ge l; split <;> omega
  | succ k ih =>
    cases l with
    | nil => simp at hk
    | cons x l =>
      simp only [List.take_succ_cons, anyNz, List.any_cons, Bool.or_eq_false_iff] at h
      have h2 := ih (l := l) (by simpa using hk) h.2
      simp only [idxNz, h.1, List.drop_succ_cons, Bool.false_eq_true, if_false]
      rw [h2]
      have := idxNz_ge (l.drop k)
      split <;> (try split) <;> omega

theorem anyNz_snoc (l : List Int) (x : Int) : anyNz (l ++ [x]) = (anyNz l || x != 0) := by simp [anyNz]
theorem idx_at {l : List Int} {k : Nat} {x : Int} (hx : l[k]? = some x) (h : anyNz (l.take k) = false) (hn : (x != 0) = true) : idxNz l = k := by
  obtain ⟨h1, h2⟩ := List.getElem?_eq_some_iff.1 hx
  have := idx_before (l := l) (k := k) (by omega) h
  rw [this, List.drop_eq_getElem_cons h1, h2]
  simp [idxNz, hn]
theorem idx_none {l : List Int} (h : anyNz l = false) : idxNz l = -1 := by
  have h1 := idxNz_iff l
  rw [h] at h1
  have := idxNz_ge l
  simp at h1
  omega

set_option maxHeartbeats 400000 in
theorem IndexNz (a : Option Addr) (n cap : Nat) (l : List Int) (w : World) (hl : l.length = n) (hn : n ≤ 1000000) (hs : Sl w a (ints .u64 l)) :
    Calls Try.prog 64 #[.slice a n cap, .func (.func 63) #[] #[]] w fun e w' => e = .returned (.int .i64 (idxNz l)) ∧ w = w' := by
  have HS := Lib.hid hs; have HL := Lib.hid hl
  clear hs hl
  go_enter Try.func64, Try.ntmps64
  go_wp2_with fail
  go_loop [8] (fun v => ∃ (k : Nat), k ≤ n ∧ v = .int .i64 k ∧ Hid (anyNz (l.take k) = false)) (fun v => n - (intOf v).toNat)
  case atStart => exact ⟨0, by omega, rfl, rfl⟩
  case round =>
    obtain ⟨k, hk, rfl, hno⟩ := hrel
    by_cases hlt : k < n
    · have hlk : k < l.length := by rw [HL.out]; exact hlt
      obtain ⟨bb, oo, rfl, hc⟩ := HS.out.ints (by omega)
      have hcell := hc k hlk
      have hts : Hid (l.take (k + 1) = l.take k ++ [l[k]]) := List.take_succ_eq_append_getElem hlk
      have hget : Hid (l[k]? = some l[k]) := List.getElem?_eq_getElem hlk
      generalize l[k] = x at *
      clear hlk hc
      cases hp : (x != 0)
      · have HP := Lib.hid hp
        clear hp
        go_wp2_with fail
        refine (nz_ok x _).mono ?_
        rintro e w' ⟨rfl, rfl⟩
        rw [HP.out]
        go_wp2_with fail
        go_round
        case rel => exact ⟨k + 1, hlt, by go_num, by show anyNz _ = false; rw [hts.out, anyNz_snoc, hno.out, HP.out]; rfl⟩
        case measure => simp [intOf]; omega
      · have HI := Lib.hid (idx_at hget.out hno.out hp)
        have HP := Lib.hid hp
        clear hp
        go_wp2_with fail
        refine (nz_ok x _).mono ?_
        rintro e w' ⟨rfl, rfl⟩
        rw [HP.out]
        go_wp2_with fail
        go_ret
        exact ⟨by rw [HI.out]; rfl, rfl⟩
    · have : k = n := by omega
      subst this
      have hno' : Hid (anyNz l = false) := by have := hno.out; rw [List.take_of_length_le (by rw [HL.out]; exact Nat.le_refl _)] at this; exact this
      clear hno
      go_wp2_with fail
      go_ret
      exact ⟨by rw [idx_none hno'.out]; rfl, rfl⟩
theorem ContainsNz (a : Option Addr) (n cap : Nat) (l : List Int) (w : World) (hl : l.length = n) (hn : n ≤ 1000000) (hs : Sl w a (ints .u64 l)) :
    Calls Try.prog 62 #[.slice a n cap, .func (.func 63) #[] #[]] w fun e w' => e = .returned (.bool (anyNz l)) ∧ w = w' := by
  rw [← idxNz_iff l]
  go_enter Try.func62, Try.ntmps62
  go_wp2_with fail
  refine (IndexNz a n cap l w hl hn hs).mono ?_
  rintro e w' ⟨rfl, rfl⟩
  go_wp2_with fail
  go_ret
  exact ⟨rfl, rfl⟩

/-- An inode and a code, in new memory. -/
def GaveI (w : World) (r : Ino × Int) (e : Ending) (w' : World) : Prop := e = .returned (.tuple #[r.1.v, .int .i64 r.2]) ∧ Ext w w'
theorem takeR_no {xs : List Int} (h : ¬ Ino.takeP xs) : Ino.takeR xs = (Ino.zero, 110) := by unfold Ino.takeR; rw [if_neg h]
theorem takeR_yes {xs : List Int} (h : Ino.takeP xs) : Ino.takeR xs = (Ino.ofNums (takenL 2 xs 16), 0) := by unfold Ino.takeR; rw [if_pos h]

theorem infoIno : (Try.prog.info? 48).map (·.size) = some 14 := by kernel_rfl
theorem oneZZ : (#[.int .u8 0, .int .u8 0, .int .i64 0, .int .i64 0, .int .i64 0, .int .i64 0, .int .i64 0, .int .i64 0, .int .i64 0, .int .i64 0, .int .i64 0, .int .i64 0, .int .i64 0, .int .i64 0] : Array Value).all (·.oneCell') = true := by simp [Value.oneCell']
theorem oneIno (k r l s d0 d1 d2 d3 d4 d5 d6 d7 i j : Int) : (#[.int .u8 k, .int .u8 r, .int .i64 l, .int .i64 s, .int .i64 d0, .int .i64 d1, .int .i64 d2, .int .i64 d3, .int .i64 d4, .int .i64 d5, .int .i64 d6, .int .i64 d7, .int .i64 i, .int .i64 j] : Array Value).all (·.oneCell') = true := by simp [Value.oneCell']
theorem Take_len (a : Option Addr) (n cap : Nat) (xs : List Int) (w : World) (hl : xs.length = n) (hn : n ≤ 9223372036854775807) (hb : isBytes xs) (hs : Sl w a (ints .u8 xs)) (hcap : n ≤ cap) (hcm : cap ≤ 9223372036854775807) (h : n ≠ 32) :
    Calls Try.prog 57 #[.slice a n cap] w (GaveI w (Ino.takeR xs)) := by
  rw [takeR_no (fun e => h (by rw [← hl]; exact e.1))]
  have hd : ((n : Int) == 32) = false := by simp; omega
  have hd' : ((n : Int) != 32) = true := by simp; omega
  go_enter Try.func57, Try.ntmps57
  go_wp2_with fail
  refine (Take_gave a n cap xs _ 2 hl hn hb (hs.ext ((Ext.refl w).alloc _)) hcap hcm).mono ?_
  rintro e w2 ⟨a4, c4, rfl, ho4, hX2⟩
  have X2 := ((Ext.refl w).alloc _).trans hX2
  have hrow : Row w2 w.heap.size 48 (#[.int .u8 0, .int .u8 0, .int .i64 0, .int .i64 0, .int .i64 0, .int .i64 0, .int .i64 0, .int .i64 0, .int .i64 0, .int .i64 0, .int .i64 0, .int .i64 0, .int .i64 0, .int .i64 0] : Array Value).toList := (Row.new w 48 (#[.int .u8 0, .int .u8 0, .int .i64 0, .int .i64 0, .int .i64 0, .int .i64 0, .int .i64 0, .int .i64 0, .int .i64 0, .int .i64 0, .int .i64 0, .int .i64 0, .int .i64 0, .int .i64 0] : Array Value).toList).ext hX2
  generalize Field.takeR 2 xs = R at *
  clear hX2 ho4
  have HX := Lib.hid X2; have HR := Lib.hid hrow
  clear X2 hrow
  by_cases h0 : R.2 = 0
  · have h0' : (R.2 != 0) = false := by simp [h0]
    clear h0
    go_wp2_with (refine wpList_store_row rfl _ _ _ rfl w.heap.size #[.int .u8 0, .int .u8 0, .int .i64 0, .int .i64 0, .int .i64 0, .int .i64 0, .int .i64 0, .int .i64 0, .int .i64 0, .int .i64 0, .int .i64 0, .int .i64 0, .int .i64 0, .int .i64 0] rfl rfl 48 #[.int .u8 0, .int .u8 0, .int .i64 0, .int .i64 0, .int .i64 0, .int .i64 0, .int .i64 0, .int .i64 0, .int .i64 0, .int .i64 0, .int .i64 0, .int .i64 0, .int .i64 0, .int .i64 0] HR.out infoIno rfl oneZZ ?_)
    have hrow := HR.out.setRow #[.int .u8 0, .int .u8 0, .int .i64 0, .int .i64 0, .int .i64 0, .int .i64 0, .int .i64 0, .int .i64 0, .int .i64 0, .int .i64 0, .int .i64 0, .int .i64 0, .int .i64 0, .int .i64 0]
    have X3 := HX.out.setRow (Nat.le_refl _) #[.int .u8 0, .int .u8 0, .int .i64 0, .int .i64 0, .int .i64 0, .int .i64 0, .int .i64 0, .int .i64 0, .int .i64 0, .int .i64 0, .int .i64 0, .int .i64 0, .int .i64 0, .int .i64 0]
    exact post_cell Try.results57 rfl rfl hrow Try.underlying48 rfl infoIno rfl ⟨rfl, X3⟩
  · have h0' : (R.2 != 0) = true := by simp [h0]
    clear h0
    go_wp2_with (refine wpList_store_row rfl _ _ _ rfl w.heap.size #[.int .u8 0, .int .u8 0, .int .i64 0, .int .i64 0, .int .i64 0, .int .i64 0, .int .i64 0, .int .i64 0, .int .i64 0, .int .i64 0, .int .i64 0, .int .i64 0, .int .i64 0, .int .i64 0] rfl rfl 48 #[.int .u8 0, .int .u8 0, .int .i64 0, .int .i64 0, .int .i64 0, .int .i64 0, .int .i64 0, .int .i64 0, .int .i64 0, .int .i64 0, .int .i64 0, .int .i64 0, .int .i64 0, .int .i64 0] HR.out infoIno rfl oneZZ ?_)
    have hrow := HR.out.setRow #[.int .u8 0, .int .u8 0, .int .i64 0, .int .i64 0, .int .i64 0, .int .i64 0, .int .i64 0, .int .i64 0, .int .i64 0, .int .i64 0, .int .i64 0, .int .i64 0, .int .i64 0, .int .i64 0]
    have X3 := HX.out.setRow (Nat.le_refl _) #[.int .u8 0, .int .u8 0, .int .i64 0, .int .i64 0, .int .i64 0, .int .i64 0, .int .i64 0, .int .i64 0, .int .i64 0, .int .i64 0, .int .i64 0, .int .i64 0, .int .i64 0, .int .i64 0]
    exact post_cell Try.results57 rfl rfl hrow Try.underlying48 rfl infoIno rfl ⟨rfl, X3⟩

/-- The cells of an inode, its direct pointers as a list. -/
def inoL (k r l s : Int) (D : List Int) (i j : Int) : List Value := [.int .u8 k, .int .u8 r, .int .i64 l, .int .i64 s] ++ ints .i64 D ++ [.int .i64 i, .int .i64 j]
theorem inoL_len (k r l s : Int) (D : List Int) (i j : Int) (h : D.length = 8) : (inoL k r l s D i j).length = 14 := by simp [inoL, ints_length, h]
theorem inoL_set (k r l s : Int) (A B : List Int) (y x i j : Int) (m : Nat) (hm : A.length = m) : (inoL k r l s (A ++ y :: B) i j).set (4 + m) (.int .i64 x) = inoL k r l s (A ++ x :: B) i j := by
  subst hm
  rw [Nat.add_comm]
  simp [inoL, ints, List.set_append]
theorem inoL_step (k r l s : Int) (M : List Int) (x i j : Int) (m : Nat) (hm : m < 8) (h8 : M.length = 8) (hx : M[m]? = some x) :
    (inoL k r l s (M.take m ++ List.replicate (8 - m) 0) i j).set (4 + m) (.int .i64 x) = inoL k r l s (M.take (m + 1) ++ List.replicate (8 - (m + 1)) 0) i j := by
  rw [show 8 - m = (8 - (m + 1)) + 1 by omega, List.replicate_succ, inoL_set _ _ _ _ _ _ _ _ _ _ m (by rw [List.length_take]; omega)]
  obtain ⟨h1, h2⟩ := List.getElem?_eq_some_iff.1 hx
  rw [List.take_succ_eq_append_getElem h1, h2]
  simp
theorem inoL_12 (k r l s : Int) (D : List Int) (i j x : Int) (h : D.length = 8) : (inoL k r l s D i j).set 12 (.int .i64 x) = inoL k r l s D x j := by
  have hl : ([.int .u8 k, .int .u8 r, .int .i64 l, .int .i64 s] ++ ints .i64 D : List Value).length = 12 := by simp [ints_length, h]
  unfold inoL
  rw [List.set_append_right _ _ (by omega), hl]
  rfl
theorem inoL_13 (k r l s : Int) (D : List Int) (i j x : Int) (h : D.length = 8) : (inoL k r l s D i j).set 13 (.int .i64 x) = inoL k r l s D i x := by
  have hl : ([.int .u8 k, .int .u8 r, .int .i64 l, .int .i64 s] ++ ints .i64 D : List Value).length = 12 := by simp [ints_length, h]
  unfold inoL
  rw [List.set_append_right _ _ (by omega), hl]
  rfl
theorem inoL_ofNums (N : List Int) (h : N.length = 16) : inoL (N.getD 0 0 % 256) (N.getD 0 0 / 256) (N.getD 1 0) (N.getD 2 0) ((N.drop 3).take 8) (N.getD 11 0) (N.getD 12 0) = (Ino.ofNums N).cs.toList := by
  rw [sixteen N h]
  rfl
theorem getD_of {N : List Int} {i : Nat} {x : Int} (h : N[i]? = some x) : x = N.getD i 0 := by simp [List.getD, h]
/-- The cells of a block that holds an inode. -/
theorem Ino.rowCells {w : World} {g : Nat} {n : Ino} (h : Row w g 48 n.cs.toList) : w.cell? ⟨g, 0, none⟩ = some (.int .u8 n.k) ∧ w.cell? ⟨g, 1, none⟩ = some (.int .u8 n.r) ∧ w.cell? ⟨g, 2, none⟩ = some (.int .i64 n.l) ∧ w.cell? ⟨g, 3, none⟩ = some (.int .i64 n.s) ∧ w.cell? ⟨g, 4, none⟩ = some (.int .i64 n.d0) ∧ w.cell? ⟨g, 5, none⟩ = some (.int .i64 n.d1) ∧ w.cell? ⟨g, 6, none⟩ = some (.int .i64 n.d2) ∧ w.cell? ⟨g, 7, none⟩ = some (.int .i64 n.d3) ∧ w.cell? ⟨g, 8, none⟩ = some (.int .i64 n.d4) ∧ w.cell? ⟨g, 9, none⟩ = some (.int .i64 n.d5) ∧ w.cell? ⟨g, 10, none⟩ = some (.int .i64 n.d6) ∧ w.cell? ⟨g, 11, none⟩ = some (.int .i64 n.d7) ∧ w.cell? ⟨g, 12, none⟩ = some (.int .i64 n.i) ∧ w.cell? ⟨g, 13, none⟩ = some (.int .i64 n.j) := by
  refine ⟨(h.cell? 0).trans rfl, (h.cell? 1).trans rfl, (h.cell? 2).trans rfl, (h.cell? 3).trans rfl, (h.cell? 4).trans rfl, (h.cell? 5).trans rfl, (h.cell? 6).trans rfl, (h.cell? 7).trans rfl, (h.cell? 8).trans rfl, (h.cell? 9).trans rfl, (h.cell? 10).trans rfl, (h.cell? 11).trans rfl, (h.cell? 12).trans rfl, (h.cell? 13).trans rfl⟩
theorem anyNz_false {l : List Int} (h : anyNz l = false) : ∀ x ∈ l, x = 0 := by
  intro x hx
  simp only [anyNz, List.any_eq_false] at h
  simpa using h x hx
theorem anyNz_true {l : List Int} (h : anyNz l = true) : ¬ ∀ x ∈ l, x = 0 := by
  intro hh
  simp only [anyNz, List.any_eq_true] at h
  obtain ⟨x, hx, hn⟩ := h
  rw [hh x hx] at hn
  simp at hn

set_option maxHeartbeats 2000000 in
theorem Take_32 (a : Option Addr) (cap : Nat) (xs : List Int) (w : World) (hl : xs.length = 32) (hb : isBytes xs) (hs : Sl w a (ints .u8 xs)) (hcap : 32 ≤ cap) (hcm : cap ≤ 9223372036854775807) :
    Calls Try.prog 57 #[.slice a 32 cap] w (GaveI w (Ino.takeR xs)) := by
  have htr : Field.takeR 2 xs = (takenL 2 xs 16, 0) := by unfold Field.takeR; rw [hl, if_neg (by decide), if_neg (by decide)]; rfl
  have hlN := length_takenL 2 xs 16
  have hbd := takenL_bd 2 xs 16 hb (by decide)
  rw [p2] at hbd
  have k0 : ∀ v, Ext w v → Calls Try.prog 44 #[.int .i64 2, .slice a 32 cap] v (Gave .u64 76 v (takenL 2 xs 16, 0)) := fun v hv => by
    have := Take_gave a 32 cap xs v 2 hl (by decide) hb (hs.ext hv) hcap hcm
    rw [htr] at this; exact this
  have hno := fun (h : ¬ Ino.takeP xs) => takeR_no h
  have hyes := fun (h : Ino.takeP xs) => takeR_yes h
  have hP : Ino.takeP xs ↔ ((Ino.ofNums (takenL 2 xs 16)).RightP ∧ (∀ x ∈ (takenL 2 xs 16).drop 13, x = 0)) := ⟨fun h => h.2, fun h => ⟨hl, h⟩⟩
  generalize takenL 2 xs 16 = N at *
  generalize Ino.takeR xs = R at *
  have H0 := Lib.hid hno; have HYES := Lib.hid hyes; have HLN := Lib.hid hlN; have HBD := Lib.hid hbd; have HK := Lib.hid k0; have HP := Lib.hid hP
  clear hno hyes hlN hbd hb htr hl k0 hP hs
  go_enter Try.func57, Try.ntmps57
  go_wp2_with fail
  refine (HK.out _ ((Ext.refl w).alloc _)).mono ?_
  rintro e w2 ⟨a4, c4, rfl, ho4, hX2⟩
  dsimp only at ho4 ⊢
  rw [HLN.out] at ho4 ⊢
  have k4 := own_cap ho4
  obtain ⟨b, off, rfl, hc⟩ := (ownsRow_sl ho4).ints (by rw [HLN.out]; decide)
  have HC := Lib.hid hc
  have X2 := ((Ext.refl w).alloc _).trans hX2
  obtain ⟨N0, e0⟩ : ∃ x, N[0]? = some x := ⟨N[0]'(by rw [HLN.out]; decide), by simp [HLN.out]⟩
  obtain ⟨N1, e1⟩ : ∃ x, N[1]? = some x := ⟨N[1]'(by rw [HLN.out]; decide), by simp [HLN.out]⟩
  obtain ⟨N2, e2⟩ : ∃ x, N[2]? = some x := ⟨N[2]'(by rw [HLN.out]; decide), by simp [HLN.out]⟩
  have c0 : w2.cell? ⟨b, off, none⟩ = some (.int .u64 N0) := by have := hc 0 (by rw [HLN.out]; decide); rw [List.getElem?_eq_getElem (by rw [HLN.out]; decide)] at e0; cases e0; simpa using this
  have c1 : w2.cell? ⟨b, off + 1, none⟩ = some (.int .u64 N1) := by have := hc 1 (by rw [HLN.out]; decide); rw [List.getElem?_eq_getElem (by rw [HLN.out]; decide)] at e1; cases e1; simpa using this
  have c2 : w2.cell? ⟨b, off + 2, none⟩ = some (.int .u64 N2) := by have := hc 2 (by rw [HLN.out]; decide); rw [List.getElem?_eq_getElem (by rw [HLN.out]; decide)] at e2; cases e2; simpa using this
  obtain ⟨n00, n01⟩ := HBD.out N0 (List.mem_of_getElem? e0)
  obtain ⟨n10, n11⟩ := HBD.out N1 (List.mem_of_getElem? e1)
  obtain ⟨n20, n21⟩ := HBD.out N2 (List.mem_of_getElem? e2)
  have E0 := Lib.hid e0; have E1 := Lib.hid e1; have E2 := Lib.hid e2
  have HX2 := Lib.hid hX2; have HX := Lib.hid X2
  clear hc ho4 e0 e1 e2 hX2 X2
  go_wp2_with fail
  obtain ⟨kk, hkk⟩ : ∃ k, k = N0 % 256 := ⟨_, rfl⟩
  obtain ⟨rr, hrr⟩ : ∃ k, k = N0 / 256 := ⟨_, rfl⟩
  have kw : IntKind.u8.wrap N0 = kk := by rw [IntKind.wrap_u8, hkk]
  have rw0 : IntKind.u8.wrap rr = rr := by rw [IntKind.wrap_u8, Int.emod_eq_of_lt (by omega) (by omega)]
  have nw1 : IntKind.i64.wrap N1 = N1 := IntWalk.i64_in _ (by omega)
  have nw2 : IntKind.i64.wrap N2 = N2 := IntWalk.i64_in _ (by omega)
  have hrr' := hrr.symm
  have HKK := Lib.hid hkk; have HRR := Lib.hid hrr
  clear hkk hrr
  go_region_held3 (fun v => v.cell? ⟨b, off, none⟩ = some (.int .u64 N0) ∧ v.cell? ⟨b, off + 1, none⟩ = some (.int .u64 N1) ∧ v.cell? ⟨b, off + 2, none⟩ = some (.int .u64 N2)) (go_keep) (fail)
  have hslc : ∀ v : World, (Instr.slice 73 (.slice (some ⟨b, off, none⟩) 16 c4) (some (.int .i64 3)) none none).run Try.prog v = .ok (.slice (some ⟨b, off + 3, none⟩) 13 (c4 - 3)) v := fun v => by
    have := run_slice_from (P := Try.prog) v _ _ Try.underlying73 (by kernel_rfl) (some ⟨b, off, none⟩) 16 c4 3 .i64 3 rfl (by decide)
    rw [this]; unfold cutA; rw [if_neg (by omega)]; rfl
  rename_i hHeld
  clear hHeld
  have r0 : Row (w2.alloc (.cells #[.int .u8 kk, .int .u8 rr, .int .i64 N1, .int .i64 N2, .int .i64 0, .int .i64 0, .int .i64 0, .int .i64 0, .int .i64 0, .int .i64 0, .int .i64 0, .int .i64 0, .int .i64 0, .int .i64 0] 48)).drew w2.heap.size 48 (inoL kk rr N1 N2 ([] ++ List.replicate 8 0) 0 0) := (Row.new w2 48 [.int .u8 kk, .int .u8 rr, .int .i64 N1, .int .i64 N2, .int .i64 0, .int .i64 0, .int .i64 0, .int .i64 0, .int .i64 0, .int .i64 0, .int .i64 0, .int .i64 0, .int .i64 0, .int .i64 0]).drew
  have X0 : Ext w2 (w2.alloc (.cells #[.int .u8 kk, .int .u8 rr, .int .i64 N1, .int .i64 N2, .int .i64 0, .int .i64 0, .int .i64 0, .int .i64 0, .int .i64 0, .int .i64 0, .int .i64 0, .int .i64 0, .int .i64 0, .int .i64 0] 48)).drew := ((Ext.refl w2).alloc _).drew
  have hbw : b < w2.heap.size := World.block_lt_of_cell? w2 _ c0
  generalize (w2.alloc (.cells #[.int .u8 kk, .int .u8 rr, .int .i64 N1, .int .i64 N2, .int .i64 0, .int .i64 0, .int .i64 0, .int .i64 0, .int .i64 0, .int .i64 0, .int .i64 0, .int .i64 0, .int .i64 0, .int .i64 0] 48)).drew = w4 at *
  obtain ⟨M, hM⟩ : ∃ M, M = (N.drop 3).take 8 := ⟨_, rfl⟩
  have hM8 : M.length = 8 := by rw [hM, List.length_take, List.length_drop, HLN.out]; decide
  have hMget : ∀ k, k < 8 → M[k]? = N[3 + k]? := fun k hk => by rw [hM, List.getElem?_take, if_pos hk, List.getElem?_drop]
  have HM := Lib.hid hM; have HM8 := Lib.hid hM8; have HMG := Lib.hid hMget
  clear hM hM8 hMget kw rw0 nw1 nw2 hrr' c0 c1 c2 n00 n01
  go_wp2_with fail
  clear hslc
  obtain ⟨g, hg⟩ : ∃ g, g = w2.heap.size := ⟨_, rfl⟩
  rw [← hg] at r0 hbw ⊢
  have HG := Lib.hid hg
  clear hg
  go_loopw [8, 42] (fun _ v wr => ∃ k : Nat, k ≤ 8 ∧ v = .int .i64 k ∧ Row wr g 48 (inoL kk rr N1 N2 (M.take k ++ List.replicate (8 - k) 0) 0 0) ∧ Ext w2 wr) (fun _ v _ => 8 - (intOf v).toNat)
  case atStart => exact ⟨0, by omega, rfl, r0, X0⟩
  case round =>
    obtain ⟨k, hk, rfl, hr, hX⟩ := hrel
    by_cases hlt : k < 8
    · obtain ⟨x, hx⟩ : ∃ x, M[k]? = some x := ⟨M[k]'(by rw [HM8.out]; exact hlt), List.getElem?_eq_getElem (by rw [HM8.out]; exact hlt)⟩
      have hx2 : N[3 + k]? = some x := by rw [← HMG.out k hlt]; exact hx
      obtain ⟨x0, x1⟩ := HBD.out x (List.mem_of_getElem? hx2)
      have hcell : wr.cell? ⟨b, off + 3 + k, none⟩ = some (.int .u64 x) := by
        have h3 := HC.out (3 + k) (by rw [HLN.out]; omega)
        rw [List.getElem?_eq_getElem (by rw [HLN.out]; omega)] at hx2
        injection hx2 with hx3
        rw [hx3] at h3
        exact hX.keep (by rw [Nat.add_assoc]; exact h3)
      have hcg := hr.cell? (4 + k)
      have hfg := hr.frozen (4 + k)
      have hst := hr.set (4 + k) (.int .i64 x)
      have hmid := inoL_step kk rr N1 N2 M x 0 0 k hlt HM8.out hx
      rw [hmid] at hst
      obtain ⟨old, hold⟩ : ∃ old, wr.cell? ⟨g, 4 + k, none⟩ = some old := by
        rw [hcg]
        exact ⟨_, List.getElem?_eq_getElem (by rw [inoL_len _ _ _ _ _ _ _ (by rw [List.length_append, List.length_take, List.length_replicate, HM8.out]; omega)]; omega)⟩
      have hXn := hX.setCell (p := ⟨g, 4 + k, none⟩) (by rw [HG.out]; exact Nat.le_refl _) (.int .i64 x)
      have HST := Lib.hid hst; have HXN := Lib.hid hXn
      clear hmid hcg hst hXn hr hX hx hx2
      go_wp2_with fail
      go_roundw
      case rel => exact ⟨k + 1, hlt, by go_num, HST.out, HXN.out⟩
      case measure => simp [intOf]; omega
    · have : k = 8 := by omega
      subst this
      rw [Nat.sub_self, List.take_of_length_le (by rw [HM8.out]; exact Nat.le_refl _)] at hr
      rw [List.replicate_zero, List.append_nil] at hr
      obtain ⟨N11, e11⟩ : ∃ x, N[11]? = some x := ⟨N[11]'(by rw [HLN.out]; decide), by simp [HLN.out]⟩
      obtain ⟨N12, e12⟩ : ∃ x, N[12]? = some x := ⟨N[12]'(by rw [HLN.out]; decide), by simp [HLN.out]⟩
      have c11 : wr.cell? ⟨b, off + 3 + 8, none⟩ = some (.int .u64 N11) := by have h3 := HC.out 11 (by rw [HLN.out]; decide); rw [List.getElem?_eq_getElem (by rw [HLN.out]; decide)] at e11; injection e11 with h4; rw [h4] at h3; exact hX.keep h3
      have c12 : wr.cell? ⟨b, off + 3 + 9, none⟩ = some (.int .u64 N12) := by have h3 := HC.out 12 (by rw [HLN.out]; decide); rw [List.getElem?_eq_getElem (by rw [HLN.out]; decide)] at e12; injection e12 with h4; rw [h4] at h3; exact hX.keep h3
      have c11' : wr.cell? ⟨b, off + 11, none⟩ = some (.int .u64 N11) := c11
      have c12' : wr.cell? ⟨b, off + 12, none⟩ = some (.int .u64 N12) := c12
      obtain ⟨n110, n111⟩ := HBD.out N11 (List.mem_of_getElem? e11)
      obtain ⟨n120, n121⟩ := HBD.out N12 (List.mem_of_getElem? e12)
      have E11 := Lib.hid e11; have E12 := Lib.hid e12
      have nw11 : IntKind.i64.wrap N11 = N11 := IntWalk.i64_in _ (by omega)
      have nw12 : IntKind.i64.wrap N12 = N12 := IntWalk.i64_in _ (by omega)
      have g12 : wr.cell? ⟨g, 12, none⟩ = some (.int .i64 0) := by rw [hr.cell?]; simp [inoL, ints_length, List.getElem?_append, HM8.out]
      have g13 : wr.cell? ⟨g, 13, none⟩ = some (.int .i64 0) := by rw [hr.cell?]; simp [inoL, ints_length, List.getElem?_append, HM8.out]
      have f12 := hr.frozen 12
      have f13 := hr.frozen 13
      have hne : ¬ (g = b) := by omega
      have hne' : ¬ (b = g) := by omega
      have hr2 := (hr.set 12 (.int .i64 N11)).set 13 (.int .i64 N12)
      rw [inoL_12 _ _ _ _ _ _ _ _ HM8.out, inoL_13 _ _ _ _ _ _ _ _ HM8.out] at hr2
      have X2' := ((hX.setCell (p := ⟨g, 12, none⟩) (by rw [HG.out]; exact Nat.le_refl _) (.int .i64 N11)).setCell (p := ⟨g, 13, none⟩) (by rw [HG.out]; exact Nat.le_refl _) (.int .i64 N12))
      have HR2 := Lib.hid hr2.drew; have HX3 := Lib.hid X2'.drew
      clear hr hX hr2 X2' r0 X0 e11 e12
      go_wp2_with fail
      go_region
      generalize ((wr.setCell ⟨g, 12, none⟩ (.int .i64 N11)).setCell ⟨g, 13, none⟩ (.int .i64 N12)).drew = w5 at *
      have hI : inoL kk rr N1 N2 M N11 N12 = (Ino.ofNums N).cs.toList := by
        rw [← inoL_ofNums N HLN.out, HKK.out, HRR.out, HM.out, getD_of E0.out, getD_of E1.out, getD_of E2.out, getD_of E11.out, getD_of E12.out]
      rw [hI] at HR2
      have hT : Sl w5 (some ⟨b, off + 13, none⟩) (ints .u64 (N.drop 13)) := Sl.mk fun q hq => by
        rw [ints_length, List.length_drop, HLN.out] at hq
        have h3 := HC.out (13 + q) (by rw [HLN.out]; omega)
        rw [ints_getElem, List.getElem_drop]
        exact HX3.out.keep (by rw [Nat.add_assoc]; exact h3)
      have hTl : (N.drop 13).length = 3 := by rw [List.length_drop, HLN.out]
      have hslc : ∀ v : World, (Instr.slice 73 (.slice (some ⟨b, off + 3, none⟩) 13 (c4 - 3)) (some (.int .i64 10)) none none).run Try.prog v = .ok (.slice (some ⟨b, off + 13, none⟩) 3 (c4 - 3 - 10)) v := fun v => by
        have := run_slice_from (P := Try.prog) v _ _ Try.underlying73 (by kernel_rfl) (some ⟨b, off + 3, none⟩) 13 (c4 - 3) 10 .i64 10 rfl (by decide)
        rw [this]; unfold cutA; rw [if_neg (by omega)]; rfl
      obtain ⟨nI, hnI⟩ : ∃ n, n = Ino.ofNums N := ⟨_, rfl⟩
      rw [← hnI] at HR2
      have hRP : Ino.takeP xs ↔ (nI.RightP ∧ (∀ x ∈ N.drop 13, x = 0)) := by rw [hnI]; exact HP.out
      have hyes : Ino.takeP xs → R = (nI, 0) := by rw [hnI]; exact HYES.out
      generalize N.drop 13 = T at *
      obtain ⟨p0, p1, p2, p3, p4, p5, p6, p7, p8, p9, p10, p11, p12, p13⟩ := Ino.rowCells HR2.out
      have hrow : Row w5 w.heap.size 48 (#[.int .u8 0, .int .u8 0, .int .i64 0, .int .i64 0, .int .i64 0, .int .i64 0, .int .i64 0, .int .i64 0, .int .i64 0, .int .i64 0, .int .i64 0, .int .i64 0, .int .i64 0, .int .i64 0] : Array Value).toList := ((Row.new w 48 (#[.int .u8 0, .int .u8 0, .int .i64 0, .int .i64 0, .int .i64 0, .int .i64 0, .int .i64 0, .int .i64 0, .int .i64 0, .int .i64 0, .int .i64 0, .int .i64 0, .int .i64 0, .int .i64 0] : Array Value).toList).ext HX2.out).ext HX3.out
      have XX5 := HX.out.trans HX3.out
      have HROW := Lib.hid hrow; have HXX5 := Lib.hid XX5; have HRP := Lib.hid hRP; have HY2 := Lib.hid hyes; have HT := Lib.hid hT; have HTL := Lib.hid hTl
      have hRR := Right_ok nI
      clear hrow XX5 hRP hyes hT hTl hI hnI HYES HP E0 E1 E2 E11 E12 HKK HRR HM HMG HM8 c11 c12 c11' c12' g12 g13 f12 f13 nw11 nw12 HC HX2 HX HX3 HG HK
      have HRO := Lib.hid HR2.out
      have HN := Lib.hid (rfl : nI.cs = nI.cs)
      cases hz : anyNz T
      · cases hr : nI.rightB
        · rw [hr] at hRR
          have hR : R = (Ino.zero, 110) := H0.out (fun e => Ino.right_not hr (HRP.out.1 e).1)
          have HRQ := Lib.hid hR
          have HRT := Lib.hid hRR
          obtain ⟨k, r, l, s, d0, d1, d2, d3, d4, d5, d6, d7, i, j⟩ := nI
          dsimp only [Ino.v, Ino.cs] at *
          clear hRR hR hr HR2 HRP HY2 H0 HN
          go_wp2_with fail
          refine (ContainsNz _ 3 _ T w5 HTL.out (by decide) HT.out).mono ?_
          rintro e w' ⟨rfl, rfl⟩
          rw [hz]
          go_wp2_with fail
          refine (HRT.out _).mono ?_
          rintro e w6 ⟨rfl, hX6⟩
          have HR6 := Lib.hid (HROW.out.ext hX6)
          clear p0 p1 p2 p3 p4 p5 p6 p7 p8 p9 p10 p11 p12 p13
          go_wp2_with (refine wpList_store_row rfl _ _ _ rfl w.heap.size #[.int .u8 0, .int .u8 0, .int .i64 0, .int .i64 0, .int .i64 0, .int .i64 0, .int .i64 0, .int .i64 0, .int .i64 0, .int .i64 0, .int .i64 0, .int .i64 0, .int .i64 0, .int .i64 0] rfl rfl 48 #[.int .u8 0, .int .u8 0, .int .i64 0, .int .i64 0, .int .i64 0, .int .i64 0, .int .i64 0, .int .i64 0, .int .i64 0, .int .i64 0, .int .i64 0, .int .i64 0, .int .i64 0, .int .i64 0] HR6.out infoIno rfl oneZZ ?_)
          rw [HRQ.out]
          exact post_cell Try.results57 rfl rfl (HR6.out.setRow #[.int .u8 0, .int .u8 0, .int .i64 0, .int .i64 0, .int .i64 0, .int .i64 0, .int .i64 0, .int .i64 0, .int .i64 0, .int .i64 0, .int .i64 0, .int .i64 0, .int .i64 0, .int .i64 0]) Try.underlying48 rfl infoIno rfl ⟨rfl, (HXX5.out.trans hX6).setRow (Nat.le_refl _) #[.int .u8 0, .int .u8 0, .int .i64 0, .int .i64 0, .int .i64 0, .int .i64 0, .int .i64 0, .int .i64 0, .int .i64 0, .int .i64 0, .int .i64 0, .int .i64 0, .int .i64 0, .int .i64 0]⟩
        · rw [hr] at hRR
          have hR : R = (nI, 0) := HY2.out (HRP.out.2 ⟨Ino.right_of hr, anyNz_false hz⟩)
          have HRQ := Lib.hid hR
          have HRT := Lib.hid hRR
          obtain ⟨k, r, l, s, d0, d1, d2, d3, d4, d5, d6, d7, i, j⟩ := nI
          dsimp only [Ino.v, Ino.cs] at *
          clear hRR hR hr HR2 HRP HY2 H0 HN
          go_wp2_with fail
          refine (ContainsNz _ 3 _ T w5 HTL.out (by decide) HT.out).mono ?_
          rintro e w' ⟨rfl, rfl⟩
          rw [hz]
          go_wp2_with fail
          refine (HRT.out _).mono ?_
          rintro e w6 ⟨rfl, hX6⟩
          have HR6 := Lib.hid (HROW.out.ext hX6)
          obtain ⟨p0, p1, p2, p3, p4, p5, p6, p7, p8, p9, p10, p11, p12, p13⟩ := Ino.rowCells (n := ⟨k, r, l, s, d0, d1, d2, d3, d4, d5, d6, d7, i, j⟩) (HRO.out.ext hX6)
          dsimp only at p0 p1 p2 p3 p4 p5 p6 p7 p8 p9 p10 p11 p12 p13
          go_wp2_with (refine wpList_store_row rfl _ _ _ rfl w.heap.size #[.int .u8 k, .int .u8 r, .int .i64 l, .int .i64 s, .int .i64 d0, .int .i64 d1, .int .i64 d2, .int .i64 d3, .int .i64 d4, .int .i64 d5, .int .i64 d6, .int .i64 d7, .int .i64 i, .int .i64 j] rfl rfl 48 #[.int .u8 0, .int .u8 0, .int .i64 0, .int .i64 0, .int .i64 0, .int .i64 0, .int .i64 0, .int .i64 0, .int .i64 0, .int .i64 0, .int .i64 0, .int .i64 0, .int .i64 0, .int .i64 0] HR6.out infoIno rfl (oneIno _ _ _ _ _ _ _ _ _ _ _ _ _ _) ?_)
          rw [HRQ.out]
          exact post_cell Try.results57 rfl rfl (HR6.out.setRow #[.int .u8 k, .int .u8 r, .int .i64 l, .int .i64 s, .int .i64 d0, .int .i64 d1, .int .i64 d2, .int .i64 d3, .int .i64 d4, .int .i64 d5, .int .i64 d6, .int .i64 d7, .int .i64 i, .int .i64 j]) Try.underlying48 rfl infoIno rfl ⟨rfl, (HXX5.out.trans hX6).setRow (Nat.le_refl _) #[.int .u8 k, .int .u8 r, .int .i64 l, .int .i64 s, .int .i64 d0, .int .i64 d1, .int .i64 d2, .int .i64 d3, .int .i64 d4, .int .i64 d5, .int .i64 d6, .int .i64 d7, .int .i64 i, .int .i64 j]⟩
      · have hR : R = (Ino.zero, 110) := H0.out (fun e => anyNz_true hz (HRP.out.1 e).2)
        have HRQ := Lib.hid hR
        clear hRR hR HR2 HRP HY2 H0 HN HRO
        go_wp2_with fail
        refine (ContainsNz _ 3 _ T w5 HTL.out (by decide) HT.out).mono ?_
        rintro e w' ⟨rfl, rfl⟩
        rw [hz]
        clear p0 p1 p2 p3 p4 p5 p6 p7 p8 p9 p10 p11 p12 p13
        go_wp2_with (refine wpList_store_row rfl _ _ _ rfl w.heap.size #[.int .u8 0, .int .u8 0, .int .i64 0, .int .i64 0, .int .i64 0, .int .i64 0, .int .i64 0, .int .i64 0, .int .i64 0, .int .i64 0, .int .i64 0, .int .i64 0, .int .i64 0, .int .i64 0] rfl rfl 48 #[.int .u8 0, .int .u8 0, .int .i64 0, .int .i64 0, .int .i64 0, .int .i64 0, .int .i64 0, .int .i64 0, .int .i64 0, .int .i64 0, .int .i64 0, .int .i64 0, .int .i64 0, .int .i64 0] HROW.out infoIno rfl oneZZ ?_)
        rw [HRQ.out]
        exact post_cell Try.results57 rfl rfl (HROW.out.setRow #[.int .u8 0, .int .u8 0, .int .i64 0, .int .i64 0, .int .i64 0, .int .i64 0, .int .i64 0, .int .i64 0, .int .i64 0, .int .i64 0, .int .i64 0, .int .i64 0, .int .i64 0, .int .i64 0]) Try.underlying48 rfl infoIno rfl ⟨rfl, HXX5.out.setRow (Nat.le_refl _) #[.int .u8 0, .int .u8 0, .int .i64 0, .int .i64 0, .int .i64 0, .int .i64 0, .int .i64 0, .int .i64 0, .int .i64 0, .int .i64 0, .int .i64 0, .int .i64 0, .int .i64 0, .int .i64 0]⟩

theorem Take_ino (a : Option Addr) (n cap : Nat) (xs : List Int) (w : World) (hl : xs.length = n) (hn : n ≤ 9223372036854775807) (hb : isBytes xs) (hs : Sl w a (ints .u8 xs)) (hcap : n ≤ cap) (hcm : cap ≤ 9223372036854775807) :
    Calls Try.prog 57 #[.slice a n cap] w (GaveI w (Ino.takeR xs)) := by
  by_cases h : n = 32
  · subst h
    exact Take_32 a cap xs w hl hb hs hcap hcm
  · exact Take_len a n cap xs w hl hn hb hs hcap hcm h
end Go.Proofs.Ytnodinancnfoeaa.Ino
