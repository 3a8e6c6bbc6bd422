/- The contract of sum.Open. -/
import Derived.Test.YtfodpphbdbeciaaSealP
import Derived.Test.YtfodpphbdbeciaaGetP
namespace Go.Proofs.Ytfodpphbdbeciaa.Sum
open Go.RowKit Words Mem Plain Ops
open Go.Proofs.Ytfodpphbdbeciaa.Field
set_option maxRecDepth 100000
set_option linter.ambiguousOpen false
set_option linter.unusedVariables false
set_option linter.unusedSimpArgs false

/-- Do the bytes end in the others' check sum? -/
def sealed (xs : List Int) : Bool := decide (4 ≤ xs.length) && decide (numOf ((xs.drop (xs.length - 4)).take 4) = moreN 1 (xs.take (xs.length - 4)))

theorem Open_short (a : Option Addr) (n cap : Nat) (w : World) (hn : n < 4) :
    Calls Try.prog 36 #[.slice a n cap] w fun e w' => e = .returned (.tuple #[.slice none 0 0, .int .i64 30]) ∧ w = w' := by
  go_enter Try.func36, Try.ntmps36
  go_wp2
  go_ret2
  exact ⟨rfl, rfl⟩

theorem Open_no (a : Option Addr) (n cap : Nat) (xs : List Int) (w : World) (hl : xs.length = n + 4) (hn : n ≤ 1000000) (hb : isBytes xs) (hs : Sl w a (ints .u8 xs)) (hcap : n + 4 ≤ cap) (hcm : cap ≤ 9223372036854775807)
    (h : numOf ((xs.drop n).take 4) ≠ moreN 1 (xs.take n)) :
    Calls Try.prog 36 #[.slice a (n + 4) cap] w fun e w' => e = .returned (.tuple #[.slice none 0 0, .int .i64 30]) ∧ w = w' := by
  have hst : standsB ((n + 4 : Nat) : Int) n (4 : Nat) = true := by unfold standsB; rw [decide_eq_true (by omega), decide_eq_true (by omega), decide_eq_true (by omega), decide_eq_true (by omega), decide_eq_true (by omega)]; rfl
  have hlt := numOf_take_lt (isBytes_drop hb n) 4
  obtain ⟨S, hS⟩ : ∃ S, S = numOf ((xs.drop n).take 4) := ⟨_, rfl⟩
  obtain ⟨T, hT⟩ : ∃ T, T = moreN 1 (xs.take n) := ⟨_, rfl⟩
  rw [← hS] at hlt h
  have htl : (xs.take n).length = n := by rw [List.length_take]; omega
  have htb : isBytes (xs.take n) := isBytes_take hb n
  have hts : Sl w a (ints .u8 (xs.take n)) := by have := hs.take n; rwa [ints_take] at this
  rw [← hT] at h
  have HS := Lib.hid hS; have HT := Lib.hid hT; clear hS hT
  have hne : (S != T) = true := by simpa using h
  go_enter Try.func36, Try.ntmps36
  go_wp2_with fail
  have k0 : Calls Try.prog 37 #[.slice a (n + 4) cap, .int .i64 n, .int .i64 4] w _ := Get_yes a (n + 4) cap xs n 4 w hl (by omega) hcap hcm hb hs hst
  refine k0.mono ?_
  rintro e w' ⟨rfl, rfl⟩
  rw [← HS.out]
  clear k0
  go_wp2_with fail
  refine (Of_ok a n cap (xs.take n) w htl (by omega) htb hts (by omega) hcm).mono ?_
  rintro e w' ⟨rfl, rfl⟩
  rw [← HT.out]
  go_wp2_with fail
  go_ret2
  exact ⟨rfl, rfl⟩

theorem splice_all (P : List Int) (n : Nat) (hl : P.length = n + 4) : splice (ints .u8 (List.replicate n 0)) 0 ((ints .u8 P).take n) = ints .u8 (P.take n) := by
  unfold splice
  rw [ints_take .u8 P n, ints_length, ints_drop, List.length_take, Nat.min_eq_left (by omega), Nat.zero_add, List.drop_of_length_le (by simp)]
  simp [ints]

theorem Open_yes (a : Option Addr) (n cap : Nat) (xs : List Int) (w : World) (hl : xs.length = n + 4) (hn : n ≤ 1000000) (hb : isBytes xs) (hs : Sl w a (ints .u8 xs)) (hcap : n + 4 ≤ cap) (hcm : cap ≤ 9223372036854775807)
    (h : numOf ((xs.drop n).take 4) = moreN 1 (xs.take n)) :
    Calls Try.prog 36 #[.slice a (n + 4) cap] w fun e w' => e = .returned (.tuple #[.slice (some ⟨w.heap.size, 0, none⟩) n n, .int .i64 0]) ∧ w' = w.alloc (.cells (ints .u8 (xs.take n)).toArray 5) := by
  have hst : standsB ((n + 4 : Nat) : Int) n (4 : Nat) = true := by unfold standsB; rw [decide_eq_true (by omega), decide_eq_true (by omega), decide_eq_true (by omega), decide_eq_true (by omega), decide_eq_true (by omega)]; rfl
  have hlt := numOf_take_lt (isBytes_drop hb n) 4
  have htl : (xs.take n).length = n := by rw [List.length_take]; omega
  have htb : isBytes (xs.take n) := isBytes_take hb n
  have hts : Sl w a (ints .u8 (xs.take n)) := by have := hs.take n; rwa [ints_take] at this
  have hmk := make8 w (n : Int) n rfl (by omega)
  have hr := Row.new w 5 (ints .u8 (List.replicate n 0))
  have hcp := run_copy_sl (P := Try.prog) (w.alloc (.cells (ints .u8 (List.replicate n 0)).toArray 5)) 34 34 3 5 (o := 0) n n (n + 4) cap Try.underlying34 size8 hr (hs.ext ((Ext.refl w).alloc _)) (by rw [ints_length]; exact hl) (by rw [ints_length, List.length_replicate]; omega) (ints_oneCell' _ _)
  rw [splice_all xs n hl, setRow_new] at hcp
  clear hr
  obtain ⟨S, hS⟩ : ∃ S, S = numOf ((xs.drop n).take 4) := ⟨_, rfl⟩
  have hT : S = moreN 1 (xs.take n) := hS.trans h
  rw [← hS] at hlt
  have HS := Lib.hid hS; have HT := Lib.hid hT; clear hS hT h
  go_enter Try.func36, Try.ntmps36
  go_wp2_with fail
  have k0 : Calls Try.prog 37 #[.slice a (n + 4) cap, .int .i64 n, .int .i64 4] w _ := Get_yes a (n + 4) cap xs n 4 w hl (by omega) hcap hcm hb hs hst
  refine k0.mono ?_
  rintro e w' ⟨rfl, rfl⟩
  rw [← HS.out]
  clear k0
  go_wp2_with fail
  refine (Of_ok a n cap (xs.take n) w htl (by omega) htb hts (by omega) hcm).mono ?_
  rintro e w' ⟨rfl, rfl⟩
  rw [← HT.out]
  go_wp2_with fail
  go_ret2
  exact ⟨rfl, rfl⟩
end Go.Proofs.Ytfodpphbdbeciaa.Sum
