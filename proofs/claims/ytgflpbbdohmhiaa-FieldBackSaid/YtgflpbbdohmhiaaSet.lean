/- Contracts of field.Set and the reference's Set. -/
import Derived.Test.YtgflpbbdohmhiaaRefA
import Derived.Test.YtgflpbbdohmhiaaNum
import Derived.Test.YtgflpbbdohmhiaaSlices
namespace Go.Proofs.Ytgflpbbdohmhiaa.Field
open Go.RowKit Words Mem Plain Ops
set_option linter.unusedVariables false
set_option linter.unusedSimpArgs false

/-- Bytes with another number among them. -/
def setP (xs : List Int) (k s : Nat) (x : Int) : List Int := splice xs k (bytesOf s x)
theorem ints_splice (kd : IntKind) (L : List Int) (k : Nat) (M : List Int) : splice (ints kd L) k (ints kd M) = ints kd (splice L k M) := by
  unfold splice; simp [ints_take, ints_drop, ints_append, ints_length]
theorem length_setP (xs : List Int) (k s : Nat) (x : Int) (h : k + s ≤ xs.length) : (setP xs k s x).length = xs.length := by
  unfold setP; exact length_splice _ _ _ (by rw [length_bytesOf]; exact h)
theorem isBytes_setP (xs : List Int) (k s : Nat) (x : Int) (h : isBytes xs) : isBytes (setP xs k s x) := by
  unfold setP splice
  exact isBytes_append.2 ⟨isBytes_take h _, isBytes_append.2 ⟨isBytes_bytesOf _ _, isBytes_drop h _⟩⟩
theorem splice_whole (xs : List Int) (n : Nat) (hl : xs.length = n) : splice (ints .u8 (List.replicate n 0)) 0 ((ints .u8 xs).take n) = ints .u8 xs := by
  unfold splice
  rw [show (ints .u8 xs).take n = ints .u8 xs from List.take_of_length_le (by rw [ints_length]; omega), ints_length, ints_drop, hl]
  simp [ints]

theorem Set_arg (a : Option Addr) (n cap : Nat) (k s x : Int) (w : World) (hn : n ≤ 9223372036854775807) (hk : -9223372036854775808 ≤ k) (h : standsB n k s = false) :
    Calls Try.prog 14 #[.slice a n cap, .int .i64 k, .int .i64 s, .int .u64 x] w fun e w' => e = .returned (.tuple #[.slice none 0 0, .int .i64 1]) ∧ w = w' := by
  go_enter Try.func14, Try.ntmps14
  go_wp2_with (go_at_call 23; refine (stands_ok _ _ _ _ hn hk).mono ?_; rintro e w' ⟨rfl, rfl⟩; rw [h])
  go_ret2
  exact ⟨rfl, rfl⟩
theorem Set_long (a : Option Addr) (n cap : Nat) (k s : Nat) (x : Int) (w : World) (hn : n ≤ 9223372036854775807) (h : standsB n k s = true) (h0 : 0 ≤ x) (hx : x < 18446744073709551616) (hf : fitsB x s = false) :
    Calls Try.prog 14 #[.slice a n cap, .int .i64 k, .int .i64 s, .int .u64 x] w fun e w' => e = .returned (.tuple #[.slice none 0 0, .int .i64 4]) ∧ w = w' := by
  obtain ⟨h1, h2, h3, h4, h5⟩ := standsB_true h
  go_enter Try.func14, Try.ntmps14
  go_wp2_with (first | (go_at_call 23; refine (stands_ok _ _ _ _ hn (by omega)).mono ?_; rintro e w' ⟨rfl, rfl⟩; rw [h]) | (go_at_call 27; refine (fits_ok x s h0 hx (by omega) (by omega) _).mono ?_; rintro e w' ⟨rfl, rfl⟩; rw [hf]))
  go_ret2
  exact ⟨rfl, rfl⟩

set_option maxHeartbeats 1000000 in
theorem Set_yes (a : Option Addr) (n cap : Nat) (xs : List Int) (k s : Nat) (x : Int) (w : World) (hl : xs.length = n) (hn : n ≤ 1000000) (hs : Sl w a (ints .u8 xs)) (h : standsB n k s = true) (h0 : 0 ≤ x) (hx : x < 18446744073709551616) (hf : fitsB x s = true) :
    Calls Try.prog 14 #[.slice a n cap, .int .i64 k, .int .i64 s, .int .u64 x] w fun e w' => e = .returned (.tuple #[.slice (some ⟨w.heap.size, 0, none⟩) n n, .int .i64 0]) ∧ Row w' w.heap.size 5 (ints .u8 (setP xs k s x)) ∧ Ext w w' := by
  obtain ⟨h1, h2, h3, h4, h5⟩ := standsB_true h
  have hmk := make8 w (n : Int) n rfl (by omega)
  have hr := Row.new w 5 (ints .u8 (List.replicate n 0))
  have hcp := run_copy_sl (P := Try.prog) (w.alloc (.cells (ints .u8 (List.replicate n 0)).toArray 5)) 22 22 3 5 (o := 0) n n n cap Try.underlying22 size8 hr (hs.ext ((Ext.refl w).alloc _)) (by rw [ints_length]; exact hl) (by rw [ints_length, List.length_replicate]; omega) (ints_oneCell' _ _)
  rw [splice_whole xs n hl, setRow_new] at hcp
  have hr1 := Row.new w 5 (ints .u8 xs)
  have X1 := (Ext.refl w).alloc (.cells (ints .u8 xs).toArray 5)
  clear hr
  generalize w.alloc (.cells (ints .u8 xs).toArray 5) = w1 at *
  have hns : ¬ n = k := by omega
  go_enter Try.func14, Try.ntmps14
  go_wp2_with (first | (go_at_call 23; refine (stands_ok _ _ _ _ (by omega) (by omega)).mono ?_; rintro e w' ⟨rfl, rfl⟩; rw [h]) | (go_at_call 27; refine (fits_ok x s h0 hx (by omega) (by omega) _).mono ?_; rintro e w' ⟨rfl, rfl⟩; rw [hf]))
  refine (put_ok w.heap.size k s (n - k) x _ w1 h0 hx (by omega) (by rw [ints_length]; omega) hr1).mono ?_
  rintro e w' ⟨rfl, hr', hby⟩
  have X2 := X1.by hby (Nat.le_refl _)
  go_wp2
  go_ret2
  refine ⟨rfl, ?_, X2⟩
  rw [ints_splice] at hr'
  exact hr'

theorem rSet_arg (a : Option Addr) (n cap : Nat) (k s x : Int) (w : World) (hn : n ≤ 9223372036854775807) (hk : -9223372036854775808 ≤ k) (h : standsB n k s = false) :
    Calls Try.prog 15 #[.slice a n cap, .int .i64 k, .int .i64 s, .int .u64 x] w fun e w' => e = .returned (.tuple #[.slice none 0 0, .int .i64 1]) ∧ w = w' := by
  go_enter Try.func15, Try.ntmps15
  go_wp2_with (go_at_call 25; refine (rright_ok _ _ _ _ _ _ hn hk).mono ?_; rintro e w' ⟨rfl, rfl⟩; rw [h])
  go_ret2
  exact ⟨rfl, rfl⟩
theorem rSet_long (a : Option Addr) (n cap : Nat) (k s : Nat) (x : Int) (w : World) (hn : n ≤ 9223372036854775807) (h : standsB n k s = true) (h0 : 0 ≤ x) (hx : x < 18446744073709551616) (hf : fitsB x s = false) :
    Calls Try.prog 15 #[.slice a n cap, .int .i64 k, .int .i64 s, .int .u64 x] w fun e w' => e = .returned (.tuple #[.slice none 0 0, .int .i64 4]) ∧ w = w' := by
  obtain ⟨h1, h2, h3, h4, h5⟩ := standsB_true h
  go_enter Try.func15, Try.ntmps15
  go_wp2_with (first | (go_at_call 25; refine (rright_ok _ _ _ _ _ _ hn (by omega)).mono ?_; rintro e w' ⟨rfl, rfl⟩; rw [h]) | (go_at_call 29; refine (rfits_ok x s h0 hx (by omega) (by omega) _).mono ?_; rintro e w' ⟨rfl, rfl⟩; rw [hf]))
  go_ret2
  exact ⟨rfl, rfl⟩

/-- Bytes of the call's own, and that all was well. -/
def OwnB0 (w : World) (L : List Int) (e : Ending) (w' : World) : Prop :=
  ∃ a cap, e = .returned (.tuple #[.slice a L.length cap, .int .i64 0]) ∧ w'.ownsRow w.heap.size 5 1 (.slice a L.length cap) L.length (ints .u8 L) ∧ Ext w w'

theorem own_nil {w : World} {base : Nat} {t : TypeId} {a : Option Addr} {n cap : Nat} {xs : List Value} (h : w.ownsRow base t 1 (.slice a n cap) n xs) : a = none → n = 0 ∧ cap = 0 := by
  rcases ownsRow_cases h with ⟨_, h2, h3, _⟩ | ⟨g, M, h1, _⟩
  · exact fun _ => ⟨h2, h3⟩
  · intro e; rw [h1] at e; cases e

set_option maxHeartbeats 600000 in
theorem rSet_yes (a : Option Addr) (n cap : Nat) (xs : List Int) (k s : Nat) (x : Int) (w : World) (hl : xs.length = n) (hn : n ≤ 1000000) (hs : Sl w a (ints .u8 xs)) (hcap : n ≤ cap) (hcm : cap ≤ 9223372036854775807) (h : standsB n k s = true) (h0 : 0 ≤ x) (hx : x < 18446744073709551616) (hf : fitsB x s = true) :
    Calls Try.prog 15 #[.slice a n cap, .int .i64 k, .int .i64 s, .int .u64 x] w (OwnB0 w (setP xs k s x)) := by
  obtain ⟨h1, h2, h3, h4, h5⟩ := standsB_true h
  have hane : a ≠ none := by obtain ⟨_, _, e, _⟩ := hs.ints (by omega); rw [e]; simp
  have r0 := Row.new w 5 []
  have o0 := ownsRow_of (base := w.heap.size) (n := 0) r0 (Nat.le_refl _) rfl (by decide)
  have XA := (Ext.refl w).alloc (.cells (List.toArray []) 5)
  have hs1 := (hs.take k).ext XA
  rw [ints_take] at hs1
  have hl1 : (xs.take k).length = k := by rw [List.length_take]; omega
  obtain ⟨a2, c2, w2, hrun2, hown2, hext2⟩ := run_append_sl (P := Try.prog) _ w.heap.size 22 22 5 (.int .u8 0) 1 Try.underlying22 info8 rfl o0 (m := k) cap (by rw [ints_length]; exact hl1) hs1 (fun e => absurd e hane) (ints_oneCell' _ _) (by omega) (by omega) XA.size
  have X2 := hext2 w XA (Nat.le_refl _)
  rw [Nat.zero_add] at hown2 hrun2
  rw [List.nil_append] at hown2
  have hse : setP xs k s x = xs.take k ++ bytesOf s x ++ xs.drop (k + s) := by unfold setP splice; rw [length_bytesOf, List.append_assoc]
  have hle : (setP xs k s x).length = n := by rw [length_setP _ _ _ _ (by omega), hl]
  generalize hP : xs.take k = P at *
  have hcut := hs.cutA cap (k + s) (by intro e; rw [ints_length]; omega)
  rw [ints_drop] at hcut
  have hane2 := cutA_ne hane cap (k + s)
  have hslc : ∀ v : World, (Instr.slice 22 (.slice a n cap) (some (.int .i64 ((k : Int) + s))) none none).run Try.prog v = .ok (.slice (cutA a cap (k + s)) (n - (k + s)) (cap - (k + s))) v := fun v => run_slice_from v _ _ Try.underlying22 size8 a n cap (k + s) _ _ (by omega) (by omega)
  generalize cutA a cap (k + s) = a5 at *
  have hl2 : (xs.drop (k + s)).length = n - (k + s) := by rw [List.length_drop]; omega
  generalize hQ : xs.drop (k + s) = Q at *
  have HE := Lib.hid hse; have HLE := Lib.hid hle; have HL1 := Lib.hid hl1; have HL2 := Lib.hid hl2
  clear hse hle r0 o0 hext2 XA hs1 hP hQ hl1 hl2
  go_enter Try.func15, Try.ntmps15
  go_wp2_with fail
  refine (rright_ok a n cap k s w (by omega) (by omega)).mono ?_
  rintro e w' ⟨rfl, rfl⟩
  rw [h]
  go_wp2_with fail
  refine (rfits_ok x s h0 hx (by omega) (by omega) w).mono ?_
  rintro e w' ⟨rfl, rfl⟩
  rw [hf]
  go_wp2_with (at_builtin; refine Lib.wpList_append_run _ rfl _ _ _ _ rfl _ _ rfl rfl _ _ hrun2 ?_)
  refine (rNum_ok x s w2 h0 hx (by omega)).mono ?_
  rintro e w3 ⟨a3, c3, rfl, hown3, hX3⟩
  rw [length_bytesOf] at hown3
  rw [length_bytesOf]
  have hown2' := ownsRow_ext hown2 hX3
  have X3 := X2.trans hX3
  obtain ⟨a4, c4, w4, hrun4, hown4, hext4⟩ := run_append_sl (P := Try.prog) w3 w.heap.size 22 22 5 (.int .u8 0) 1 Try.underlying22 info8 rfl hown2' (m := s) c3 (by rw [ints_length, length_bytesOf]) (ownsRow_sl hown3) (own_nil hown3) (ints_oneCell' _ _) (by omega) (by omega) X3.size
  have X4 := hext4 w X3 (Nat.le_refl _)
  rw [← ints_append] at hown4
  replace hcut := hcut.ext X4
  obtain ⟨a6, c6, w6, hrun6, hown6, hext6⟩ := run_append_sl (P := Try.prog) w4 w.heap.size 22 22 5 (.int .u8 0) 1 Try.underlying22 info8 rfl hown4 (m := n - (k + s)) (cap - (k + s)) (by rw [ints_length, HL2.out]) hcut (fun e => absurd e hane2) (ints_oneCell' _ _) (by omega) (by omega) X4.size
  have X6 := hext6 w X4 (Nat.le_refl _)
  rw [← ints_append] at hown6
  rw [show k + s + (n - (k + s)) = n by omega] at hown6 hrun6
  clear hext4 hext6 hown4 hown3 hown2 hown2' hrun2 hcut
  have tok : True := trivial
  go_wp2_with (first | (have _t := tok; at_builtin; refine Lib.wpList_append_run _ rfl _ _ _ _ rfl _ _ rfl rfl _ _ hrun4 ?_; clear tok _t) | (at_builtin; refine Lib.wpList_append_run _ rfl _ _ _ _ rfl _ _ rfl rfl _ _ hrun6 ?_))
  go_ret2
  exact ⟨a6, c6, by rw [HLE.out]; rfl, by rw [HLE.out, HE.out]; exact hown6, X6⟩
end Go.Proofs.Ytgflpbbdohmhiaa.Field
