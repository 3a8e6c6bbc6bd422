/- Contracts of sum.Of, sum.Seal and the reference's Of; what 'few' answers. -/
import Derived.Test.YtfodpphbdbeciaaSum
import Derived.Test.YtfodpphbdbeciaaField
import Derived.Laws.CopyOwn
import Derived.Lib.SlBytesConst
import Derived.Laws.Tables
namespace Go.Proofs.Ytfodpphbdbeciaa.Sum
open Go.RowKit Words Mem Plain Ops
open Go.Proofs.Ytfodpphbdbeciaa.Field
set_option maxRecDepth 100000
set_option linter.ambiguousOpen false
set_option linter.unusedVariables false
set_option linter.unusedSimpArgs false

theorem Of_ok (a : Option Addr) (n cap : Nat) (xs : List Int) (w : World) (hl : xs.length = n) (hn : n ≤ 1152921504606846975) (hb : isBytes xs) (hs : Sl w a (ints .u8 xs)) (hcap : n ≤ cap) (hcm : cap ≤ 9223372036854775807) :
    Calls Try.prog 46 #[.slice a n cap] w fun e w' => e = .returned (.int .u32 (moreN 1 xs)) ∧ w = w' := by
  go_enter Try.func46, Try.ntmps46
  go_wp2_with fail
  refine (More_ok a n cap xs 1 w hl hn hb hs hcap hcm (by omega) (by omega)).mono ?_
  rintro e w' ⟨rfl, rfl⟩
  go_wp2
  go_ret
  exact ⟨rfl, rfl⟩
set_option maxRecDepth 100000 in
/-- Sealed bytes. -/
def sealN (xs : List Int) : List Int := xs ++ bytesOf 4 (moreN 1 xs)

theorem splice_head (xs : List Int) (n : Nat) (hl : xs.length = n) : splice (ints .u8 (List.replicate (n + 4) 0)) 0 ((ints .u8 xs).take (n + 4)) = ints .u8 (xs ++ List.replicate 4 0) := by
  unfold splice
  rw [show (ints .u8 xs).take (n + 4) = ints .u8 xs from List.take_of_length_le (by rw [ints_length]; omega), ints_append, ints_length, ints_drop, hl, Nat.zero_add, List.drop_replicate, Nat.add_sub_cancel_left]
  simp
theorem splice_tail (xs : List Int) (Z s : List Int) (hs : s.length = 4) (hZ : Z.length = 4) : splice (ints .u8 (xs ++ Z)) xs.length ((ints .u8 s).take 4) = ints .u8 (xs ++ s) := by
  unfold splice
  rw [show (ints .u8 s).take 4 = ints .u8 s from List.take_of_length_le (by rw [ints_length]; omega), ints_take, ints_drop, ints_length, hs, ← ints_append, ← ints_append]
  congr 1
  rw [List.take_left, List.drop_of_length_le (by rw [List.length_append]; omega), List.append_nil]
theorem Row.setRow {w : World} {g t : Nat} {L : List Value} (h : Row w g t L) (M : List Value) : Row (w.setRow g M.toArray) g t M := Go.setRow_heap w g _ _ t (0, 0) h
theorem Ext.setRow {a w : World} (h : Ext a w) {g : Nat} (hg : a.heap.size ≤ g) (cs : Array Value) : Ext a (w.setRow g cs) := below_setRow h hg cs

set_option maxHeartbeats 1000000 in
theorem Seal_ok (a : Option Addr) (n cap : Nat) (xs : List Int) (w : World) (hl : xs.length = n) (hn : n ≤ 1000000) (hb : isBytes xs) (hs : Sl w a (ints .u8 xs)) (hcap : n ≤ cap) (hcm : cap ≤ 9223372036854775807) :
    Calls Try.prog 42 #[.slice a n cap] w fun e w' => e = .returned (.slice (some ⟨w.heap.size, 0, none⟩) (n + 4) (n + 4)) ∧ Row w' w.heap.size 5 (ints .u8 (sealN xs)) ∧ Ext w w' := by
  have hmk := make8 w ((n : Int) + 4) (n + 4) (by omega) (by omega)
  have hr := Row.new w 5 (ints .u8 (List.replicate (n + 4) 0))
  have hcp := run_copy_sl (P := Try.prog) (w.alloc (.cells (ints .u8 (List.replicate (n + 4) 0)).toArray 5)) 34 34 3 5 (o := 0) (n + 4) (n + 4) n cap Try.underlying34 size8 hr (hs.ext ((Ext.refl w).alloc _)) (by rw [ints_length]; exact hl) (by rw [ints_length, List.length_replicate]; omega) (ints_oneCell' _ _)
  rw [splice_head xs n hl, setRow_new] at hcp
  obtain ⟨Z, hZ⟩ : ∃ Z : List Int, Z = List.replicate 4 0 := ⟨_, rfl⟩
  have hZl : Z.length = 4 := by rw [hZ]; rfl
  rw [← hZ] at hcp
  have hr1 := Row.new w 5 (ints .u8 (xs ++ Z))
  have X1 := (Ext.refl w).alloc (.cells (ints .u8 (xs ++ Z)).toArray 5)
  clear hr hZ
  generalize w.alloc (.cells (ints .u8 (xs ++ Z)).toArray 5) = w1 at *
  obtain ⟨S, hS⟩ : ∃ S, S = moreN 1 xs := ⟨_, rfl⟩
  have hSb := more_bd 1 xs
  rw [← hS] at hSb
  have hse : sealN xs = xs ++ bytesOf 4 S := by rw [hS]; rfl
  have HS := Lib.hid hS; have HE := Lib.hid hse; clear hS hse
  go_enter Try.func42, Try.ntmps42
  go_wp2_with fail
  refine (Of_ok a n cap xs w1 hl (by omega) hb (hs.ext X1) hcap hcm).mono ?_
  rintro e w' ⟨rfl, rfl⟩
  rw [← HS.out]
  go_wp2_with fail
  have r1 : Row (w1.alloc (.cells #[.int .u64 S] 40)) w1.heap.size 40 (ints .u64 [S]) := Row.new w1 40 (ints .u64 [S])
  have k1 : Calls Try.prog 40 #[.int .i64 4, .slice (some ⟨w1.heap.size, 0, none⟩) 1 1] (w1.alloc (.cells #[.int .u64 S] 40)) _ := Lay_ok 4 _ 1 1 [S] _ (by decide) (by decide) rfl r1.sl0 (by intro x hx; rw [List.mem_singleton] at hx; subst hx; omega) (by decide) (by intro x hx; rw [List.mem_singleton] at hx; subst hx; unfold fitsB; rw [decide_eq_true_iff]; omega)
  refine k1.mono ?_
  rintro e w2 ⟨rfl, hr2, hX2⟩
  have hly : layed 4 [S] = bytesOf 4 S := by simp [layed]
  rw [hly] at hr2
  have hlt : w1.heap.size < (w1.alloc (.cells #[.int .u64 S] 40)).heap.size := r1.lt
  have X12 : Ext w1 w2 := ((Ext.refl w1).alloc _).trans hX2
  have X2 := X1.trans X12
  have hr0 := hr1.ext X12
  generalize (w1.alloc (.cells #[.int .u64 S] 40)).heap.size = g2 at *
  clear k1 hX2 r1 X12 hly hcp hmk
  have hbl : (bytesOf 4 S).length = 4 := length_bytesOf 4 S
  have hcp := run_copy_sl (P := Try.prog) w2 34 34 3 5 (g := w.heap.size) (o := n) 4 4 4 4 Try.underlying34 size8 hr0 hr2.sl0 (by rw [ints_length]; exact hbl) (by rw [ints_length, List.length_append]; omega) (ints_oneCell' _ _)
  rw [show splice (ints .u8 (xs ++ Z)) n ((ints .u8 (bytesOf 4 S)).take 4) = ints .u8 (xs ++ bytesOf 4 S) by rw [← hl]; exact splice_tail xs Z _ hbl hZl] at hcp
  go_wp2_with fail
  go_ret
  refine ⟨rfl, ?_, Ext.setRow X2 (Nat.le_refl _) _⟩
  rw [HE.out]
  exact Row.setRow hr0 _

theorem length_seal (xs : List Int) : (sealN xs).length = xs.length + 4 := by
  unfold sealN; rw [List.length_append, length_bytesOf]
theorem isBytes_seal {xs : List Int} (h : isBytes xs) : isBytes (sealN xs) := by
  intro x hx
  unfold sealN at hx
  rcases List.mem_append.1 hx with h1 | h1
  · exact h x h1
  · exact isBytes_bytesOf _ _ x h1

end Go.Proofs.Ytfodpphbdbeciaa.Sum