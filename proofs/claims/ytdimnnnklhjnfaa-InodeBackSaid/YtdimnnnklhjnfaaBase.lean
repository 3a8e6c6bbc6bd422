/- The first lemmas of this seat: what inode.Where, inode.Blocks, where and shown of the statements answer. -/
import Derived.Test.YtdimnnnklhjnfaaRows
import Derived.Test.YtdimnnnklhjnfaaWords
import Derived.WalkKit
import Derived.ProofKit
import Derived.OpenShut
import Derived.Below
import Derived.Laws.StructEq
namespace Go.Proofs.Ytdimnnnklhjnfaa.Base
open Go.RowKit Words

theorem eq3' (w : World) (d : Nat) (a b c x y z : Int) :
    (Op.equalIn (d+2) 22 (.agg #[.int .i64 a, .int .i64 b, .int .i64 c]) (.agg #[.int .i64 x, .int .i64 y, .int .i64 z])).run Try.prog w = .ok (a == x && b == y && c == z) w := by
  unfold Op.equalIn
  simp only [Sem.run_bind, run_underlying Try.underlying22, Result.andThen_ok]
  have hs : (sizeOf 3).run Try.prog w = .ok 1 w := by kernel_rfl
  simp only [hs, Result.andThen_ok]
  simp only [Std.Legacy.Range.forIn_eq_forIn_range', Std.Legacy.Range.size, List.range']
  have h : ∀ (a b : Int), (Op.equalIn (d+1) 3 (.int .i64 a) (.int .i64 b)).run Try.prog w = .ok (a == b) w := fun a b => run_equalIn_int w d 3 .i64 .i64 a b Try.underlying3
  have ha : (isAgg 3).run Try.prog w = .ok false w := by kernel_rfl
  by_cases h1 : a = x <;> by_cases h2 : b = y <;> by_cases h3 : c = z <;>
  simp [part, ha, h, h1, h2, h3]
theorem eq3 (w : World) (a b c x y z : Int) :
    (Op.equalIn 10000 22 (.agg #[.int .i64 a, .int .i64 b, .int .i64 c]) (.agg #[.int .i64 x, .int .i64 y, .int .i64 z])).run Try.prog w = .ok (a == x && b == y && c == z) w := eq3' w 9998 a b c x y z

def whereL (n : Int) : Int := if n < 0 ∨ 60 ≤ n then -1 else if n < 8 then 0 else if n < 40 then 1 else 2
def whereA (n : Int) : Int := if n < 0 ∨ 60 ≤ n then -1 else if n < 8 then n else if n < 40 then n - 8 else (n - 40) / 32
def whereB (n : Int) : Int := if n < 0 ∨ 60 ≤ n then -1 else if n < 8 then 0 else if n < 40 then 0 else (n - 40) % 32

theorem Where_bad (n : Int) (h : n < 0 ∨ 60 ≤ n) (w : World) : Calls Try.prog 13 #[.int .i64 n] w fun e w' => e = .returned (.tuple #[.int .i64 0, .int .i64 0, .int .i64 0, .int .i64 1]) ∧ w = w' := by
  rcases h with h | h
  all_goals
    go_enter Try.func13, Try.ntmps13
    go_wp2
    exact bodyPost_ret (v := .tuple #[.int .i64 0, .int .i64 0, .int .i64 0, .int .i64 1]) (by simp [results, Try.results13, go_sem]) rfl ⟨rfl, rfl⟩

theorem Where_lo (n : Int) (h0 : 0 ≤ n) (h1 : n < 8) (w : World) : Calls Try.prog 13 #[.int .i64 n] w fun e w' => e = .returned (.tuple #[.int .i64 0, .int .i64 n, .int .i64 0, .int .i64 0]) ∧ w = w' := by
  go_enter Try.func13, Try.ntmps13
  go_wp2
  exact bodyPost_ret (v := .tuple #[.int .i64 0, .int .i64 n, .int .i64 0, .int .i64 0]) (by simp [results, Try.results13, go_sem]) rfl ⟨rfl, rfl⟩

theorem Where_mid (n : Int) (h0 : 8 ≤ n) (h1 : n < 40) (w : World) : Calls Try.prog 13 #[.int .i64 n] w fun e w' => e = .returned (.tuple #[.int .i64 1, .int .i64 (n - 8), .int .i64 0, .int .i64 0]) ∧ w = w' := by
  go_enter Try.func13, Try.ntmps13
  go_wp2
  exact bodyPost_ret (v := .tuple #[.int .i64 1, .int .i64 (n - 8), .int .i64 0, .int .i64 0]) (by simp [results, Try.results13, go_sem]) rfl ⟨rfl, rfl⟩

theorem Where_hi (n : Int) (h0 : 40 ≤ n) (h1 : n < 60) (w : World) : Calls Try.prog 13 #[.int .i64 n] w fun e w' => e = .returned (.tuple #[.int .i64 2, .int .i64 ((n - 40) / 32), .int .i64 ((n - 40) % 32), .int .i64 0]) ∧ w = w' := by
  go_enter Try.func13, Try.ntmps13
  go_wp2
  exact bodyPost_ret (v := .tuple #[.int .i64 2, .int .i64 ((n - 40) / 32), .int .i64 ((n - 40) % 32), .int .i64 0]) (by simp [results, Try.results13, go_sem]) rfl ⟨rfl, rfl⟩

theorem where_ok (n : Int) (w : World) : Calls Try.prog 10 #[.int .i64 n] w fun e w' => e = .returned (.agg #[.int .i64 (whereL n), .int .i64 (whereA n), .int .i64 (whereB n)]) ∧ Ext w w' := by
  unfold whereL whereA whereB
  by_cases h : n < 0 ∨ 60 ≤ n
  · simp only [if_pos h]
    go_enter Try.func10, Try.ntmps10
    go_wp2_with (go_at_call 13; refine (Where_bad _ h _).mono ?_; rintro e w' ⟨rfl, rfl⟩)
    exact bodyPost_ret (v := .agg #[.int .i64 (-1), .int .i64 (-1), .int .i64 (-1)]) (by simp [results, Try.results10, go_sem]) rfl ⟨rfl, (Ext.refl _).alloc _⟩
  · simp only [if_neg h]
    by_cases h1 : n < 8
    · simp only [if_pos h1]
      go_enter Try.func10, Try.ntmps10
      go_wp2_with (go_at_call 13; refine (Where_lo _ (by omega) h1 _).mono ?_; rintro e w' ⟨rfl, rfl⟩)
      exact bodyPost_ret (v := .agg #[.int .i64 0, .int .i64 n, .int .i64 0]) (by simp [results, Try.results10, go_sem]) rfl ⟨rfl, (Ext.refl _).alloc _⟩
    · simp only [if_neg h1]
      by_cases h2 : n < 40
      · simp only [if_pos h2]
        go_enter Try.func10, Try.ntmps10
        go_wp2_with (go_at_call 13; refine (Where_mid _ (by omega) h2 _).mono ?_; rintro e w' ⟨rfl, rfl⟩)
        exact bodyPost_ret (v := .agg #[.int .i64 1, .int .i64 (n - 8), .int .i64 0]) (by simp [results, Try.results10, go_sem]) rfl ⟨rfl, (Ext.refl _).alloc _⟩
      · simp only [if_neg h2]
        go_enter Try.func10, Try.ntmps10
        go_wp2_with (go_at_call 13; refine (Where_hi _ (by omega) (by omega) _).mono ?_; rintro e w' ⟨rfl, rfl⟩)
        exact bodyPost_ret (v := .agg #[.int .i64 2, .int .i64 ((n - 40) / 32), .int .i64 ((n - 40) % 32)]) (by simp [results, Try.results10, go_sem]) rfl ⟨rfl, (Ext.refl _).alloc _⟩

def blocks (n : Int) : Int := if n < 1 then 0 else (n - 1) / 64 + 1
theorem blocks_pos (n : Int) (h0 : 1 ≤ n) (h2 : n ≤ 9223372036854775807) (w : World) : Calls Try.prog 11 #[.int .i64 n] w fun e w' => e = .returned (.int .i64 (blocks n)) ∧ w = w' := by
  have h : blocks n = (n - 1) / 64 + 1 := by unfold blocks; rw [if_neg (by omega)]
  rw [h]
  go_enter Try.func11, Try.ntmps11
  go_wp2
  go_ret
  exact ⟨rfl, rfl⟩
theorem blocks_neg (n : Int) (h0 : n < 1) (w : World) : Calls Try.prog 11 #[.int .i64 n] w fun e w' => e = .returned (.int .i64 (blocks n)) ∧ w = w' := by
  have h : blocks n = 0 := by unfold blocks; rw [if_pos h0]
  rw [h]
  go_enter Try.func11, Try.ntmps11
  go_wp2
  go_ret
  exact ⟨rfl, rfl⟩
theorem blocks_ok (n : Int) (h2 : n ≤ 9223372036854775807) (w : World) : Calls Try.prog 11 #[.int .i64 n] w fun e w' => e = .returned (.int .i64 (blocks n)) ∧ w = w' := by
  by_cases h : n < 1
  · exact blocks_neg n h w
  · exact blocks_pos n (by omega) h2 w

theorem shown_ok (w : World) : Calls Try.prog 12 #[] w fun e w' => e = .returned (.bool true) ∧ Ext w w' := by
  have h3 := eq3
  have hX := Ext.refl w
  have a7 : whereL 7 = 0 ∧ whereA 7 = 7 ∧ whereB 7 = 0 := by decide
  have a8 : whereL 8 = 1 ∧ whereA 8 = 0 ∧ whereB 8 = 0 := by decide
  have a40 : whereL 40 = 2 ∧ whereA 40 = 0 ∧ whereB 40 = 0 := by decide
  have a59 : whereL 59 = 2 ∧ whereA 59 = 0 ∧ whereB 59 = 19 := by decide
  have b65 : blocks 65 = 2 := by decide
  obtain ⟨a71, a72, a73⟩ := a7
  obtain ⟨a81, a82, a83⟩ := a8
  obtain ⟨a41, a42, a43⟩ := a40
  obtain ⟨a51, a52, a53⟩ := a59
  go_enter Try.func12, Try.ntmps12
  go_wp2_with (first | (go_at_call 10; refine (where_ok _ _).mono ?_; rintro e w' ⟨rfl, hg⟩; replace hX := hX.trans hg) | (go_at_call 11; refine (blocks_ok _ (by decide) _).mono ?_; rintro e w' ⟨rfl, rfl⟩))
  go_ret
  exact ⟨rfl, by assumption⟩

end Go.Proofs.Ytdimnnnklhjnfaa.Base
