/- The journal: what it needs, its room, its number. -/
import Derived.Test.YtfodpphbdbeciaaDkC
import Derived.LoopTactic
namespace Go.Proofs.Ytfodpphbdbeciaa.Jn
open Go.RowKit Words Mem Plain Ops Agg OwnS Dk
set_option maxRecDepth 100000
set_option linter.ambiguousOpen false
set_option linter.unusedVariables false
set_option linter.unusedSimpArgs false

def needN (n : Int) : Int := if n < 1 then 0 else n + (n - 1) / 15 + 1
def roomN (n : Int) : Int := n - 1 - (n - 1 + 15) / 16
abbrev jRow (g : Nat) (f n s : Int) : List Value := [.pointer (some ⟨g, 0, none⟩), .int .i64 f, .int .i64 n, .int .u64 s]
theorem Need_ok (n : Int) (w : World) (hn : -9223372036854775808 ≤ n) (hm : n ≤ 1000000) :
    Calls Try.prog 10 #[.int .i64 n] w fun e w' => e = .returned (.int .i64 (needN n)) ∧ w = w' := by
  unfold needN
  by_cases h : n < 1
  · rw [if_pos h]
    go_enter Try.func10, Try.ntmps10
    go_wp2
    go_ret
    exact ⟨rfl, rfl⟩
  · rw [if_neg h]
    obtain ⟨m, rfl⟩ : ∃ m : Nat, n = m + 1 := ⟨(n - 1).toNat, by omega⟩
    have e1 : (m : Int) + 1 - 1 = m := by omega
    rw [e1]
    have h1 : ¬ ((m : Int) + 1 < 1) := by omega
    go_enter Try.func10, Try.ntmps10
    go_wp2
    go_ret
    exact ⟨by first | rfl | (congr 3; omega), rfl⟩
theorem rNeed_ok (n : Int) (w : World) (hn : -9223372036854775808 ≤ n) (hm : n ≤ 1000000) :
    Calls Try.prog 11 #[.int .i64 n] w fun e w' => e = .returned (.int .i64 (needN n)) ∧ w = w' := by
  unfold needN
  by_cases h : n < 1
  · rw [if_pos h]
    go_enter Try.func11, Try.ntmps11
    go_wp2
    go_ret
    exact ⟨rfl, rfl⟩
  · rw [if_neg h]
    obtain ⟨m, rfl⟩ : ∃ m : Nat, n = m + 1 := ⟨(n - 1).toNat, by omega⟩
    have e1 : (m : Int) + 1 - 1 = m := by omega
    rw [e1]
    have h1 : ¬ ((m : Int) + 1 < 1) := by omega
    go_enter Try.func11, Try.ntmps11
    go_wp2
    go_ret
    exact ⟨by first | rfl | (congr 3; omega), rfl⟩
theorem Room_nil (w : World) : Calls Try.prog 14 #[.pointer none] w fun e w' => e = .returned (.int .i64 0) ∧ w = w' := by
  go_enter Try.func14, Try.ntmps14
  go_wp2
  go_ret
  exact ⟨rfl, rfl⟩
theorem Seq_nil (w : World) : Calls Try.prog 16 #[.pointer none] w fun e w' => e = .returned (.int .u64 0) ∧ w = w' := by
  go_enter Try.func16, Try.ntmps16
  go_wp2
  go_ret
  exact ⟨rfl, rfl⟩
theorem Room_ok {w : World} {gj g : Nat} {f s : Int} (k : Nat) (h : Row w gj 67 (jRow g f (k + 1 : Nat) s)) (hk : k ≤ 1000000) :
    Calls Try.prog 14 #[.pointer (some ⟨gj, 0, none⟩)] w fun e w' => e = .returned (.int .i64 (roomN (k + 1 : Nat))) ∧ w = w' := by
  unfold roomN
  have c2 := (h.cell? 2).trans rfl
  rw [show ((k + 1 : Nat) : Int) = (k : Int) + 1 by omega] at c2 ⊢
  have e1 : (k : Int) + 1 - 1 = k := by omega
  rw [e1]
  clear h
  go_enter Try.func14, Try.ntmps14
  go_wp2
  go_ret
  exact ⟨by first | rfl | (congr 3; omega), rfl⟩
theorem Seq_ok {w : World} {gj g : Nat} {f n s : Int} (h : Row w gj 67 (jRow g f n s)) :
    Calls Try.prog 16 #[.pointer (some ⟨gj, 0, none⟩)] w fun e w' => e = .returned (.int .u64 s) ∧ w = w' := by
  have c3 := (h.cell? 3).trans rfl
  clear h
  go_enter Try.func16, Try.ntmps16
  go_wp2
  go_ret
  exact ⟨rfl, rfl⟩
end Go.Proofs.Ytfodpphbdbeciaa.Jn
