/- The contract of the reference's SameInts. -/
import Derived.Test.YtdimnnnklhjnfaaRows
import Derived.Test.YtdimnnnklhjnfaaOps
import Derived.BigQuiet
import Derived.Deep.QuietTactic
import Derived.LoopTactic
namespace Go.Proofs.Ytdimnnnklhjnfaa.Same
open Go.RowKit Words Mem Plain Ops
set_option linter.unusedVariables false
set_option linter.unusedSimpArgs false

def sameB (L M : List Int) : Bool := decide (L = M)

theorem Same_len (a b : Option Addr) (n m ca cb : Nat) (L M : List Int) (w : World) (hl : L.length = n) (hm : M.length = m) (hnm : n ≠ m) : Calls Try.prog 23 #[.slice a n ca, .slice b m cb] w fun e w' => e = .returned (.bool (sameB L M)) ∧ w = w' := by
  have hv : sameB L M = false := by unfold sameB; simp; intro e; subst e; omega
  rw [hv]
  have hne : ((n : Int) == (m : Int)) = false := by simp; exact_mod_cast hnm
  go_enter Try.func23, Try.ntmps23
  go_wp2
  go_ret
  exact ⟨rfl, rfl⟩

theorem Same_zero (a b : Option Addr) (ca cb : Nat) (w : World) : Calls Try.prog 23 #[.slice a 0 ca, .slice b 0 cb] w fun e w' => e = .returned (.bool true) ∧ w = w' := by
  go_enter Try.func23, Try.ntmps23
  go_wp2
  refine wp_loop_once ?_
  go_wp2
  go_ret
  exact ⟨rfl, rfl⟩

theorem take_differ {L M : List Int} {k : Nat} (h1 : k < L.length) (h2 : k < M.length) (h : L[k] ≠ M[k]) : sameB L M = false := by
  unfold sameB; simp; intro e; subst e; exact h rfl
theorem take_agree {L M : List Int} {k : Nat} (h1 : k < L.length) (h2 : k < M.length) (h : L[k] = M[k]) (ht : L.take k = M.take k) : L.take (k + 1) = M.take (k + 1) := by
  rw [List.take_succ_eq_append_getElem h1, List.take_succ_eq_append_getElem h2, ht, h]

set_option maxHeartbeats 1000000 in
theorem Same_pos (b1 o1 b2 o2 n ca cb : Nat) (L M : List Int) (w : World) (hl : L.length = n) (hm : M.length = n) (hn : n ≤ 9223372036854775807)
    (hc : ∀ j (hj : j < L.length), w.cell? ⟨b1, o1 + j, none⟩ = some (.int .i64 L[j])) (hd : ∀ j (hj : j < M.length), w.cell? ⟨b2, o2 + j, none⟩ = some (.int .i64 M[j])) :
    Calls Try.prog 23 #[.slice (some ⟨b1, o1, none⟩) n ca, .slice (some ⟨b2, o2, none⟩) n cb] w fun e w' => e = .returned (.bool (sameB L M)) ∧ Ext w w' := by
  have HL := Lib.hid hl; have HM := Lib.hid hm; have HC := Lib.hid hc; have HD := Lib.hid hd
  go_enter Try.func23, Try.ntmps23
  clear hl hm hc hd
  go_wp2
  go_loopw [5] (fun v wr => ∃ k q : Nat, k ≤ n ∧ v = .int .i64 k ∧ Hid (L.take k = M.take k) ∧ wr = w.drewN q) (fun v _ => n - (intOf v).toNat)
  case atStart => exact ⟨0, 0, by omega, rfl, rfl, by rfl⟩
  case round =>
    obtain ⟨k, q, hk, rfl, ht, rfl⟩ := hrel
    by_cases hlt : k < n
    · have h1 : k < L.length := by rw [HL.out]; exact hlt
      have h2 : k < M.length := by rw [HM.out]; exact hlt
      have c1 := HC.out k h1
      have c2 := HD.out k h2
      by_cases he : L[k] = M[k]
      · have ht' := Lib.hid (take_agree h1 h2 he ht.out)
        rw [← he] at c2
        generalize L[k] = x at *
        clear he h1 h2
        have k0 : (0 : Int) ≤ k := by omega
        have k1 : (k : Int) < n := by omega
        go_wp2
        go_quiet (fail)
        go_wp2
        go_roundw
        case rel => exact ⟨k + 1, _, hlt, by go_num, ht', rfl⟩
        case measure => simp [intOf]; omega
      · have hv := take_differ h1 h2 he
        have HV := Lib.hid hv; clear hv
        have hne : (L[k] != M[k]) = true := by simpa using he
        generalize L[k] = x at *
        generalize M[k] = y at *
        clear he h1 h2
        have k0 : (0 : Int) ≤ k := by omega
        have k1 : (k : Int) < n := by omega
        go_wp2
        go_quiet (fail)
        go_wp2
        go_ret
        exact ⟨by rw [HV.out]; rfl, by repeat (first | exact Ext.refl _ | apply Ext.drewN)⟩
    · have : k = n := by omega
      subst this
      have hv : sameB L M = true := by
        unfold sameB; have := ht.out
        rw [List.take_of_length_le (by rw [HL.out]; exact Nat.le_refl _), List.take_of_length_le (by rw [HM.out]; exact Nat.le_refl _)] at this
        simpa using this
      have HV := Lib.hid hv; clear hv
      go_wp2
      go_ret
      exact ⟨by rw [HV.out]; rfl, by repeat (first | exact Ext.refl _ | apply Ext.drewN)⟩

theorem Same_ok (a b : Option Addr) (n m ca cb : Nat) (L M : List Int) (w : World) (hl : L.length = n) (hm : M.length = m) (hn : n ≤ 9223372036854775807) (hc : Sl w a (ints .i64 L)) (hd : Sl w b (ints .i64 M)) :
    Calls Try.prog 23 #[.slice a n ca, .slice b m cb] w fun e w' => e = .returned (.bool (sameB L M)) ∧ Ext w w' := by
  by_cases hnm : n = m
  · subst hnm
    by_cases h0 : n = 0
    · subst h0
      have e1 : L = [] := List.eq_nil_of_length_eq_zero hl
      have e2 : M = [] := List.eq_nil_of_length_eq_zero hm
      subst e1 e2
      exact (Same_zero a b ca cb w).mono fun e w' ⟨h1, h2⟩ => ⟨h1, by subst h2; exact Ext.refl _⟩
    · obtain ⟨b1, o1, rfl, hc'⟩ := hc.ints (by omega)
      obtain ⟨b2, o2, rfl, hd'⟩ := hd.ints (by omega)
      exact Same_pos b1 o1 b2 o2 n ca cb L M w hl hm hn hc' hd'
  · exact (Same_len a b n m ca cb L M w hl hm hnm).mono fun e w' ⟨h1, h2⟩ => ⟨h1, by subst h2; exact Ext.refl _⟩
end Go.Proofs.Ytdimnnnklhjnfaa.Same
