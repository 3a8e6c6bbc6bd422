/- The law DiskCuts. -/
import Derived.Test.YtfonkicpjkcchaaDkShown
import Derived.OpenShut
namespace Go.Proofs.Ytfonkicpjkcchaa.Dk
open Go.RowKit Words Mem Plain Ops Agg OwnS
open Go.ChangeShapes Go.WideShapes
set_option linter.ambiguousOpen false
set_option linter.unusedVariables false
set_option linter.unusedSimpArgs false

structure CutInv (n k : Nat) (D : Dsk) : Prop where
  wf : D.Wf k
  len : D.secs.length = 300
  live : k ≤ n → D.dead = false ∧ D.fuse = (n : Int) - k ∧ D.done = k
  off : n < k → D.dead = true ∧ D.done = n
theorem cut_start {n : Nat} (hn : n ≤ 255) : CutInv n 0 (cutR (newD 300) n) := by
  have e : cutR (newD 300) n = { newD 300 with fuse := (n : Int) } := by
    unfold cutR
    rw [if_neg (show ¬ ((newD 300).dead = true) from fun h => by cases h), if_pos (by omega)]
  refine ⟨cutR_wf (newD_wf (by decide) 0) (by omega), ?_, fun _ => ?_, fun h => absurd h (by omega)⟩
  · rw [e]; show (List.replicate 300 zeroS).length = 300; exact List.length_replicate
  · rw [e]; exact ⟨rfl, by simp, rfl⟩
theorem cut_step {n k : Nat} {D : Dsk} (h : CutInv n k D) (hk : k < 300) {c : Int} (hc : 0 ≤ c ∧ c ≤ 255) : CutInv n (k + 1) (writeR D k (allB c) c).1 ∧ (writeR D k (allB c) c).2 = if k < n then 0 else 6 := by
  have hw := write_wf h.wf k hc
  have hok : 0 ≤ (k : Int) ∧ (k : Int) < D.secs.length ∧ (allB c).length = 64 := ⟨by omega, by rw [h.len]; omega, allB_len c⟩
  by_cases hlt : k < n
  · obtain ⟨l1, l2, l3⟩ := h.live (by omega)
    have hp : powerR D = ({ D with fuse := D.fuse - 1, done := D.done + 1 }, 0) := by
      unfold powerR
      rw [if_neg (by rw [l1]; simp), if_neg (by omega), if_pos (by omega)]
    have e : writeR D k (allB c) c = ({ (powerR D).1 with waits := D.waits ++ [⟨k, sg D.secs (k : Int).toNat, ⟨allB c, c⟩⟩], secs := D.secs.set (k : Int).toNat ⟨allB c, c⟩ }, 0) := by
      unfold writeR
      rw [if_neg (fun e => e hok), if_pos (by rw [hp])]
    refine ⟨⟨hw, ?_, fun _ => ?_, fun h => absurd h (by omega)⟩, ?_⟩
    · rw [e]; simp [h.len]
    · rw [e, hp]; dsimp only; exact ⟨l1, by omega, by omega⟩
    · rw [e, if_pos hlt]
  · rw [if_neg hlt]
    by_cases heq : k = n
    · obtain ⟨l1, l2, l3⟩ := h.live (by omega)
      have hp : powerR D = ({ D with dead := true }, 6) := by
        unfold powerR
        rw [if_neg (by rw [l1]; simp), if_pos (by omega)]
      have e := write_dead (tag := c) hok (by rw [hp]; show (6 : Int) ≠ 0; decide)
      rw [e, hp] at hw ⊢
      exact ⟨⟨hw, h.len, fun h => absurd h (by omega), fun _ => ⟨rfl, by dsimp only; omega⟩⟩, rfl⟩
    · obtain ⟨l1, l2⟩ := h.off (by omega)
      have hp : powerR D = (D, 6) := by unfold powerR; rw [if_pos l1]
      have e := write_dead (tag := c) hok (by rw [hp]; show (6 : Int) ≠ 0; decide)
      rw [e, hp] at hw ⊢
      exact ⟨⟨hw, h.len, fun h => absurd h (by omega), fun _ => ⟨l1, l2⟩⟩, rfl⟩
theorem Dead_at {w0 u : World} {g gs sc : Nat} {D : Dsk} (h : At w0 g gs sc D u) :
    Calls Try.prog 19 #[.pointer (some ⟨g, 0, none⟩)] u fun e w' => e = .returned (.bool D.dead) ∧ w' = u := by
  obtain ⟨h1, wa, wc, h2⟩ := h
  exact Dead_ok h2
theorem Done_at {w0 u : World} {g gs sc : Nat} {D : Dsk} (h : At w0 g gs sc D u) :
    Calls Try.prog 20 #[.pointer (some ⟨g, 0, none⟩)] u fun e w' => e = .returned (.int .i64 D.done) ∧ w' = u := by
  obtain ⟨h1, wa, wc, h2⟩ := h
  exact Done_ok h2

set_option maxHeartbeats 4000000 in
theorem cuts_walk (n many : Nat) (w : World) (hn : n ≤ 255) (hmany : many ≤ 255) :
    Calls Try.prog 5 #[.int .u8 n, .int .u8 many] w fun e w' => e = .returned (.bool true) ∧ Ext w w' := by
  have hw1 : IntKind.i64.wrap (n : Int) = n := IntWalk.i64_in _ (by omega)
  have hw2 : IntKind.i64.wrap (many : Int) = many := IntWalk.i64_in _ (by omega)
  have HCI := Lib.hid (cut_start hn)
  go_enter Try.func5, Try.ntmps5
  go_wp2_with fail
  refine (shown_ok w).mono ?_
  rintro e w1 ⟨rfl, h1⟩
  have H1 := Lib.hid h1
  clear h1
  have hnew : Calls Try.prog 9 #[.int .i64 300] w1 _ := New_at 300 w1 (by decide)
  go_wp2_with fail
  refine hnew.mono ?_
  rintro e w2 ⟨g, gs, sc, rfl, h2⟩
  have hcut := Cut_at h2 n
  clear hnew h2
  go_wp2_with fail
  refine hcut.mono ?_
  rintro e w3 ⟨rfl, h3⟩
  have H3 := Lib.hid h3
  clear hcut h3
  go_wp2_with fail
  go_loopw [27] (fun v wr => ∃ (k : Nat) (D : Dsk), k ≤ many ∧ v = .int .i64 k ∧ CutInv n k D ∧ At w1 g gs sc D wr) (fun v _ => many - (intOf v).toNat)
  case atStart => exact ⟨0, _, by omega, rfl, HCI.out, H3.out⟩
  case round =>
    obtain ⟨k, D, hk, rfl, hI, hA⟩ := hrel
    have HI := Lib.hid hI
    have HA := Lib.hid hA
    clear hI hA
    by_cases hlt : k < many
    · have hku : IntKind.u8.wrap (k : Int) = k := IntWalk.u8_in _ (by omega)
      have hp1 : Calls Try.prog 12 #[.int .i64 k, .int .u8 k] wr _ := patch_ok k k wr (by omega)
      go_wp2_with fail
      refine hp1.mono ?_
      rintro e u1 ⟨a1, rfl, ha, hr, hx⟩
      have hst := cut_step HI.out (by omega) (c := k) (by omega)
      have hwr := Write_at HA.out HI.out.wf (by omega) hx ha hr k
      rw [hst.2] at hwr
      have HS := Lib.hid hst.1
      clear hp1 ha hr hx hst
      generalize (writeR D k (allB k) k).1 = D' at *
      by_cases hkn : k < n
      · rw [if_pos hkn] at hwr
        go_wp2_with fail
        refine hwr.mono ?_
        rintro e u2 ⟨rfl, hA2⟩
        have HA2 := Lib.hid hA2
        clear hwr hA2
        go_wp2
        go_roundw
        case rel => exact ⟨k + 1, D', hlt, by go_num, HS.out, HA2.out⟩
        case measure => simp [intOf]; omega
      · rw [if_neg hkn] at hwr
        go_wp2_with fail
        refine hwr.mono ?_
        rintro e u2 ⟨rfl, hA2⟩
        have HA2 := Lib.hid hA2
        clear hwr hA2
        go_wp2
        go_roundw
        case rel => exact ⟨k + 1, D', hlt, by go_num, HS.out, HA2.out⟩
        case measure => simp [intOf]; omega
    · obtain rfl : k = many := by omega
      have hdone := Done_at HA.out
      have hdead := Dead_at HA.out
      have HX := Lib.hid (H1.out.trans HA.out.1)
      by_cases hkn : n < k
      · obtain ⟨l1, l2⟩ := HI.out.off hkn
        rw [l2] at hdone
        rw [l1] at hdead
        clear l1 l2
        have hle : ¬ (k : Int) ≤ n := by omega
        have hle2 : (n : Int) ≤ k := by omega
        go_wp2_with fail
        refine hdone.mono ?_
        rintro e u2 ⟨rfl, hu2⟩
        subst hu2
        clear hdone
        go_wp2_with (go_at_call 19; refine hdead.mono ?_; rintro e u3 ⟨rfl, hu3⟩; subst hu3)
        go_ret
        exact ⟨rfl, HX.out⟩
      · obtain ⟨l1, _, l2⟩ := HI.out.live (by omega)
        rw [l2] at hdone
        rw [l1] at hdead
        clear l1 l2
        rcases Nat.lt_or_eq_of_le (show k ≤ n by omega) with hlt2 | heq2
        · have hle : (k : Int) ≤ n := by omega
          have hle2 : ¬ (n : Int) ≤ k := by omega
          have hne2 : ¬ (n : Int) < k := by omega
          go_wp2_with fail
          refine hdone.mono ?_
          rintro e u2 ⟨rfl, hu2⟩
          subst hu2
          clear hdone
          go_wp2_with (go_at_call 19; refine hdead.mono ?_; rintro e u3 ⟨rfl, hu3⟩; subst hu3)
          go_ret
          exact ⟨rfl, HX.out⟩
        · subst heq2
          go_wp2_with fail
          refine hdone.mono ?_
          rintro e u2 ⟨rfl, hu2⟩
          subst hu2
          clear hdone
          go_wp2_with (go_at_call 19; refine hdead.mono ?_; rintro e u3 ⟨rfl, hu3⟩; subst hu3)
          go_ret
          exact ⟨rfl, HX.out⟩

theorem law_DiskCuts {H : Type} {enc : TypeId × Value → H} {base : Nat} {d0 d1 : DataW H} {p0 p1 : List MemPlace} (v0 v1 : Value) (w : World)
    (ho0 : Value.okWide Try.prog w .any base 5 v0) (h0 : DataW.Trod enc Try.prog w 0 (fun _ => true) true 5 v0 d0 p0)
    (ho1 : Value.okWide Try.prog w .any base 5 v1) (h1 : DataW.Trod enc Try.prog w 0 (fun _ => true) true 5 v1 d1 p1) :
    Calls Try.prog 5 #[v0, v1] w fun e w' => e = .returned (.bool true) ∧ Below w.heap.size w w' := by
  obtain ⟨x, rfl, _, _, hx⟩ := open_int Try.underlying5 ho0 h0
  obtain ⟨y, rfl, _, _, hy⟩ := open_int Try.underlying5 ho1 h1
  have bx := bounds_u8 hx
  have b_y := bounds_u8 hy
  obtain ⟨n, rfl⟩ : ∃ n : Nat, x = n := ⟨x.toNat, by omega⟩
  obtain ⟨m, rfl⟩ : ∃ n : Nat, y = n := ⟨y.toNat, by omega⟩
  exact cuts_walk n m w (by omega) (by omega)
end Go.Proofs.Ytfonkicpjkcchaa.Dk
