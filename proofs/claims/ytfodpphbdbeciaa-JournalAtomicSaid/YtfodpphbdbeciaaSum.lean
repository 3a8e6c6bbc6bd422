/- Contracts of sum.More, sum.Of and the reference's. -/
import Derived.Test.YtfodpphbdbeciaaRows
import Derived.Test.YtfodpphbdbeciaaOps
import Derived.Test.YtfodpphbdbeciaaSumP
import Derived.LoopTactic
import Derived.WalkMore
import Derived.ScopeJumps
namespace Go.Proofs.Ytfodpphbdbeciaa.Sum
open Go.RowKit Words Mem Plain Ops
set_option maxRecDepth 100000
set_option linter.unusedVariables false
set_option linter.unusedSimpArgs false

/-- A scope with one label: what holds whenever the run comes to the label, by falling or by a jump; the code behind the label is walked once. -/
theorem wp_scope_label {P : Program} {a : Act} {w : World} {Q : Exit → Act → World → Prop} {c R : Code} (l : Nat) (J : Act → World → Prop) (μ : Act → World → Nat) (hf : findLabel c l = some (Code.skip.seq R))
    (pass : ∀ a w, J a w → R.wp P (Exit.jump l (fun a' w' => J a' w' ∧ μ a' w' < μ a w) Q) a w)
    (first : (∀ a w, J a w → R.wp P (Exit.jump l J Q) a w) → c.wp P (Exit.jump l J Q) a w) : (Code.scope c).wp P Q a w := by
  refine wp_scope_jumps l J μ hf (first fun a w h => ?_) fun a w h => ?_
  · refine Code.wp_mono (fun e a' w' h => ?_) (pass a w h)
    cases e with
    | goto l' => exact ⟨h.1, h.2.1⟩
    | _ => exact h
  · exact wp_seq (wp_skip (pass a w h))
def lenOf : Value → Nat | .slice _ n _ => n | _ => 0

set_option maxRecDepth 100000 in
set_option maxHeartbeats 8000000 in
theorem More_ok (a : Option Addr) (n cap : Nat) (xs : List Int) (s : Int) (w : World) (hl : xs.length = n) (hn : n ≤ 1152921504606846975) (hb : isBytes xs) (hs : Sl w a (ints .u8 xs)) (hcap : n ≤ cap) (hcm : cap ≤ 9223372036854775807) (h0 : 0 ≤ s) (h1 : s < 4294967296) :
    Calls Try.prog 52 #[.int .u32 s, .slice a n cap] w fun e w' => e = .returned (.int .u32 (moreN s xs)) ∧ w = w' := by
  have e0 := and_low s h0 h1
  go_enter Try.func52, Try.ntmps52
  obtain ⟨st, hst⟩ : ∃ st, st = startS s := ⟨_, rfl⟩
  have e4 : moreN s xs = outS (raw st xs) := by rw [hst]; rfl
  have e1 : s % 65536 % 65521 = (resS (raw st [])).1 := by rw [raw_nil, hst, start_res]; rfl
  have e2 : s / 65536 % 65521 = (resS (raw st [])).2 := by rw [raw_nil, hst, start_res]; rfl
  clear hst
  go_wp2
  refine wp_scope_label 0 (fun a' w' => w' = w ∧ ∃ (A B : List Int) (ax : Option Addr) (m c : Nat) (u8 u9 u10 u11 u12 u13 u14 u15 u16 u17 u18 u19 u20 u21 u22 u23 u24 u25 u26 u27 u28 u29 u30 u31 u32 u33 u34 u35 u36 u37 u38 u39 u40 u41 u42 u43 u44 u45 u46 u47 u48 u49 u50 : Value), m ≤ c ∧ c ≤ cap ∧ m ≤ n ∧ Hid (B.length = m) ∧ isBytes B ∧ Hid (A ++ B = xs) ∧ Sl w ax (ints .u8 B) ∧ a' = { tmps := #[.int .u32 s, .slice a n cap, undef, undef, .int .u32 0, .int .u32 (resS (raw st A)).1, .int .u32 (resS (raw st A)).2, .slice ax m c, u8, u9, u10, u11, u12, u13, u14, u15, u16, u17, u18, u19, u20, u21, u22, u23, u24, u25, u26, u27, u28, u29, u30, u31, u32, u33, u34, u35, u36, u37, u38, u39, u40, u41, u42, u43, u44, u45, u46, u47, u48, u49, u50], defers := [] }) (fun a' _ => lenOf (a'.tmps.getD 7 undef)) rfl ?_ ?_
  rotate_left
  · intro hp
    go_wp2
    go_step3
    rename_i Q' K hK
    exact hK _ _ (hp _ _ ⟨rfl, [], xs, a, n, cap, _, _, _, _, _, _, _, _, _, _, _, _, _, _, _, _, _, _, _, _, _, _, _, _, _, _, _, _, _, _, _, _, _, _, _, _, _, _, _, _, _, _, _, hcap, Nat.le_refl _, Nat.le_refl _, hl, hb, rfl, hs, by rw [← e1, ← e2]⟩)
  · rintro a' w' ⟨rfl, A, B, ax, m, c, u8, u9, u10, u11, u12, u13, u14, u15, u16, u17, u18, u19, u20, u21, u22, u23, u24, u25, u26, u27, u28, u29, u30, u31, u32, u33, u34, u35, u36, u37, u38, u39, u40, u41, u42, u43, u44, u45, u46, u47, u48, u49, u50, hmc, hcc, hmn, hBl, hBb, hAB, hS, rfl⟩
    clear e1 e2 hl
    have E4 := Lib.hid e4; clear e4
    dsimp only
    have hm9 : m ≤ 1152921504606846975 := by omega
    by_cases h3 : m ≤ 3000
    · go_wp2
      obtain ⟨R, hR⟩ : ∃ R, R = resS (raw st A) := ⟨_, rfl⟩
      rw [← hR]
      have hb1 : 0 ≤ R.1 ∧ R.1 < 65521 := by rw [hR]; unfold resS; simp only; omega
      have hb2 : 0 ≤ R.2 ∧ R.2 < 65521 := by rw [hR]; unfold resS; simp only; omega
      have HR := Lib.hid hR; clear hR
      have hF : Hid (resS (raw R (B.take m)) = resS (raw st (A ++ B.take m))) := by rw [HR.out, raw_res, raw_append]; exact rfl
      go_loop [5, 6, 25] (fun lo hi t => ∃ k : Nat, k ≤ m ∧ t = .int .i64 k ∧ lo = .int .u32 (raw R (B.take k)).1 ∧ hi = .int .u32 (raw R (B.take k)).2) (fun _ _ t => m - (intOf t).toNat)
      case atStart => exact ⟨0, by omega, rfl, by rw [List.take_zero, raw_nil], by rw [List.take_zero, raw_nil]⟩
      case round =>
        obtain ⟨k, hk, rfl, rfl, rfl⟩ := hrel
        have hbk := raw_bd (B.take k) (isBytes_take hBb k) R hb1 hb2 (by rw [List.length_take]; omega)
        rw [List.length_take, hBl.out, Nat.min_eq_left (by omega)] at hbk
        by_cases hlt : k < m
        · have hkl : k < B.length := by rw [hBl.out]; omega
          obtain ⟨b, o, rfl, hcl⟩ := hS.ints (by omega)
          have c1 := hcl k hkl
          have hx := hBb B[k] (List.getElem_mem hkl)
          have htk : raw R (B.take (k + 1)) = stepS (raw R (B.take k)) B[k] := by rw [List.take_succ_eq_append_getElem hkl, raw_add]
          have HT := Lib.hid htk
          clear htk hcl
          generalize B[k] = x at *
          clear hkl
          generalize raw R (B.take k) = p at *
          obtain ⟨lo, hi⟩ := p
          simp only at hbk ⊢
          obtain ⟨hx0, hx1⟩ := hx; obtain ⟨p1, p2, p3, p4⟩ := hbk
          go_wp2
          go_round
          case rel => exact ⟨k + 1, hlt, by go_num, by rw [HT.out]; rfl, by rw [HT.out]; rfl⟩
          case measure => simp [intOf]; omega
        · have : k = m := by omega
          subst this
          have f1 : (raw R (B.take k)).1 % 65521 = (resS (raw st (A ++ B.take k))).1 := congrArg Prod.fst hF.out
          have f2 : (raw R (B.take k)).2 % 65521 = (resS (raw st (A ++ B.take k))).2 := congrArg Prod.snd hF.out
          have hEnd : bits .or .u32 ((resS (raw st (A ++ B.take k))).2 * 65536) (resS (raw st (A ++ B.take k))).1 = moreN s xs := by
            rw [or_low _ _ (by unfold resS; simp only; omega) (by unfold resS; simp only; omega) (by unfold resS; simp only; omega) (by unfold resS; simp only; omega), E4.out, List.take_of_length_le (by rw [hBl.out]; exact Nat.le_refl _), hAB.out]
            rfl
          have HE := Lib.hid hEnd; clear hEnd
          go_wp2
          all_goals
            simp only [Exit.jump]
            go_ret
            exact ⟨by rw [← HE.out]; rfl, rfl⟩
    · obtain ⟨q, hq⟩ : ∃ q, q = 3000 := ⟨_, rfl⟩
      go_wp2
      rw [← hq, show (3000 : Int) = (q : Int) by omega]
      have hqm : q < m := by omega
      have hq3 : q ≤ 3000 := by omega
      have hq0 : 0 < q := by omega
      clear hq h3
      obtain ⟨R, hR⟩ : ∃ R, R = resS (raw st A) := ⟨_, rfl⟩
      rw [← hR]
      have hb1 : 0 ≤ R.1 ∧ R.1 < 65521 := by rw [hR]; unfold resS; simp only; omega
      have hb2 : 0 ≤ R.2 ∧ R.2 < 65521 := by rw [hR]; unfold resS; simp only; omega
      have HR := Lib.hid hR; clear hR
      have hF : Hid (resS (raw R (B.take q)) = resS (raw st (A ++ B.take q))) := by rw [HR.out, raw_res, raw_append]; exact rfl
      go_loop [5, 6, 25] (fun lo hi t => ∃ k : Nat, k ≤ q ∧ t = .int .i64 k ∧ lo = .int .u32 (raw R (B.take k)).1 ∧ hi = .int .u32 (raw R (B.take k)).2) (fun _ _ t => q - (intOf t).toNat)
      case atStart => exact ⟨0, by omega, rfl, by rw [List.take_zero, raw_nil], by rw [List.take_zero, raw_nil]⟩
      case round =>
        obtain ⟨k, hk, rfl, rfl, rfl⟩ := hrel
        have hbk := raw_bd (B.take k) (isBytes_take hBb k) R hb1 hb2 (by rw [List.length_take]; omega)
        rw [List.length_take, hBl.out, Nat.min_eq_left (by omega)] at hbk
        by_cases hlt : k < q
        · have hkl : k < B.length := by rw [hBl.out]; omega
          obtain ⟨b, o, rfl, hcl⟩ := hS.ints (by omega)
          have c1 := hcl k hkl
          have hx := hBb B[k] (List.getElem_mem hkl)
          have htk : raw R (B.take (k + 1)) = stepS (raw R (B.take k)) B[k] := by rw [List.take_succ_eq_append_getElem hkl, raw_add]
          have HT := Lib.hid htk
          clear htk hcl
          generalize B[k] = x at *
          clear hkl
          generalize raw R (B.take k) = p at *
          obtain ⟨lo, hi⟩ := p
          simp only at hbk ⊢
          obtain ⟨hx0, hx1⟩ := hx; obtain ⟨p1, p2, p3, p4⟩ := hbk
          go_wp2
          go_round
          case rel => exact ⟨k + 1, hlt, by go_num, by rw [HT.out]; rfl, by rw [HT.out]; rfl⟩
          case measure => simp [intOf]; omega
        · have : k = q := by omega
          subst this
          have f1 : (raw R (B.take k)).1 % 65521 = (resS (raw st (A ++ B.take k))).1 := congrArg Prod.fst hF.out
          have f2 : (raw R (B.take k)).2 % 65521 = (resS (raw st (A ++ B.take k))).2 := congrArg Prod.snd hF.out
          go_wp2
          go_step3
          have hBl2 : Hid ((B.drop k).length = m - k) := by rw [List.length_drop, hBl.out]; exact rfl
          have hAB2 : Hid (A ++ B.take k ++ B.drop k = xs) := by rw [List.append_assoc, List.take_append_drop]; exact hAB
          have hS2 : Sl w' (Option.map (fun x => x.add k) ax) (ints .u8 (B.drop k)) := by have := hS.drop k; rwa [ints_drop] at this
          refine ⟨rfl, ⟨rfl, A ++ B.take k, B.drop k, _, m - k, c - k, _, _, _, _, _, _, _, _, _, _, _, _, _, _, _, _, _, _, _, _, _, _, _, _, _, _, _, _, _, _, _, _, _, _, _, _, _, _, _, _, _, _, _, by omega, by omega, by omega, hBl2, isBytes_drop hBb k, hAB2, hS2, rfl⟩, ?_⟩
          simp [lenOf]; omega
end Go.Proofs.Ytfodpphbdbeciaa.Sum
