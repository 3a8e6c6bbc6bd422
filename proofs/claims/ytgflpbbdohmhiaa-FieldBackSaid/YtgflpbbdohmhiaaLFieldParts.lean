/- The walk of the law FieldParts. -/
import Derived.Test.YtgflpbbdohmhiaaLFieldLays
import Derived.BigQuiet
import Derived.Deep.QuietTactic
import Derived.RegionTactic
namespace Go.Proofs.Ytgflpbbdohmhiaa.Field
open Go.RowKit Words Mem Plain Ops
set_option linter.unusedVariables false
set_option linter.unusedSimpArgs false

theorem layed_append (s : Nat) (A B : List Int) : layed s (A ++ B) = layed s A ++ layed s B := by simp [layed]
theorem okLay_append {s : Nat} {A B : List Int} (h : okLay s (A ++ B) = true) : okLay s A = true ∧ okLay s B = true := by
  obtain ⟨h1, h2⟩ := okLay_true h
  rw [List.length_append, Nat.mul_add] at h1
  exact ⟨okLay_of rfl (by omega) fun x hx => h2 x (List.mem_append_left _ hx), okLay_of rfl (by omega) fun x hx => h2 x (List.mem_append_right _ hx)⟩
theorem okLay_both {s : Nat} {A B : List Int} (h8 : s ≤ 8) (hA : A.length ≤ 200) (hB : B.length ≤ 200) (h1 : okLay s A = true) (h2 : okLay s B = true) : okLay s (A ++ B) = true := by
  refine okLay_of rfl ?_ fun x hx => ?_
  · rw [List.length_append]
    have : s * (A.length + B.length) ≤ 8 * 400 := Nat.mul_le_mul h8 (by omega)
    omega
  · rcases List.mem_append.1 hx with h | h
    · exact (okLay_true h1).2 x h
    · exact (okLay_true h2).2 x h
theorem layR_code (s : Int) (l : List Int) : (layR s l).2 = 0 ↔ (1 ≤ s ∧ s ≤ 8 ∧ okLay s.toNat l = true) := by
  unfold layR
  by_cases h : s < 1 ∨ 8 < s
  · rw [if_pos h]; simp; omega
  · rw [if_neg h]
    by_cases h4 : okLay s.toNat l = true
    · rw [if_pos h4]; simp [h4]; omega
    · rw [if_neg h4]; simp [h4]
theorem layR_val {s : Int} {l : List Int} (h : (layR s l).2 = 0) : layR s l = (layed s.toNat l, 0) := by
  obtain ⟨h1, h2, h3⟩ := (layR_code s l).1 h
  unfold layR
  rw [if_neg (by omega), if_pos h3]
theorem layR_len (s : Int) (l : List Int) : (layR s l).1.length ≤ 4096 := by
  unfold layR
  by_cases h : s < 1 ∨ 8 < s
  · rw [if_pos h]; simp
  · rw [if_neg h]
    by_cases h4 : okLay s.toNat l = true
    · rw [if_pos h4]; simp only [length_layed]; exact (okLay_true h4).1
    · rw [if_neg h4]; simp
theorem parts_no {s : Int} {A B : List Int} (h : (layR s A).2 ≠ 0 ∨ (layR s B).2 ≠ 0) : (layR s (A ++ B)).2 ≠ 0 := by
  intro e
  obtain ⟨h1, h2, h3⟩ := (layR_code _ _).1 e
  obtain ⟨h4, h5⟩ := okLay_append h3
  rcases h with h | h
  · exact h ((layR_code _ _).2 ⟨h1, h2, h4⟩)
  · exact h ((layR_code _ _).2 ⟨h1, h2, h5⟩)
theorem parts_yes {s : Int} {A B : List Int} (hA : A.length ≤ 200) (hB : B.length ≤ 200) (h : (layR s A).2 = 0) (h' : (layR s B).2 = 0) : layR s (A ++ B) = ((layR s A).1 ++ (layR s B).1, 0) := by
  obtain ⟨h1, h2, h3⟩ := (layR_code _ _).1 h
  obtain ⟨_, _, h4⟩ := (layR_code _ _).1 h'
  have h5 := okLay_both (by omega) hA hB h3 h4
  rw [layR_val ((layR_code _ _).2 ⟨h1, h2, h5⟩), layR_val h, layR_val h', layed_append]

theorem few200 (l : List Int) (len n : Nat) (hl : l.length = len) (hn : n = min len 200) : (l.take 200).length = n := by rw [List.length_take]; omega

set_option maxHeartbeats 800000 in
theorem walk_FieldParts (a0 : Int) (a1 : Option Addr) (len1 cap1 : Nat) (z1 : List Int) (a2 : Option Addr) (len2 cap2 : Nat) (z2 : List Int) (w : World) (w0 : (Lit.int .i64 a0).wf = true) (w1 : RowIn .u64 w a1 len1 cap1 z1) (w2 : RowIn .u64 w a2 len2 cap2 z2) :
    Calls Try.prog 6 #[.int .i64 a0, .slice a1 len1 cap1, .slice a2 len2 cap2] w fun e w' => e = .returned (.bool true) ∧ Below w.heap.size w w' := by
  obtain ⟨l, hl, hu, hs, hlc, hc, hnil⟩ := u64sIn w1
  obtain ⟨m, km, ku, ks, klc, kc, knil⟩ := u64sIn w2
  clear w0 w1 w2
  have hs' := hs.take 200
  rw [ints_take] at hs'
  have ks' := ks.take 200
  rw [ints_take] at ks'
  have hu' : ∀ x ∈ l.take 200, 0 ≤ x ∧ x < 18446744073709551616 := fun x hx => hu x (List.mem_of_mem_take hx)
  have ku' : ∀ x ∈ m.take 200, 0 ≤ x ∧ x < 18446744073709551616 := fun x hx => ku x (List.mem_of_mem_take hx)
  obtain ⟨n, hn⟩ : ∃ n, n = min len1 200 := ⟨_, rfl⟩
  obtain ⟨q, hq⟩ : ∃ q, q = min len2 200 := ⟨_, rfl⟩
  have hl' := few200 l len1 n hl hn
  have km' := few200 m len2 q km hq
  have hmin : (if (200 : Int) < (len1 : Int) then 200 else (len1 : Int)) = n := by split <;> omega
  have kmin : (if (200 : Int) < (len2 : Int) then 200 else (len2 : Int)) = q := by split <;> omega
  have hnc : n ≤ cap1 := by omega
  have kqc : q ≤ cap2 := by omega
  have hn2 : n ≤ 200 := by omega
  have kq2 : q ≤ 200 := by omega
  have hnil' : a1 = none → n = 0 ∧ cap1 = 0 := fun e => by have := hnil e; omega
  have knil' : a2 = none → q = 0 ∧ cap2 = 0 := fun e => by have := knil e; omega
  have hsl : ∀ v : World, (Instr.slice 32 (.slice a1 len1 cap1) none (some (.int .i64 n)) none).run Try.prog v = .ok (.slice a1 n cap1) v := fun v => run_slice_upto v _ _ Try.underlying32 size64 a1 len1 cap1 n _ _ rfl hnc
  have ksl : ∀ v : World, (Instr.slice 32 (.slice a2 len2 cap2) none (some (.int .i64 q)) none).run Try.prog v = .ok (.slice a2 q cap2) v := fun v => run_slice_upto v _ _ Try.underlying32 size64 a2 len2 cap2 q _ _ rfl kqc
  generalize l.take 200 = X at *
  generalize m.take 200 = Y at *
  clear hn hq hs hu hl ks ku km hnil knil hlc klc
  have HN := Lib.hid hnil'; have KN := Lib.hid knil'; have HL := Lib.hid hl'; have KL := Lib.hid km'
  clear hnil' knil' hl' km'
  go_enter Try.func6, Try.ntmps6
  go_wp2_with fail
  refine (shown_ok w).mono ?_
  rintro e w1 ⟨rfl, hX1⟩
  go_wp2_with fail
  go_quiet (fail)
  rename_i nq
  clear hmin kmin hsl ksl
  have hXq := hX1.drewN nq
  generalize w1.drewN nq = wq at *
  go_wp2_with fail
  refine (Lay_gave a1 n cap1 X wq a0 HL.out (by omega) (hs'.ext hXq) hu').mono ?_
  rintro e w2 ⟨a4, c4, rfl, ho4, hX2⟩
  go_wp2_with fail
  have XX2 := hXq.trans hX2
  refine (Lay_gave a2 q cap2 Y w2 a0 KL.out (by omega) (ks'.ext XX2) ku').mono ?_
  rintro e w3 ⟨a5, c5, rfl, ho5, hX3⟩
  have XX3 := XX2.trans hX3
  have ho4' := ownsRow_ext ho4 hX3
  have r0 := Row.new w3 23 []
  have o0 := ownsRow_of (base := w3.heap.size) (n := 0) r0 (Nat.le_refl _) rfl (by decide)
  have XA := (Ext.refl w3).alloc (.cells (List.toArray []) 23)
  have hsA := (hs'.ext XX3).ext XA
  obtain ⟨a6, c6, w6, hrun6, hown6, hext6⟩ := run_append_sl (P := Try.prog) _ w3.heap.size 32 32 23 (.int .u64 0) 8 Try.underlying32 info64 rfl o0 (m := n) cap1 (by rw [ints_length]; exact HL.out) hsA HN.out (ints_oneCell' _ _) (by omega) (by omega) XA.size
  have X6 := hext6 w3 XA (Nat.le_refl _)
  rw [List.nil_append, Nat.zero_add] at hown6
  rw [Nat.zero_add] at hrun6
  obtain ⟨a7, c7, w7, hrun7, hown7, hext7⟩ := run_append_sl (P := Try.prog) w6 w3.heap.size 32 32 23 (.int .u64 0) 8 Try.underlying32 info64 rfl hown6 (m := q) cap2 (by rw [ints_length]; exact KL.out) ((ks'.ext XX3).ext X6) KN.out (ints_oneCell' _ _) (by omega) (by omega) X6.size
  have X7 := hext7 w3 X6 (Nat.le_refl _)
  rw [← ints_append] at hown7
  have hl7 : (X ++ Y).length = n + q := by rw [List.length_append, HL.out, KL.out]
  have hu7 : ∀ x ∈ X ++ Y, 0 ≤ x ∧ x < 18446744073709551616 := fun x hx => by
    rcases List.mem_append.1 hx with h | h
    · exact hu' x h
    · exact ku' x h
  have LG := Lay_gave a7 (n + q) c7 (X ++ Y) w7 a0 hl7 (by omega) (ownsRow_sl hown7) hu7
  have HG := Lib.hid LG
  have F1 := Lib.hid (@parts_no a0 X Y)
  have F3 := Lib.hid (layR_len a0 X); have F4 := Lib.hid (layR_len a0 Y)
  have F2 := Lib.hid (@parts_yes a0 X Y (by rw [HL.out]; exact hn2) (by rw [KL.out]; exact kq2))
  clear LG hl7 hu7 hown7 hown6 hext6 hext7 o0 r0 hsA XA hs' ks' hu' ku' ho4
  generalize layR a0 X = R1 at *
  generalize layR a0 Y = R2 at *
  generalize layR a0 (X ++ Y) = R3 at *
  have tok : True := trivial
  go_wp2_with (first | (have _t := tok; at_builtin; refine Lib.wpList_append_run _ rfl _ _ _ _ rfl _ _ rfl rfl _ _ hrun6 ?_; clear tok _t) | (at_builtin; refine Lib.wpList_append_run _ rfl _ _ _ _ rfl _ _ rfl rfl _ _ hrun7 ?_))
  refine HG.out.mono ?_
  rintro e w8 ⟨a8, c8, rfl, ho8, hX8⟩
  have XX8 := (XX3.trans X7).trans hX8
  have ho4'' := ownsRow_ext ho4' (X7.trans hX8)
  have ho5'' := ownsRow_ext ho5 (X7.trans hX8)
  have e1 := run_conv_str (P := Try.prog) w8 22 9 5 Try.underlying22 Try.underlying5 Try.underlying9 c4 (ownsRow_sl ho4'') rfl
  have e2 := run_conv_str (P := Try.prog) w8 22 9 5 Try.underlying22 Try.underlying5 Try.underlying9 c5 (ownsRow_sl ho5'') rfl
  have e3 := run_conv_str (P := Try.prog) w8 22 9 5 Try.underlying22 Try.underlying5 Try.underlying9 c8 (ownsRow_sl ho8) rfl
  clear ho4' ho5 ho8 ho4'' ho5'' hrun6 hrun7 X7 hX8 XX3 XX2 hX3 hX2 hXq X6
  obtain ⟨L1, v1⟩ := R1
  obtain ⟨L2, v2⟩ := R2
  obtain ⟨L3, v3⟩ := R3
  dsimp only at e1 e2 e3 F1 F2 F3 F4 ⊢
  by_cases g1 : v1 = 0
  · by_cases g2 : v2 = 0
    · have hh := F2.out g1 g2
      simp only [Prod.mk.injEq] at hh
      obtain ⟨rfl, rfl⟩ := hh
      subst g1 g2
      have hq3 : ((strOf (L1 ++ L2)).toList == (strOf L1 ++ strOf L2).toList) = true := by rw [strOf_append]; simp
      clear F1 F2
      rw [List.length_append] at e3
      have hsz : ¬ (9223372036854775807 < (strOf L1).size + (strOf L2).size) := by rw [strOf_size, strOf_size]; have := F3.out; have := F4.out; omega
      go_wp2
      go_ret
      exact ⟨rfl, XX8⟩
    · have k3 : (v3 != 0) = true := by simpa using F1.out (.inr g2)
      have k2 : (v2 != 0) = true := by simpa using g2
      subst g1
      clear F1 F2 g2
      go_wp2
      go_ret
      exact ⟨rfl, XX8⟩
  · have k3 : (v3 != 0) = true := by simpa using F1.out (.inl g1)
    have k1 : (v1 != 0) = true := by simpa using g1
    clear F1 F2 g1
    go_wp2
    go_ret
    exact ⟨rfl, XX8⟩
end Go.Proofs.Ytgflpbbdohmhiaa.Field
