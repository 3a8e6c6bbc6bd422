/- The walk of the law InodeBack. -/
import Derived.Test.YtdimnnnklhjnfaaLawTakes
import Derived.Test.YtdimnnnklhjnfaaInoIn
namespace Go.Proofs.Ytdimnnnklhjnfaa.Ino
open Go.RowKit Words Mem Plain Ops Base
open Go.ChangeShapes Go.WideShapes
open Go.Proofs.Ytdimnnnklhjnfaa.Field Agg
set_option linter.ambiguousOpen false
set_option linter.unusedVariables false
set_option linter.unusedSimpArgs false

theorem lay_cases (n : Ino) (hw : n.wf) : (n.rightB = true ∧ n.layR = (n.bytes, 0) ∧ Ino.takeR n.bytes = (n, 0)) ∨ (n.rightB = false ∧ n.layR = ([], 1) ∧ Ino.takeR [] = (Ino.zero, 110)) := by
  cases h : n.rightB
  · exact .inr ⟨rfl, Ino.layR_no h, takeR_no (fun e => by cases e.1)⟩
  · exact .inl ⟨rfl, Ino.layR_yes h, Ino.take_bytes hw (Ino.right_of h)⟩
theorem take_cases (xs : List Int) (hb : isBytes xs) : (∃ m, Ino.takeR xs = (m, 0) ∧ m.layR = (xs, 0) ∧ m.wf) ∨ (Ino.takeR xs = (Ino.zero, 110) ∧ True) := by
  by_cases h : Ino.takeP xs
  · exact .inl ⟨_, takeR_yes h, by rw [Ino.layR_yes (Ino.rightB_yes h.2.1), Ino.bytes_take hb h], Ino.ofNums_wf hb h.1⟩
  · exact .inr ⟨takeR_no h, trivial⟩

set_option maxRecDepth 4000 in
set_option maxHeartbeats 8000000 in
theorem walk_InodeBack (n : Ino) (hw : n.wf) (a1 : Option Addr) (len1 cap1 : Nat) (z1 : List Int) (w : World) (w1 : RowIn .u8 w a1 len1 cap1 z1) :
    Calls Try.prog 9 #[n.v, .slice a1 len1 cap1] w fun e w' => e = .returned (.bool true) ∧ Below w.heap.size w w' := by
  obtain ⟨xs, hl, hb, hs, hlc, hc, hnil⟩ := bytesIn w1
  clear w1
  by_cases h200 : 200 < len1
  · obtain ⟨k, r, l, s, d0, d1, d2, d3, d4, d5, d6, d7, i, j⟩ := n
    dsimp only [Ino.v, Ino.cs]
    have X0 := (Ext.refl w).alloc (.cells #[.int .u8 k, .int .u8 r, .int .i64 l, .int .i64 s, .int .i64 d0, .int .i64 d1, .int .i64 d2, .int .i64 d3, .int .i64 d4, .int .i64 d5, .int .i64 d6, .int .i64 d7, .int .i64 i, .int .i64 j] 39)
    go_enter Try.func9, Try.ntmps9
    go_wp2_with fail
    refine (shown_ok _).mono ?_
    rintro e w1 ⟨rfl, hX1⟩
    have h2 : (200 : Int) < len1 := by omega
    go_wp2_with fail
    go_ret
    exact ⟨rfl, X0.trans hX1⟩
  have h2 : ¬ (200 : Int) < len1 := by omega
  have HLB := Lib.hid hl; have HB := Lib.hid hb; have HS := Lib.hid hs; have HPC := Lib.hid (take_cases xs hb)
  have hT := fun (v : World) (hv : Ext w v) => Take_ino a1 len1 cap1 xs v hl (by omega) hb (hs.ext hv) hlc hc
  have HT := Lib.hid hT
  have hL := fun v => Lay_ino n v hw
  have hR := fun v => Right_ok n v
  have heq := neqIno n n
  rw [Ino.eqB_self] at heq
  have hcase := lay_cases n hw
  have hbl := n.bytes_len
  have hbb := n.bytes_isBytes
  have X0 := (Ext.refl w).alloc (.cells n.cs 39)
  have r0 : Row (w.alloc (.cells n.cs 39)) w.heap.size 39 n.cs.toList := Row.new w 39 n.cs.toList
  generalize n.bytes = BB at *
  clear hl hb hs hnil h200 hT
  rcases hcase with ⟨g1, g2, g3⟩ | ⟨g1, g2, g3⟩
  · rw [g1] at hR
    rw [g2] at hL
    have hT2 := fun (v : World) (a : Option Addr) (cap : Nat) (h : Sl v a (ints .u8 BB)) (h1 : 32 ≤ cap) (h2 : cap ≤ 9223372036854775807) => Take_ino a 32 cap BB v hbl (by decide) hbb h h1 h2
    rw [g3] at hT2
    clear g1 g2 g3
    obtain ⟨k, r, l, s, d0, d1, d2, d3, d4, d5, d6, d7, i, j⟩ := n
    dsimp only [GaveI, Ino.v, Ino.cs] at *
    have HR := Lib.hid hR; have HL := Lib.hid hL; have HT2 := Lib.hid hT2; have HBL := Lib.hid hbl; have HR0 := Lib.hid r0
    clear hR hL hT2 hbl hw r0
    go_enter Try.func9, Try.ntmps9
    go_wp2_with fail
    refine (shown_ok _).mono ?_
    rintro e w1 ⟨rfl, hX1⟩
    have X1 := X0.trans hX1
    have R1 := Lib.hid (HR0.out.ext hX1)
    obtain ⟨p0, p1, p2, p3, p4, p5, p6, p7, p8, p9, p10, p11, p12, p13⟩ := Ino.rowCells (n := ⟨k, r, l, s, d0, d1, d2, d3, d4, d5, d6, d7, i, j⟩) R1.out
    dsimp only at p0 p1 p2 p3 p4 p5 p6 p7 p8 p9 p10 p11 p12 p13
    clear hX1 HR0
    go_wp2_with fail
    refine (HL.out _).mono ?_
    rintro e w2 ⟨a2, c2, rfl, ho2, hX2⟩
    dsimp only at ho2 ⊢
    rw [HBL.out] at ho2 ⊢
    have k2 := own_cap ho2
    have X2 := X1.trans hX2
    have R2 := Lib.hid (R1.out.ext hX2)
    have s2 := ownsRow_sl ho2
    clear p0 p1 p2 p3 p4 p5 p6 p7 p8 p9 p10 p11 p12 p13 hX2 R1 X1
    go_wp2_with fail
    refine (HT2.out _ _ _ s2 k2.1 k2.2).mono ?_
    rintro e w3 ⟨rfl, hX3⟩
    have X3 := X2.trans hX3
    have X4 := X3.alloc (.cells #[.int .u8 k, .int .u8 r, .int .i64 l, .int .i64 s, .int .i64 d0, .int .i64 d1, .int .i64 d2, .int .i64 d3, .int .i64 d4, .int .i64 d5, .int .i64 d6, .int .i64 d7, .int .i64 i, .int .i64 j] 39)
    have r4 : Row (w3.alloc (.cells #[.int .u8 k, .int .u8 r, .int .i64 l, .int .i64 s, .int .i64 d0, .int .i64 d1, .int .i64 d2, .int .i64 d3, .int .i64 d4, .int .i64 d5, .int .i64 d6, .int .i64 d7, .int .i64 i, .int .i64 j] 39)) w3.heap.size 39 (#[.int .u8 k, .int .u8 r, .int .i64 l, .int .i64 s, .int .i64 d0, .int .i64 d1, .int .i64 d2, .int .i64 d3, .int .i64 d4, .int .i64 d5, .int .i64 d6, .int .i64 d7, .int .i64 i, .int .i64 j] : Array Value).toList := Row.new w3 39 (#[.int .u8 k, .int .u8 r, .int .i64 l, .int .i64 s, .int .i64 d0, .int .i64 d1, .int .i64 d2, .int .i64 d3, .int .i64 d4, .int .i64 d5, .int .i64 d6, .int .i64 d7, .int .i64 i, .int .i64 j] : Array Value).toList
    have R4 := (R2.out.ext hX3).alloc (.cells #[.int .u8 k, .int .u8 r, .int .i64 l, .int .i64 s, .int .i64 d0, .int .i64 d1, .int .i64 d2, .int .i64 d3, .int .i64 d4, .int .i64 d5, .int .i64 d6, .int .i64 d7, .int .i64 i, .int .i64 j] 39)
    obtain ⟨p0, p1, p2, p3, p4, p5, p6, p7, p8, p9, p10, p11, p12, p13⟩ := Ino.rowCells (n := ⟨k, r, l, s, d0, d1, d2, d3, d4, d5, d6, d7, i, j⟩) R4
    dsimp only at p0 p1 p2 p3 p4 p5 p6 p7 p8 p9 p10 p11 p12 p13
    have RR4 := Lib.hid R4; have Rr4 := Lib.hid r4
    clear s2 ho2 hX3 X3 X2 R2 R4 r4
    go_wp2_with fail
    obtain ⟨g4, hg4⟩ : ∃ g, g = w3.heap.size := ⟨_, rfl⟩
    rw [← hg4] at Rr4 ⊢
    clear hg4
    generalize w3.alloc (.cells #[.int .u8 k, .int .u8 r, .int .i64 l, .int .i64 s, .int .i64 d0, .int .i64 d1, .int .i64 d2, .int .i64 d3, .int .i64 d4, .int .i64 d5, .int .i64 d6, .int .i64 d7, .int .i64 i, .int .i64 j] 39) = w4 at *
    refine (HR.out _).mono ?_
    rintro e wq ⟨rfl, hXq⟩
    have XQ := X4.trans hXq
    clear p0 p1 p2 p3 p4 p5 p6 p7 p8 p9 p10 p11 p12 p13
    obtain ⟨p0, p1, p2, p3, p4, p5, p6, p7, p8, p9, p10, p11, p12, p13⟩ := Ino.rowCells (n := ⟨k, r, l, s, d0, d1, d2, d3, d4, d5, d6, d7, i, j⟩) (RR4.out.ext hXq)
    obtain ⟨q0, q1, q2, q3, q4, q5, q6, q7, q8, q9, q10, q11, q12, q13⟩ := Ino.rowCells (n := ⟨k, r, l, s, d0, d1, d2, d3, d4, d5, d6, d7, i, j⟩) (Rr4.out.ext hXq)
    dsimp only at p0 p1 p2 p3 p4 p5 p6 p7 p8 p9 p10 p11 p12 p13 q0 q1 q2 q3 q4 q5 q6 q7 q8 q9 q10 q11 q12 q13
    clear RR4 Rr4 X4 X0 hXq HR HT2 HL
    go_wp2_with fail
    clear p0 p1 p2 p3 p4 p5 p6 p7 p8 p9 p10 p11 p12 p13 q0 q1 q2 q3 q4 q5 q6 q7 q8 q9 q10 q11 q12 q13 heq

    refine (HT.out _ XQ).mono ?_
    rintro e w5 ⟨rfl, hX5⟩
    dsimp only
    have X5 := XQ.trans hX5
    clear hX5 XQ
    rcases HPC.out with ⟨m, f1, f2, f3⟩ | ⟨f1, f2⟩
    · obtain ⟨k', r', l', s', d0', d1', d2', d3', d4', d5', d6', d7', i', j'⟩ := m
      rw [f1]
      have hl2 := fun v => Lay_ino ⟨k', r', l', s', d0', d1', d2', d3', d4', d5', d6', d7', i', j'⟩ v f3
      rw [f2] at hl2
      dsimp only [Ino.v, Ino.cs] at hl2 ⊢
      have HL2 := Lib.hid hl2
      have X6 := X5.alloc (.cells #[.int .u8 k', .int .u8 r', .int .i64 l', .int .i64 s', .int .i64 d0', .int .i64 d1', .int .i64 d2', .int .i64 d3', .int .i64 d4', .int .i64 d5', .int .i64 d6', .int .i64 d7', .int .i64 i', .int .i64 j'] 39)
      clear hl2 f1 f2 f3 HPC X5
      go_wp2_with fail
      generalize w5.alloc (.cells #[.int .u8 k', .int .u8 r', .int .i64 l', .int .i64 s', .int .i64 d0', .int .i64 d1', .int .i64 d2', .int .i64 d3', .int .i64 d4', .int .i64 d5', .int .i64 d6', .int .i64 d7', .int .i64 i', .int .i64 j'] 39) = w6 at *
      refine (HL2.out _).mono ?_
      rintro e w7 ⟨a7, c7, rfl, ho7, hX7⟩
      dsimp only at ho7 ⊢
      rw [HLB.out] at ho7 ⊢
      have X7 := X6.trans hX7
      have e1 := run_conv_str (P := Try.prog) w7 33 9 5 Try.underlying33 Try.underlying5 Try.underlying9  c7 (ownsRow_sl ho7) HLB.out
      have e2 := run_conv_str (P := Try.prog) w7 33 9 5 Try.underlying33 Try.underlying5 Try.underlying9  cap1 (HS.out.ext X7) HLB.out
      clear ho7 hX7 X6
      go_wp2_with fail
      go_ret
      exact ⟨rfl, X7⟩
    · rw [f1]
      have hl2 := fun v => Lay_ino Ino.zero v (by unfold Ino.wf Ino.zero; dsimp only; omega)
      have X6 := X5.alloc (.cells #[.int .u8 0, .int .u8 0, .int .i64 0, .int .i64 0, .int .i64 0, .int .i64 0, .int .i64 0, .int .i64 0, .int .i64 0, .int .i64 0, .int .i64 0, .int .i64 0, .int .i64 0, .int .i64 0] 39)
      have r6 := Row.new w5 39 (#[.int .u8 0, .int .u8 0, .int .i64 0, .int .i64 0, .int .i64 0, .int .i64 0, .int .i64 0, .int .i64 0, .int .i64 0, .int .i64 0, .int .i64 0, .int .i64 0, .int .i64 0, .int .i64 0] : Array Value).toList
      have heq := eqlIno Ino.zero Ino.zero
      rw [Ino.eqB_self] at heq
      dsimp only [Ino.v, Ino.cs, Ino.zero] at hl2 heq ⊢
      have HL2 := Lib.hid hl2
      obtain ⟨g6, hg6⟩ : ∃ g, g = w5.heap.size := ⟨_, rfl⟩
      clear hl2 f1 f2 HPC X5
      go_wp2_with fail
      rw [← hg6] at r6 ⊢
      clear hg6
      have HR6 := Lib.hid r6
      clear r6
      have r6 := HR6.out
      clear HR6
      replace r6 : Row (w5.alloc (.cells #[.int .u8 0, .int .u8 0, .int .i64 0, .int .i64 0, .int .i64 0, .int .i64 0, .int .i64 0, .int .i64 0, .int .i64 0, .int .i64 0, .int .i64 0, .int .i64 0, .int .i64 0, .int .i64 0] 39)) g6 39 (#[.int .u8 0, .int .u8 0, .int .i64 0, .int .i64 0, .int .i64 0, .int .i64 0, .int .i64 0, .int .i64 0, .int .i64 0, .int .i64 0, .int .i64 0, .int .i64 0, .int .i64 0, .int .i64 0] : Array Value).toList := r6
      generalize w5.alloc (.cells #[.int .u8 0, .int .u8 0, .int .i64 0, .int .i64 0, .int .i64 0, .int .i64 0, .int .i64 0, .int .i64 0, .int .i64 0, .int .i64 0, .int .i64 0, .int .i64 0, .int .i64 0, .int .i64 0] 39) = w6 at *
      refine (HL2.out _).mono ?_
      rintro e w7 ⟨a7, c7, rfl, ho7, hX7⟩
      dsimp only at ho7 ⊢
      have X7 := X6.trans hX7
      obtain ⟨q0, q1, q2, q3, q4, q5, q6, q7, q8, q9, q10, q11, q12, q13⟩ := Ino.rowCells (n := Ino.zero) (r6.ext hX7)
      dsimp only [Ino.zero] at q0 q1 q2 q3 q4 q5 q6 q7 q8 q9 q10 q11 q12 q13
      clear ho7 hX7 X6 r6
      generalize (Ino.layR _) = LL at *
      go_wp2_with fail
      go_ret
      exact ⟨rfl, X7⟩
  · rw [g1] at hR
    rw [g2] at hL
    have hT2 := fun (v : World) (a : Option Addr) (cap : Nat) (h2 : cap ≤ 9223372036854775807) => Take_ino a 0 cap [] v rfl (by decide) isBytes_nil (Sl.nil _ _) (Nat.zero_le _) h2
    rw [g3] at hT2
    clear g1 g2 g3 heq
    obtain ⟨k, r, l, s, d0, d1, d2, d3, d4, d5, d6, d7, i, j⟩ := n
    dsimp only [GaveI, Ino.v, Ino.cs, Ino.zero] at hR hL hT2 X0 r0 ⊢
    have HR := Lib.hid hR; have HL := Lib.hid hL; have HT2 := Lib.hid hT2; have HBL := Lib.hid hbl; have HR0 := Lib.hid r0
    clear hR hL hT2 hbl hw r0
    go_enter Try.func9, Try.ntmps9
    go_wp2_with fail
    refine (shown_ok _).mono ?_
    rintro e w1 ⟨rfl, hX1⟩
    have X1 := X0.trans hX1
    have R1 := Lib.hid (HR0.out.ext hX1)
    obtain ⟨p0, p1, p2, p3, p4, p5, p6, p7, p8, p9, p10, p11, p12, p13⟩ := Ino.rowCells (n := ⟨k, r, l, s, d0, d1, d2, d3, d4, d5, d6, d7, i, j⟩) R1.out
    dsimp only at p0 p1 p2 p3 p4 p5 p6 p7 p8 p9 p10 p11 p12 p13
    clear hX1 HR0
    go_wp2_with fail
    refine (HL.out _).mono ?_
    rintro e w2 ⟨a2, c2, rfl, ho2, hX2⟩
    dsimp only at ho2 ⊢
    have k2 := own_cap ho2
    have X2 := X1.trans hX2
    have R2 := Lib.hid (R1.out.ext hX2)
    clear p0 p1 p2 p3 p4 p5 p6 p7 p8 p9 p10 p11 p12 p13 hX2 R1 X1 ho2
    go_wp2_with fail
    refine (HT2.out _ _ _ k2.2).mono ?_
    rintro e w3 ⟨rfl, hX3⟩
    have X3 := X2.trans hX3
    have X4 := X3.alloc (.cells #[.int .u8 0, .int .u8 0, .int .i64 0, .int .i64 0, .int .i64 0, .int .i64 0, .int .i64 0, .int .i64 0, .int .i64 0, .int .i64 0, .int .i64 0, .int .i64 0, .int .i64 0, .int .i64 0] 39)
    have R4 := (R2.out.ext hX3).alloc (.cells #[.int .u8 0, .int .u8 0, .int .i64 0, .int .i64 0, .int .i64 0, .int .i64 0, .int .i64 0, .int .i64 0, .int .i64 0, .int .i64 0, .int .i64 0, .int .i64 0, .int .i64 0, .int .i64 0] 39)
    obtain ⟨p0, p1, p2, p3, p4, p5, p6, p7, p8, p9, p10, p11, p12, p13⟩ := Ino.rowCells (n := ⟨k, r, l, s, d0, d1, d2, d3, d4, d5, d6, d7, i, j⟩) R4
    dsimp only at p0 p1 p2 p3 p4 p5 p6 p7 p8 p9 p10 p11 p12 p13
    have RR4 := Lib.hid R4
    clear hX3 X3 X2 R2 R4
    go_wp2_with fail
    obtain ⟨g4, hg4⟩ : ∃ g, g = w3.heap.size := ⟨_, rfl⟩
    rw [← hg4]
    clear hg4
    generalize w3.alloc (.cells #[.int .u8 0, .int .u8 0, .int .i64 0, .int .i64 0, .int .i64 0, .int .i64 0, .int .i64 0, .int .i64 0, .int .i64 0, .int .i64 0, .int .i64 0, .int .i64 0, .int .i64 0, .int .i64 0] 39) = w4 at *
    refine (HR.out _).mono ?_
    rintro e wq ⟨rfl, hXq⟩
    have XQ := X4.trans hXq
    clear p0 p1 p2 p3 p4 p5 p6 p7 p8 p9 p10 p11 p12 p13
    clear RR4 X4 X0 hXq HR HT2 HL
    go_wp2_with fail

    refine (HT.out _ XQ).mono ?_
    rintro e w5 ⟨rfl, hX5⟩
    dsimp only
    have X5 := XQ.trans hX5
    clear hX5 XQ
    rcases HPC.out with ⟨m, f1, f2, f3⟩ | ⟨f1, f2⟩
    · obtain ⟨k', r', l', s', d0', d1', d2', d3', d4', d5', d6', d7', i', j'⟩ := m
      rw [f1]
      have hl2 := fun v => Lay_ino ⟨k', r', l', s', d0', d1', d2', d3', d4', d5', d6', d7', i', j'⟩ v f3
      rw [f2] at hl2
      dsimp only [Ino.v, Ino.cs] at hl2 ⊢
      have HL2 := Lib.hid hl2
      have X6 := X5.alloc (.cells #[.int .u8 k', .int .u8 r', .int .i64 l', .int .i64 s', .int .i64 d0', .int .i64 d1', .int .i64 d2', .int .i64 d3', .int .i64 d4', .int .i64 d5', .int .i64 d6', .int .i64 d7', .int .i64 i', .int .i64 j'] 39)
      clear hl2 f1 f2 f3 HPC X5
      go_wp2_with fail
      generalize w5.alloc (.cells #[.int .u8 k', .int .u8 r', .int .i64 l', .int .i64 s', .int .i64 d0', .int .i64 d1', .int .i64 d2', .int .i64 d3', .int .i64 d4', .int .i64 d5', .int .i64 d6', .int .i64 d7', .int .i64 i', .int .i64 j'] 39) = w6 at *
      refine (HL2.out _).mono ?_
      rintro e w7 ⟨a7, c7, rfl, ho7, hX7⟩
      dsimp only at ho7 ⊢
      rw [HLB.out] at ho7 ⊢
      have X7 := X6.trans hX7
      have e1 := run_conv_str (P := Try.prog) w7 33 9 5 Try.underlying33 Try.underlying5 Try.underlying9  c7 (ownsRow_sl ho7) HLB.out
      have e2 := run_conv_str (P := Try.prog) w7 33 9 5 Try.underlying33 Try.underlying5 Try.underlying9  cap1 (HS.out.ext X7) HLB.out
      clear ho7 hX7 X6
      go_wp2_with fail
      go_ret
      exact ⟨rfl, X7⟩
    · rw [f1]
      have hl2 := fun v => Lay_ino Ino.zero v (by unfold Ino.wf Ino.zero; dsimp only; omega)
      have X6 := X5.alloc (.cells #[.int .u8 0, .int .u8 0, .int .i64 0, .int .i64 0, .int .i64 0, .int .i64 0, .int .i64 0, .int .i64 0, .int .i64 0, .int .i64 0, .int .i64 0, .int .i64 0, .int .i64 0, .int .i64 0] 39)
      have r6 := Row.new w5 39 (#[.int .u8 0, .int .u8 0, .int .i64 0, .int .i64 0, .int .i64 0, .int .i64 0, .int .i64 0, .int .i64 0, .int .i64 0, .int .i64 0, .int .i64 0, .int .i64 0, .int .i64 0, .int .i64 0] : Array Value).toList
      have heq := eqlIno Ino.zero Ino.zero
      rw [Ino.eqB_self] at heq
      dsimp only [Ino.v, Ino.cs, Ino.zero] at hl2 heq ⊢
      have HL2 := Lib.hid hl2
      obtain ⟨g6, hg6⟩ : ∃ g, g = w5.heap.size := ⟨_, rfl⟩
      clear hl2 f1 f2 HPC X5
      go_wp2_with fail
      rw [← hg6] at r6 ⊢
      clear hg6
      have HR6 := Lib.hid r6
      clear r6
      have r6 := HR6.out
      clear HR6
      replace r6 : Row (w5.alloc (.cells #[.int .u8 0, .int .u8 0, .int .i64 0, .int .i64 0, .int .i64 0, .int .i64 0, .int .i64 0, .int .i64 0, .int .i64 0, .int .i64 0, .int .i64 0, .int .i64 0, .int .i64 0, .int .i64 0] 39)) g6 39 (#[.int .u8 0, .int .u8 0, .int .i64 0, .int .i64 0, .int .i64 0, .int .i64 0, .int .i64 0, .int .i64 0, .int .i64 0, .int .i64 0, .int .i64 0, .int .i64 0, .int .i64 0, .int .i64 0] : Array Value).toList := r6
      generalize w5.alloc (.cells #[.int .u8 0, .int .u8 0, .int .i64 0, .int .i64 0, .int .i64 0, .int .i64 0, .int .i64 0, .int .i64 0, .int .i64 0, .int .i64 0, .int .i64 0, .int .i64 0, .int .i64 0, .int .i64 0] 39) = w6 at *
      refine (HL2.out _).mono ?_
      rintro e w7 ⟨a7, c7, rfl, ho7, hX7⟩
      dsimp only at ho7 ⊢
      have X7 := X6.trans hX7
      obtain ⟨q0, q1, q2, q3, q4, q5, q6, q7, q8, q9, q10, q11, q12, q13⟩ := Ino.rowCells (n := Ino.zero) (r6.ext hX7)
      dsimp only [Ino.zero] at q0 q1 q2 q3 q4 q5 q6 q7 q8 q9 q10 q11 q12 q13
      clear ho7 hX7 X6 r6
      generalize (Ino.layR _) = LL at *
      go_wp2_with fail
      go_ret
      exact ⟨rfl, X7⟩

theorem law_InodeBack {H : Type} {enc : TypeId × Value → H} {base : Nat} {d d1 : DataW H} {p p1 : List MemPlace} (v v1 : Value) (w : World) (ho : Value.okWide Try.prog w .any base 39 v) (h : DataW.Trod enc Try.prog w 0 (fun _ => true) true 39 v d p)
    (ho1 : Value.okWide Try.prog w .any base 33 v1) (h1 : DataW.Trod enc Try.prog w 0 (fun _ => true) true 33 v1 d1 p1) :
    Calls Try.prog 9 #[v, v1] w fun e w' => e = .returned (.bool true) ∧ Below w.heap.size w w' := by
  obtain ⟨n, rfl, hw⟩ := ino_in ho
  obtain ⟨a1, len1, cap1, rfl⟩ := okWide_slice Try.underlying33 ho1
  obtain ⟨z1, w1⟩ : ∃ zs, RowIn .u8 w a1 len1 cap1 zs := by
    obtain ⟨fuel, hf⟩ := h1
    rcases open_ints Try.underlying33 Try.underlying5 (by kernel_rfl) hf with ⟨hcs, _⟩ | ⟨x, l, c, zs, hcs, _, hl, hm, hz, _, hcell, hwz⟩
    · simp [Value.cells] at hcs
      obtain ⟨rfl, rfl, rfl⟩ := hcs
      exact ⟨[], .inl ⟨rfl, rfl, rfl, rfl⟩⟩
    · simp [Value.cells] at hcs
      obtain ⟨rfl, rfl, rfl⟩ := hcs
      exact ⟨zs, .inr ⟨_, rfl, hl, hm, by simpa using hz, hcell, hwz⟩⟩
  exact walk_InodeBack n hw a1 len1 cap1 z1 w w1
end Go.Proofs.Ytdimnnnklhjnfaa.Ino
