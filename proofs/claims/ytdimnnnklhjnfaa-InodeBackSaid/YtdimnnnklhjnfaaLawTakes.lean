/- The walk of the law InodeTakes. -/
import Derived.Test.YtdimnnnklhjnfaaITakeR
import Derived.Test.YtdimnnnklhjnfaaLawBlocks
namespace Go.Proofs.Ytdimnnnklhjnfaa.Ino
open Go.RowKit Words Mem Plain Ops Base
open Go.Proofs.Ytdimnnnklhjnfaa.Field Agg
set_option linter.ambiguousOpen false
set_option linter.unusedVariables false
set_option linter.unusedSimpArgs false

set_option maxRecDepth 4000 in
set_option maxHeartbeats 4000000 in
theorem walk_InodeTakes (a0 : Option Addr) (len0 cap0 : Nat) (z0 : List Int) (w : World) (w0 : RowIn .u8 w a0 len0 cap0 z0) :
    Calls Try.prog 8 #[.slice a0 len0 cap0] w fun e w' => e = .returned (.bool true) ∧ Below w.heap.size w w' := by
  obtain ⟨l, hl, hb, hs, hlc, hc, hnil⟩ := bytesIn w0
  clear w0
  by_cases h200 : 200 < len0
  · go_enter Try.func8, Try.ntmps8
    go_wp2_with fail
    refine (shown_ok w).mono ?_
    rintro e w1 ⟨rfl, hX1⟩
    have h2 : (200 : Int) < len0 := by omega
    go_wp2_with fail
    go_ret
    exact ⟨rfl, hX1⟩
  have h2 : ¬ (200 : Int) < len0 := by omega
  have HLB := Lib.hid hl; have HB := Lib.hid hb; have HS := Lib.hid hs
  have hT := fun (v : World) (hv : Ext w v) => Take_ino a0 len0 cap0 l v hl (by omega) hb (hs.ext hv) hlc hc
  have hRT := fun (v : World) (hv : Ext w v) => rTake_ino a0 len0 cap0 l v hl hb (hs.ext hv)
  have hP := fun (v : World) (hv : Ext w v) => Ptrs_ok a0 len0 cap0 l v hl (by omega) hb (hs.ext hv) hlc hc
  have hRP := fun (v : World) (hv : Ext w v) => rPtrs_ok a0 len0 cap0 l v hl (by omega) hb (hs.ext hv)
  obtain ⟨⟨nI, code⟩, hR⟩ : ∃ r, r = Ino.takeR l := ⟨_, rfl⟩
  obtain ⟨⟨Q, c2⟩, hQ⟩ : ∃ r, r = ptrsR l := ⟨_, rfl⟩
  rw [← hR] at hT hRT
  rw [← hQ] at hP hRP
  have hqL : Q.length ≤ 32 := by
    unfold ptrsR at hQ
    split at hQ
    · cases hQ; rw [length_takenL]; decide
    · cases hQ; decide
  have heq := eqlIno nI nI
  rw [Ino.eqB_self] at heq
  clear hR hQ hl hb hs hnil h200
  obtain ⟨k, r, l, s, d0, d1, d2, d3, d4, d5, d6, d7, i, j⟩ := nI
  dsimp only [GaveI, Ino.v, Ino.cs] at *
  have HT := Lib.hid hT; have HRT := Lib.hid hRT; have HP := Lib.hid hP; have HRP := Lib.hid hRP
  clear hT hRT hP hRP
  go_enter Try.func8, Try.ntmps8
  go_wp2_with fail
  refine (shown_ok w).mono ?_
  rintro e w1 ⟨rfl, hX1⟩
  go_wp2_with fail
  refine (HT.out _ hX1).mono ?_
  rintro e w2 ⟨rfl, hX2⟩
  have X2 := hX1.trans hX2
  have X3 := X2.alloc (.cells #[.int .u8 k, .int .u8 r, .int .i64 l, .int .i64 s, .int .i64 d0, .int .i64 d1, .int .i64 d2, .int .i64 d3, .int .i64 d4, .int .i64 d5, .int .i64 d6, .int .i64 d7, .int .i64 i, .int .i64 j] 39)
  have r4 : Row (w2.alloc (.cells #[.int .u8 k, .int .u8 r, .int .i64 l, .int .i64 s, .int .i64 d0, .int .i64 d1, .int .i64 d2, .int .i64 d3, .int .i64 d4, .int .i64 d5, .int .i64 d6, .int .i64 d7, .int .i64 i, .int .i64 j] 39)) w2.heap.size 39 (#[.int .u8 k, .int .u8 r, .int .i64 l, .int .i64 s, .int .i64 d0, .int .i64 d1, .int .i64 d2, .int .i64 d3, .int .i64 d4, .int .i64 d5, .int .i64 d6, .int .i64 d7, .int .i64 i, .int .i64 j] : Array Value).toList := Row.new w2 39 (#[.int .u8 k, .int .u8 r, .int .i64 l, .int .i64 s, .int .i64 d0, .int .i64 d1, .int .i64 d2, .int .i64 d3, .int .i64 d4, .int .i64 d5, .int .i64 d6, .int .i64 d7, .int .i64 i, .int .i64 j] : Array Value).toList
  obtain ⟨g4, hg4⟩ : ∃ g, g = w2.heap.size := ⟨_, rfl⟩
  clear hX1 hX2 X2
  go_wp2_with fail
  rw [← hg4] at r4 ⊢
  clear hg4
  generalize w2.alloc (.cells #[.int .u8 k, .int .u8 r, .int .i64 l, .int .i64 s, .int .i64 d0, .int .i64 d1, .int .i64 d2, .int .i64 d3, .int .i64 d4, .int .i64 d5, .int .i64 d6, .int .i64 d7, .int .i64 i, .int .i64 j] 39) = w3 at *
  refine (HRT.out _ X3).mono ?_
  rintro e w4 ⟨rfl, hX4⟩
  have X4 := X3.trans hX4
  have X5 := X4.alloc (.cells #[.int .u8 k, .int .u8 r, .int .i64 l, .int .i64 s, .int .i64 d0, .int .i64 d1, .int .i64 d2, .int .i64 d3, .int .i64 d4, .int .i64 d5, .int .i64 d6, .int .i64 d7, .int .i64 i, .int .i64 j] 39)
  have r4' := (r4.ext hX4).alloc (.cells #[.int .u8 k, .int .u8 r, .int .i64 l, .int .i64 s, .int .i64 d0, .int .i64 d1, .int .i64 d2, .int .i64 d3, .int .i64 d4, .int .i64 d5, .int .i64 d6, .int .i64 d7, .int .i64 i, .int .i64 j] 39)
  have r6 : Row (w4.alloc (.cells #[.int .u8 k, .int .u8 r, .int .i64 l, .int .i64 s, .int .i64 d0, .int .i64 d1, .int .i64 d2, .int .i64 d3, .int .i64 d4, .int .i64 d5, .int .i64 d6, .int .i64 d7, .int .i64 i, .int .i64 j] 39)) w4.heap.size 39 (#[.int .u8 k, .int .u8 r, .int .i64 l, .int .i64 s, .int .i64 d0, .int .i64 d1, .int .i64 d2, .int .i64 d3, .int .i64 d4, .int .i64 d5, .int .i64 d6, .int .i64 d7, .int .i64 i, .int .i64 j] : Array Value).toList := Row.new w4 39 (#[.int .u8 k, .int .u8 r, .int .i64 l, .int .i64 s, .int .i64 d0, .int .i64 d1, .int .i64 d2, .int .i64 d3, .int .i64 d4, .int .i64 d5, .int .i64 d6, .int .i64 d7, .int .i64 i, .int .i64 j] : Array Value).toList
  obtain ⟨g6, hg6⟩ : ∃ g, g = w4.heap.size := ⟨_, rfl⟩
  clear X3 r4 hX4 X4
  go_wp2_with fail
  rw [← hg6] at r6 ⊢
  clear hg6
  generalize w4.alloc (.cells #[.int .u8 k, .int .u8 r, .int .i64 l, .int .i64 s, .int .i64 d0, .int .i64 d1, .int .i64 d2, .int .i64 d3, .int .i64 d4, .int .i64 d5, .int .i64 d6, .int .i64 d7, .int .i64 i, .int .i64 j] 39) = w5 at *
  refine (HP.out _ X5).mono ?_
  rintro e w6 ⟨a6, c6, rfl, ho6, hX6⟩
  dsimp only at ho6 ⊢
  have X6 := X5.trans hX6
  go_wp2_with fail
  refine (HRP.out _ X6).mono ?_
  rintro e w7 ⟨a7, c7, rfl, ho7, hX7⟩
  dsimp only at ho7 ⊢
  have X7 := X6.trans hX7
  have s6 := Lib.hid (ownsRow_sl (ownsRow_ext ho6 hX7))
  have s7 := Lib.hid (ownsRow_sl ho7)
  obtain ⟨p0, p1, p2, p3, p4, p5, p6, p7, p8, p9, p10, p11, p12, p13⟩ := Ino.rowCells (n := ⟨k, r, l, s, d0, d1, d2, d3, d4, d5, d6, d7, i, j⟩) ((r4'.ext hX6).ext hX7)
  obtain ⟨q0, q1, q2, q3, q4, q5, q6, q7, q8, q9, q10, q11, q12, q13⟩ := Ino.rowCells (n := ⟨k, r, l, s, d0, d1, d2, d3, d4, d5, d6, d7, i, j⟩) ((r6.ext hX6).ext hX7)
  dsimp only at p0 p1 p2 p3 p4 p5 p6 p7 p8 p9 p10 p11 p12 p13 q0 q1 q2 q3 q4 q5 q6 q7 q8 q9 q10 q11 q12 q13
  clear X5 r4' r6 ho6 hX6 X6 ho7 hX7
  generalize hq : Q.length = qn at *
  have HQ := Lib.hid hq
  clear hq
  go_wp2_with fail
  refine (Same.Same_ok a6 a7 qn qn c6 c7 Q Q w7 HQ.out HQ.out (by omega) s6.out s7.out).mono ?_
  rintro e w8 ⟨rfl, hX8⟩
  rw [sameB_self]
  have X8 := X7.trans hX8
  clear hX8 X7
  go_wp2_with fail
  go_ret
  exact ⟨rfl, X8⟩
end Go.Proofs.Ytdimnnnklhjnfaa.Ino
