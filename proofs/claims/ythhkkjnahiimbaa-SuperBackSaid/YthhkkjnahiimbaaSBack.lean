/- The walk of the law SuperBack. -/
import Derived.Test.YthhkkjnahiimbaaSLays
import Derived.Test.YthhkkjnahiimbaaShown
import Derived.Test.YthhkkjnahiimbaaIn
import Derived.WideShapes
import Derived.OpenShut
namespace Go.Proofs.Ythhkkjnahiimbaa.Super
open Go.RowKit Words Mem Plain Ops
open Go.ChangeShapes Go.WideShapes Go.Joins
set_option linter.ambiguousOpen false
open Go.Proofs.Ythhkkjnahiimbaa.Field Agg Sum
set_option linter.unusedVariables false
set_option linter.unusedSimpArgs false

set_option maxRecDepth 4000 in
set_option maxHeartbeats 8000000 in
theorem walk_SuperBack (n : Geo4) (a1 : Option Addr) (len1 cap1 : Nat) (z1 : List Int) (w : World) (w1 : RowIn .u8 w a1 len1 cap1 z1) :
    Calls Try.prog 8 #[n.v, .slice a1 len1 cap1] w fun e w' => e = .returned (.bool true) ∧ Below w.heap.size w w' := by
  obtain ⟨xs, hl, hb, hs, hlc, hc, hnil⟩ := bytesIn w1
  clear w1
  by_cases h1000 : 1000 < len1
  · obtain ⟨J, I, G, P⟩ := n
    dsimp only [Geo4.v, Geo4.cs]
    have X0 := (Ext.refl w).alloc (.cells #[.int .i64 J, .int .i64 I, .int .i64 G, .int .i64 P] 23)
    go_enter Try.func8, Try.ntmps8
    go_wp2_with fail
    refine (shown_ok _).mono ?_
    rintro e w1 ⟨rfl, hX1⟩
    have h2 : (1000 : Int) < len1 := by omega
    go_wp2_with fail
    go_ret
    exact ⟨rfl, X0.trans hX1⟩
  have h2 : ¬ (1000 : Int) < len1 := by omega
  have HLB := Lib.hid hl; have HB := Lib.hid hb; have HS := Lib.hid hs; have HPC := Lib.hid (take_cases xs)
  have hT := fun (v : World) (hv : Ext w v) => Take_geo a1 len1 cap1 xs v hl hb (hs.ext hv) hlc hc
  have HT := Lib.hid hT
  have hL := fun v => Lay_geo n v
  have hR := fun v => Right_ok n.J n.I n.G n.P v
  have hrb : Super.rightB n.J n.I n.G n.P = n.rightB := rfl
  rw [hrb] at hR
  have heq := neqGeo n n
  rw [Geo4.eqB_self] at heq
  have hcase := lay_cases n
  have hbl := n.bytes_len
  have hbb := n.bytes_isBytes
  have X0 := (Ext.refl w).alloc (.cells n.cs 23)
  have r0 : Row (w.alloc (.cells n.cs 23)) w.heap.size 23 n.cs.toList := Row.new w 23 n.cs.toList
  generalize n.bytes = BB at *
  clear hl hb hs hnil h1000 hT hrb
  rcases hcase with ⟨g1, g2, g3⟩ | ⟨g1, g2, g3⟩
  · rw [g1] at hR
    rw [g2] at hL
    have hT2 := fun (v : World) (a : Option Addr) (cap : Nat) (h : Sl v a (ints .u8 BB)) (h1 : 64 ≤ cap) (h2 : cap ≤ 9223372036854775807) => Take_geo a 64 cap BB v hbl hbb h h1 h2
    rw [g3] at hT2
    clear g1 g2 g3
    obtain ⟨J, I, G, P⟩ := n
    dsimp only [GaveG, Geo4.v, Geo4.cs] at *
    have HR := Lib.hid hR; have HL := Lib.hid hL; have HT2 := Lib.hid hT2; have HBL := Lib.hid hbl; have HR0 := Lib.hid r0
    clear hR hL hT2 hbl r0
    go_enter Try.func8, Try.ntmps8
    go_wp2_with fail
    refine (shown_ok _).mono ?_
    rintro e w1 ⟨rfl, hX1⟩
    have X1 := X0.trans hX1
    have R1 := Lib.hid (HR0.out.ext hX1)
    obtain ⟨p0, p1, p2, p3⟩ := Geo4.rowCells (g := ⟨J, I, G, P⟩) R1.out
    dsimp only at p0 p1 p2 p3
    clear hX1 HR0
    go_wp2_with fail
    refine (HL.out _).mono ?_
    rintro e w2 ⟨a2, c2, rfl, ho2, hX2⟩
    dsimp only at ho2 ⊢
    rw [HBL.out] at ho2 ⊢
    have k2 := own_cap ho2
    have X2 := X1.trans hX2
    have R2 := Lib.hid (R1.out.ext hX2)
    have s2 := ownsRow_sl ho2
    clear p0 p1 p2 p3 hX2 R1 X1
    go_wp2_with fail
    refine (HT2.out _ _ _ s2 k2.1 k2.2).mono ?_
    rintro e w3 ⟨rfl, hX3⟩
    have X3 := X2.trans hX3
    have X4 := X3.alloc (.cells #[.int .i64 J, .int .i64 I, .int .i64 G, .int .i64 P] 23)
    have r4 : Row (w3.alloc (.cells #[.int .i64 J, .int .i64 I, .int .i64 G, .int .i64 P] 23)) w3.heap.size 23 (#[.int .i64 J, .int .i64 I, .int .i64 G, .int .i64 P] : Array Value).toList := Row.new w3 23 (#[.int .i64 J, .int .i64 I, .int .i64 G, .int .i64 P] : Array Value).toList
    have R4 := (R2.out.ext hX3).alloc (.cells #[.int .i64 J, .int .i64 I, .int .i64 G, .int .i64 P] 23)
    obtain ⟨p0, p1, p2, p3⟩ := Geo4.rowCells (g := ⟨J, I, G, P⟩) R4
    dsimp only at p0 p1 p2 p3
    have RR4 := Lib.hid R4; have Rr4 := Lib.hid r4
    clear s2 ho2 hX3 X3 X2 R2 R4 r4
    go_wp2_with fail
    obtain ⟨g4, hg4⟩ : ∃ g, g = w3.heap.size := ⟨_, rfl⟩
    rw [← hg4] at Rr4 ⊢
    clear hg4
    generalize w3.alloc (.cells #[.int .i64 J, .int .i64 I, .int .i64 G, .int .i64 P] 23) = w4 at *
    refine (HR.out _).mono ?_
    rintro e wq ⟨rfl, hXq⟩
    have XQ := X4.trans hXq
    clear p0 p1 p2 p3
    obtain ⟨p0, p1, p2, p3⟩ := Geo4.rowCells (g := ⟨J, I, G, P⟩) (RR4.out.ext hXq)
    obtain ⟨q0, q1, q2, q3⟩ := Geo4.rowCells (g := ⟨J, I, G, P⟩) (Rr4.out.ext hXq)
    dsimp only at p0 p1 p2 p3 q0 q1 q2 q3
    clear RR4 Rr4 X4 X0 hXq HR HT2 HL
    go_wp2_with fail
    clear p0 p1 p2 p3 q0 q1 q2 q3 heq
    refine (HT.out _ XQ).mono ?_
    rintro e w5 ⟨rfl, hX5⟩
    dsimp only
    have X5 := XQ.trans hX5
    clear hX5 XQ
    rcases HPC.out with ⟨m, f1, f2⟩ | f1
    · obtain ⟨J', I', G', P'⟩ := m
      rw [f1]
      have hl2 := fun v => Lay_geo ⟨J', I', G', P'⟩ v
      rw [f2] at hl2
      dsimp only [Geo4.v, Geo4.cs] at hl2 ⊢
      have HL2 := Lib.hid hl2
      have X6 := X5.alloc (.cells #[.int .i64 J', .int .i64 I', .int .i64 G', .int .i64 P'] 23)
      clear hl2 f1 f2 HPC X5
      go_wp2_with fail
      generalize w5.alloc (.cells #[.int .i64 J', .int .i64 I', .int .i64 G', .int .i64 P'] 23) = w6 at *
      refine (HL2.out _).mono ?_
      rintro e w7 ⟨a7, c7, rfl, ho7, hX7⟩
      dsimp only at ho7 ⊢
      rw [HLB.out] at ho7 ⊢
      have X7 := X6.trans hX7
      have e1 := run_conv_str (P := Try.prog) w7 36 9 5 Try.underlying36 Try.underlying5 Try.underlying9 c7 (ownsRow_sl ho7) HLB.out
      have e2 := run_conv_str (P := Try.prog) w7 36 9 5 Try.underlying36 Try.underlying5 Try.underlying9 cap1 (HS.out.ext X7) HLB.out
      clear ho7 hX7 X6
      go_wp2_with fail
      go_ret
      exact ⟨rfl, X7⟩
    · rw [f1]
      have hl2 := fun v => Lay_geo Geo4.zero v
      have X6 := X5.alloc (.cells #[.int .i64 0, .int .i64 0, .int .i64 0, .int .i64 0] 23)
      have r6 := Row.new w5 23 (#[.int .i64 0, .int .i64 0, .int .i64 0, .int .i64 0] : Array Value).toList
      have heq := eqlGeo Geo4.zero Geo4.zero
      rw [Geo4.eqB_self] at heq
      dsimp only [Geo4.v, Geo4.cs, Geo4.zero] at hl2 heq ⊢
      have HL2 := Lib.hid hl2
      obtain ⟨g6, hg6⟩ : ∃ g, g = w5.heap.size := ⟨_, rfl⟩
      clear hl2 f1 HPC X5
      go_wp2_with fail
      rw [← hg6] at r6 ⊢
      clear hg6
      replace r6 : Row (w5.alloc (.cells #[.int .i64 0, .int .i64 0, .int .i64 0, .int .i64 0] 23)) g6 23 (#[.int .i64 0, .int .i64 0, .int .i64 0, .int .i64 0] : Array Value).toList := r6
      generalize w5.alloc (.cells #[.int .i64 0, .int .i64 0, .int .i64 0, .int .i64 0] 23) = w6 at *
      refine (HL2.out _).mono ?_
      rintro e w7 ⟨a7, c7, rfl, ho7, hX7⟩
      dsimp only at ho7 ⊢
      have X7 := X6.trans hX7
      obtain ⟨q0, q1, q2, q3⟩ := Geo4.rowCells (g := Geo4.zero) (r6.ext hX7)
      dsimp only [Geo4.zero] at q0 q1 q2 q3
      clear ho7 hX7 X6 r6
      generalize (Geo4.layR _) = LL at *
      go_wp2_with fail
      go_ret
      exact ⟨rfl, X7⟩
  · rw [g1] at hR
    rw [g2] at hL
    have hT2 := fun (v : World) (a : Option Addr) (cap : Nat) (h2 : cap ≤ 9223372036854775807) => Take_geo a 0 cap [] v rfl isBytes_nil (Sl.nil _ _) (Nat.zero_le _) h2
    rw [g3] at hT2
    clear g1 g2 g3 heq
    obtain ⟨J, I, G, P⟩ := n
    dsimp only [GaveG, Geo4.v, Geo4.cs, Geo4.zero] at hR hL hT2 X0 r0 ⊢
    have HR := Lib.hid hR; have HL := Lib.hid hL; have HT2 := Lib.hid hT2; have HR0 := Lib.hid r0
    clear hR hL hT2 hbl r0
    go_enter Try.func8, Try.ntmps8
    go_wp2_with fail
    refine (shown_ok _).mono ?_
    rintro e w1 ⟨rfl, hX1⟩
    have X1 := X0.trans hX1
    have R1 := Lib.hid (HR0.out.ext hX1)
    obtain ⟨p0, p1, p2, p3⟩ := Geo4.rowCells (g := ⟨J, I, G, P⟩) R1.out
    dsimp only at p0 p1 p2 p3
    clear hX1 HR0
    go_wp2_with fail
    refine (HL.out _).mono ?_
    rintro e w2 ⟨a2, c2, rfl, ho2, hX2⟩
    dsimp only at ho2 ⊢
    have k2 := own_cap ho2
    have X2 := X1.trans hX2
    have R2 := Lib.hid (R1.out.ext hX2)
    clear p0 p1 p2 p3 hX2 R1 X1 ho2
    go_wp2_with fail
    refine (HT2.out _ _ _ k2.2).mono ?_
    rintro e w3 ⟨rfl, hX3⟩
    have X3 := X2.trans hX3
    have X4 := X3.alloc (.cells #[.int .i64 0, .int .i64 0, .int .i64 0, .int .i64 0] 23)
    have R4 := (R2.out.ext hX3).alloc (.cells #[.int .i64 0, .int .i64 0, .int .i64 0, .int .i64 0] 23)
    obtain ⟨p0, p1, p2, p3⟩ := Geo4.rowCells (g := ⟨J, I, G, P⟩) R4
    dsimp only at p0 p1 p2 p3
    clear hX3 X3 X2 R2 R4
    go_wp2_with fail
    obtain ⟨g4, hg4⟩ : ∃ g, g = w3.heap.size := ⟨_, rfl⟩
    rw [← hg4]
    clear hg4
    generalize w3.alloc (.cells #[.int .i64 0, .int .i64 0, .int .i64 0, .int .i64 0] 23) = w4 at *
    refine (HR.out _).mono ?_
    rintro e wq ⟨rfl, hXq⟩
    have XQ := X4.trans hXq
    clear p0 p1 p2 p3
    clear X4 X0 hXq HR HT2 HL
    go_wp2_with fail
    refine (HT.out _ XQ).mono ?_
    rintro e w5 ⟨rfl, hX5⟩
    dsimp only
    have X5 := XQ.trans hX5
    clear hX5 XQ
    rcases HPC.out with ⟨m, f1, f2⟩ | f1
    · obtain ⟨J', I', G', P'⟩ := m
      rw [f1]
      have hl2 := fun v => Lay_geo ⟨J', I', G', P'⟩ v
      rw [f2] at hl2
      dsimp only [Geo4.v, Geo4.cs] at hl2 ⊢
      have HL2 := Lib.hid hl2
      have X6 := X5.alloc (.cells #[.int .i64 J', .int .i64 I', .int .i64 G', .int .i64 P'] 23)
      clear hl2 f1 f2 HPC X5
      go_wp2_with fail
      generalize w5.alloc (.cells #[.int .i64 J', .int .i64 I', .int .i64 G', .int .i64 P'] 23) = w6 at *
      refine (HL2.out _).mono ?_
      rintro e w7 ⟨a7, c7, rfl, ho7, hX7⟩
      dsimp only at ho7 ⊢
      rw [HLB.out] at ho7 ⊢
      have X7 := X6.trans hX7
      have e1 := run_conv_str (P := Try.prog) w7 36 9 5 Try.underlying36 Try.underlying5 Try.underlying9 c7 (ownsRow_sl ho7) HLB.out
      have e2 := run_conv_str (P := Try.prog) w7 36 9 5 Try.underlying36 Try.underlying5 Try.underlying9 cap1 (HS.out.ext X7) HLB.out
      clear ho7 hX7 X6
      go_wp2_with fail
      go_ret
      exact ⟨rfl, X7⟩
    · rw [f1]
      have hl2 := fun v => Lay_geo Geo4.zero v
      have X6 := X5.alloc (.cells #[.int .i64 0, .int .i64 0, .int .i64 0, .int .i64 0] 23)
      have r6 := Row.new w5 23 (#[.int .i64 0, .int .i64 0, .int .i64 0, .int .i64 0] : Array Value).toList
      have heq := eqlGeo Geo4.zero Geo4.zero
      rw [Geo4.eqB_self] at heq
      dsimp only [Geo4.v, Geo4.cs, Geo4.zero] at hl2 heq ⊢
      have HL2 := Lib.hid hl2
      obtain ⟨g6, hg6⟩ : ∃ g, g = w5.heap.size := ⟨_, rfl⟩
      clear hl2 f1 HPC X5
      go_wp2_with fail
      rw [← hg6] at r6 ⊢
      clear hg6
      replace r6 : Row (w5.alloc (.cells #[.int .i64 0, .int .i64 0, .int .i64 0, .int .i64 0] 23)) g6 23 (#[.int .i64 0, .int .i64 0, .int .i64 0, .int .i64 0] : Array Value).toList := r6
      generalize w5.alloc (.cells #[.int .i64 0, .int .i64 0, .int .i64 0, .int .i64 0] 23) = w6 at *
      refine (HL2.out _).mono ?_
      rintro e w7 ⟨a7, c7, rfl, ho7, hX7⟩
      dsimp only at ho7 ⊢
      have X7 := X6.trans hX7
      obtain ⟨q0, q1, q2, q3⟩ := Geo4.rowCells (g := Geo4.zero) (r6.ext hX7)
      dsimp only [Geo4.zero] at q0 q1 q2 q3
      clear ho7 hX7 X6 r6
      generalize (Geo4.layR _) = LL at *
      go_wp2_with fail
      go_ret
      exact ⟨rfl, X7⟩

theorem law_SuperBack {H : Type} {enc : TypeId × Value → H} {base : Nat} {d d1 : DataW H} {p p1 : List MemPlace} (v v1 : Value) (w : World) (ho : Value.okWide Try.prog w .any base 23 v) (h : DataW.Trod enc Try.prog w 0 (fun _ => true) true 23 v d p)
    (ho1 : Value.okWide Try.prog w .any base 36 v1) (h1 : DataW.Trod enc Try.prog w 0 (fun _ => true) true 36 v1 d1 p1) :
    Calls Try.prog 8 #[v, v1] w fun e w' => e = .returned (.bool true) ∧ Below w.heap.size w w' := by
  obtain ⟨J, I, G, P, rfl, _⟩ := geoIn ho h
  obtain ⟨a1, len1, cap1, rfl⟩ := okWide_slice Try.underlying36 ho1
  obtain ⟨z1, w1⟩ : ∃ zs, RowIn .u8 w a1 len1 cap1 zs := by
    obtain ⟨fuel, hf⟩ := h1
    rcases open_ints Try.underlying36 Try.underlying5 (by kernel_rfl) hf with ⟨hcs, _⟩ | ⟨x, l, c, zs, hcs, _, hl, hm, hz, _, hcell, hwz⟩
    · simp [Value.cells] at hcs
      obtain ⟨rfl, rfl, rfl⟩ := hcs
      exact ⟨[], .inl ⟨rfl, rfl, rfl, rfl⟩⟩
    · simp [Value.cells] at hcs
      obtain ⟨rfl, rfl, rfl⟩ := hcs
      exact ⟨zs, .inr ⟨_, rfl, hl, hm, by simpa using hz, hcell, hwz⟩⟩
  exact walk_SuperBack ⟨J, I, G, P⟩ a1 len1 cap1 z1 w w1
end Go.Proofs.Ythhkkjnahiimbaa.Super
