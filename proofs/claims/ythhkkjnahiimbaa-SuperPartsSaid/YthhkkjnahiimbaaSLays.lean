/- The walks of the laws SuperLays and SuperTakes. -/
import Derived.Test.YthhkkjnahiimbaaGTake
import Derived.Test.YthhkkjnahiimbaaShown
import Derived.Test.YthhkkjnahiimbaaIn
import Derived.WideShapes
import Derived.OpenShut
import Derived.Lib.SmallJoins
namespace Go.Proofs.Ythhkkjnahiimbaa.Super
open Go.RowKit Words Mem Plain Ops
open Go.ChangeShapes Go.WideShapes Go.Joins
set_option linter.ambiguousOpen false
open Go.Proofs.Ythhkkjnahiimbaa.Field Agg Sum
set_option linter.unusedVariables false
set_option linter.unusedSimpArgs false

theorem cellsGeo4 : Try.prog.cellsOf 23 = 4 := by kernel_rfl
theorem geoIn {H : Type} {enc : TypeId × Value → H} {w : World} {base : Nat} {v : Value} {d : DataW H} {p : List MemPlace} (ho : Value.okWide Try.prog w .any base 23 v) (h : DataW.Trod enc Try.prog w 0 (fun _ => true) true 23 v d p) :
    ∃ J I G P : Int, v = (Geo4.mk J I G P).v ∧ (Lit.int .i64 J).wf = true ∧ (Lit.int .i64 I).wf = true ∧ (Lit.int .i64 G).wf = true ∧ (Lit.int .i64 P).wf = true := by
  obtain ⟨c0, c1, c2, c3, y0, y1, y2, y3, n, rfl, _, _, h0, h1, h2, h3⟩ := open_agg4 Try.underlying23 (by kernel_rfl) cellsGeo4 ho h
  obtain ⟨J, e0, _, w0⟩ := DataW.trod_int Try.underlying3 h0
  obtain ⟨I, e1, _, w1⟩ := DataW.trod_int Try.underlying3 h1
  obtain ⟨G, e2, _, w2⟩ := DataW.trod_int Try.underlying3 h2
  obtain ⟨P, e3, _, w3⟩ := DataW.trod_int Try.underlying3 h3
  simp at e0 e1 e2 e3
  subst e0 e1 e2 e3
  exact ⟨J, I, G, P, rfl, w0, w1, w2, w3⟩

set_option maxRecDepth 4000 in
set_option maxHeartbeats 2000000 in
theorem walk_SuperLays (g : Geo4) (w : World) : Calls Try.prog 6 #[g.v] w fun e w' => e = .returned (.bool true) ∧ Ext w w' := by
  have hL := fun v => Lay_geo g v
  have hrL := fun v => rLay_geo g v
  generalize g.layR = R at *
  obtain ⟨J, I, G, P⟩ := g
  dsimp only [Geo4.v, Geo4.cs] at *
  have HL := Lib.hid hL; have HRL := Lib.hid hrL
  clear hL hrL
  have XW := (Ext.refl w).alloc (.cells #[.int .i64 J, .int .i64 I, .int .i64 G, .int .i64 P] 23)
  go_enter Try.func6, Try.ntmps6
  go_wp2_with fail
  refine (HL.out _).mono ?_
  rintro e w2 ⟨a4, c4, rfl, ho4, hX2⟩
  obtain ⟨hlt, p0, p1, p2, p3⟩ := geoKept hX2
  go_wp2_with fail
  refine (HRL.out _).mono ?_
  rintro e w3 ⟨a5, c5, rfl, ho5, hX3⟩
  have X3 := (XW.trans hX2).trans hX3
  have s4 := ownsRow_sl (ownsRow_ext ho4 hX3)
  have s5 := ownsRow_sl ho5
  clear p0 p1 p2 p3 ho4 ho5 hX2 hX3 hlt XW
  go_wp2_with fail
  refine (shown_ok _).mono ?_
  rintro e w4 ⟨rfl, hX4⟩
  have X4 := X3.trans hX4
  have e1 := run_conv_str (P := Try.prog) w4 36 9 5 Try.underlying36 Try.underlying5 Try.underlying9 c4 (s4.ext hX4) rfl
  have e2 := run_conv_str (P := Try.prog) w4 36 9 5 Try.underlying36 Try.underlying5 Try.underlying9 c5 (s5.ext hX4) rfl
  clear s4 s5 hX4 X3
  go_wp2_with fail
  go_ret
  exact ⟨rfl, X4⟩
theorem law_SuperLays {H : Type} {enc : TypeId × Value → H} {base : Nat} {d : DataW H} {p : List MemPlace} (v : Value) (w : World) (ho : Value.okWide Try.prog w .any base 23 v) (h : DataW.Trod enc Try.prog w 0 (fun _ => true) true 23 v d p) :
    Calls Try.prog 6 #[v] w fun e w' => e = .returned (.bool true) ∧ Below w.heap.size w w' := by
  obtain ⟨J, I, G, P, rfl, _⟩ := geoIn ho h
  exact walk_SuperLays ⟨J, I, G, P⟩ w

set_option maxRecDepth 4000 in
set_option maxHeartbeats 2000000 in
theorem walk_SuperTakes (a0 : Option Addr) (len0 cap0 : Nat) (z0 : List Int) (w : World) (w0 : RowIn .u8 w a0 len0 cap0 z0) :
    Calls Try.prog 7 #[.slice a0 len0 cap0] w fun e w' => e = .returned (.bool true) ∧ Below w.heap.size w w' := by
  obtain ⟨l, hl, hb, hs, hlc, hc, hnil⟩ := bytesIn w0
  clear w0
  by_cases h1000 : 1000 < len0
  · go_enter Try.func7, Try.ntmps7
    go_wp2_with fail
    refine (shown_ok w).mono ?_
    rintro e w1 ⟨rfl, hX1⟩
    have h2 : (1000 : Int) < len0 := by omega
    go_wp2_with fail
    go_ret
    exact ⟨rfl, hX1⟩
  have h2 : ¬ (1000 : Int) < len0 := by omega
  have hT := fun (v : World) (hv : Ext w v) => Take_geo a0 len0 cap0 l v hl hb (hs.ext hv) hlc hc
  have hRT := fun (v : World) (hv : Ext w v) => rTake_geo a0 len0 cap0 l v hl hb (hs.ext hv)
  obtain ⟨⟨nI, code⟩, hR⟩ : ∃ r, r = Geo4.takeR l := ⟨_, rfl⟩
  rw [← hR] at hT hRT
  have heq := eqlGeo nI nI
  rw [Geo4.eqB_self] at heq
  clear hR hl hb hs hnil h1000
  obtain ⟨J, I, G, P⟩ := nI
  dsimp only [GaveG, Geo4.v, Geo4.cs] at *
  have HT := Lib.hid hT; have HRT := Lib.hid hRT
  clear hT hRT
  go_enter Try.func7, Try.ntmps7
  go_wp2_with fail
  refine (shown_ok w).mono ?_
  rintro e w1 ⟨rfl, hX1⟩
  go_wp2_with fail
  refine (HT.out _ hX1).mono ?_
  rintro e w2 ⟨rfl, hX2⟩
  have X3 := (hX1.trans hX2).alloc (.cells #[.int .i64 J, .int .i64 I, .int .i64 G, .int .i64 P] 23)
  have r4 : Row (w2.alloc (.cells #[.int .i64 J, .int .i64 I, .int .i64 G, .int .i64 P] 23)) w2.heap.size 23 (#[.int .i64 J, .int .i64 I, .int .i64 G, .int .i64 P] : Array Value).toList := Row.new w2 23 (#[.int .i64 J, .int .i64 I, .int .i64 G, .int .i64 P] : Array Value).toList
  obtain ⟨g4, hg4⟩ : ∃ g, g = w2.heap.size := ⟨_, rfl⟩
  clear hX1 hX2
  go_wp2_with fail
  rw [← hg4] at r4 ⊢
  clear hg4
  generalize w2.alloc (.cells #[.int .i64 J, .int .i64 I, .int .i64 G, .int .i64 P] 23) = w3 at *
  refine (HRT.out _ X3).mono ?_
  rintro e w4 ⟨rfl, hX4⟩
  have X5 := (X3.trans hX4).alloc (.cells #[.int .i64 J, .int .i64 I, .int .i64 G, .int .i64 P] 23)
  have r4' := (r4.ext hX4).alloc (.cells #[.int .i64 J, .int .i64 I, .int .i64 G, .int .i64 P] 23)
  obtain ⟨p0, p1, p2, p3⟩ := Geo4.rowCells (g := ⟨J, I, G, P⟩) r4'
  dsimp only at p0 p1 p2 p3
  clear X3 r4 hX4 r4'
  go_wp2_with fail
  go_ret
  exact ⟨rfl, X5⟩
end Go.Proofs.Ythhkkjnahiimbaa.Super
