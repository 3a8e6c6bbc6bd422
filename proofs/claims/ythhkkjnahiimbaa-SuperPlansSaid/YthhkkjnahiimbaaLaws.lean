/- The laws' walks, from what a reading of their arguments tells. -/
import Derived.Test.YthhkkjnahiimbaaMore
import Derived.OpenShut
import Derived.Lib.SmallJoins
namespace Go.Proofs.Ythhkkjnahiimbaa.Super
open Go.RowKit Words Mem Go.ChangeShapes Go.WideShapes Go.Joins
set_option linter.unusedVariables false

theorem cellsGeo : Try.prog.cellsOf 23 = 4 := by kernel_rfl
theorem geo_in {H : Type} {enc : TypeId × Value → H} {w : World} {base : Nat} {v : Value} {d : DataW H} {p : List MemPlace} (ho : Value.okWide Try.prog w .any base 23 v) (h : DataW.Trod enc Try.prog w 0 (fun _ => true) true 23 v d p) :
    ∃ J I G P : Int, v = geoV J I G P ∧ (Lit.int .i64 J).wf = true ∧ (Lit.int .i64 I).wf = true ∧ (Lit.int .i64 G).wf = true ∧ (Lit.int .i64 P).wf = true := by
  obtain ⟨c0, c1, c2, c3, y0, y1, y2, y3, n, rfl, _, _, h0, h1, h2, h3⟩ := open_agg4 Try.underlying23 (by kernel_rfl) cellsGeo ho h
  obtain ⟨J, e0, _, w0⟩ := DataW.trod_int Try.underlying3 h0
  obtain ⟨I, e1, _, w1⟩ := DataW.trod_int Try.underlying3 h1
  obtain ⟨G, e2, _, w2⟩ := DataW.trod_int Try.underlying3 h2
  obtain ⟨P, e3, _, w3⟩ := DataW.trod_int Try.underlying3 h3
  simp at e0 e1 e2 e3
  subst e0 e1 e2 e3
  exact ⟨J, I, G, P, rfl, w0, w1, w2, w3⟩

theorem more_law {H : Type} {enc : TypeId × Value → H} {base : Nat} {d : DataW H} {p : List MemPlace} (v : Value) (w : World) (ho : Value.okWide Try.prog w .any base 23 v) (h : DataW.Trod enc Try.prog w 0 (fun _ => true) true 23 v d p) :
    Calls Try.prog 3 #[v] w fun e w' => e = .returned (.bool true) ∧ Below w.heap.size w w' := by
  obtain ⟨J, I, G, P, rfl, _, _, _, w3⟩ := geo_in ho h
  have := bounds_i64 w3
  exact more_walk J I G P w this.1 this.2

theorem plans_law {H : Type} {enc : TypeId × Value → H} {base : Nat} {d d1 : DataW H} {p p1 : List MemPlace} (v v1 : Value) (w : World) (ho : Value.okWide Try.prog w .any base 23 v) (h : DataW.Trod enc Try.prog w 0 (fun _ => true) true 23 v d p)
    (ho1 : Value.okWide Try.prog w .any base 3 v1) (h1 : DataW.Trod enc Try.prog w 0 (fun _ => true) true 3 v1 d1 p1) :
    Calls Try.prog 4 #[v, v1] w fun e w' => e = .returned (.bool true) ∧ Below w.heap.size w w' := by
  obtain ⟨J, I, G, P, rfl, _, _, _, w3⟩ := geo_in ho h
  obtain ⟨n, rfl, _, _, w4⟩ := open_int Try.underlying3 ho1 h1
  have := bounds_i64 w4
  exact plans_walk J I G P n w this
end Go.Proofs.Ythhkkjnahiimbaa.Super
