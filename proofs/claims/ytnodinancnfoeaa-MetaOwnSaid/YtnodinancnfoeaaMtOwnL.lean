/- The law MetaOwn. -/
import Derived.Test.YtnodinancnfoeaaMtOwn
namespace Go.Proofs.Ytnodinancnfoeaa.Mt
open Go.RowKit Words Mem Plain Ops Agg OwnS Intern Ino
open Go.Joins Go.ChangeShapes Go.WideShapes Go.Deep
set_option linter.unusedVariables false
theorem law_MetaOwn {H : Type} {enc : TypeId × Value → H} {base : Nat} {d0 d1 : DataW H} {p0 p1 : List MemPlace} (v0 v1 : Value) (w : World)
    (ho0 : Value.okWide Try.prog w .any base 23 v0) (h0 : DataW.Trod enc Try.prog w 0 (fun _ => true) true 23 v0 d0 p0)
    (ho1 : Value.okWide Try.prog w .any base 29 v1) (h1 : DataW.Trod enc Try.prog w 0 (fun _ => true) true 29 v1 d1 p1) :
    Calls Try.prog 4 #[v0, v1] w fun e w' => e = .returned (.bool true) ∧ Below w.heap.size w w' := by
  obtain ⟨J, I, G, P, rfl⟩ := geo_in ho0 h0
  obtain ⟨p, M, rfl, hM⟩ := meta_in ho1 h1
  exact own_walk J I G P p M w hM
end Go.Proofs.Ytnodinancnfoeaa.Mt
