/- The law MetaOne. -/
import Derived.Test.YtnodinancnfoeaaMtOne0
import Derived.Test.YtnodinancnfoeaaMtOne1
import Derived.Test.YtnodinancnfoeaaMtOne2
namespace Go.Proofs.Ytnodinancnfoeaa.Mt
open Go.RowKit Words Mem Plain Ops Agg OwnS Intern Ino
open Go.Joins Go.ChangeShapes Go.WideShapes Go.Deep
set_option linter.unusedVariables false
theorem law_MetaOne {H : Type} {enc : TypeId × Value → H} {base : Nat} {d0 d1 d2 d3 : DataW H} {p0 p1 p2 p3 : List MemPlace} (v0 v1 v2 v3 : Value) (w : World)
    (ho0 : Value.okWide Try.prog w .any base 23 v0) (h0 : DataW.Trod enc Try.prog w 0 (fun _ => true) true 23 v0 d0 p0)
    (ho1 : Value.okWide Try.prog w .any base 29 v1) (h1 : DataW.Trod enc Try.prog w 0 (fun _ => true) true 29 v1 d1 p1)
    (ho2 : Value.okWide Try.prog w .any base 5 v2) (h2 : DataW.Trod enc Try.prog w 0 (fun _ => true) true 5 v2 d2 p2)
    (ho3 : Value.okWide Try.prog w .any base 5 v3) (h3 : DataW.Trod enc Try.prog w 0 (fun _ => true) true 5 v3 d3 p3) :
    Calls Try.prog 5 #[v0, v1, v2, v3] w fun e w' => e = .returned (.bool true) ∧ Below w.heap.size w w' := by
  obtain ⟨J, I, G, P, rfl⟩ := geo_in ho0 h0
  obtain ⟨p, M, rfl, hM⟩ := meta_in ho1 h1
  obtain ⟨x, rfl, _, _, hx⟩ := open_int Try.underlying5 ho2 h2
  obtain ⟨y, rfl, _, _, hy⟩ := open_int Try.underlying5 ho3 h3
  have bx := bounds_u8 hx
  have b_y := bounds_u8 hy
  obtain ⟨n, rfl⟩ : ∃ n : Nat, x = n := ⟨x.toNat, by omega⟩
  obtain ⟨m, rfl⟩ : ∃ n : Nat, y = n := ⟨y.toNat, by omega⟩
  rcases (show (n : Int) % 3 = 0 ∨ (n : Int) % 3 = 1 ∨ (n : Int) % 3 = 2 by omega) with hq | hq | hq
  · exact one_walk0 J I G P p M n m w hM (by omega) (by omega) hq
  · exact one_walk1 J I G P p M n m w hM (by omega) (by omega) hq
  · exact one_walk2 J I G P p M n m w hM (by omega) (by omega) hq
end Go.Proofs.Ytnodinancnfoeaa.Mt
