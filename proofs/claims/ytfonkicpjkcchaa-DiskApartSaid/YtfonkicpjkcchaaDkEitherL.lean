/- The law DiskEither, from its walk. -/
import Derived.Test.YtfonkicpjkcchaaDkEither
namespace Go.Proofs.Ytfonkicpjkcchaa.Dk
open Go.RowKit Words Mem Plain Ops Agg OwnS
open Go.Joins Go.ChangeShapes Go.WideShapes Go.Deep
set_option linter.unusedVariables false
set_option linter.unusedSimpArgs false

theorem bd_u64 {x : Int} (h : (Lit.int .u64 x).wf = true) : 0 ≤ x ∧ x ≤ 18446744073709551615 := by
  simp [Lit.wf, IntKind.has, IntKind.min, IntKind.max, IntKind.signed, IntKind.bits] at h
  omega
theorem law_DiskEither {H : Type} {enc : TypeId × Value → H} {base : Nat} {d0 d1 d2 : DataW H} {p0 p1 p2 : List MemPlace} (v0 v1 v2 : Value) (w : World)
    (ho0 : Value.okWide Try.prog w .any base 22 v0) (h0 : DataW.Trod enc Try.prog w 0 (fun _ => true) true 22 v0 d0 p0)
    (ho1 : Value.okWide Try.prog w .any base 32 v1) (h1 : DataW.Trod enc Try.prog w 0 (fun _ => true) true 32 v1 d1 p1)
    (ho2 : Value.okWide Try.prog w .any base 5 v2) (h2 : DataW.Trod enc Try.prog w 0 (fun _ => true) true 5 v2 d2 p2) :
    Calls Try.prog 4 #[v0, v1, v2] w fun e w' => e = .returned (.bool true) ∧ Below w.heap.size w w' := by
  obtain ⟨a1, n1, cap1, rfl, hn1, hm1, hs1⟩ := acts_in ho0 h0
  obtain ⟨y, rfl, _, _, hy⟩ := open_int Try.underlying32 ho1 h1
  obtain ⟨x, rfl, _, _, hx⟩ := open_int Try.underlying5 ho2 h2
  have bx := bounds_u8 hx
  have b_y := bd_u64 hy
  obtain ⟨n, rfl⟩ : ∃ n : Nat, x = n := ⟨x.toNat, by omega⟩
  obtain ⟨m, rfl⟩ : ∃ n : Nat, y = n := ⟨y.toNat, by omega⟩
  exact either_walk a1 n1 cap1 m n w hn1 hm1 hs1 (by omega)
end Go.Proofs.Ytfonkicpjkcchaa.Dk
