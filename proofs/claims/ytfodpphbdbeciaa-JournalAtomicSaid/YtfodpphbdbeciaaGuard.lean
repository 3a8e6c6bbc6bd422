/- append in a guarded operation ('&&'): the kit's law, for a guard that is decided. -/
import Derived.Lib.AppendZeros
import Derived.OwnWalk
import Derived.BigFrame
namespace Go.Proofs.Ytfodpphbdbeciaa.Guard
open Go Go.Lib Go.BigFrame

theorem wpList_append_want {P : Program} (w : World) {ops : Array Oper} {rest : List Oper} {o : Oper} {a : Act} {Q : Exit → Act → World → Prop} (hw : Region.wanted o (yielded ops a.tmps) = true) (s x : Operand) (t tn : TypeId)
    (ho : o.op = .call { callee := .builtin .append, args := #[s, x], argTypes := #[t, tn] }) (vs vx : Value) (hs : a.eval s = vs) (hx : a.eval x = vx)
    (v' : Value) (w' : World) (hr : (Builtin.append_ #[t, tn] o.type #[vs, vx]).run P w = .ok v' w') (h : wpList P ops Q rest (a.put o.dst v') w') : wpList P ops Q (o :: rest) a w :=
  wpList_want hw fun _ hK => wp_append_run w s x t tn ho vs vx hs hx v' w' hr (hK _ _ h)
end Go.Proofs.Ytfodpphbdbeciaa.Guard
