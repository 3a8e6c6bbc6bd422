/- Aggregates that fill a block: storing, loading, a result in a cell. No program named. -/
import Derived.Test.YtfodpphbdbeciaaMem
import Derived.Test.YtfodpphbdbeciaaOps
import Derived.Laws.Rows
import Derived.Laws.Tables
import Derived.Laws.ResultCell
import Derived.Deep.MidRow
namespace Go.Proofs.Ytfodpphbdbeciaa.Agg
open Go.RowKit Words Mem Ops
set_option maxRecDepth 100000
set_option linter.unusedVariables false
set_option linter.unusedSimpArgs false

theorem _root_.Go.Proofs.Ytfodpphbdbeciaa.Words.Ext.setRow {a w : World} (h : Ext a w) {g : Nat} (hg : a.heap.size ≤ g) (c : Array Value) : Ext a (w.setRow g c) := by
  have hb : Below a.heap.size w (w.setRow g c) := ⟨rfl, rfl, rfl, by simp [World.setRow], fun k hk => setRow_other w g k c (by omega)⟩
  exact Below.trans h hb
theorem _root_.Go.Proofs.Ytfodpphbdbeciaa.Mem.Row.setRow {w : World} {g : Nat} {t : TypeId} {L : List Value} (h : Row w g t L) (c : Array Value) : Row (w.setRow g c) g t c.toList := by
  have := setRow_heap w g L.toArray c t (0, 0) h
  unfold Row; simpa using this
theorem _root_.Go.Proofs.Ytfodpphbdbeciaa.Mem.Row.setRow_other {w : World} {g g' : Nat} {t : TypeId} {L : List Value} (h : Row w g t L) (c : Array Value) (hne : g ≠ g') : Row (w.setRow g' c) g t L :=
  (Go.setRow_other w g' g c hne).trans h
theorem size_setRow (w : World) (g : Nat) (c : Array Value) : (w.setRow g c).heap.size = w.heap.size := by simp [World.setRow]

variable {P : Program}
theorem load_row {w : World} {g : Nat} {t ty : TypeId} {c : Array Value} {d : TypeDesc} (h : Row w g t c.toList) (hu : P.underlying ty = some d) (hd : (match d with | .struct _ | .array _ _ => true | _ => false) = true) (hi : (P.info? ty).map (·.size) = some c.size) :
    (loadVar ty ⟨g, 0, none⟩).run P w = .ok (.agg c) w :=
  run_loadVar_row w g t ty c (0, 0) d (by unfold Row at h; simpa using h) hu hd hi
/-- The end of a function whose first result lies in a cell. -/
theorem post_cell {fn : Func} {p u : Tmp} {ty t : TypeId} {R : Ending → World → Prop} {a : Act} {w : World} {g : Nat} {c : Array Value} {x : Value} {d : TypeDesc} (h : fn.results = #[.cell p ty, .tmp u])
    (hp : a.tmps.getD p undef = .pointer (some ⟨g, 0, none⟩)) (hx : a.tmps.getD u undef = x) (hrow : Row w g t c.toList) (hu : P.underlying ty = some d) (hd : (match d with | .struct _ | .array _ _ => true | _ => false) = true) (hi : (P.info? ty).map (·.size) = some c.size)
    (hdf : a.defers = []) (hR : R (.returned (.tuple #[.agg c, x])) w) : bodyPost P fn R .ret a w := by
  refine bodyPost_ret (v := .tuple #[.agg c, x]) ?_ hdf hR
  rw [results_cell_tmp h, hp, hx]
  simp [asAddr, load_row hrow hu hd hi]
end Go.Proofs.Ytfodpphbdbeciaa.Agg
