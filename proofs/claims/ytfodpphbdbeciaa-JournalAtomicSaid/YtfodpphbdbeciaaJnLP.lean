/- The sectors that patches need: plain, and what lies where. -/
import Derived.Test.YtfodpphbdbeciaaJnW
import Derived.Great.BuildSlice
namespace Go.Proofs.Ytfodpphbdbeciaa.Jn
open Go.RowKit Words Mem Plain Ops Agg OwnS Dk
open Go.Proofs.Ytfodpphbdbeciaa.Field Go.Proofs.Ytfodpphbdbeciaa.Sum
set_option maxRecDepth 100000
set_option linter.ambiguousOpen false
set_option linter.unusedVariables false
set_option linter.unusedSimpArgs false

def numsP (L : List PT) : List Int := L.flatMap fun p => [p.sec, p.tag]
theorem numsP_len (L : List PT) : (numsP L).length = 2 * L.length := by
  induction L with
  | nil => rfl
  | cons p L ih => show (numsP L).length + 1 + 1 = _; rw [ih, List.length_cons]; omega
theorem numsP_snoc (L : List PT) (p : PT) : numsP (L ++ [p]) = numsP L ++ [p.sec, p.tag] := by simp [numsP]
def hdrP (L : List PT) : PT := ⟨0, filled (layed 2 (numsP L)) 64, 0⟩
def chunkP (L : List PT) (j : Nat) : List PT := (L.drop (15 * j)).take 15
/-- So many lists, each with its patches behind. -/
def chunksP (L : List PT) (q : Nat) : List PT := (List.range q).flatMap fun j => hdrP (chunkP L j) :: chunkP L j
theorem chunksP_succ (L : List PT) (q : Nat) : chunksP L (q + 1) = chunksP L q ++ (hdrP (chunkP L q) :: chunkP L q) := by
  unfold chunksP
  rw [List.range_succ, List.flatMap_append]; simp
/-- .. in the journal's sectors. -/
def atP (f : Int) (k : Nat) (p : PT) : PT := { p with sec := f + 1 + k }
def layP (f : Int) (L : List PT) : List PT := (chunksP L ((L.length + 14) / 15)).mapIdx fun k p => atP f k p

/-- A patch, and where its bytes lie. -/
structure It where
  p : PT
  x : Option Addr
  c : Nat
def itC (t : It) : List Value := [.int .i64 t.p.sec, .slice t.x t.p.bs.length t.c, .int .u16 t.p.tag]
theorem itC_len (t : It) : (itC t).length = 3 := rfl
theorem itC_one (t : It) : ∀ u ∈ itC t, u.oneCell' = true := by
  intro u hu
  simp [itC] at hu
  rcases hu with rfl | rfl | rfl <;> rfl
theorem flat_one {α : Type} {f : α → List Value} (h : ∀ x, ∀ u ∈ f x, u.oneCell' = true) (L : List α) : ∀ u ∈ flat f L, u.oneCell' = true := by
  intro u hu
  obtain ⟨x, _, hx⟩ := List.mem_flatMap.1 hu
  exact h x u hx
def It.at_ (f : Int) (k : Nat) (t : It) : It := { t with p := atP f k t.p }
theorem flat_set1 : ∀ (L : List It) (k : Nat) (hk : k < L.length) (v : Int), (flat itC L).set (k * 3) (.int .i64 v) = flat itC (L.set k { L[k] with p := { L[k].p with sec := v } })
  | t :: L, 0, _, v => rfl
  | t :: L, k + 1, h, v => by
    have ih := flat_set1 L k (by simpa using h) v
    show (.int .i64 t.p.sec :: .slice t.x t.p.bs.length t.c :: .int .u16 t.p.tag :: flat itC L).set ((k + 1) * 3) (.int .i64 v) = _
    rw [show (k + 1) * 3 = k * 3 + 1 + 1 + 1 by omega, List.set_cons_succ, List.set_cons_succ, List.set_cons_succ, ih]
    rfl
theorem fill_onePat (t : It) : Instr.fill (fun i => some (i * 3, 3)) ((Array.range (1 * 3)).map ((Value.agg #[.int .i64 0, .slice none 0 0, .int .u16 0]).cells[· % (Value.agg #[.int .i64 0, .slice none 0 0, .int .u16 0]).cells.size]!)) [(0, .agg (itC t).toArray)] = some (itC t).toArray := by
  kernel_rfl
theorem infoPatZ : (Try.prog.info? 37).map (fun i => (i.zero, i.size, i.bytes)) = some (some (.agg #[.int .i64 0, .slice none 0 0, .int .u16 0]), 3, 40) := by kernel_rfl
theorem wpList_onePat {ops : Array Oper} {rest : List Oper} {Q : Exit → Act → World → Prop} {o : Oper} {a : Act} {w : World} (hg : o.guard = none) (u : Operand) (ho : o.op = .buildSlice 39 1 #[(0, u)]) (t : It) (hx : a.eval u = .agg (itC t).toArray)
    (h : wpList Try.prog ops Q rest (a.put o.dst (.slice (some ⟨w.heap.size, 0, none⟩) 1 1)) (w.alloc (.cells (itC t).toArray 37))) : wpList Try.prog ops Q (o :: rest) a w := by
  obtain ⟨i, h2, h3, h4, h5⟩ := info_parts infoPatZ
  refine wpList_buildSlice hg 39 37 1 #[(0, u)] ho (itC t).toArray i _ Try.underlying39 h2 h3 (by rw [h4]; decide) (by rw [h4]; decide) ?_ h
  rw [h4]
  have e : ((#[(0, u)] : Array (Nat × Operand)).map fun (i, x) => (i, a.eval x)).toList = [(0, .agg (itC t).toArray)] := by simp [hx]
  rw [e]
  exact fill_onePat t
theorem run_slice_mid3 (w : World) (a : Option Addr) (n c lo hi : Nat) (k k' : IntKind) (LO HI : Int) (hLO : LO = lo) (hHI : HI = hi) (h0 : lo ≤ hi) (h1 : hi ≤ c) :
    (Instr.slice 39 (.slice a n c) (some (.int k LO)) (some (.int k' HI)) none).run Try.prog w = .ok (.slice (if c = lo then a else a.map (·.add (lo * 3))) (hi - lo) (c - lo)) w := by
  subst hLO hHI
  have hsz : (sizeOf 37).run Try.prog w = .ok 3 w := by
    obtain ⟨i, hi, hi'⟩ := Option.map_eq_some_iff.1 infoPatch
    simp [sizeOf, typeInfo, hi, hi', go_sem]
  simp [Instr.slice, run_underlying Try.underlying39, go_sem, hsz, h0, h1]
end Go.Proofs.Ytfodpphbdbeciaa.Jn
