/- Sectors and waits as they are built. -/
import Derived.Test.YtfodpphbdbeciaaDkG
import Derived.Laws.Tables
import Derived.Great.BuildSlice
namespace Go.Proofs.Ytfodpphbdbeciaa.Dk
open Go.RowKit Words Mem Plain Ops Agg OwnS
set_option maxRecDepth 100000
set_option linter.ambiguousOpen false
set_option linter.unusedVariables false
set_option linter.unusedSimpArgs false

theorem fold_setL (off : Nat) : ∀ (vs : List Value) (n : Nat) (cells : Array Value), (vs.zipIdx n).foldl (fun cs p => cs.setIfInBounds (off + p.2) p.1) cells = (setL cells.toList (off + n) vs).toArray
  | [], n, cells => by simp [setL]
  | v :: vs, n, cells => by
    rw [List.zipIdx_cons, List.foldl_cons, fold_setL off vs (n + 1)]
    simp [setL, Nat.add_assoc]
theorem fold_setA (off : Nat) (vs cells : Array Value) : vs.zipIdx.foldl (fun cs (c, j) => cs.setIfInBounds (off + j) c) cells = (setL cells.toList off vs.toList).toArray := by
  have := fold_setL off vs.toList 0 cells
  rw [Nat.add_zero] at this
  rw [← this, ← Array.foldl_toList, Array.toList_zipIdx]
theorem fill_step {place : Nat → Option (Nat × Nat)} {cells : Array Value} {i off size : Nat} {v : Value} {rest : List (Nat × Value)} (hp : place i = some (off, size)) (hs : v.cells.size = size) (hf : off + size ≤ cells.size) :
    Instr.fill place cells ((i, v) :: rest) = Instr.fill place (setL cells.toList off v.cells.toList).toArray rest := by
  conv => lhs; unfold Instr.fill
  rw [hp]
  simp only [hs]
  rw [if_neg (by simp; omega), fold_setA]

theorem setL_mid (A B C X : List Value) (o : Nat) (ho : o = A.length) (hx : X.length = B.length) : setL (A ++ B ++ C) o X = A ++ X ++ C := by
  subst ho
  rw [setL_eq _ _ _ (by simp [hx]), List.append_assoc A B C, List.take_left, ← List.drop_drop, List.drop_left, hx, List.drop_left]
theorem built_sec (bs : List Int) (h : bs.length = 64) (t : Int) : Try.prog.built 79 [(0, .agg (ints .u8 bs).toArray), (1, .int .u16 t)] = some (secC ⟨bs, t⟩).toArray := by
  obtain ⟨i, h2, h3, h4, h5⟩ := info_parts infoSecZ
  unfold Program.built
  rw [h2, Try.underlying79]
  simp only [h3]
  generalize hm : List.mapM (m := Option) (fun f : Field => (Try.prog.info? f.type).map fun i => (f.offset, i.size)) _ = M
  obtain rfl : M = some [(0, 64), (64, 1)] := by rw [← hm]; kernel_rfl
  clear hm
  have hb : (ints .u8 bs).length = 64 := by rw [ints_length, h]
  have hz : (secC zeroS).length = 65 := secC_len _
  have hzl : secC zeroS = [] ++ ints .u8 (pad64 zeroS.bs) ++ [.int .u16 0] := rfl
  show Instr.fill _ (Value.agg (secC zeroS).toArray).cells _ = _
  rw [show (Value.agg (secC zeroS).toArray).cells = (secC zeroS).toArray from rfl]
  rw [fill_step (off := 0) (size := 64) rfl (by show (ints .u8 bs).toArray.size = 64; simpa using hb) (by simp [hz])]
  rw [show (secC zeroS).toArray.toList = secC zeroS from rfl, hzl, show (Value.agg (ints .u8 bs).toArray).cells.toList = ints .u8 bs from rfl, setL_mid _ _ _ _ 0 rfl (by rw [hb, ints_length, pad64_len])]
  rw [fill_step (off := 64) (size := 1) rfl rfl (by simp [hb])]
  rw [List.toList_toArray, show [] ++ ints .u8 bs ++ [Value.int .u16 0] = ints .u8 bs ++ [Value.int .u16 0] ++ [] by simp, show (Value.int .u16 t).cells.toList = [Value.int .u16 t] from rfl, setL_mid (ints .u8 bs) [.int .u16 0] [] [.int .u16 t] 64 hb.symm rfl]
  show some _ = some _
  unfold secC
  dsimp only
  rw [pad64_of h, List.append_nil]
theorem built_wt (x : Wt) : Try.prog.built 83 [(0, .int .i64 x.pos), (1, .agg (secC x.was).toArray), (2, .agg (secC x.now).toArray)] = some (wtC x).toArray := by
  obtain ⟨i, h2, h3, h4, h5⟩ := info_parts infoWtZ
  unfold Program.built
  rw [h2, Try.underlying83]
  simp only [h3]
  generalize hm : List.mapM (m := Option) (fun f : Field => (Try.prog.info? f.type).map fun i => (f.offset, i.size)) _ = M
  obtain rfl : M = some [(0, 1), (1, 65), (66, 65)] := by rw [← hm]; kernel_rfl
  clear hm
  have hz : (wtC ⟨0, zeroS, zeroS⟩).length = 131 := wtC_len _
  have h1 := secC_len x.was
  have h2' := secC_len x.now
  have h0 := secC_len zeroS
  have hzl : wtC ⟨0, zeroS, zeroS⟩ = [] ++ [.int .i64 0] ++ (secC zeroS ++ secC zeroS) := rfl
  show Instr.fill _ (Value.agg (wtC ⟨0, zeroS, zeroS⟩).toArray).cells _ = _
  rw [show (Value.agg (wtC ⟨0, zeroS, zeroS⟩).toArray).cells = (wtC ⟨0, zeroS, zeroS⟩).toArray from rfl]
  rw [fill_step (off := 0) (size := 1) rfl rfl (by simp [hz])]
  rw [show (wtC ⟨0, zeroS, zeroS⟩).toArray.toList = wtC ⟨0, zeroS, zeroS⟩ from rfl, hzl, show (Value.int .i64 x.pos).cells.toList = [Value.int .i64 x.pos] from rfl, setL_mid [] [.int .i64 0] (secC zeroS ++ secC zeroS) [.int .i64 x.pos] 0 rfl rfl]
  rw [fill_step (off := 1) (size := 65) rfl (by show (secC x.was).toArray.size = 65; simpa using h1) (by simp [h0])]
  rw [List.toList_toArray, show [] ++ [Value.int .i64 x.pos] ++ (secC zeroS ++ secC zeroS) = [Value.int .i64 x.pos] ++ secC zeroS ++ secC zeroS by simp, show (Value.agg (secC x.was).toArray).cells.toList = secC x.was from rfl, setL_mid _ _ _ _ 1 rfl (by rw [h1, h0])]
  rw [fill_step (off := 66) (size := 65) rfl (by show (secC x.now).toArray.size = 65; simpa using h2') (by simp [h0, h1])]
  rw [List.toList_toArray, show [Value.int .i64 x.pos] ++ secC x.was ++ secC zeroS = ([Value.int .i64 x.pos] ++ secC x.was) ++ secC zeroS ++ [] by simp, show (Value.agg (secC x.now).toArray).cells.toList = secC x.now from rfl, setL_mid _ _ _ _ 66 (by simp [h1]) (by rw [h2', h0])]
  show some _ = some _
  unfold wtC
  simp

/-- A slice literal of one wait: where it lies. -/
theorem fill_oneWt (x : Wt) : Instr.fill (fun i => some (i * 131, 131)) ((Array.range (1 * 131)).map ((Value.agg (wtC ⟨0, zeroS, zeroS⟩).toArray).cells[· % (Value.agg (wtC ⟨0, zeroS, zeroS⟩).toArray).cells.size]!)) [(0, .agg (wtC x).toArray)] = some (wtC x).toArray := by
  have hx : (wtC x).length = 131 := wtC_len x
  rw [fill_step (off := 0) (size := 131) (by simp) (by show (wtC x).toArray.size = 131; simpa using hx) (by simp)]
  show some _ = some _
  congr 1
  rw [show (Value.agg (wtC x).toArray).cells.toList = wtC x from rfl, setL_eq _ _ _ (by rw [hx]; simp), hx]
  simp
theorem wp_oneWt {o : Oper} {tmps : Array Value} {df : List Deferred} {w : World} {K : Act → World → Prop} {Q : Exit → Act → World → Prop} {d : Nat} (u : Operand) (ho : o.op = .buildSlice 63 1 #[(0, u)]) (hd : o.dst = some d) (x : Wt) (NW : Array Value) (hx : Act.eval ⟨tmps, df⟩ u = .agg NW) (hN : NW = (wtC x).toArray)
    (h : K ⟨tmps.setIfInBounds d (.slice (some ⟨w.heap.size, 0, none⟩) 1 1), df⟩ (w.alloc (.cells NW 83))) : o.wp Try.prog ⟨tmps, df⟩ w K Q := by
  obtain ⟨i, h2, h3, h4, h5⟩ := info_parts infoWtZ
  refine wp_buildSlice 63 83 1 #[(0, u)] ho NW i _ Try.underlying63 h2 h3 (by rw [h4]; decide) (by rw [h4]; decide) ?_ ?_
  · rw [h4]
    have e : ((#[(0, u)] : Array (Nat × Operand)).map fun (i, x) => (i, Act.eval ⟨tmps, df⟩ x)).toList = [(0, .agg (wtC x).toArray)] := by simp [hx, hN]
    rw [e, hN]
    exact fill_oneWt x
  · unfold Act.put; rw [hd]; exact h
end Go.Proofs.Ytfodpphbdbeciaa.Dk
