/- The disk's Write. -/
import Derived.Test.YtfodpphbdbeciaaDkB
namespace Go.Proofs.Ytfodpphbdbeciaa.Dk
open Go.RowKit Words Mem Plain Ops Agg OwnS
set_option maxRecDepth 100000
set_option linter.ambiguousOpen false
set_option linter.unusedVariables false
set_option linter.unusedSimpArgs false

def writeR (D : Dsk) (i : Int) (bs : List Int) (tag : Int) : Dsk × Int :=
  if ¬ (0 ≤ i ∧ i < D.secs.length ∧ bs.length = 64) then (D, 1)
  else if (powerR D).2 = 0 then ({ (powerR D).1 with waits := D.waits ++ [⟨i, sg D.secs i.toNat, ⟨bs, tag⟩⟩], secs := D.secs.set i.toNat ⟨bs, tag⟩ }, 0)
  else powerR D
theorem byCell {w w' : World} {g : Nat} (h : By g w w') {p : Addr} {v : Value} (hc : w.cell? p = some v) (hne : p.block ≠ g) : w'.cell? p = some v := by
  have hl := World.block_lt_of_cell? w p hc
  rw [World.cell?_of_block (w := w) (h.block p.block hl (by simpa using hne))]
  exact hc
theorem loadArr (w : World) (b off : Nat) (bs : List Int) (h64 : bs.length = 64) (hc : ∀ j, j < 64 → w.cell? ⟨b, off + j, none⟩ = (ints .u8 bs)[j]?) : (Instr.loadAt 77 (.pointer (some ⟨b, off, none⟩))).run Try.prog w = .ok (.agg (ints .u8 bs).toArray) w := by
  refine run_loadAt_mid w b off 77 (ints .u8 bs) _ (fun j v hv => ?_) Try.underlying77 rfl (by rw [ints_length, h64]; kernel_rfl)
  have hj : j < 64 := by
    have := (List.getElem?_eq_some_iff.1 hv).1
    rw [ints_length, h64] at this; exact this
  rw [hc j hj, hv]
theorem arrAt (w : World) (b off cb : Nat) : (Instr.arrayAt 77 (.slice (some ⟨b, off, none⟩) 64 cb)).run Try.prog w = .ok (.pointer (some ⟨b, off, none⟩)) w := by
  simp [Instr.arrayAt, run_underlying Try.underlying77]
theorem storeSec (v : World) (Z : Array Value) (hz : Z.size = 65) (s : Sec) : (Instr.storeAt 79 (.pointer (some ⟨v.heap.size, 0, none⟩)) (.agg (secC s).toArray)).run Try.prog (v.alloc (.cells Z 79)) = .ok () (v.alloc (.cells (secC s).toArray 79)) := by
  have hr := Row.new v 79 Z.toList
  have hg : (v.alloc (.cells Z 79)).heap[v.heap.size]? = some (.cells Z 79 (0, 0)) := heap_alloc_new v _
  have hrun := run_storeVar_row (P := Try.prog) (v.alloc (.cells Z 79)) v.heap.size 79 79 Z (secC s).toArray hg (by rw [sizeSec]; exact infoSec) (by rw [sizeSec, hz]) (allSec s)
  rw [setRow_new] at hrun
  simp only [Instr.storeAt, Instr.sureAddr, Sem.run_bind, Sem.run_pure, Result.andThen_ok, hrun]

theorem rangeLoad {w : World} {b o : Nat} {s : Sec} (h : w.rangeAt b o (secC s)) : (Instr.loadAt 79 (.pointer (some ⟨b, o, none⟩))).run Try.prog w = .ok (.agg (secC s).toArray) w :=
  run_loadAt_mid w b o 79 (secC s) _ h Try.underlying79 rfl (by rw [secC_len]; exact infoSec)
theorem range_chg {w w' : World} {F : Nat → Prop} {b o : Nat} {cs : List Value} (h : w.rangeAt b o cs) (c : Chg F w w') (hb : ¬ F b) : w'.rangeAt b o cs := fun j v hv => c.cell (h j v hv) hb

/-- wpAnyH_take, the frame laid out. -/
theorem takeD {P : Program} {ops : Array Oper} {Q : Exit → Act → World → Prop} {md : Region.Mode} {S : World → Prop} {i : Nat} {oi : Oper} {v : Value} {fuel d : Nat} {listed : Array Bool} {tmps : Array Value} {df : List Deferred} {w : World} (hi : ops[i]? = some oi) (hd : oi.dst = some d)
    (hs : Region.noSelect ops = true) (hf : Region.free md ops listed i = true) (hr : (Region.ready md ops listed).contains i = true)
    (hQ : ∀ c a w, Q (.panic c) (a.put oi.dst v) w → Q (.panic c) a w) (hy : YieldsIf P ops S oi v ⟨tmps, df⟩) (hS : S w)
    (h : wpAnyH P md ops Q S fuel (listed.setIfInBounds i true) ⟨tmps.setIfInBounds d v, df⟩ w) : wpAnyH P md ops Q S (fuel + 1) listed ⟨tmps, df⟩ w :=
  wpAnyH_take hi hs hf hr hQ hy hS (by unfold Act.put; rw [hd]; exact h)

theorem store_rowN {P : Program} {o : Oper} {tmps : Array Value} {df : List Deferred} {w : World} {K : Act → World → Prop} {Q : Exit → Act → World → Prop} (ty : TypeId) (x y : Operand) (ho : o.op = .store ty x y) (hd : o.dst = none)
    (g : Nat) (cells : Array Value) (hx : Act.eval ⟨tmps, df⟩ x = .pointer (some ⟨g, 0, none⟩)) (hy : Act.eval ⟨tmps, df⟩ y = .agg cells)
    (t : TypeId) (old : Array Value) (hg : w.heap[g]? = some (.cells old t (0, 0))) (hi : (P.info? ty).map (·.size) = some cells.size) (hold : old.size = cells.size) (h1 : cells.all (·.oneCell') = true)
    (h : K ⟨tmps, df⟩ (w.setRow g cells)) : o.wp P ⟨tmps, df⟩ w K Q :=
  wp_store_row ty x y ho g cells hx hy t old hg hi hold h1 (by rw [hd]; exact h)
theorem wp_append_ex {P : Program} {o : Oper} {tmps : Array Value} {df : List Deferred} {w : World} {K : Act → World → Prop} {Q : Exit → Act → World → Prop} {d : Nat} (s x : Operand) (t : TypeId) (ho : o.op = .call { callee := .builtin .append, args := #[s, x], argTypes := #[t, t] }) (hty : o.type = t) (hd : o.dst = some d) (vs vx : Value) (hs : Act.eval ⟨tmps, df⟩ s = vs) (hx : Act.eval ⟨tmps, df⟩ x = vx)
    (R : Value → World → Prop) (hr : ∃ v' w', (Builtin.append_ #[t, t] t #[vs, vx]).run P w = .ok v' w' ∧ R v' w') (h : ∀ v' w', R v' w' → K ⟨tmps.setIfInBounds d v', df⟩ w') : o.wp P ⟨tmps, df⟩ w K Q := by
  obtain ⟨v', w', h1, h2⟩ := hr
  refine Go.Lib.wp_append_run w s x t t ho vs vx hs hx v' w' (by rw [hty]; exact h1) ?_
  unfold Act.put
  rw [hd]
  exact h v' w' h2
theorem store_midN {P : Program} {o : Oper} {tmps : Array Value} {df : List Deferred} {w : World} {K : Act → World → Prop} {Q : Exit → Act → World → Prop} (ty : TypeId) (x y : Operand) (ho : o.op = .store ty x y) (hd : o.dst = none)
    (b off : Nat) (cells : Array Value) (hx : Act.eval ⟨tmps, df⟩ x = .pointer (some ⟨b, off, none⟩)) (hy : Act.eval ⟨tmps, df⟩ y = .agg cells) (ht : w.there b off cells.size) (hi : (P.info? ty).map (·.size) = some cells.size) (h1 : cells.all (·.oneCell') = true)
    (h : K ⟨tmps, df⟩ (w.setCells b off cells.toList)) : o.wp P ⟨tmps, df⟩ w K Q :=
  wp_store_mid ty x y ho b off cells hx hy ht hi h1 (by rw [hd]; exact h)
/-- A disk behind a write: the wait is there, and the sector. -/
theorem write_at {w3 w5 : World} {base g : Nat} {gs sc : Nat} {wa a5 : Option Addr} {wc c5 : Nat} {D : Dsk} {x : Wt} {ns : Sec} {k : Nat} (h : DiskAt w3 base g (some ⟨gs, 0, none⟩) sc wa wc D) (hk : k < D.secs.length)
    (hc : Chg (fun j => Value.ownBlock (.slice wa D.waits.length wc) = some j) w3 w5) (ho : w5.ownsRow base 83 131 (.slice a5 (D.waits.length + 1) c5) (D.waits.length + 1) (flat wtC D.waits ++ wtC x)) (ha : a5 = wa ∨ ∀ ad, a5 = some ad → w3.heap.size ≤ ad.block) :
    DiskAt ((w5.setCell ⟨g, 1, none⟩ (.slice a5 (D.waits.length + 1) c5)).setCells gs (k * 65) (secC ns)) base g (some ⟨gs, 0, none⟩) sc a5 c5 { D with waits := D.waits ++ [x], secs := D.secs.set k ns } ∧
      Chg (foot g (some ⟨gs, 0, none⟩) wa) w3 ((w5.setCell ⟨g, 1, none⟩ (.slice a5 (D.waits.length + 1) c5)).setCells gs (k * 65) (secC ns)) := by
  have hown : ∀ j, Value.ownBlock (.slice wa D.waits.length wc) = some j → ∃ ad, wa = some ad ∧ j = ad.block := fun j hj => by
    cases wa with
    | none => cases hj
    | some ad => simp [Value.ownBlock] at hj; exact ⟨ad, rfl, hj.symm⟩
  have hgsg : gs ≠ g := h.sg ⟨gs, 0, none⟩ rfl
  have ng : ¬ Value.ownBlock (.slice wa D.waits.length wc) = some g := fun e => by
    obtain ⟨ad, e1, e2⟩ := hown g e
    exact h.wg ad e1 e2.symm
  have ngs : ¬ Value.ownBlock (.slice wa D.waits.length wc) = some gs := fun e => by
    obtain ⟨ad, e1, e2⟩ := hown gs e
    exact h.sw ⟨gs, 0, none⟩ ad rfl e1 e2
  have hgsl := (ownS_lt h.secs ⟨gs, 0, none⟩ rfl).2
  have hrow5 : Row w5 g 65 (dRow (some ⟨gs, 0, none⟩) sc wa wc D) := (hc.block g h.row.lt ng).trans h.row
  have hsec5 := ownS_block (w' := w5) h.secs (fun ad e => by cases e; exact hc.block gs hgsl ngs)
  have b6 := By.set w5 g 1 (.slice a5 (D.waits.length + 1) c5)
  have hrow6 := Mem.Row.set hrow5 1 (.slice a5 (D.waits.length + 1) c5)
  have hl5 := hc.size
  have hsec6 := ownS_block (w' := w5.setCell ⟨g, 1, none⟩ (.slice a5 (D.waits.length + 1) c5)) hsec5 (fun ad e => by cases e; exact b6.block gs (by dsimp only at hgsl; omega) (by simpa using hgsg))
  have a5g : ∀ ad, a5 = some ad → ad.block ≠ g ∧ ad.block ≠ gs := fun ad e => by
    rcases ha with ha | ha
    · rw [ha] at e
      exact ⟨h.wg ad e, fun e2 => h.sw ⟨gs, 0, none⟩ ad rfl e e2.symm⟩
    · have h1 := ha ad e
      have h2 := h.row.lt
      dsimp only at hgsl
      exact ⟨by omega, by omega⟩
  have hw6 := ownS_block (w' := w5.setCell ⟨g, 1, none⟩ (.slice a5 (D.waits.length + 1) c5)) ho (fun ad e => b6.block ad.block (ownS_lt ho ad e).2 (by simp; exact (a5g ad e).1))
  have b7 := gb_setCells gs (secC ns) (w5.setCell ⟨g, 1, none⟩ (.slice a5 (D.waits.length + 1) c5)) (k * 65)
  have hsz6 : (w5.setCell ⟨g, 1, none⟩ (.slice a5 (D.waits.length + 1) c5)).heap.size = w5.heap.size := by simp [World.setCell]
  have hwl : (D.waits ++ [x]).length = D.waits.length + 1 := by simp
  have hsl : (D.secs.set k ns).length = D.secs.length := List.length_set ..
  refine ⟨⟨?_, ?_, ?_, h.hb, h.sg, fun ad e => (a5g ad e).1, fun ad ad' e e' => by cases e; exact (a5g ad' e').2.symm⟩, ?_⟩
  · have := b7.block g (by rw [hsz6]; exact Nat.lt_of_lt_of_le h.row.lt hl5) (by simpa using hgsg.symm)
    refine this.trans ?_
    show _ = some (Obj.cells (dRow _ _ _ _ _).toArray _ _)
    unfold dRow
    dsimp only
    rw [hwl, hsl]
    exact hrow6
  · dsimp only
    rw [hsl]
    exact ownS_set secC_len hsec6 rfl hk ns
  · dsimp only
    rw [hwl]
    have e : flat wtC (D.waits ++ [x]) = flat wtC D.waits ++ wtC x := by rw [flat_append, flat_one]
    rw [e]
    exact ownS_block hw6 (fun ad e => b7.block ad.block (ownS_lt hw6 ad e).2 (by simp; exact (a5g ad e).2))
  · refine ((hc.mono (G := foot g (some ⟨gs, 0, none⟩) wa) (fun j _ hj => ?_)).trans (Chg.ofBy b6 (.inl rfl))).trans (Chg.ofBy b7 (.inr (.inl ⟨_, rfl, rfl⟩)))
    obtain ⟨ad, e1, e2⟩ := hown j hj
    exact .inr (.inr ⟨ad, e1, e2⟩)
theorem write_there {w3 w5 : World} {base g : Nat} {gs sc : Nat} {wa : Option Addr} {wc : Nat} {D : Dsk} {k : Nat} {v : Value} (h : DiskAt w3 base g (some ⟨gs, 0, none⟩) sc wa wc D) (hk : k < D.secs.length)
    (hc : Chg (fun j => Value.ownBlock (.slice wa D.waits.length wc) = some j) w3 w5) : (w5.setCell ⟨g, 1, none⟩ v).there gs (k * 65) 65 := by
  have hgsg : gs ≠ g := h.sg ⟨gs, 0, none⟩ rfl
  have ngs : ¬ Value.ownBlock (.slice wa D.waits.length wc) = some gs := fun e => by
    cases wa with
    | none => cases e
    | some ad => simp [Value.ownBlock] at e; exact h.sw ⟨gs, 0, none⟩ ad rfl rfl e.symm
  have hgsl := (ownS_lt h.secs ⟨gs, 0, none⟩ rfl).2
  have hsec5 := ownS_block (w' := w5) h.secs (fun ad e => by cases e; exact hc.block gs hgsl ngs)
  have b6 := By.set w5 g 1 v
  have hl5 := hc.size
  have hsec6 := ownS_block (w' := w5.setCell ⟨g, 1, none⟩ v) hsec5 (fun ad e => by cases e; exact b6.block gs (by dsimp only at hgsl; omega) (by simpa using hgsg))
  obtain ⟨g', e, _, _, ht⟩ := ownS_elem secC_len hsec6 rfl hk
  cases e
  exact ht
theorem yields_build {P : Program} {ops : Array Oper} {S : World → Prop} {o : Oper} {a : Act} (hw : Region.wanted o (yielded ops a.tmps) = true) (t : TypeId) (parts : List (Nat × Operand)) (ho : o.op = .build t parts.toArray) (vs : List (Nat × Value)) (hv : (parts.map fun p => (p.1, a.eval p.2)) = vs) (cells : Array Value) (hb : P.built t vs = some cells) : YieldsIf P ops S o (.agg cells) a := by
  refine .inl ⟨hw, fun w _ => ?_⟩
  have hr := run_build w t vs.toArray cells hb
  unfold execOp
  simp only [ho]
  have e : (parts.toArray.map fun (i, x) => (i, a.eval x)) = vs.toArray := by
    rw [← hv]; simp
  rw [e]
  simp [hr]

set_option maxRecDepth 100000 in
set_option maxHeartbeats 4000000 in
theorem Write_yes {base g : Nat} {sa : Option Addr} {sc : Nat} {wa : Option Addr} {wc : Nat} {D : Dsk} {w : World} (h : DiskAt w base g sa sc wa wc D) (hd : 0 ≤ D.done ∧ D.done ≤ 1000000000000) (hf : -1 ≤ D.fuse ∧ D.fuse ≤ 9223372036854775807)
    (k : Nat) (b off cb : Nat) (bs : List Int) (tag : Int) (hk : k < D.secs.length) (hn : D.secs.length ≤ 4096) (hm : D.waits.length ≤ 100000000) (h64 : bs.length = 64) (hs : ∀ j, j < 64 → w.cell? ⟨b, off + j, none⟩ = (ints .u8 bs)[j]?) (hfree : ¬ foot g sa wa b) (hbase : base ≤ w.heap.size) (hp : (powerR D).2 = 0) :
    Calls Try.prog 43 #[.pointer (some ⟨g, 0, none⟩), .agg #[.int .i64 k, .slice (some ⟨b, off, none⟩) 64 cb, .int .u16 tag]] w fun e w' => e = .returned (.int .i64 0) ∧ ∃ wa' wc', DiskAt w' base g sa sc wa' wc' (writeR D k bs tag).1 ∧ Chg (foot g sa wa) w w' ∧ (wa' = wa ∨ ∀ ad, wa' = some ad → w.heap.size ≤ ad.block) := by
  have hbl : b < w.heap.size := World.block_lt_of_cell? w _ ((hs 0 (by decide)).trans (List.getElem?_eq_getElem (by rw [ints_length, h64]; decide)))
  have hgl := h.row.lt
  have hgb : b ≠ g := fun e => hfree (.inl e)
  have X1 := (Ext.refl w).alloc (.cells #[.int .i64 k, .slice (some ⟨b, off, none⟩) 64 cb, .int .u16 tag] 37)
  have hrow := Row.new w 37 [.int .i64 k, .slice (some ⟨b, off, none⟩) 64 cb, .int .u16 tag]
  have h1 := h.ext X1
  have hth := there_ok h1 k
  rw [show decide (0 ≤ (k : Int) ∧ (k : Int) < D.secs.length) = true by simp; exact hk] at hth
  have hpow := power_ok h1 hd hf
  rw [hp] at hpow
  obtain ⟨gb, hgbx⟩ : ∃ q, q = w.heap.size := ⟨_, rfl⟩
  have HGB := Lib.hid (show gb ≠ g ∧ gb ≠ b by omega)
  have d0 := (hrow.cell? 0).trans rfl
  have d1 := (hrow.cell? 1).trans rfl
  have d2 := (hrow.cell? 2).trans rfl
  have HCELLS := Lib.hid (show ∀ v, By g (w.alloc (.cells #[.int .i64 k, .slice (some ⟨b, off, none⟩) 64 cb, .int .u16 tag] 37)) v → v.cell? ⟨gb, 0, none⟩ = some (.int .i64 k) ∧ v.cell? ⟨gb, 1, none⟩ = some (.slice (some ⟨b, off, none⟩) 64 cb) ∧ v.cell? ⟨gb, 2, none⟩ = some (.int .u16 tag) ∧ ∀ j, j < 64 → v.cell? ⟨b, off + j, none⟩ = (ints .u8 bs)[j]? from fun v hv => by
    rw [hgbx]
    refine ⟨byCell hv d0 (by simp; omega), byCell hv d1 (by simp; omega), byCell hv d2 (by simp; omega), fun j hj => ?_⟩
    have hj2 : j < (ints .u8 bs).length := by rw [ints_length, h64]; exact hj
    have := hs j hj
    rw [List.getElem?_eq_getElem hj2] at this ⊢
    exact byCell hv (X1.keep this) hgb)
  have HX1 := Lib.hid X1
  have H64 := Lib.hid h64
  have HWR := Lib.hid (show (writeR D k bs tag).1 = { (powerR D).1 with waits := (powerR D).1.waits ++ [⟨k, sg D.secs k, ⟨bs, tag⟩⟩], secs := (powerR D).1.secs.set k ⟨bs, tag⟩ } by
    unfold writeR
    rw [if_neg (fun e => e ⟨by omega, by omega, h64⟩), if_pos hp, (power_secs D).1, (power_secs D).2, Int.toNat_natCast])
  have HSB0 := Lib.hid (show ∀ ad, sa = some ad → ad.block < w.heap.size from fun ad e => (ownS_lt h.secs ad e).2)
  have HWB0 := Lib.hid (show ∀ ad, wa = some ad → ad.block < w.heap.size from fun ad e => (ownS_lt h.waits ad e).2)
  clear hs hrow h h1 d0 d1 d2 hbl hgl
  subst hgbx
  go_enter Try.func43, Try.ntmps43
  go_wp2_with fail
  generalize w.alloc (.cells #[.int .i64 k, .slice (some ⟨b, off, none⟩) 64 cb, .int .u16 tag] 37) = w1 at *
  have d0 := (HCELLS.out w1 (By.refl _ _)).1
  have d1 := (HCELLS.out w1 (By.refl _ _)).2.1
  refine hth.mono ?_
  rintro e w1' ⟨rfl, rfl⟩
  clear hth
  go_wp2_with fail
  refine hpow.mono ?_
  rintro e w2 ⟨rfl, hD2, hB2⟩
  clear hpow d0 d1
  obtain ⟨d0, d1, d2, hby⟩ := HCELLS.out w2 hB2
  have HD2 := Lib.hid hD2
  have HB2 := Lib.hid hB2
  obtain ⟨cs, hcs⟩ : ∃ q, q = ints .u8 bs := ⟨_, rfl⟩
  have hrg : w2.rangeAt b off cs := fun j v hv => by
    have hj : j < 64 := by
      have := (List.getElem?_eq_some_iff.1 hv).1
      rw [hcs, ints_length, H64.out] at this; exact this
    rw [hby j hj, ← hcs, hv]
  have HALL := Lib.hid (show ∀ v : World, Ext w2 v → (Ext w2 v ∧ v.cell? ⟨w.heap.size, 0, none⟩ = some (.int .i64 k) ∧ v.cell? ⟨w.heap.size, 1, none⟩ = some (.slice (some ⟨b, off, none⟩) 64 cb) ∧ v.cell? ⟨w.heap.size, 2, none⟩ = some (.int .u16 tag) ∧ v.rangeAt b off cs) from fun v hv => ⟨hv, hv.keep d0, hv.keep d1, hv.keep d2, range_chg hrg (Chg.ofExt (fun _ => False) hv) id⟩)
  have hu61 : Try.prog.underlying 77 = some (.array 64 5) := Try.underlying77
  have hi61 : (Try.prog.info? 77).map (·.size) = some cs.length := by rw [hcs, ints_length, H64.out]; kernel_rfl
  have harr := arrAt
  obtain ⟨NS, hNS⟩ : ∃ q, q = (secC ⟨bs, tag⟩).toArray := ⟨_, rfl⟩
  have HBT := Lib.hid (show Try.prog.built 79 [(0, .agg cs.toArray), (1, .int .u16 tag)] = some NS by rw [hcs, hNS]; exact built_sec bs H64.out tag)
  obtain ⟨Z, hZ⟩ : ∃ Z : Array Value, Z = (secC zeroS).toArray := ⟨_, rfl⟩
  have hz := zeroSec
  rw [← hZ] at hz
  have hst : ∀ v : World, (Instr.storeAt 79 (.pointer (some ⟨v.heap.size, 0, none⟩)) (.agg NS)).run Try.prog (v.alloc (.cells Z 79)) = .ok () (v.alloc (.cells NS 79)) := fun v => by
    rw [hNS]
    exact storeSec v Z (by rw [hZ]; exact sizeSec _) _
  have HNS := Lib.hid hNS
  have HSZ := Lib.hid (show (Try.prog.info? 79).map (·.size) = some NS.size ∧ Z.size = NS.size ∧ NS.all (·.oneCell') = true from ⟨by rw [hNS, sizeSec]; exact infoSec, by rw [hNS, hZ, sizeSec, sizeSec], by rw [hNS]; exact allSec _⟩)
  have HCS := Lib.hid hcs
  have HRG := Lib.hid hrg
  clear hby hD2 hB2 hZ hNS hcs hrg
  go_wp2
  refine wp_region_held_drew (S := (fun v => Ext w2 v ∧ v.cell? ⟨w.heap.size, 0, none⟩ = some (.int .i64 k) ∧ v.cell? ⟨w.heap.size, 1, none⟩ = some (.slice (some ⟨b, off, none⟩) 64 cb) ∧ v.cell? ⟨w.heap.size, 2, none⟩ = some (.int .u16 tag) ∧ v.rangeAt b off cs)) (by kernel_rfl) (HALL.out _ (Ext.drew (Ext.refl _))) (fun hHeld => ?_)
  refine takeD (i := 0) (v := ?_) rfl rfl (by kernel_rfl) (by kernel_rfl) (by kernel_rfl) (fun _ _ _ h => h) (Or.inl ⟨by rfl, ?_⟩) hHeld ?_
  rotate_left
  · (intro v hv; (try dsimp only at hv); go_simp; try (with_reducible rfl))
  (try simp only [List.setIfInBounds_toArray, List.set_cons_zero, List.set_cons_succ])
  refine takeD (i := 1) (v := ?_) rfl rfl (by kernel_rfl) (by kernel_rfl) (by kernel_rfl) (fun _ _ _ h => h) (Or.inl ⟨by rfl, ?_⟩) hHeld ?_
  rotate_left
  · (intro v hv; (try dsimp only at hv); go_simp; try (with_reducible rfl))
  (try simp only [List.setIfInBounds_toArray, List.set_cons_zero, List.set_cons_succ])
  refine takeD (i := 4) (v := ?_) rfl rfl (by kernel_rfl) (by kernel_rfl) (by kernel_rfl) (fun _ _ _ h => h) (Or.inl ⟨by rfl, ?_⟩) hHeld ?_
  rotate_left
  · (intro v hv; (try dsimp only at hv); go_simp; try (with_reducible rfl))
  (try simp only [List.setIfInBounds_toArray, List.set_cons_zero, List.set_cons_succ])
  refine takeD (i := 5) (v := ?_) rfl rfl (by kernel_rfl) (by kernel_rfl) (by kernel_rfl) (fun _ _ _ h => h) (Or.inl ⟨by rfl, ?_⟩) hHeld ?_
  rotate_left
  · (intro v hv; (try dsimp only at hv); go_simp; try (with_reducible rfl))
  (try simp only [List.setIfInBounds_toArray, List.set_cons_zero, List.set_cons_succ])
  refine takeD (i := 2) (v := (.pointer (some ⟨b, off, none⟩))) rfl rfl (by kernel_rfl) (by kernel_rfl) (by kernel_rfl) (fun _ _ _ h => h) (Or.inl ⟨by rfl, fun v _ => by unfold execOp; exact congrArg (fun r => Result.andThen r (fun a w' => Result.ok (Next.value a) w')) (arrAt v b off cb)⟩) hHeld ?_
  (try simp only [List.setIfInBounds_toArray, List.set_cons_zero, List.set_cons_succ])
  refine takeD (i := 3) (v := (.agg cs.toArray)) rfl rfl (by kernel_rfl) (by kernel_rfl) (by kernel_rfl) (fun _ _ _ h => h) (yieldsIf_load_mid (by rfl) _ _ rfl b off rfl cs _ (fun v hv => hv.2.2.2.2) hu61 rfl hi61) hHeld ?_
  (try simp only [List.setIfInBounds_toArray, List.set_cons_zero, List.set_cons_succ])
  refine takeD (i := 6) (v := (.agg NS)) rfl rfl (by kernel_rfl) (by kernel_rfl) (by kernel_rfl) (fun _ _ _ h => h) (yields_build (by rfl) 79 [(0, .tmp 30), (1, .tmp 32)] rfl [(0, .agg cs.toArray), (1, .int .u16 tag)] rfl NS HBT.out) hHeld ?_
  (try simp only [List.setIfInBounds_toArray, List.set_cons_zero, List.set_cons_succ])
  -- 7: the block is made
  refine wpAnyH_ready (rs := [7]) (by kernel_rfl) (by simp) ?_
  refine AllReadyH.cons rfl (fun K hK => ?_) AllReadyH.nil
  go_simp
  refine hK.out _ _ (HALL.out _ (by repeat (first | exact Ext.refl _ | apply Ext.drew | apply Ext.drewN | apply Ext.alloc))) (fun hHeld => ?_)
  clear hK
  -- 8: the sector is laid into it
  refine wpAnyH_ready (rs := [8]) (by kernel_rfl) (by simp) ?_
  refine AllReadyH.cons rfl (fun K hK => ?_) AllReadyH.nil
  rw [if_pos (by rfl)]
  refine store_rowN _ _ _ rfl rfl w2.heap.size NS rfl rfl 79 Z (heap_alloc_new w2 _) HSZ.out.1 HSZ.out.2.1 HSZ.out.2.2 ?_
  have hX3 : Ext w2 (((w2.alloc (.cells Z 79)).drew).setRow w2.heap.size NS) := (Ext.drew ((Ext.refl w2).alloc _)).setRow (Nat.le_refl _) NS
  have hR3 : Row (((w2.alloc (.cells Z 79)).drew).setRow w2.heap.size NS) w2.heap.size 79 NS.toList := Mem.Row.setRow (L := Z.toList) (show _ = some (Obj.cells Z.toList.toArray 79 (0, 0)) from by rw [Array.toArray_toList]; exact heap_alloc_new w2 _) NS
  refine hK.out _ _ (HALL.out _ hX3) (fun hHeld => ?_)
  clear hK hHeld
  refine wpAnyH_done (by kernel_rfl) ?_ _
  generalize ((w2.alloc (.cells Z 79)).drew).setRow w2.heap.size NS = w3 at *
  have H3 := Lib.hid hX3
  have HR3 := Lib.hid hR3
  clear HALL HRG hX3 hR3 hu61 hi61 harr hst hz
  go_wp2
  have hD3 := HD2.out.ext H3.out
  have e0 := H3.out.keep d0
  obtain ⟨c0, c1, c2, c3, c4⟩ := hD3.cells
  obtain ⟨hps, hpw⟩ := power_secs D
  have hk2 : k < (powerR D).1.secs.length := by rw [hps]; exact hk
  obtain ⟨gs, hgs, hgsb, hrgs, hths⟩ := ownS_elem secC_len hD3.secs rfl hk2
  obtain ⟨OS, hOS⟩ : ∃ q, q = secC (powerR D).1.secs[k] := ⟨_, rfl⟩
  obtain ⟨NL, hNL⟩ : ∃ q, q = NS.toList := ⟨_, rfl⟩
  have hOSe : OS = secC (sg D.secs k) := by rw [hOS, ← sg_eq _ _ hk2, hps]
  have hNLe : NL = secC ⟨bs, tag⟩ := by rw [hNL, HNS.out]
  obtain ⟨NW, hNW⟩ : ∃ q, q = (wtC ⟨k, sg D.secs k, ⟨bs, tag⟩⟩).toArray := ⟨_, rfl⟩
  have HBW := Lib.hid (show Try.prog.built 83 [(0, .int .i64 k), (1, .agg OS.toArray), (2, .agg NL.toArray)] = some NW by rw [hOSe, hNLe, hNW]; exact built_wt ⟨k, sg D.secs k, ⟨bs, tag⟩⟩)
  have hu63 : Try.prog.underlying 79 = _ := Try.underlying79
  have hiOS : (Try.prog.info? 79).map (·.size) = some OS.length := by rw [hOSe, secC_len]; exact infoSec
  have hiNL : (Try.prog.info? 79).map (·.size) = some NL.length := by rw [hNLe, secC_len]; exact infoSec
  have hrnew : w3.rangeAt w2.heap.size 0 NL := fun j v hv => by rw [Nat.zero_add, HR3.out.cell?, ← hNL, hv]
  rw [← hOS] at hrgs
  have HE := Lib.hid (And.intro hOSe (And.intro hNLe hNW))
  have HD3 := Lib.hid hD3
  have f1 := hD3.row.frozen 1
  have hsn : (powerR D).1.secs.length = D.secs.length := by rw [hps]
  have hwn : (powerR D).1.waits.length = D.waits.length := by rw [hpw]
  rw [hsn] at c0
  rw [hwn] at c1
  rw [hgs] at c0
  have hk0 : (0 : Int) ≤ k := by omega
  have hk1 : (k : Int) < D.secs.length := by omega
  have HTH := Lib.hid hths
  clear hD3 hOS hNL hOSe hNLe hNW hps hpw hths
  generalize D.secs.length = n at *
  generalize D.waits.length = m at *
  have hww := HD3.out.waits
  have hwb : ∀ j, Value.ownBlock (.slice wa m wc) = some j → j < w.heap.size ∧ j ≠ g ∧ j ≠ gs := fun j hj => by
    cases wa with
    | none => cases hj
    | some ad =>
      simp [Value.ownBlock] at hj
      subst hj
      exact ⟨HWB0.out ad rfl, HD2.out.wg ad rfl, fun e => HD2.out.sw _ ad hgs rfl (by rw [e])⟩
  have hwl : w.heap.size < w2.heap.size := World.block_lt_of_cell? w2 _ d0
  have hgl2 : g < w2.heap.size := HD2.out.row.lt
  have hgsl : gs < w2.heap.size := (ownS_lt HD2.out.secs ⟨gs, 0, none⟩ hgs).2
  have hgsg : gs ≠ g := HD2.out.sg ⟨gs, 0, none⟩ hgs
  have hgsw : gs ≠ w.heap.size := by have := HSB0.out ⟨gs, 0, none⟩ hgs; dsimp only at this; omega
  have hnwl : NW.toList.length = 1 * 131 := by rw [HE.out.2.2]; simp [wtC_len]
  have hnw1 : ∀ u ∈ NW.toList, u.oneCell' = true := by rw [HE.out.2.2]; exact wtC_one _
  have HSE := Lib.hid (show ∀ v : World, Ext w3 v → (v.cell? ⟨w.heap.size, 0, none⟩ = some (.int .i64 k) ∧ v.cell? ⟨g, 0, none⟩ = some (.slice (some ⟨gs, 0, none⟩) n sc) ∧ v.rangeAt gs (k * 65) OS ∧ v.rangeAt w2.heap.size 0 NL) from fun v hv => ⟨hv.keep e0, hv.keep c0, range_chg hrgs (Chg.ofExt (fun _ => False) hv) id, range_chg hrnew (Chg.ofExt (fun _ => False) hv) id⟩)
  have HSW := Lib.hid (show ∀ v : World, Chg (fun j => Value.ownBlock (.slice wa m wc) = some j) w3 v → (v.cell? ⟨w.heap.size, 0, none⟩ = some (.int .i64 k) ∧ v.cell? ⟨g, 0, none⟩ = some (.slice (some ⟨gs, 0, none⟩) n sc) ∧ v.rangeAt gs (k * 65) OS ∧ v.rangeAt w2.heap.size 0 NL) from fun v hc =>
    ⟨hc.cell e0 (fun e => by have := (hwb _ e).1; dsimp only at this; omega), hc.cell c0 (fun e => (hwb _ e).2.1 rfl), range_chg hrgs hc (fun e => (hwb _ e).2.2 rfl), range_chg hrnew hc (fun e => by have := (hwb _ e).1; omega)⟩)
  have HAPP := Lib.hid (show ∀ V : World, Ext w3 V → V.heap[w3.heap.size]? = some (.cells NW 83 (0, 0)) → ∃ v' w', (Builtin.append_ #[63, 63] 63 #[.slice wa m wc, .slice (some ⟨w3.heap.size, 0, none⟩) 1 1]).run Try.prog V = .ok v' w' ∧ ∃ a' cap', v' = .slice a' (m + 1) cap' ∧ w'.ownsRow base 83 131 (.slice a' (m + 1) cap') (m + 1) (flat wtC (powerR D).1.waits ++ NW.toList) ∧ Chg (fun j => Value.ownBlock (.slice wa m wc) = some j) w3 w' ∧ (a' = wa ∨ ∀ ad, a' = some ad → w3.heap.size ≤ ad.block) from fun V hV hb => by
    have hw := ownS_ext hww hV
    rw [hwn] at hw
    have hsz : base ≤ V.heap.size := by
      have h1 := X1.size
      have h2 := HB2.out.size
      have h3 := H3.out.size
      have h4 := hV.size
      omega
    have hrow : Row V w3.heap.size 83 NW.toList := by unfold Row; simpa using hb
    obtain ⟨a', cap', w', r1, r2, r3, r4⟩ := run_append_s (P := Try.prog) V base 131 (by decide) 63 63 83 _ 144 Try.underlying63 infoWtZ (by simp [Value.cells, wtC_len]) hw 1 hnwl hrow.sl0 (by simp) hnw1 (by omega) (by omega) hsz
    refine ⟨_, w', r1, a', cap', rfl, r2, (Chg.ofExt _ hV).trans (Chg.ofGrown r3 (fun j hj => hj)), ?_⟩
    rcases r4 with r4 | r4
    · exact .inl r4
    · exact .inr (fun ad e => Nat.le_trans hV.size (r4 ad e)))
  refine wp_region_held_drew (S := (fun v => v.cell? ⟨w.heap.size, 0, none⟩ = some (.int .i64 k) ∧ v.cell? ⟨g, 0, none⟩ = some (.slice (some ⟨gs, 0, none⟩) n sc) ∧ v.rangeAt gs (k * 65) OS ∧ v.rangeAt w2.heap.size 0 NL)) (by kernel_rfl) ⟨e0, c0, hrgs, hrnew⟩ (fun hHeld => ?_)
  -- REGION 9
  refine takeD (i := 0) (v := ?_) rfl rfl (by kernel_rfl) (by kernel_rfl) (by kernel_rfl) (fun _ _ _ h => h) (Or.inl ⟨by rfl, ?_⟩) hHeld ?_
  rotate_left
  · (intro v hv; (try dsimp only at hv); go_simp; try (with_reducible rfl))
  (try simp only [List.setIfInBounds_toArray, List.set_cons_zero, List.set_cons_succ])
  refine takeD (i := 1) (v := ?_) rfl rfl (by kernel_rfl) (by kernel_rfl) (by kernel_rfl) (fun _ _ _ h => h) (Or.inl ⟨by rfl, ?_⟩) hHeld ?_
  rotate_left
  · (intro v hv; (try dsimp only at hv); go_simp; try (with_reducible rfl))
  (try simp only [List.setIfInBounds_toArray, List.set_cons_zero, List.set_cons_succ])
  refine takeD (i := 2) (v := ?_) rfl rfl (by kernel_rfl) (by kernel_rfl) (by kernel_rfl) (fun _ _ _ h => h) (Or.inl ⟨by rfl, ?_⟩) hHeld ?_
  rotate_left
  · (intro v hv; (try dsimp only at hv); go_simp; try (with_reducible rfl))
  (try simp only [List.setIfInBounds_toArray, List.set_cons_zero, List.set_cons_succ])
  refine takeD (i := 3) (v := ?_) rfl rfl (by kernel_rfl) (by kernel_rfl) (by kernel_rfl) (fun _ _ _ h => h) (Or.inl ⟨by rfl, ?_⟩) hHeld ?_
  rotate_left
  · (intro v hv; (try dsimp only at hv); go_simp; try (with_reducible rfl))
  (try simp only [List.setIfInBounds_toArray, List.set_cons_zero, List.set_cons_succ])
  refine takeD (i := 5) (v := ?_) rfl rfl (by kernel_rfl) (by kernel_rfl) (by kernel_rfl) (fun _ _ _ h => h) (Or.inl ⟨by rfl, ?_⟩) hHeld ?_
  rotate_left
  · (intro v hv; (try dsimp only at hv); go_simp; try (with_reducible rfl))
  (try simp only [List.setIfInBounds_toArray, List.set_cons_zero, List.set_cons_succ])
  refine takeD (i := 6) (v := ?_) rfl rfl (by kernel_rfl) (by kernel_rfl) (by kernel_rfl) (fun _ _ _ h => h) (Or.inl ⟨by rfl, ?_⟩) hHeld ?_
  rotate_left
  · (intro v hv; (try dsimp only at hv); go_simp; try (with_reducible rfl))
  (try simp only [List.setIfInBounds_toArray, List.set_cons_zero, List.set_cons_succ])
  refine takeD (i := 7) (v := ?_) rfl rfl (by kernel_rfl) (by kernel_rfl) (by kernel_rfl) (fun _ _ _ h => h) (Or.inl ⟨by rfl, ?_⟩) hHeld ?_
  rotate_left
  · (intro v hv; (try dsimp only at hv); go_simp; try (with_reducible rfl))
  (try simp only [List.setIfInBounds_toArray, List.set_cons_zero, List.set_cons_succ])
  refine takeD (i := 8) (v := ?_) rfl rfl (by kernel_rfl) (by kernel_rfl) (by kernel_rfl) (fun _ _ _ h => h) (Or.inl ⟨by rfl, ?_⟩) hHeld ?_
  rotate_left
  · (intro v hv; (try dsimp only at hv); go_simp; try (with_reducible rfl))
  (try simp only [List.setIfInBounds_toArray, List.set_cons_zero, List.set_cons_succ])
  refine takeD (i := 9) (v := ?_) rfl rfl (by kernel_rfl) (by kernel_rfl) (by kernel_rfl) (fun _ _ _ h => h) (Or.inl ⟨by rfl, ?_⟩) hHeld ?_
  rotate_left
  · (intro v hv; (try dsimp only at hv); go_simp; try (with_reducible rfl))
  (try simp only [List.setIfInBounds_toArray, List.set_cons_zero, List.set_cons_succ])
  refine takeD (i := 10) (v := ?_) rfl rfl (by kernel_rfl) (by kernel_rfl) (by kernel_rfl) (fun _ _ _ h => h) (Or.inl ⟨by rfl, ?_⟩) hHeld ?_
  rotate_left
  · (intro v hv; (try dsimp only at hv); go_simp; try (with_reducible rfl))
  (try simp only [List.setIfInBounds_toArray, List.set_cons_zero, List.set_cons_succ])
  refine takeD (i := 11) (v := ?_) rfl rfl (by kernel_rfl) (by kernel_rfl) (by kernel_rfl) (fun _ _ _ h => h) (Or.inl ⟨by rfl, ?_⟩) hHeld ?_
  rotate_left
  · (intro v hv; (try dsimp only at hv); go_simp; try (with_reducible rfl))
  (try simp only [List.setIfInBounds_toArray, List.set_cons_zero, List.set_cons_succ])
  refine takeD (i := 12) (v := ?_) rfl rfl (by kernel_rfl) (by kernel_rfl) (by kernel_rfl) (fun _ _ _ h => h) (Or.inl ⟨by rfl, ?_⟩) hHeld ?_
  rotate_left
  · (intro v hv; (try dsimp only at hv); go_simp; try (with_reducible rfl))
  (try simp only [List.setIfInBounds_toArray, List.set_cons_zero, List.set_cons_succ])
  refine takeD (i := 13) (v := ?_) rfl rfl (by kernel_rfl) (by kernel_rfl) (by kernel_rfl) (fun _ _ _ h => h) (Or.inl ⟨by rfl, ?_⟩) hHeld ?_
  rotate_left
  · (intro v hv; (try dsimp only at hv); go_simp; try (with_reducible rfl))
  (try simp only [List.setIfInBounds_toArray, List.set_cons_zero, List.set_cons_succ])
  refine takeD (i := 14) (v := (.agg OS.toArray)) rfl rfl (by kernel_rfl) (by kernel_rfl) (by kernel_rfl) (fun _ _ _ h => h) (yieldsIf_load_mid (by rfl) _ _ rfl gs (k * 65) rfl OS _ (fun v hv => hv.2.2.1) hu63 rfl hiOS) hHeld ?_
  (try simp only [List.setIfInBounds_toArray, List.set_cons_zero, List.set_cons_succ])
  refine takeD (i := 15) (v := (.agg NL.toArray)) rfl rfl (by kernel_rfl) (by kernel_rfl) (by kernel_rfl) (fun _ _ _ h => h) (yieldsIf_load_mid (by rfl) _ _ rfl w2.heap.size 0 rfl NL _ (fun v hv => hv.2.2.2) hu63 rfl hiNL) hHeld ?_
  (try simp only [List.setIfInBounds_toArray, List.set_cons_zero, List.set_cons_succ])
  refine takeD (i := 16) (v := (.agg NW)) rfl rfl (by kernel_rfl) (by kernel_rfl) (by kernel_rfl) (fun _ _ _ h => h) (yields_build (by rfl) 83 [(0, .tmp 40), (1, .tmp 48), (2, .tmp 49)] rfl [(0, .int .i64 k), (1, .agg OS.toArray), (2, .agg NL.toArray)] rfl NW HBW.out) hHeld ?_
  (try simp only [List.setIfInBounds_toArray, List.set_cons_zero, List.set_cons_succ])
  (try dsimp only)
  refine wpAnyH_ready (rs := [4, 17]) (by kernel_rfl) (by simp) ?_
  refine AllReadyH.cons rfl (fun K hK => ?_) ?_
  go_simp
  refine hK.out _ _ (HSE.out _ (by repeat (first | exact Ext.refl _ | apply Ext.drew | apply Ext.drewN | apply Ext.alloc))) (fun hHeld => ?_)
  clear hK
  refine wpAnyH_ready (rs := [17]) (by kernel_rfl) (by simp) ?_
  refine AllReadyH.cons rfl (fun K hK => ?_) AllReadyH.nil
  rw [if_pos (by rfl)]; refine wp_oneWt (.tmp 50) (by rfl) (by rfl) _ NW (by rfl) HE.out.2.2 ?_
  (try simp only [List.setIfInBounds_toArray, List.set_cons_zero, List.set_cons_succ])
  refine hK.out _ _ (HSE.out _ (by repeat (first | exact Ext.refl _ | apply Ext.drew | apply Ext.drewN | apply Ext.alloc))) (fun hHeld => ?_)
  clear hK
  refine wpAnyH_ready (rs := [18]) (by kernel_rfl) (by simp) ?_
  refine AllReadyH.cons rfl (fun K hK => ?_) AllReadyH.nil
  rw [if_pos (by rfl)]
  refine wp_append_ex (.tmp 38) (.tmp 51) 63 (by rfl) (by rfl) (by rfl) (.slice wa m wc) (.slice (some ⟨w3.heap.size, 0, none⟩) 1 1) (by rfl) (by rfl) _ (by exact HAPP.out _ (by repeat (first | exact Ext.refl _ | apply Ext.drew | apply Ext.drewN | apply Ext.alloc)) (by exact heap_alloc_new _ _)) ?_
  rintro v5 w5 ⟨a5, c5, rfl, hown5, hchg5, hwa5⟩
  refine hK.out _ _ (HSW.out _ hchg5) (fun hHeld => ?_)
  clear hK
  (try simp only [List.setIfInBounds_toArray, List.set_cons_zero, List.set_cons_succ])
  refine takeD (i := 19) (v := ?_) rfl rfl (by kernel_rfl) (by kernel_rfl) (by kernel_rfl) (fun _ _ _ h => h) (Or.inl ⟨by rfl, ?_⟩) hHeld ?_
  rotate_left
  · (intro v hv; (try dsimp only at hv); go_simp; try (with_reducible rfl))
  (try simp only [List.setIfInBounds_toArray, List.set_cons_zero, List.set_cons_succ])
  refine takeD (i := 20) (v := ?_) rfl rfl (by kernel_rfl) (by kernel_rfl) (by kernel_rfl) (fun _ _ _ h => h) (Or.inl ⟨by rfl, ?_⟩) hHeld ?_
  rotate_left
  · (intro v hv; (try dsimp only at hv); go_simp; try (with_reducible rfl))
  (try simp only [List.setIfInBounds_toArray, List.set_cons_zero, List.set_cons_succ])
  have g1 := hchg5.cell c1 (fun e => (hwb _ e).2.1 rfl)
  have hrow5 : Row w5 g _ _ := (hchg5.block g HD3.out.row.lt (fun e => (hwb _ e).2.1 rfl)).trans HD3.out.row
  have f15 := hrow5.frozen 1
  have hb6 := By.set w5 g 1 (.slice a5 (m + 1) c5)
  have HS6 := Lib.hid (show ((w5.setCell ⟨g, 1, none⟩ (.slice a5 (m + 1) c5)).cell? ⟨w.heap.size, 0, none⟩ = some (.int .i64 k) ∧ (w5.setCell ⟨g, 1, none⟩ (.slice a5 (m + 1) c5)).cell? ⟨g, 0, none⟩ = some (.slice (some ⟨gs, 0, none⟩) n sc) ∧ (w5.setCell ⟨g, 1, none⟩ (.slice a5 (m + 1) c5)).rangeAt gs (k * 65) OS ∧ (w5.setCell ⟨g, 1, none⟩ (.slice a5 (m + 1) c5)).rangeAt w2.heap.size 0 NL) from ⟨byCell hb6 hHeld.1 (by dsimp only; exact HGB.out.1), (World.cell?_setCell_other _ _ _ _ (by intro e; cases e)).trans hHeld.2.1, range_chg hHeld.2.2.1 (Chg.ofBy (F := (· = g)) hb6 rfl) (fun e => hgsg e), range_chg hHeld.2.2.2 (Chg.ofBy (F := (· = g)) hb6 rfl) (fun e => by omega)⟩)
  refine wpAnyH_ready (rs := [21]) (by kernel_rfl) (by simp) ?_
  refine AllReadyH.cons rfl (fun K hK => ?_) AllReadyH.nil
  go_simp
  refine hK.out _ _ HS6.out (fun hHeld => ?_)
  clear hK hHeld
  refine wpAnyH_done (by kernel_rfl) ?_ _
  go_wp2
  refine wp_region_held_drew (S := (fun v => v.cell? ⟨w.heap.size, 0, none⟩ = some (.int .i64 k) ∧ v.cell? ⟨g, 0, none⟩ = some (.slice (some ⟨gs, 0, none⟩) n sc) ∧ v.rangeAt w2.heap.size 0 NL)) (by kernel_rfl) ⟨HS6.out.1, HS6.out.2.1, HS6.out.2.2.2⟩ (fun hHeld => ?_)
  refine takeD (i := 0) (v := ?_) rfl rfl (by kernel_rfl) (by kernel_rfl) (by kernel_rfl) (fun _ _ _ h => h) (Or.inl ⟨by rfl, ?_⟩) hHeld ?_
  rotate_left
  · (intro v hv; (try dsimp only at hv); go_simp; try (with_reducible rfl))
  (try simp only [List.setIfInBounds_toArray, List.set_cons_zero, List.set_cons_succ])
  refine takeD (i := 1) (v := ?_) rfl rfl (by kernel_rfl) (by kernel_rfl) (by kernel_rfl) (fun _ _ _ h => h) (Or.inl ⟨by rfl, ?_⟩) hHeld ?_
  rotate_left
  · (intro v hv; (try dsimp only at hv); go_simp; try (with_reducible rfl))
  (try simp only [List.setIfInBounds_toArray, List.set_cons_zero, List.set_cons_succ])
  refine takeD (i := 2) (v := ?_) rfl rfl (by kernel_rfl) (by kernel_rfl) (by kernel_rfl) (fun _ _ _ h => h) (Or.inl ⟨by rfl, ?_⟩) hHeld ?_
  rotate_left
  · (intro v hv; (try dsimp only at hv); go_simp; try (with_reducible rfl))
  (try simp only [List.setIfInBounds_toArray, List.set_cons_zero, List.set_cons_succ])
  refine takeD (i := 3) (v := ?_) rfl rfl (by kernel_rfl) (by kernel_rfl) (by kernel_rfl) (fun _ _ _ h => h) (Or.inl ⟨by rfl, ?_⟩) hHeld ?_
  rotate_left
  · (intro v hv; (try dsimp only at hv); go_simp; try (with_reducible rfl))
  (try simp only [List.setIfInBounds_toArray, List.set_cons_zero, List.set_cons_succ])
  refine takeD (i := 4) (v := ?_) rfl rfl (by kernel_rfl) (by kernel_rfl) (by kernel_rfl) (fun _ _ _ h => h) (Or.inl ⟨by rfl, ?_⟩) hHeld ?_
  rotate_left
  · (intro v hv; (try dsimp only at hv); go_simp; try (with_reducible rfl))
  (try simp only [List.setIfInBounds_toArray, List.set_cons_zero, List.set_cons_succ])
  refine takeD (i := 5) (v := ?_) rfl rfl (by kernel_rfl) (by kernel_rfl) (by kernel_rfl) (fun _ _ _ h => h) (Or.inl ⟨by rfl, ?_⟩) hHeld ?_
  rotate_left
  · (intro v hv; (try dsimp only at hv); go_simp; try (with_reducible rfl))
  (try simp only [List.setIfInBounds_toArray, List.set_cons_zero, List.set_cons_succ])
  refine takeD (i := 6) (v := (.agg NL.toArray)) rfl rfl (by kernel_rfl) (by kernel_rfl) (by kernel_rfl) (fun _ _ _ h => h) (yieldsIf_load_mid (by rfl) _ _ rfl w2.heap.size 0 rfl NL _ (fun v hv => hv.2.2) hu63 rfl hiNL) hHeld ?_
  (try simp only [List.setIfInBounds_toArray, List.set_cons_zero, List.set_cons_succ])
  refine takeD (i := 7) (v := ?_) rfl rfl (by kernel_rfl) (by kernel_rfl) (by kernel_rfl) (fun _ _ _ h => h) (Or.inl ⟨by rfl, ?_⟩) hHeld ?_
  rotate_left
  · (intro v hv; (try dsimp only at hv); go_simp; try (with_reducible rfl))
  (try simp only [List.setIfInBounds_toArray, List.set_cons_zero, List.set_cons_succ])
  have hD3' : DiskAt w3 base g (some ⟨gs, 0, none⟩) sc wa wc (powerR D).1 := by have := HD3.out; rw [hgs] at this; exact this
  have hc5 : Chg (fun j => Value.ownBlock (.slice wa (powerR D).1.waits.length wc) = some j) w3 w5 := by rw [hwn]; exact hchg5
  have HT6 := Lib.hid (show ((w5.setCell ⟨g, 1, none⟩ (.slice a5 (m + 1) c5)).drew).there gs (k * 65) NL.toArray.size from by rw [HE.out.2.1, sizeSec]; exact write_there hD3' (by rw [hsn]; exact hk) hc5)
  have hend := write_at (w5 := w5.drew) (x := ⟨k, sg D.secs k, ⟨bs, tag⟩⟩) (ns := ⟨bs, tag⟩) (k := k) (c5 := c5) hD3' (by rw [hsn]; exact hk) (hc5.trans (Chg.ofExt _ (Ext.drew (Ext.refl _)))) (by rw [hwn]; have := hown5; rw [HE.out.2.2] at this; exact this) hwa5
  rw [hwn, ← HE.out.2.1] at hend
  have HEND := Lib.hid hend
  have b7 := gb_setCells gs NL ((w5.setCell ⟨g, 1, none⟩ (.slice a5 (m + 1) c5)).drew) (k * 65)
  have HS7 := Lib.hid (And.intro (byCell b7 hHeld.1 (by dsimp only; exact fun e => hgsw e.symm)) (And.intro (byCell b7 hHeld.2.1 (by dsimp only; exact hgsg.symm)) (range_chg hHeld.2.2 (Chg.ofBy (F := (· = gs)) b7 rfl) (fun e => by omega))))
  clear hend hD3' hc5 b7
  refine wpAnyH_ready (rs := [8]) (by kernel_rfl) (by simp) ?_
  refine AllReadyH.cons rfl (fun K hK => ?_) AllReadyH.nil
  rw [if_pos (by rfl)]
  refine store_midN _ _ _ (by rfl) (by rfl) gs (k * 65) NL.toArray (by rfl) (by rfl) HT6.out (by rw [HE.out.2.1, sizeSec]; exact infoSec) (by rw [HE.out.2.1]; exact allSec _) ?_
  refine hK.out _ _ HS7.out (fun hHeld => ?_)
  clear hK hHeld
  refine wpAnyH_done (by kernel_rfl) ?_ _
  go_wp2
  go_ret
  refine ⟨rfl, a5, c5, ?_, ?_, ?_⟩
  · rw [HWR.out, hgs]; exact HEND.out.1
  · refine (((Chg.ofExt _ HX1.out).trans (Chg.ofBy HB2.out (.inl rfl))).trans (Chg.ofExt _ H3.out)).trans ?_
    rw [hgs]; exact HEND.out.2
  · rcases hwa5 with e | e
    · exact .inl e
    · exact .inr (fun ad e2 => by have h1 := e ad e2; have h2 := HX1.out.size; have h3 := HB2.out.size; have h4 := H3.out.size; omega)
  refine AllReadyH.cons rfl (fun K hK => ?_) AllReadyH.nil
  rw [if_pos (by rfl)]; refine wp_oneWt (.tmp 50) (by rfl) (by rfl) _ NW (by rfl) HE.out.2.2 ?_
  (try simp only [List.setIfInBounds_toArray, List.set_cons_zero, List.set_cons_succ])
  refine hK.out _ _ (HSE.out _ (by repeat (first | exact Ext.refl _ | apply Ext.drew | apply Ext.drewN | apply Ext.alloc))) (fun hHeld => ?_)
  clear hK
  have c1B := ((Ext.refl w3).alloc (.cells NW 83)).keep c1
  refine wpAnyH_ready (rs := [4]) (by kernel_rfl) (by simp) ?_
  refine AllReadyH.cons rfl (fun K hK => ?_) AllReadyH.nil
  go_simp
  refine hK.out _ _ (HSE.out _ (by repeat (first | exact Ext.refl _ | apply Ext.drew | apply Ext.drewN | apply Ext.alloc))) (fun hHeld => ?_)
  clear hK
  refine wpAnyH_ready (rs := [18]) (by kernel_rfl) (by simp) ?_
  refine AllReadyH.cons rfl (fun K hK => ?_) AllReadyH.nil
  rw [if_pos (by rfl)]
  refine wp_append_ex (.tmp 38) (.tmp 51) 63 (by rfl) (by rfl) (by rfl) (.slice wa m wc) (.slice (some ⟨w3.heap.size, 0, none⟩) 1 1) (by rfl) (by rfl) _ (by exact HAPP.out _ (by repeat (first | exact Ext.refl _ | apply Ext.drew | apply Ext.drewN | apply Ext.alloc)) (by exact heap_alloc_new _ _)) ?_
  rintro v5 w5 ⟨a5, c5, rfl, hown5, hchg5, hwa5⟩
  refine hK.out _ _ (HSW.out _ hchg5) (fun hHeld => ?_)
  clear hK
  (try simp only [List.setIfInBounds_toArray, List.set_cons_zero, List.set_cons_succ])
  refine takeD (i := 19) (v := ?_) rfl rfl (by kernel_rfl) (by kernel_rfl) (by kernel_rfl) (fun _ _ _ h => h) (Or.inl ⟨by rfl, ?_⟩) hHeld ?_
  rotate_left
  · (intro v hv; (try dsimp only at hv); go_simp; try (with_reducible rfl))
  (try simp only [List.setIfInBounds_toArray, List.set_cons_zero, List.set_cons_succ])
  refine takeD (i := 20) (v := ?_) rfl rfl (by kernel_rfl) (by kernel_rfl) (by kernel_rfl) (fun _ _ _ h => h) (Or.inl ⟨by rfl, ?_⟩) hHeld ?_
  rotate_left
  · (intro v hv; (try dsimp only at hv); go_simp; try (with_reducible rfl))
  (try simp only [List.setIfInBounds_toArray, List.set_cons_zero, List.set_cons_succ])
  have g1 := hchg5.cell c1 (fun e => (hwb _ e).2.1 rfl)
  have hrow5 : Row w5 g _ _ := (hchg5.block g HD3.out.row.lt (fun e => (hwb _ e).2.1 rfl)).trans HD3.out.row
  have f15 := hrow5.frozen 1
  have hb6 := By.set w5 g 1 (.slice a5 (m + 1) c5)
  have HS6 := Lib.hid (show ((w5.setCell ⟨g, 1, none⟩ (.slice a5 (m + 1) c5)).cell? ⟨w.heap.size, 0, none⟩ = some (.int .i64 k) ∧ (w5.setCell ⟨g, 1, none⟩ (.slice a5 (m + 1) c5)).cell? ⟨g, 0, none⟩ = some (.slice (some ⟨gs, 0, none⟩) n sc) ∧ (w5.setCell ⟨g, 1, none⟩ (.slice a5 (m + 1) c5)).rangeAt gs (k * 65) OS ∧ (w5.setCell ⟨g, 1, none⟩ (.slice a5 (m + 1) c5)).rangeAt w2.heap.size 0 NL) from ⟨byCell hb6 hHeld.1 (by dsimp only; exact HGB.out.1), (World.cell?_setCell_other _ _ _ _ (by intro e; cases e)).trans hHeld.2.1, range_chg hHeld.2.2.1 (Chg.ofBy (F := (· = g)) hb6 rfl) (fun e => hgsg e), range_chg hHeld.2.2.2 (Chg.ofBy (F := (· = g)) hb6 rfl) (fun e => by omega)⟩)
  refine wpAnyH_ready (rs := [21]) (by kernel_rfl) (by simp) ?_
  refine AllReadyH.cons rfl (fun K hK => ?_) AllReadyH.nil
  go_simp
  refine hK.out _ _ HS6.out (fun hHeld => ?_)
  clear hK hHeld
  refine wpAnyH_done (by kernel_rfl) ?_ _
  go_wp2
  refine wp_region_held_drew (S := (fun v => v.cell? ⟨w.heap.size, 0, none⟩ = some (.int .i64 k) ∧ v.cell? ⟨g, 0, none⟩ = some (.slice (some ⟨gs, 0, none⟩) n sc) ∧ v.rangeAt w2.heap.size 0 NL)) (by kernel_rfl) ⟨HS6.out.1, HS6.out.2.1, HS6.out.2.2.2⟩ (fun hHeld => ?_)
  refine takeD (i := 0) (v := ?_) rfl rfl (by kernel_rfl) (by kernel_rfl) (by kernel_rfl) (fun _ _ _ h => h) (Or.inl ⟨by rfl, ?_⟩) hHeld ?_
  rotate_left
  · (intro v hv; (try dsimp only at hv); go_simp; try (with_reducible rfl))
  (try simp only [List.setIfInBounds_toArray, List.set_cons_zero, List.set_cons_succ])
  refine takeD (i := 1) (v := ?_) rfl rfl (by kernel_rfl) (by kernel_rfl) (by kernel_rfl) (fun _ _ _ h => h) (Or.inl ⟨by rfl, ?_⟩) hHeld ?_
  rotate_left
  · (intro v hv; (try dsimp only at hv); go_simp; try (with_reducible rfl))
  (try simp only [List.setIfInBounds_toArray, List.set_cons_zero, List.set_cons_succ])
  refine takeD (i := 2) (v := ?_) rfl rfl (by kernel_rfl) (by kernel_rfl) (by kernel_rfl) (fun _ _ _ h => h) (Or.inl ⟨by rfl, ?_⟩) hHeld ?_
  rotate_left
  · (intro v hv; (try dsimp only at hv); go_simp; try (with_reducible rfl))
  (try simp only [List.setIfInBounds_toArray, List.set_cons_zero, List.set_cons_succ])
  refine takeD (i := 3) (v := ?_) rfl rfl (by kernel_rfl) (by kernel_rfl) (by kernel_rfl) (fun _ _ _ h => h) (Or.inl ⟨by rfl, ?_⟩) hHeld ?_
  rotate_left
  · (intro v hv; (try dsimp only at hv); go_simp; try (with_reducible rfl))
  (try simp only [List.setIfInBounds_toArray, List.set_cons_zero, List.set_cons_succ])
  refine takeD (i := 4) (v := ?_) rfl rfl (by kernel_rfl) (by kernel_rfl) (by kernel_rfl) (fun _ _ _ h => h) (Or.inl ⟨by rfl, ?_⟩) hHeld ?_
  rotate_left
  · (intro v hv; (try dsimp only at hv); go_simp; try (with_reducible rfl))
  (try simp only [List.setIfInBounds_toArray, List.set_cons_zero, List.set_cons_succ])
  refine takeD (i := 5) (v := ?_) rfl rfl (by kernel_rfl) (by kernel_rfl) (by kernel_rfl) (fun _ _ _ h => h) (Or.inl ⟨by rfl, ?_⟩) hHeld ?_
  rotate_left
  · (intro v hv; (try dsimp only at hv); go_simp; try (with_reducible rfl))
  (try simp only [List.setIfInBounds_toArray, List.set_cons_zero, List.set_cons_succ])
  refine takeD (i := 6) (v := (.agg NL.toArray)) rfl rfl (by kernel_rfl) (by kernel_rfl) (by kernel_rfl) (fun _ _ _ h => h) (yieldsIf_load_mid (by rfl) _ _ rfl w2.heap.size 0 rfl NL _ (fun v hv => hv.2.2) hu63 rfl hiNL) hHeld ?_
  (try simp only [List.setIfInBounds_toArray, List.set_cons_zero, List.set_cons_succ])
  refine takeD (i := 7) (v := ?_) rfl rfl (by kernel_rfl) (by kernel_rfl) (by kernel_rfl) (fun _ _ _ h => h) (Or.inl ⟨by rfl, ?_⟩) hHeld ?_
  rotate_left
  · (intro v hv; (try dsimp only at hv); go_simp; try (with_reducible rfl))
  (try simp only [List.setIfInBounds_toArray, List.set_cons_zero, List.set_cons_succ])
  have hD3' : DiskAt w3 base g (some ⟨gs, 0, none⟩) sc wa wc (powerR D).1 := by have := HD3.out; rw [hgs] at this; exact this
  have hc5 : Chg (fun j => Value.ownBlock (.slice wa (powerR D).1.waits.length wc) = some j) w3 w5 := by rw [hwn]; exact hchg5
  have HT6 := Lib.hid (show ((w5.setCell ⟨g, 1, none⟩ (.slice a5 (m + 1) c5)).drew).there gs (k * 65) NL.toArray.size from by rw [HE.out.2.1, sizeSec]; exact write_there hD3' (by rw [hsn]; exact hk) hc5)
  have hend := write_at (w5 := w5.drew) (x := ⟨k, sg D.secs k, ⟨bs, tag⟩⟩) (ns := ⟨bs, tag⟩) (k := k) (c5 := c5) hD3' (by rw [hsn]; exact hk) (hc5.trans (Chg.ofExt _ (Ext.drew (Ext.refl _)))) (by rw [hwn]; have := hown5; rw [HE.out.2.2] at this; exact this) hwa5
  rw [hwn, ← HE.out.2.1] at hend
  have HEND := Lib.hid hend
  have b7 := gb_setCells gs NL ((w5.setCell ⟨g, 1, none⟩ (.slice a5 (m + 1) c5)).drew) (k * 65)
  have HS7 := Lib.hid (And.intro (byCell b7 hHeld.1 (by dsimp only; exact fun e => hgsw e.symm)) (And.intro (byCell b7 hHeld.2.1 (by dsimp only; exact hgsg.symm)) (range_chg hHeld.2.2 (Chg.ofBy (F := (· = gs)) b7 rfl) (fun e => by omega))))
  clear hend hD3' hc5 b7
  refine wpAnyH_ready (rs := [8]) (by kernel_rfl) (by simp) ?_
  refine AllReadyH.cons rfl (fun K hK => ?_) AllReadyH.nil
  rw [if_pos (by rfl)]
  refine store_midN _ _ _ (by rfl) (by rfl) gs (k * 65) NL.toArray (by rfl) (by rfl) HT6.out (by rw [HE.out.2.1, sizeSec]; exact infoSec) (by rw [HE.out.2.1]; exact allSec _) ?_
  refine hK.out _ _ HS7.out (fun hHeld => ?_)
  clear hK hHeld
  refine wpAnyH_done (by kernel_rfl) ?_ _
  go_wp2
  go_ret
  refine ⟨rfl, a5, c5, ?_, ?_, ?_⟩
  · rw [HWR.out, hgs]; exact HEND.out.1
  · refine (((Chg.ofExt _ HX1.out).trans (Chg.ofBy HB2.out (.inl rfl))).trans (Chg.ofExt _ H3.out)).trans ?_
    rw [hgs]; exact HEND.out.2
  · rcases hwa5 with e | e
    · exact .inl e
    · exact .inr (fun ad e2 => by have h1 := e ad e2; have h2 := HX1.out.size; have h3 := HB2.out.size; have h4 := H3.out.size; omega)
  -- END 9
end Go.Proofs.Ytfodpphbdbeciaa.Dk
