/- MtN -/
import Derived.Test.YtnodinancnfoeaaTk2
import Derived.Deep.RegionHeld3
/- meta.New. -/
namespace Go.Proofs.Ytnodinancnfoeaa.Mt
open Go.RowKit Words Mem Plain Ops Agg OwnS Intern Ino
set_option linter.ambiguousOpen false
set_option linter.unusedVariables false
set_option linter.unusedSimpArgs false

theorem takeD {P : Program} {ops : Array Oper} {Q : Exit → Act → World → Prop} {md : Region.Mode} {S : World → Prop} {i : Nat} {oi : Oper} {v : Value} {fuel d : Nat} {listed : Array Bool} {tmps : Array Value} {df : List Deferred} {w : World} (hi : ops[i]? = some oi) (hd : oi.dst = some d)
    (hs : Region.noSelect ops = true) (hf : Region.free md ops listed i = true) (hr : (Region.ready md ops listed).contains i = true)
    (hQ : ∀ c a w, Q (.panic c) (a.put oi.dst v) w → Q (.panic c) a w) (hy : YieldsIf P ops S oi v ⟨tmps, df⟩) (hS : S w)
    (h : wpAnyH P md ops Q S fuel (listed.setIfInBounds i true) ⟨tmps.setIfInBounds d v, df⟩ w) : wpAnyH P md ops Q S (fuel + 1) listed ⟨tmps, df⟩ w :=
  wpAnyH_take hi hs hf hr hQ hy hS (by unfold Act.put; rw [hd]; exact h)
theorem store_rowN {P : Program} {o : Oper} {tmps : Array Value} {df : List Deferred} {w : World} {K : Act → World → Prop} {Q : Exit → Act → World → Prop} (ty : TypeId) (x y : Operand) (ho : o.op = .store ty x y) (hd : o.dst = none)
    (g : Nat) (cells : Array Value) (hx : Act.eval ⟨tmps, df⟩ x = .pointer (some ⟨g, 0, none⟩)) (hy : Act.eval ⟨tmps, df⟩ y = .agg cells)
    (t : TypeId) (old : Array Value) (hg : w.heap[g]? = some (.cells old t (0, 0))) (hi : (P.info? ty).map (·.size) = some cells.size) (hold : old.size = cells.size) (h1 : cells.all (·.oneCell') = true)
    (h : K ⟨tmps, df⟩ (w.setRow g cells)) : o.wp P ⟨tmps, df⟩ w K Q :=
  wp_store_row ty x y ho g cells hx hy t old hg hi hold h1 (by rw [hd]; exact h)
theorem run_make_s (w : World) (s : Nat) (t e : TypeId) (c : List Value) (bts : Nat) (hs : c.length = s) (hs0 : 0 < s) (ht : Try.prog.underlying t = some (.slice e)) (hi : (Try.prog.info? e).map (fun i => (i.zero, i.size, i.bytes)) = some (some (.agg c.toArray), s, bts))
    (n : Nat) (hb : bts * n ≤ 281474976710656) (hm : n ≤ 9223372036854775807) :
    (Instr.makeSlice t (.int .i64 n) (.int .i64 n)).run Try.prog w = .ok (.slice (some ⟨w.heap.size, 0, none⟩) n n) (w.alloc (.cells (flat (fun _ : Unit => c) (List.replicate n ())).toArray e)) := by
  obtain ⟨i, h2, h3, h4, h5⟩ := info_parts hi
  have := run_make (P := Try.prog) w t e i _ ht h2 h3 .i64 .i64 n n (by omega) (by omega) (by rw [h5]; have e := Int.natCast_mul bts n; omega) (by omega)
  rw [this, h4]
  simp only [Int.toNat_natCast]
  congr 4
  apply Array.toList_inj.1
  apply List.ext_getElem?
  intro j
  unfold madeCells
  have hl : (flat (fun _ : Unit => c) (List.replicate n ())).length = n * s := by rw [flat_length (s := s) (fun _ => hs)]; simp
  by_cases hj : j < n * s
  · have hk : j / s < n := Nat.div_lt_of_lt_mul (by rw [Nat.mul_comm]; exact hj)
    have hjm : j % s < s := Nat.mod_lt _ hs0
    have e1 : j = j / s * s + j % s := by rw [Nat.mul_comm]; exact (Nat.div_add_mod j s).symm
    have e2 := flat_at (f := fun _ : Unit => c) (s := s) (fun _ => hs) (List.replicate n ()) (j / s) (by simpa using hk) (j % s) hjm
    rw [← e1] at e2
    simp only [List.toList_toArray, Value.cells]
    rw [e2]
    simp [hj, hs, hjm]
  · simp only [List.toList_toArray]
    rw [List.getElem?_eq_none (show (flat (fun _ : Unit => c) (List.replicate n ())).length ≤ j by rw [hl]; omega)]
    simp
    omega
theorem flat_repI (n : Nat) (x : Ino) : flat (fun _ : Unit => inoC x) (List.replicate n ()) = flat inoC (List.replicate n x) := by
  induction n with
  | zero => rfl
  | succ n ih => rw [List.replicate_succ, List.replicate_succ, flat_cons, flat_cons, ih]
theorem flat_repR (n : Nat) : flat (fun _ : Unit => [Value.int .u16 0, .int .i64 0]) (List.replicate n ()) = rowsC (List.replicate n (0, 0)) := by
  induction n with
  | zero => rfl
  | succ n ih => rw [List.replicate_succ, List.replicate_succ, flat_cons, rowsC_cons, ih]; rfl
def newM (G I : Nat) : MetaT := ⟨List.replicate 16 (0, 0), List.replicate G 0, List.replicate 64 0, List.replicate I Ino.zero⟩
def nilM : MetaT := ⟨[], [], [], []⟩
def nilP : Pl := ⟨none, 0, none, 0, none, 0, none, 0⟩
theorem nil_in (w : World) : MetaIn w nilP nilM := ⟨Sl.nil _ _, Sl.nil _ _, Sl.nil _ _, Sl.nil _ _, fun r hr => (by cases hr), fun x hx => (by cases hx), fun n hn => (by cases hn), by decide, by decide⟩
theorem zeroMeta (w : World) : (zeroValue 29).run Try.prog w = .ok (.agg #[.slice none 0 0, .slice none 0 0, .slice none 0 0, .slice none 0 0]) w := by kernel_rfl
theorem infoMeta : (Try.prog.info? 29).map (·.size) = some 4 := by kernel_rfl
theorem info64I : (Try.prog.info? 3).map (fun i => (i.zero, i.size, i.bytes)) = some (some (.int .i64 0), 1, 8) := by kernel_rfl

theorem new_v (G I b0 b1 b2 b3 : Nat) : metaV ⟨some ⟨b0, 0, none⟩, 16, some ⟨b1, 0, none⟩, G, some ⟨b2, 0, none⟩, 64, some ⟨b3, 0, none⟩, I⟩ (newM G I) = .agg #[.slice (some ⟨b0, 0, none⟩) 16 16, .slice (some ⟨b1, 0, none⟩) G G, .slice (some ⟨b2, 0, none⟩) 64 64, .slice (some ⟨b3, 0, none⟩) I I] := by
  simp [newM]
theorem post_meta {fn : Func} {p u : Tmp} {R : Ending → World → Prop} {a : Act} {w : World} {g : Nat} {c0 c1 c2 c3 : Value} {x : Value} (h : fn.results = #[.cell p 29, .tmp u])
    (hp : a.tmps.getD p undef = .pointer (some ⟨g, 0, none⟩)) (hx : a.tmps.getD u undef = x) (hrow : Row w g 29 [c0, c1, c2, c3]) (hdf : a.defers = []) (hR : R (.returned (.tuple #[.agg #[c0, c1, c2, c3], x])) w) : bodyPost Try.prog fn R .ret a w :=
  post_cell h hp hx (c := #[c0, c1, c2, c3]) (t := 29) hrow Try.underlying29 rfl infoMeta hdf hR
theorem new_in {v : World} {G I b0 b1 b2 b3 : Nat} (h0 : Row v b0 45 (rowsC (List.replicate 16 (0, 0)))) (h1 : Row v b1 3 (ints .i64 (List.replicate G 0))) (h2 : Row v b2 5 (ints .u8 (List.replicate 64 0))) (h3 : Row v b3 48 (flat inoC (List.replicate I Ino.zero))) (hg : G ≤ 64) (hi : I ≤ 64) :
    MetaIn v ⟨some ⟨b0, 0, none⟩, 16, some ⟨b1, 0, none⟩, G, some ⟨b2, 0, none⟩, 64, some ⟨b3, 0, none⟩, I⟩ (newM G I) := by
  refine ⟨h0.sl0, h1.sl0, h2.sl0, h3.sl0, fun r hr => ?_, fun x hx => ?_, fun n hn => ?_, ?_, by simp⟩
  · obtain rfl := List.eq_of_mem_replicate hr; decide
  · obtain rfl := List.eq_of_mem_replicate hx; decide
  · obtain rfl := List.eq_of_mem_replicate hn; exact ⟨⟨by decide, by decide⟩, by decide, by decide⟩
  · simp [newM]; omega

set_option maxHeartbeats 4000000 in
theorem New_yes (J P : Int) (G I : Nat) (w : World) (hr : Super.rightB J I G P = true) :
    Calls Try.prog 11 #[Super.geoV J I G P] w fun e w' => ∃ p, e = .returned (.tuple #[metaV p (newM G I), .int .i64 0]) ∧ MetaIn w' p (newM G I) ∧ Ext w w' := by
  have hbd := Super.right_bd hr
  have hg64 : G ≤ 64 := by omega
  have hi64 : I ≤ 64 := by omega
  have X1 := (Ext.refl w).alloc (.cells #[.int .i64 J, .int .i64 I, .int .i64 G, .int .i64 P] 23)
  have hrow1 := Row.new w 23 [.int .i64 J, .int .i64 I, .int .i64 G, .int .i64 P]
  have X2 := (Ext.refl (w.alloc (.cells #[.int .i64 J, .int .i64 I, .int .i64 G, .int .i64 P] 23))).alloc (.cells #[.slice none 0 0, .slice none 0 0, .slice none 0 0, .slice none 0 0] 29)
  have hrow2 := Row.new (w.alloc (.cells #[.int .i64 J, .int .i64 I, .int .i64 G, .int .i64 P] 23)) 29 [.slice none 0 0, .slice none 0 0, .slice none 0 0, .slice none 0 0]
  have hs1 : (w.alloc (.cells #[.int .i64 J, .int .i64 I, .int .i64 G, .int .i64 P] 23)).heap.size = w.heap.size + 1 := by simp
  rw [hs1] at hrow2
  have hgr := Super.Right_ok J I G P ((w.alloc (.cells #[.int .i64 J, .int .i64 I, .int .i64 G, .int .i64 P] 23)).alloc (.cells #[.slice none 0 0, .slice none 0 0, .slice none 0 0, .slice none 0 0] 29))
  rw [hr] at hgr
  have HX2 := Lib.hid (X1.trans X2)
  have HROW1 := Lib.hid (hrow1.ext X2)
  have HROW2 := Lib.hid hrow2
  have hz := zeroMeta
  clear X1 X2 hrow1 hrow2 hs1 hr hbd
  go_enter Try.func11, Try.ntmps11
  go_wp2_with fail
  refine hgr.mono ?_
  rintro e w2 ⟨rfl, h2⟩
  have HX3 := Lib.hid (HX2.out.trans h2)
  have HR1 := Lib.hid (HROW1.out.ext h2)
  have HR2 := Lib.hid (HROW2.out.ext h2)
  clear hgr h2 HROW1 HROW2
  go_wp2_with fail
  have hX0 : Ext w2 w2.drew := (Ext.refl _).drew
  have hHeld0 : Ext w w2.drew ∧ Row w2.drew w.heap.size 23 [.int .i64 J, .int .i64 I, .int .i64 G, .int .i64 P] := ⟨HX3.out.trans hX0, HR1.out.ext hX0⟩
  refine wp_region_held_drew (S := (fun v => Ext w v ∧ Row v w.heap.size 23 [.int .i64 J, .int .i64 I, .int .i64 G, .int .i64 P])) (by kernel_rfl) hHeld0 (fun hHeld => ?_)
  generalize w2.drew = v0 at *
  clear hHeld0
  refine takeD (i := 1) (v := ?_) rfl rfl (by kernel_rfl) (by kernel_rfl) (by kernel_rfl) (fun _ _ _ h => h) (Or.inl ⟨by rfl, ?_⟩) hHeld ?_
  rotate_left
  · (intro v hv; (obtain ⟨hv0, hv1⟩ := hv; have c1 := (hv1.cell? 1).trans rfl; have c2 := (hv1.cell? 2).trans rfl); go_simp; try (with_reducible rfl))
  (try simp only [List.setIfInBounds_toArray, List.set_cons_zero, List.set_cons_succ])
  refine takeD (i := 2) (v := ?_) rfl rfl (by kernel_rfl) (by kernel_rfl) (by kernel_rfl) (fun _ _ _ h => h) (Or.inl ⟨by rfl, ?_⟩) hHeld ?_
  rotate_left
  · (intro v hv; (obtain ⟨hv0, hv1⟩ := hv; have c1 := (hv1.cell? 1).trans rfl; have c2 := (hv1.cell? 2).trans rfl); go_simp; try (with_reducible rfl))
  (try simp only [List.setIfInBounds_toArray, List.set_cons_zero, List.set_cons_succ])
  refine takeD (i := 5) (v := ?_) rfl rfl (by kernel_rfl) (by kernel_rfl) (by kernel_rfl) (fun _ _ _ h => h) (Or.inl ⟨by rfl, ?_⟩) hHeld ?_
  rotate_left
  · (intro v hv; (obtain ⟨hv0, hv1⟩ := hv; have c1 := (hv1.cell? 1).trans rfl; have c2 := (hv1.cell? 2).trans rfl); go_simp; try (with_reducible rfl))
  (try simp only [List.setIfInBounds_toArray, List.set_cons_zero, List.set_cons_succ])
  refine takeD (i := 6) (v := ?_) rfl rfl (by kernel_rfl) (by kernel_rfl) (by kernel_rfl) (fun _ _ _ h => h) (Or.inl ⟨by rfl, ?_⟩) hHeld ?_
  rotate_left
  · (intro v hv; (obtain ⟨hv0, hv1⟩ := hv; have c1 := (hv1.cell? 1).trans rfl; have c2 := (hv1.cell? 2).trans rfl); go_simp; try (with_reducible rfl))
  (try simp only [List.setIfInBounds_toArray, List.set_cons_zero, List.set_cons_succ])
  refine wpAnyH_ready (rs := [0, 3, 4, 7]) (by kernel_rfl) (by simp) ?_
  refine AllReadyH.cons rfl (fun K hK => ?_) ?_
  · have hmk0 := run_make_s v0 2 24 45 [.int .u16 0, .int .i64 0] 16 rfl (by decide) Try.underlying24 infoRC 16 (by decide) (by decide)
    rw [flat_repR] at hmk0
    have hmk : (Instr.makeSlice 24 (.int .i64 16) (.int .i64 16)).run Try.prog v0 = .ok (.slice (some ⟨v0.heap.size, 0, none⟩) 16 16) (v0.alloc (.cells (rowsC (List.replicate 16 (0, 0))).toArray 45)) := hmk0
    clear hmk0
    have hrow := Row.new v0 45 (rowsC (List.replicate 16 (0, 0)))
    have hXX := (Ext.refl v0).alloc (.cells ((rowsC (List.replicate 16 (0, 0)))).toArray 45)
    have HX0 := Lib.hid hXX
    have HW0 := Lib.hid hrow
    obtain ⟨b0, hb⟩ : ∃ q, q = v0.heap.size := ⟨_, rfl⟩
    have HB0 := Lib.hid hb
    rw [← hb] at hmk HW0
    clear hrow hXX hb
    generalize v0.alloc (.cells ((rowsC (List.replicate 16 (0, 0)))).toArray 45) = v1 at *
    go_simp
    refine hK.out _ _ ⟨hHeld.1.trans HX0.out, hHeld.2.ext HX0.out⟩ (fun hHeld => ?_)
    clear hK hmk
    refine wpAnyH_ready (rs := [3, 4, 7]) (by kernel_rfl) (by simp) ?_
    refine AllReadyH.cons rfl (fun K hK => ?_) ?_
    · have hmk := run_make_ints (P := Try.prog) v1 25 3 .i64 8 Try.underlying25 info64I .i64 .i64 G G rfl (by omega) (by omega)
      have hrow := Row.new v1 3 (ints .i64 (List.replicate G 0))
      have hXX := (Ext.refl v1).alloc (.cells ((ints .i64 (List.replicate G 0))).toArray 3)
      have HX1 := Lib.hid hXX
      have HW3 := Lib.hid hrow
      obtain ⟨b3, hb⟩ : ∃ q, q = v1.heap.size := ⟨_, rfl⟩
      have HB3 := Lib.hid hb
      rw [← hb] at hmk HW3
      clear hrow hXX hb
      generalize v1.alloc (.cells ((ints .i64 (List.replicate G 0))).toArray 3) = v2 at *
      go_simp
      refine hK.out _ _ ⟨hHeld.1.trans HX1.out, hHeld.2.ext HX1.out⟩ (fun hHeld => ?_)
      clear hK hmk
      refine wpAnyH_ready (rs := [4, 7]) (by kernel_rfl) (by simp) ?_
      refine AllReadyH.cons rfl (fun K hK => ?_) ?_
      · have hmk := run_make_ints (P := Try.prog) v2 26 5 .u8 1 Try.underlying26 infoBC .i64 .i64 64 64 rfl (by decide) (by decide)
        have hrow := Row.new v2 5 (ints .u8 (List.replicate 64 0))
        have hXX := (Ext.refl v2).alloc (.cells ((ints .u8 (List.replicate 64 0))).toArray 5)
        have HX2 := Lib.hid hXX
        have HW4 := Lib.hid hrow
        obtain ⟨b4, hb⟩ : ∃ q, q = v2.heap.size := ⟨_, rfl⟩
        have HB4 := Lib.hid hb
        rw [← hb] at hmk HW4
        clear hrow hXX hb
        generalize v2.alloc (.cells ((ints .u8 (List.replicate 64 0))).toArray 5) = v3 at *
        go_simp
        refine hK.out _ _ ⟨hHeld.1.trans HX2.out, hHeld.2.ext HX2.out⟩ (fun hHeld => ?_)
        clear hK hmk
        refine wpAnyH_ready (rs := [7]) (by kernel_rfl) (by simp) ?_
        refine AllReadyH.cons rfl (fun K hK => ?_) ?_
        · have hmk := run_make_s v3 14 27 48 (inoC Ino.zero) 104 (inoC_len _) (by decide) Try.underlying27 infoNC I (by omega) (by omega)
          rw [flat_repI] at hmk
          have hrow := Row.new v3 48 (flat inoC (List.replicate I Ino.zero))
          have hXX := (Ext.refl v3).alloc (.cells ((flat inoC (List.replicate I Ino.zero))).toArray 48)
          have HX3 := Lib.hid hXX
          have HW7 := Lib.hid hrow
          obtain ⟨b7, hb⟩ : ∃ q, q = v3.heap.size := ⟨_, rfl⟩
          have HB7 := Lib.hid hb
          rw [← hb] at hmk HW7
          clear hrow hXX hb
          generalize v3.alloc (.cells ((flat inoC (List.replicate I Ino.zero))).toArray 48) = v4 at *
          go_simp
          refine hK.out _ _ ⟨hHeld.1.trans HX3.out, hHeld.2.ext HX3.out⟩ (fun hHeld => ?_)
          clear hK hmk
          have HRm := Lib.hid (((((HR2.out.ext hX0).ext HX0.out).ext HX1.out).ext HX2.out).ext HX3.out)
          have HRR := Lib.hid (And.intro (((HW0.out.ext HX1.out).ext HX2.out).ext HX3.out) (And.intro ((HW3.out.ext HX2.out).ext HX3.out) (And.intro (HW4.out.ext HX3.out) HW7.out)))
          have HNE := Lib.hid (show b0 ≠ w.heap.size + 1 ∧ b3 ≠ w.heap.size + 1 ∧ b4 ≠ w.heap.size + 1 ∧ b7 ≠ w.heap.size + 1 from by
            have := HB0.out; have := HB3.out; have := HB4.out; have := HB7.out; have := HR2.out.lt; have := hX0.size; have := HX0.out.size; have := HX1.out.size; have := HX2.out.size
            omega)
          refine takeD (i := 8) (v := ?_) rfl rfl (by kernel_rfl) (by kernel_rfl) (by kernel_rfl) (fun _ _ _ h => h) (Or.inl ⟨by rfl, ?_⟩) hHeld ?_
          rotate_left
          · (intro v hv; (obtain ⟨hv0, hv1⟩ := hv; have c1 := (hv1.cell? 1).trans rfl; have c2 := (hv1.cell? 2).trans rfl); go_simp; try (with_reducible rfl))
          (try simp only [List.setIfInBounds_toArray, List.set_cons_zero, List.set_cons_succ])
          refine wpAnyH_ready (rs := [9]) (by kernel_rfl) (by simp) ?_
          refine AllReadyH.cons rfl (fun K hK => ?_) AllReadyH.nil
          rw [if_pos (by rfl)]
          refine store_rowN _ _ _ rfl rfl (w.heap.size + 1) #[.slice (some ⟨b0, 0, none⟩) 16 16, .slice (some ⟨b3, 0, none⟩) G G, .slice (some ⟨b4, 0, none⟩) 64 64, .slice (some ⟨b7, 0, none⟩) I I] rfl rfl 29 _ HRm.out infoMeta rfl (by simp [Value.oneCell']) ?_
          have HFIN := Lib.hid (new_in (HRR.out.1.setRow_other #[.slice (some ⟨b0, 0, none⟩) 16 16, .slice (some ⟨b3, 0, none⟩) G G, .slice (some ⟨b4, 0, none⟩) 64 64, .slice (some ⟨b7, 0, none⟩) I I] HNE.out.1) (HRR.out.2.1.setRow_other _ HNE.out.2.1) (HRR.out.2.2.1.setRow_other _ HNE.out.2.2.1) (HRR.out.2.2.2.setRow_other _ HNE.out.2.2.2) hg64 hi64)
          have HRf := Lib.hid (HRm.out.setRow #[.slice (some ⟨b0, 0, none⟩) 16 16, .slice (some ⟨b3, 0, none⟩) G G, .slice (some ⟨b4, 0, none⟩) 64 64, .slice (some ⟨b7, 0, none⟩) I I])
          refine hK.out _ _ ⟨hHeld.1.setRow (Nat.le_succ _) _, hHeld.2.setRow_other _ (by omega)⟩ (fun hHeld => ?_)
          clear hK
          refine takeD (i := 10) (v := ?_) rfl rfl (by kernel_rfl) (by kernel_rfl) (by kernel_rfl) (fun _ _ _ h => h) (Or.inl ⟨by rfl, ?_⟩) hHeld ?_
          rotate_left
          · (intro v hv; (obtain ⟨hv0, hv1⟩ := hv; have c1 := (hv1.cell? 1).trans rfl; have c2 := (hv1.cell? 2).trans rfl); go_simp; try (with_reducible rfl))
          (try simp only [List.setIfInBounds_toArray, List.set_cons_zero, List.set_cons_succ])
          refine wpAnyH_done (by kernel_rfl) ?_ _
          have HH := Lib.hid hHeld
          clear hHeld
          go_wp2
          refine post_meta rfl (by rfl) (by rfl) HRf.out rfl ?_
          exact ⟨_, by rw [new_v]; rfl, HFIN.out, HH.out.1⟩
        exact AllReadyH.nil
      refine AllReadyH.cons rfl (fun K hK => ?_) ?_
      · have hmk := run_make_s v2 14 27 48 (inoC Ino.zero) 104 (inoC_len _) (by decide) Try.underlying27 infoNC I (by omega) (by omega)
        rw [flat_repI] at hmk
        have hrow := Row.new v2 48 (flat inoC (List.replicate I Ino.zero))
        have hXX := (Ext.refl v2).alloc (.cells ((flat inoC (List.replicate I Ino.zero))).toArray 48)
        have HX2 := Lib.hid hXX
        have HW7 := Lib.hid hrow
        obtain ⟨b7, hb⟩ : ∃ q, q = v2.heap.size := ⟨_, rfl⟩
        have HB7 := Lib.hid hb
        rw [← hb] at hmk HW7
        clear hrow hXX hb
        generalize v2.alloc (.cells ((flat inoC (List.replicate I Ino.zero))).toArray 48) = v3 at *
        go_simp
        refine hK.out _ _ ⟨hHeld.1.trans HX2.out, hHeld.2.ext HX2.out⟩ (fun hHeld => ?_)
        clear hK hmk
        refine wpAnyH_ready (rs := [4]) (by kernel_rfl) (by simp) ?_
        refine AllReadyH.cons rfl (fun K hK => ?_) ?_
        · have hmk := run_make_ints (P := Try.prog) v3 26 5 .u8 1 Try.underlying26 infoBC .i64 .i64 64 64 rfl (by decide) (by decide)
          have hrow := Row.new v3 5 (ints .u8 (List.replicate 64 0))
          have hXX := (Ext.refl v3).alloc (.cells ((ints .u8 (List.replicate 64 0))).toArray 5)
          have HX3 := Lib.hid hXX
          have HW4 := Lib.hid hrow
          obtain ⟨b4, hb⟩ : ∃ q, q = v3.heap.size := ⟨_, rfl⟩
          have HB4 := Lib.hid hb
          rw [← hb] at hmk HW4
          clear hrow hXX hb
          generalize v3.alloc (.cells ((ints .u8 (List.replicate 64 0))).toArray 5) = v4 at *
          go_simp
          refine hK.out _ _ ⟨hHeld.1.trans HX3.out, hHeld.2.ext HX3.out⟩ (fun hHeld => ?_)
          clear hK hmk
          have HRm := Lib.hid (((((HR2.out.ext hX0).ext HX0.out).ext HX1.out).ext HX2.out).ext HX3.out)
          have HRR := Lib.hid (And.intro (((HW0.out.ext HX1.out).ext HX2.out).ext HX3.out) (And.intro ((HW3.out.ext HX2.out).ext HX3.out) (And.intro HW4.out (HW7.out.ext HX3.out))))
          have HNE := Lib.hid (show b0 ≠ w.heap.size + 1 ∧ b3 ≠ w.heap.size + 1 ∧ b4 ≠ w.heap.size + 1 ∧ b7 ≠ w.heap.size + 1 from by
            have := HB0.out; have := HB3.out; have := HB4.out; have := HB7.out; have := HR2.out.lt; have := hX0.size; have := HX0.out.size; have := HX1.out.size; have := HX2.out.size
            omega)
          refine takeD (i := 8) (v := ?_) rfl rfl (by kernel_rfl) (by kernel_rfl) (by kernel_rfl) (fun _ _ _ h => h) (Or.inl ⟨by rfl, ?_⟩) hHeld ?_
          rotate_left
          · (intro v hv; (obtain ⟨hv0, hv1⟩ := hv; have c1 := (hv1.cell? 1).trans rfl; have c2 := (hv1.cell? 2).trans rfl); go_simp; try (with_reducible rfl))
          (try simp only [List.setIfInBounds_toArray, List.set_cons_zero, List.set_cons_succ])
          refine wpAnyH_ready (rs := [9]) (by kernel_rfl) (by simp) ?_
          refine AllReadyH.cons rfl (fun K hK => ?_) AllReadyH.nil
          rw [if_pos (by rfl)]
          refine store_rowN _ _ _ rfl rfl (w.heap.size + 1) #[.slice (some ⟨b0, 0, none⟩) 16 16, .slice (some ⟨b3, 0, none⟩) G G, .slice (some ⟨b4, 0, none⟩) 64 64, .slice (some ⟨b7, 0, none⟩) I I] rfl rfl 29 _ HRm.out infoMeta rfl (by simp [Value.oneCell']) ?_
          have HFIN := Lib.hid (new_in (HRR.out.1.setRow_other #[.slice (some ⟨b0, 0, none⟩) 16 16, .slice (some ⟨b3, 0, none⟩) G G, .slice (some ⟨b4, 0, none⟩) 64 64, .slice (some ⟨b7, 0, none⟩) I I] HNE.out.1) (HRR.out.2.1.setRow_other _ HNE.out.2.1) (HRR.out.2.2.1.setRow_other _ HNE.out.2.2.1) (HRR.out.2.2.2.setRow_other _ HNE.out.2.2.2) hg64 hi64)
          have HRf := Lib.hid (HRm.out.setRow #[.slice (some ⟨b0, 0, none⟩) 16 16, .slice (some ⟨b3, 0, none⟩) G G, .slice (some ⟨b4, 0, none⟩) 64 64, .slice (some ⟨b7, 0, none⟩) I I])
          refine hK.out _ _ ⟨hHeld.1.setRow (Nat.le_succ _) _, hHeld.2.setRow_other _ (by omega)⟩ (fun hHeld => ?_)
          clear hK
          refine takeD (i := 10) (v := ?_) rfl rfl (by kernel_rfl) (by kernel_rfl) (by kernel_rfl) (fun _ _ _ h => h) (Or.inl ⟨by rfl, ?_⟩) hHeld ?_
          rotate_left
          · (intro v hv; (obtain ⟨hv0, hv1⟩ := hv; have c1 := (hv1.cell? 1).trans rfl; have c2 := (hv1.cell? 2).trans rfl); go_simp; try (with_reducible rfl))
          (try simp only [List.setIfInBounds_toArray, List.set_cons_zero, List.set_cons_succ])
          refine wpAnyH_done (by kernel_rfl) ?_ _
          have HH := Lib.hid hHeld
          clear hHeld
          go_wp2
          refine post_meta rfl (by rfl) (by rfl) HRf.out rfl ?_
          exact ⟨_, by rw [new_v]; rfl, HFIN.out, HH.out.1⟩
        exact AllReadyH.nil
      exact AllReadyH.nil
    refine AllReadyH.cons rfl (fun K hK => ?_) ?_
    · have hmk := run_make_ints (P := Try.prog) v1 26 5 .u8 1 Try.underlying26 infoBC .i64 .i64 64 64 rfl (by decide) (by decide)
      have hrow := Row.new v1 5 (ints .u8 (List.replicate 64 0))
      have hXX := (Ext.refl v1).alloc (.cells ((ints .u8 (List.replicate 64 0))).toArray 5)
      have HX1 := Lib.hid hXX
      have HW4 := Lib.hid hrow
      obtain ⟨b4, hb⟩ : ∃ q, q = v1.heap.size := ⟨_, rfl⟩
      have HB4 := Lib.hid hb
      rw [← hb] at hmk HW4
      clear hrow hXX hb
      generalize v1.alloc (.cells ((ints .u8 (List.replicate 64 0))).toArray 5) = v2 at *
      go_simp
      refine hK.out _ _ ⟨hHeld.1.trans HX1.out, hHeld.2.ext HX1.out⟩ (fun hHeld => ?_)
      clear hK hmk
      refine wpAnyH_ready (rs := [3, 7]) (by kernel_rfl) (by simp) ?_
      refine AllReadyH.cons rfl (fun K hK => ?_) ?_
      · have hmk := run_make_ints (P := Try.prog) v2 25 3 .i64 8 Try.underlying25 info64I .i64 .i64 G G rfl (by omega) (by omega)
        have hrow := Row.new v2 3 (ints .i64 (List.replicate G 0))
        have hXX := (Ext.refl v2).alloc (.cells ((ints .i64 (List.replicate G 0))).toArray 3)
        have HX2 := Lib.hid hXX
        have HW3 := Lib.hid hrow
        obtain ⟨b3, hb⟩ : ∃ q, q = v2.heap.size := ⟨_, rfl⟩
        have HB3 := Lib.hid hb
        rw [← hb] at hmk HW3
        clear hrow hXX hb
        generalize v2.alloc (.cells ((ints .i64 (List.replicate G 0))).toArray 3) = v3 at *
        go_simp
        refine hK.out _ _ ⟨hHeld.1.trans HX2.out, hHeld.2.ext HX2.out⟩ (fun hHeld => ?_)
        clear hK hmk
        refine wpAnyH_ready (rs := [7]) (by kernel_rfl) (by simp) ?_
        refine AllReadyH.cons rfl (fun K hK => ?_) ?_
        · have hmk := run_make_s v3 14 27 48 (inoC Ino.zero) 104 (inoC_len _) (by decide) Try.underlying27 infoNC I (by omega) (by omega)
          rw [flat_repI] at hmk
          have hrow := Row.new v3 48 (flat inoC (List.replicate I Ino.zero))
          have hXX := (Ext.refl v3).alloc (.cells ((flat inoC (List.replicate I Ino.zero))).toArray 48)
          have HX3 := Lib.hid hXX
          have HW7 := Lib.hid hrow
          obtain ⟨b7, hb⟩ : ∃ q, q = v3.heap.size := ⟨_, rfl⟩
          have HB7 := Lib.hid hb
          rw [← hb] at hmk HW7
          clear hrow hXX hb
          generalize v3.alloc (.cells ((flat inoC (List.replicate I Ino.zero))).toArray 48) = v4 at *
          go_simp
          refine hK.out _ _ ⟨hHeld.1.trans HX3.out, hHeld.2.ext HX3.out⟩ (fun hHeld => ?_)
          clear hK hmk
          have HRm := Lib.hid (((((HR2.out.ext hX0).ext HX0.out).ext HX1.out).ext HX2.out).ext HX3.out)
          have HRR := Lib.hid (And.intro (((HW0.out.ext HX1.out).ext HX2.out).ext HX3.out) (And.intro (HW3.out.ext HX3.out) (And.intro ((HW4.out.ext HX2.out).ext HX3.out) HW7.out)))
          have HNE := Lib.hid (show b0 ≠ w.heap.size + 1 ∧ b3 ≠ w.heap.size + 1 ∧ b4 ≠ w.heap.size + 1 ∧ b7 ≠ w.heap.size + 1 from by
            have := HB0.out; have := HB3.out; have := HB4.out; have := HB7.out; have := HR2.out.lt; have := hX0.size; have := HX0.out.size; have := HX1.out.size; have := HX2.out.size
            omega)
          refine takeD (i := 8) (v := ?_) rfl rfl (by kernel_rfl) (by kernel_rfl) (by kernel_rfl) (fun _ _ _ h => h) (Or.inl ⟨by rfl, ?_⟩) hHeld ?_
          rotate_left
          · (intro v hv; (obtain ⟨hv0, hv1⟩ := hv; have c1 := (hv1.cell? 1).trans rfl; have c2 := (hv1.cell? 2).trans rfl); go_simp; try (with_reducible rfl))
          (try simp only [List.setIfInBounds_toArray, List.set_cons_zero, List.set_cons_succ])
          refine wpAnyH_ready (rs := [9]) (by kernel_rfl) (by simp) ?_
          refine AllReadyH.cons rfl (fun K hK => ?_) AllReadyH.nil
          rw [if_pos (by rfl)]
          refine store_rowN _ _ _ rfl rfl (w.heap.size + 1) #[.slice (some ⟨b0, 0, none⟩) 16 16, .slice (some ⟨b3, 0, none⟩) G G, .slice (some ⟨b4, 0, none⟩) 64 64, .slice (some ⟨b7, 0, none⟩) I I] rfl rfl 29 _ HRm.out infoMeta rfl (by simp [Value.oneCell']) ?_
          have HFIN := Lib.hid (new_in (HRR.out.1.setRow_other #[.slice (some ⟨b0, 0, none⟩) 16 16, .slice (some ⟨b3, 0, none⟩) G G, .slice (some ⟨b4, 0, none⟩) 64 64, .slice (some ⟨b7, 0, none⟩) I I] HNE.out.1) (HRR.out.2.1.setRow_other _ HNE.out.2.1) (HRR.out.2.2.1.setRow_other _ HNE.out.2.2.1) (HRR.out.2.2.2.setRow_other _ HNE.out.2.2.2) hg64 hi64)
          have HRf := Lib.hid (HRm.out.setRow #[.slice (some ⟨b0, 0, none⟩) 16 16, .slice (some ⟨b3, 0, none⟩) G G, .slice (some ⟨b4, 0, none⟩) 64 64, .slice (some ⟨b7, 0, none⟩) I I])
          refine hK.out _ _ ⟨hHeld.1.setRow (Nat.le_succ _) _, hHeld.2.setRow_other _ (by omega)⟩ (fun hHeld => ?_)
          clear hK
          refine takeD (i := 10) (v := ?_) rfl rfl (by kernel_rfl) (by kernel_rfl) (by kernel_rfl) (fun _ _ _ h => h) (Or.inl ⟨by rfl, ?_⟩) hHeld ?_
          rotate_left
          · (intro v hv; (obtain ⟨hv0, hv1⟩ := hv; have c1 := (hv1.cell? 1).trans rfl; have c2 := (hv1.cell? 2).trans rfl); go_simp; try (with_reducible rfl))
          (try simp only [List.setIfInBounds_toArray, List.set_cons_zero, List.set_cons_succ])
          refine wpAnyH_done (by kernel_rfl) ?_ _
          have HH := Lib.hid hHeld
          clear hHeld
          go_wp2
          refine post_meta rfl (by rfl) (by rfl) HRf.out rfl ?_
          exact ⟨_, by rw [new_v]; rfl, HFIN.out, HH.out.1⟩
        exact AllReadyH.nil
      refine AllReadyH.cons rfl (fun K hK => ?_) ?_
      · have hmk := run_make_s v2 14 27 48 (inoC Ino.zero) 104 (inoC_len _) (by decide) Try.underlying27 infoNC I (by omega) (by omega)
        rw [flat_repI] at hmk
        have hrow := Row.new v2 48 (flat inoC (List.replicate I Ino.zero))
        have hXX := (Ext.refl v2).alloc (.cells ((flat inoC (List.replicate I Ino.zero))).toArray 48)
        have HX2 := Lib.hid hXX
        have HW7 := Lib.hid hrow
        obtain ⟨b7, hb⟩ : ∃ q, q = v2.heap.size := ⟨_, rfl⟩
        have HB7 := Lib.hid hb
        rw [← hb] at hmk HW7
        clear hrow hXX hb
        generalize v2.alloc (.cells ((flat inoC (List.replicate I Ino.zero))).toArray 48) = v3 at *
        go_simp
        refine hK.out _ _ ⟨hHeld.1.trans HX2.out, hHeld.2.ext HX2.out⟩ (fun hHeld => ?_)
        clear hK hmk
        refine wpAnyH_ready (rs := [3]) (by kernel_rfl) (by simp) ?_
        refine AllReadyH.cons rfl (fun K hK => ?_) ?_
        · have hmk := run_make_ints (P := Try.prog) v3 25 3 .i64 8 Try.underlying25 info64I .i64 .i64 G G rfl (by omega) (by omega)
          have hrow := Row.new v3 3 (ints .i64 (List.replicate G 0))
          have hXX := (Ext.refl v3).alloc (.cells ((ints .i64 (List.replicate G 0))).toArray 3)
          have HX3 := Lib.hid hXX
          have HW3 := Lib.hid hrow
          obtain ⟨b3, hb⟩ : ∃ q, q = v3.heap.size := ⟨_, rfl⟩
          have HB3 := Lib.hid hb
          rw [← hb] at hmk HW3
          clear hrow hXX hb
          generalize v3.alloc (.cells ((ints .i64 (List.replicate G 0))).toArray 3) = v4 at *
          go_simp
          refine hK.out _ _ ⟨hHeld.1.trans HX3.out, hHeld.2.ext HX3.out⟩ (fun hHeld => ?_)
          clear hK hmk
          have HRm := Lib.hid (((((HR2.out.ext hX0).ext HX0.out).ext HX1.out).ext HX2.out).ext HX3.out)
          have HRR := Lib.hid (And.intro (((HW0.out.ext HX1.out).ext HX2.out).ext HX3.out) (And.intro HW3.out (And.intro ((HW4.out.ext HX2.out).ext HX3.out) (HW7.out.ext HX3.out))))
          have HNE := Lib.hid (show b0 ≠ w.heap.size + 1 ∧ b3 ≠ w.heap.size + 1 ∧ b4 ≠ w.heap.size + 1 ∧ b7 ≠ w.heap.size + 1 from by
            have := HB0.out; have := HB3.out; have := HB4.out; have := HB7.out; have := HR2.out.lt; have := hX0.size; have := HX0.out.size; have := HX1.out.size; have := HX2.out.size
            omega)
          refine takeD (i := 8) (v := ?_) rfl rfl (by kernel_rfl) (by kernel_rfl) (by kernel_rfl) (fun _ _ _ h => h) (Or.inl ⟨by rfl, ?_⟩) hHeld ?_
          rotate_left
          · (intro v hv; (obtain ⟨hv0, hv1⟩ := hv; have c1 := (hv1.cell? 1).trans rfl; have c2 := (hv1.cell? 2).trans rfl); go_simp; try (with_reducible rfl))
          (try simp only [List.setIfInBounds_toArray, List.set_cons_zero, List.set_cons_succ])
          refine wpAnyH_ready (rs := [9]) (by kernel_rfl) (by simp) ?_
          refine AllReadyH.cons rfl (fun K hK => ?_) AllReadyH.nil
          rw [if_pos (by rfl)]
          refine store_rowN _ _ _ rfl rfl (w.heap.size + 1) #[.slice (some ⟨b0, 0, none⟩) 16 16, .slice (some ⟨b3, 0, none⟩) G G, .slice (some ⟨b4, 0, none⟩) 64 64, .slice (some ⟨b7, 0, none⟩) I I] rfl rfl 29 _ HRm.out infoMeta rfl (by simp [Value.oneCell']) ?_
          have HFIN := Lib.hid (new_in (HRR.out.1.setRow_other #[.slice (some ⟨b0, 0, none⟩) 16 16, .slice (some ⟨b3, 0, none⟩) G G, .slice (some ⟨b4, 0, none⟩) 64 64, .slice (some ⟨b7, 0, none⟩) I I] HNE.out.1) (HRR.out.2.1.setRow_other _ HNE.out.2.1) (HRR.out.2.2.1.setRow_other _ HNE.out.2.2.1) (HRR.out.2.2.2.setRow_other _ HNE.out.2.2.2) hg64 hi64)
          have HRf := Lib.hid (HRm.out.setRow #[.slice (some ⟨b0, 0, none⟩) 16 16, .slice (some ⟨b3, 0, none⟩) G G, .slice (some ⟨b4, 0, none⟩) 64 64, .slice (some ⟨b7, 0, none⟩) I I])
          refine hK.out _ _ ⟨hHeld.1.setRow (Nat.le_succ _) _, hHeld.2.setRow_other _ (by omega)⟩ (fun hHeld => ?_)
          clear hK
          refine takeD (i := 10) (v := ?_) rfl rfl (by kernel_rfl) (by kernel_rfl) (by kernel_rfl) (fun _ _ _ h => h) (Or.inl ⟨by rfl, ?_⟩) hHeld ?_
          rotate_left
          · (intro v hv; (obtain ⟨hv0, hv1⟩ := hv; have c1 := (hv1.cell? 1).trans rfl; have c2 := (hv1.cell? 2).trans rfl); go_simp; try (with_reducible rfl))
          (try simp only [List.setIfInBounds_toArray, List.set_cons_zero, List.set_cons_succ])
          refine wpAnyH_done (by kernel_rfl) ?_ _
          have HH := Lib.hid hHeld
          clear hHeld
          go_wp2
          refine post_meta rfl (by rfl) (by rfl) HRf.out rfl ?_
          exact ⟨_, by rw [new_v]; rfl, HFIN.out, HH.out.1⟩
        exact AllReadyH.nil
      exact AllReadyH.nil
    refine AllReadyH.cons rfl (fun K hK => ?_) ?_
    · have hmk := run_make_s v1 14 27 48 (inoC Ino.zero) 104 (inoC_len _) (by decide) Try.underlying27 infoNC I (by omega) (by omega)
      rw [flat_repI] at hmk
      have hrow := Row.new v1 48 (flat inoC (List.replicate I Ino.zero))
      have hXX := (Ext.refl v1).alloc (.cells ((flat inoC (List.replicate I Ino.zero))).toArray 48)
      have HX1 := Lib.hid hXX
      have HW7 := Lib.hid hrow
      obtain ⟨b7, hb⟩ : ∃ q, q = v1.heap.size := ⟨_, rfl⟩
      have HB7 := Lib.hid hb
      rw [← hb] at hmk HW7
      clear hrow hXX hb
      generalize v1.alloc (.cells ((flat inoC (List.replicate I Ino.zero))).toArray 48) = v2 at *
      go_simp
      refine hK.out _ _ ⟨hHeld.1.trans HX1.out, hHeld.2.ext HX1.out⟩ (fun hHeld => ?_)
      clear hK hmk
      refine wpAnyH_ready (rs := [3, 4]) (by kernel_rfl) (by simp) ?_
      refine AllReadyH.cons rfl (fun K hK => ?_) ?_
      · have hmk := run_make_ints (P := Try.prog) v2 25 3 .i64 8 Try.underlying25 info64I .i64 .i64 G G rfl (by omega) (by omega)
        have hrow := Row.new v2 3 (ints .i64 (List.replicate G 0))
        have hXX := (Ext.refl v2).alloc (.cells ((ints .i64 (List.replicate G 0))).toArray 3)
        have HX2 := Lib.hid hXX
        have HW3 := Lib.hid hrow
        obtain ⟨b3, hb⟩ : ∃ q, q = v2.heap.size := ⟨_, rfl⟩
        have HB3 := Lib.hid hb
        rw [← hb] at hmk HW3
        clear hrow hXX hb
        generalize v2.alloc (.cells ((ints .i64 (List.replicate G 0))).toArray 3) = v3 at *
        go_simp
        refine hK.out _ _ ⟨hHeld.1.trans HX2.out, hHeld.2.ext HX2.out⟩ (fun hHeld => ?_)
        clear hK hmk
        refine wpAnyH_ready (rs := [4]) (by kernel_rfl) (by simp) ?_
        refine AllReadyH.cons rfl (fun K hK => ?_) ?_
        · have hmk := run_make_ints (P := Try.prog) v3 26 5 .u8 1 Try.underlying26 infoBC .i64 .i64 64 64 rfl (by decide) (by decide)
          have hrow := Row.new v3 5 (ints .u8 (List.replicate 64 0))
          have hXX := (Ext.refl v3).alloc (.cells ((ints .u8 (List.replicate 64 0))).toArray 5)
          have HX3 := Lib.hid hXX
          have HW4 := Lib.hid hrow
          obtain ⟨b4, hb⟩ : ∃ q, q = v3.heap.size := ⟨_, rfl⟩
          have HB4 := Lib.hid hb
          rw [← hb] at hmk HW4
          clear hrow hXX hb
          generalize v3.alloc (.cells ((ints .u8 (List.replicate 64 0))).toArray 5) = v4 at *
          go_simp
          refine hK.out _ _ ⟨hHeld.1.trans HX3.out, hHeld.2.ext HX3.out⟩ (fun hHeld => ?_)
          clear hK hmk
          have HRm := Lib.hid (((((HR2.out.ext hX0).ext HX0.out).ext HX1.out).ext HX2.out).ext HX3.out)
          have HRR := Lib.hid (And.intro (((HW0.out.ext HX1.out).ext HX2.out).ext HX3.out) (And.intro (HW3.out.ext HX3.out) (And.intro HW4.out ((HW7.out.ext HX2.out).ext HX3.out))))
          have HNE := Lib.hid (show b0 ≠ w.heap.size + 1 ∧ b3 ≠ w.heap.size + 1 ∧ b4 ≠ w.heap.size + 1 ∧ b7 ≠ w.heap.size + 1 from by
            have := HB0.out; have := HB3.out; have := HB4.out; have := HB7.out; have := HR2.out.lt; have := hX0.size; have := HX0.out.size; have := HX1.out.size; have := HX2.out.size
            omega)
          refine takeD (i := 8) (v := ?_) rfl rfl (by kernel_rfl) (by kernel_rfl) (by kernel_rfl) (fun _ _ _ h => h) (Or.inl ⟨by rfl, ?_⟩) hHeld ?_
          rotate_left
          · (intro v hv; (obtain ⟨hv0, hv1⟩ := hv; have c1 := (hv1.cell? 1).trans rfl; have c2 := (hv1.cell? 2).trans rfl); go_simp; try (with_reducible rfl))
          (try simp only [List.setIfInBounds_toArray, List.set_cons_zero, List.set_cons_succ])
          refine wpAnyH_ready (rs := [9]) (by kernel_rfl) (by simp) ?_
          refine AllReadyH.cons rfl (fun K hK => ?_) AllReadyH.nil
          rw [if_pos (by rfl)]
          refine store_rowN _ _ _ rfl rfl (w.heap.size + 1) #[.slice (some ⟨b0, 0, none⟩) 16 16, .slice (some ⟨b3, 0, none⟩) G G, .slice (some ⟨b4, 0, none⟩) 64 64, .slice (some ⟨b7, 0, none⟩) I I] rfl rfl 29 _ HRm.out infoMeta rfl (by simp [Value.oneCell']) ?_
          have HFIN := Lib.hid (new_in (HRR.out.1.setRow_other #[.slice (some ⟨b0, 0, none⟩) 16 16, .slice (some ⟨b3, 0, none⟩) G G, .slice (some ⟨b4, 0, none⟩) 64 64, .slice (some ⟨b7, 0, none⟩) I I] HNE.out.1) (HRR.out.2.1.setRow_other _ HNE.out.2.1) (HRR.out.2.2.1.setRow_other _ HNE.out.2.2.1) (HRR.out.2.2.2.setRow_other _ HNE.out.2.2.2) hg64 hi64)
          have HRf := Lib.hid (HRm.out.setRow #[.slice (some ⟨b0, 0, none⟩) 16 16, .slice (some ⟨b3, 0, none⟩) G G, .slice (some ⟨b4, 0, none⟩) 64 64, .slice (some ⟨b7, 0, none⟩) I I])
          refine hK.out _ _ ⟨hHeld.1.setRow (Nat.le_succ _) _, hHeld.2.setRow_other _ (by omega)⟩ (fun hHeld => ?_)
          clear hK
          refine takeD (i := 10) (v := ?_) rfl rfl (by kernel_rfl) (by kernel_rfl) (by kernel_rfl) (fun _ _ _ h => h) (Or.inl ⟨by rfl, ?_⟩) hHeld ?_
          rotate_left
          · (intro v hv; (obtain ⟨hv0, hv1⟩ := hv; have c1 := (hv1.cell? 1).trans rfl; have c2 := (hv1.cell? 2).trans rfl); go_simp; try (with_reducible rfl))
          (try simp only [List.setIfInBounds_toArray, List.set_cons_zero, List.set_cons_succ])
          refine wpAnyH_done (by kernel_rfl) ?_ _
          have HH := Lib.hid hHeld
          clear hHeld
          go_wp2
          refine post_meta rfl (by rfl) (by rfl) HRf.out rfl ?_
          exact ⟨_, by rw [new_v]; rfl, HFIN.out, HH.out.1⟩
        exact AllReadyH.nil
      refine AllReadyH.cons rfl (fun K hK => ?_) ?_
      · have hmk := run_make_ints (P := Try.prog) v2 26 5 .u8 1 Try.underlying26 infoBC .i64 .i64 64 64 rfl (by decide) (by decide)
        have hrow := Row.new v2 5 (ints .u8 (List.replicate 64 0))
        have hXX := (Ext.refl v2).alloc (.cells ((ints .u8 (List.replicate 64 0))).toArray 5)
        have HX2 := Lib.hid hXX
        have HW4 := Lib.hid hrow
        obtain ⟨b4, hb⟩ : ∃ q, q = v2.heap.size := ⟨_, rfl⟩
        have HB4 := Lib.hid hb
        rw [← hb] at hmk HW4
        clear hrow hXX hb
        generalize v2.alloc (.cells ((ints .u8 (List.replicate 64 0))).toArray 5) = v3 at *
        go_simp
        refine hK.out _ _ ⟨hHeld.1.trans HX2.out, hHeld.2.ext HX2.out⟩ (fun hHeld => ?_)
        clear hK hmk
        refine wpAnyH_ready (rs := [3]) (by kernel_rfl) (by simp) ?_
        refine AllReadyH.cons rfl (fun K hK => ?_) ?_
        · have hmk := run_make_ints (P := Try.prog) v3 25 3 .i64 8 Try.underlying25 info64I .i64 .i64 G G rfl (by omega) (by omega)
          have hrow := Row.new v3 3 (ints .i64 (List.replicate G 0))
          have hXX := (Ext.refl v3).alloc (.cells ((ints .i64 (List.replicate G 0))).toArray 3)
          have HX3 := Lib.hid hXX
          have HW3 := Lib.hid hrow
          obtain ⟨b3, hb⟩ : ∃ q, q = v3.heap.size := ⟨_, rfl⟩
          have HB3 := Lib.hid hb
          rw [← hb] at hmk HW3
          clear hrow hXX hb
          generalize v3.alloc (.cells ((ints .i64 (List.replicate G 0))).toArray 3) = v4 at *
          go_simp
          refine hK.out _ _ ⟨hHeld.1.trans HX3.out, hHeld.2.ext HX3.out⟩ (fun hHeld => ?_)
          clear hK hmk
          have HRm := Lib.hid (((((HR2.out.ext hX0).ext HX0.out).ext HX1.out).ext HX2.out).ext HX3.out)
          have HRR := Lib.hid (And.intro (((HW0.out.ext HX1.out).ext HX2.out).ext HX3.out) (And.intro HW3.out (And.intro (HW4.out.ext HX3.out) ((HW7.out.ext HX2.out).ext HX3.out))))
          have HNE := Lib.hid (show b0 ≠ w.heap.size + 1 ∧ b3 ≠ w.heap.size + 1 ∧ b4 ≠ w.heap.size + 1 ∧ b7 ≠ w.heap.size + 1 from by
            have := HB0.out; have := HB3.out; have := HB4.out; have := HB7.out; have := HR2.out.lt; have := hX0.size; have := HX0.out.size; have := HX1.out.size; have := HX2.out.size
            omega)
          refine takeD (i := 8) (v := ?_) rfl rfl (by kernel_rfl) (by kernel_rfl) (by kernel_rfl) (fun _ _ _ h => h) (Or.inl ⟨by rfl, ?_⟩) hHeld ?_
          rotate_left
          · (intro v hv; (obtain ⟨hv0, hv1⟩ := hv; have c1 := (hv1.cell? 1).trans rfl; have c2 := (hv1.cell? 2).trans rfl); go_simp; try (with_reducible rfl))
          (try simp only [List.setIfInBounds_toArray, List.set_cons_zero, List.set_cons_succ])
          refine wpAnyH_ready (rs := [9]) (by kernel_rfl) (by simp) ?_
          refine AllReadyH.cons rfl (fun K hK => ?_) AllReadyH.nil
          rw [if_pos (by rfl)]
          refine store_rowN _ _ _ rfl rfl (w.heap.size + 1) #[.slice (some ⟨b0, 0, none⟩) 16 16, .slice (some ⟨b3, 0, none⟩) G G, .slice (some ⟨b4, 0, none⟩) 64 64, .slice (some ⟨b7, 0, none⟩) I I] rfl rfl 29 _ HRm.out infoMeta rfl (by simp [Value.oneCell']) ?_
          have HFIN := Lib.hid (new_in (HRR.out.1.setRow_other #[.slice (some ⟨b0, 0, none⟩) 16 16, .slice (some ⟨b3, 0, none⟩) G G, .slice (some ⟨b4, 0, none⟩) 64 64, .slice (some ⟨b7, 0, none⟩) I I] HNE.out.1) (HRR.out.2.1.setRow_other _ HNE.out.2.1) (HRR.out.2.2.1.setRow_other _ HNE.out.2.2.1) (HRR.out.2.2.2.setRow_other _ HNE.out.2.2.2) hg64 hi64)
          have HRf := Lib.hid (HRm.out.setRow #[.slice (some ⟨b0, 0, none⟩) 16 16, .slice (some ⟨b3, 0, none⟩) G G, .slice (some ⟨b4, 0, none⟩) 64 64, .slice (some ⟨b7, 0, none⟩) I I])
          refine hK.out _ _ ⟨hHeld.1.setRow (Nat.le_succ _) _, hHeld.2.setRow_other _ (by omega)⟩ (fun hHeld => ?_)
          clear hK
          refine takeD (i := 10) (v := ?_) rfl rfl (by kernel_rfl) (by kernel_rfl) (by kernel_rfl) (fun _ _ _ h => h) (Or.inl ⟨by rfl, ?_⟩) hHeld ?_
          rotate_left
          · (intro v hv; (obtain ⟨hv0, hv1⟩ := hv; have c1 := (hv1.cell? 1).trans rfl; have c2 := (hv1.cell? 2).trans rfl); go_simp; try (with_reducible rfl))
          (try simp only [List.setIfInBounds_toArray, List.set_cons_zero, List.set_cons_succ])
          refine wpAnyH_done (by kernel_rfl) ?_ _
          have HH := Lib.hid hHeld
          clear hHeld
          go_wp2
          refine post_meta rfl (by rfl) (by rfl) HRf.out rfl ?_
          exact ⟨_, by rw [new_v]; rfl, HFIN.out, HH.out.1⟩
        exact AllReadyH.nil
      exact AllReadyH.nil
    exact AllReadyH.nil
  refine AllReadyH.cons rfl (fun K hK => ?_) ?_
  · have hmk := run_make_ints (P := Try.prog) v0 25 3 .i64 8 Try.underlying25 info64I .i64 .i64 G G rfl (by omega) (by omega)
    have hrow := Row.new v0 3 (ints .i64 (List.replicate G 0))
    have hXX := (Ext.refl v0).alloc (.cells ((ints .i64 (List.replicate G 0))).toArray 3)
    have HX0 := Lib.hid hXX
    have HW3 := Lib.hid hrow
    obtain ⟨b3, hb⟩ : ∃ q, q = v0.heap.size := ⟨_, rfl⟩
    have HB3 := Lib.hid hb
    rw [← hb] at hmk HW3
    clear hrow hXX hb
    generalize v0.alloc (.cells ((ints .i64 (List.replicate G 0))).toArray 3) = v1 at *
    go_simp
    refine hK.out _ _ ⟨hHeld.1.trans HX0.out, hHeld.2.ext HX0.out⟩ (fun hHeld => ?_)
    clear hK hmk
    refine wpAnyH_ready (rs := [0, 4, 7]) (by kernel_rfl) (by simp) ?_
    refine AllReadyH.cons rfl (fun K hK => ?_) ?_
    · have hmk0 := run_make_s v1 2 24 45 [.int .u16 0, .int .i64 0] 16 rfl (by decide) Try.underlying24 infoRC 16 (by decide) (by decide)
      rw [flat_repR] at hmk0
      have hmk : (Instr.makeSlice 24 (.int .i64 16) (.int .i64 16)).run Try.prog v1 = .ok (.slice (some ⟨v1.heap.size, 0, none⟩) 16 16) (v1.alloc (.cells (rowsC (List.replicate 16 (0, 0))).toArray 45)) := hmk0
      clear hmk0
      have hrow := Row.new v1 45 (rowsC (List.replicate 16 (0, 0)))
      have hXX := (Ext.refl v1).alloc (.cells ((rowsC (List.replicate 16 (0, 0)))).toArray 45)
      have HX1 := Lib.hid hXX
      have HW0 := Lib.hid hrow
      obtain ⟨b0, hb⟩ : ∃ q, q = v1.heap.size := ⟨_, rfl⟩
      have HB0 := Lib.hid hb
      rw [← hb] at hmk HW0
      clear hrow hXX hb
      generalize v1.alloc (.cells ((rowsC (List.replicate 16 (0, 0)))).toArray 45) = v2 at *
      go_simp
      refine hK.out _ _ ⟨hHeld.1.trans HX1.out, hHeld.2.ext HX1.out⟩ (fun hHeld => ?_)
      clear hK hmk
      refine wpAnyH_ready (rs := [4, 7]) (by kernel_rfl) (by simp) ?_
      refine AllReadyH.cons rfl (fun K hK => ?_) ?_
      · have hmk := run_make_ints (P := Try.prog) v2 26 5 .u8 1 Try.underlying26 infoBC .i64 .i64 64 64 rfl (by decide) (by decide)
        have hrow := Row.new v2 5 (ints .u8 (List.replicate 64 0))
        have hXX := (Ext.refl v2).alloc (.cells ((ints .u8 (List.replicate 64 0))).toArray 5)
        have HX2 := Lib.hid hXX
        have HW4 := Lib.hid hrow
        obtain ⟨b4, hb⟩ : ∃ q, q = v2.heap.size := ⟨_, rfl⟩
        have HB4 := Lib.hid hb
        rw [← hb] at hmk HW4
        clear hrow hXX hb
        generalize v2.alloc (.cells ((ints .u8 (List.replicate 64 0))).toArray 5) = v3 at *
        go_simp
        refine hK.out _ _ ⟨hHeld.1.trans HX2.out, hHeld.2.ext HX2.out⟩ (fun hHeld => ?_)
        clear hK hmk
        refine wpAnyH_ready (rs := [7]) (by kernel_rfl) (by simp) ?_
        refine AllReadyH.cons rfl (fun K hK => ?_) ?_
        · have hmk := run_make_s v3 14 27 48 (inoC Ino.zero) 104 (inoC_len _) (by decide) Try.underlying27 infoNC I (by omega) (by omega)
          rw [flat_repI] at hmk
          have hrow := Row.new v3 48 (flat inoC (List.replicate I Ino.zero))
          have hXX := (Ext.refl v3).alloc (.cells ((flat inoC (List.replicate I Ino.zero))).toArray 48)
          have HX3 := Lib.hid hXX
          have HW7 := Lib.hid hrow
          obtain ⟨b7, hb⟩ : ∃ q, q = v3.heap.size := ⟨_, rfl⟩
          have HB7 := Lib.hid hb
          rw [← hb] at hmk HW7
          clear hrow hXX hb
          generalize v3.alloc (.cells ((flat inoC (List.replicate I Ino.zero))).toArray 48) = v4 at *
          go_simp
          refine hK.out _ _ ⟨hHeld.1.trans HX3.out, hHeld.2.ext HX3.out⟩ (fun hHeld => ?_)
          clear hK hmk
          have HRm := Lib.hid (((((HR2.out.ext hX0).ext HX0.out).ext HX1.out).ext HX2.out).ext HX3.out)
          have HRR := Lib.hid (And.intro ((HW0.out.ext HX2.out).ext HX3.out) (And.intro (((HW3.out.ext HX1.out).ext HX2.out).ext HX3.out) (And.intro (HW4.out.ext HX3.out) HW7.out)))
          have HNE := Lib.hid (show b0 ≠ w.heap.size + 1 ∧ b3 ≠ w.heap.size + 1 ∧ b4 ≠ w.heap.size + 1 ∧ b7 ≠ w.heap.size + 1 from by
            have := HB0.out; have := HB3.out; have := HB4.out; have := HB7.out; have := HR2.out.lt; have := hX0.size; have := HX0.out.size; have := HX1.out.size; have := HX2.out.size
            omega)
          refine takeD (i := 8) (v := ?_) rfl rfl (by kernel_rfl) (by kernel_rfl) (by kernel_rfl) (fun _ _ _ h => h) (Or.inl ⟨by rfl, ?_⟩) hHeld ?_
          rotate_left
          · (intro v hv; (obtain ⟨hv0, hv1⟩ := hv; have c1 := (hv1.cell? 1).trans rfl; have c2 := (hv1.cell? 2).trans rfl); go_simp; try (with_reducible rfl))
          (try simp only [List.setIfInBounds_toArray, List.set_cons_zero, List.set_cons_succ])
          refine wpAnyH_ready (rs := [9]) (by kernel_rfl) (by simp) ?_
          refine AllReadyH.cons rfl (fun K hK => ?_) AllReadyH.nil
          rw [if_pos (by rfl)]
          refine store_rowN _ _ _ rfl rfl (w.heap.size + 1) #[.slice (some ⟨b0, 0, none⟩) 16 16, .slice (some ⟨b3, 0, none⟩) G G, .slice (some ⟨b4, 0, none⟩) 64 64, .slice (some ⟨b7, 0, none⟩) I I] rfl rfl 29 _ HRm.out infoMeta rfl (by simp [Value.oneCell']) ?_
          have HFIN := Lib.hid (new_in (HRR.out.1.setRow_other #[.slice (some ⟨b0, 0, none⟩) 16 16, .slice (some ⟨b3, 0, none⟩) G G, .slice (some ⟨b4, 0, none⟩) 64 64, .slice (some ⟨b7, 0, none⟩) I I] HNE.out.1) (HRR.out.2.1.setRow_other _ HNE.out.2.1) (HRR.out.2.2.1.setRow_other _ HNE.out.2.2.1) (HRR.out.2.2.2.setRow_other _ HNE.out.2.2.2) hg64 hi64)
          have HRf := Lib.hid (HRm.out.setRow #[.slice (some ⟨b0, 0, none⟩) 16 16, .slice (some ⟨b3, 0, none⟩) G G, .slice (some ⟨b4, 0, none⟩) 64 64, .slice (some ⟨b7, 0, none⟩) I I])
          refine hK.out _ _ ⟨hHeld.1.setRow (Nat.le_succ _) _, hHeld.2.setRow_other _ (by omega)⟩ (fun hHeld => ?_)
          clear hK
          refine takeD (i := 10) (v := ?_) rfl rfl (by kernel_rfl) (by kernel_rfl) (by kernel_rfl) (fun _ _ _ h => h) (Or.inl ⟨by rfl, ?_⟩) hHeld ?_
          rotate_left
          · (intro v hv; (obtain ⟨hv0, hv1⟩ := hv; have c1 := (hv1.cell? 1).trans rfl; have c2 := (hv1.cell? 2).trans rfl); go_simp; try (with_reducible rfl))
          (try simp only [List.setIfInBounds_toArray, List.set_cons_zero, List.set_cons_succ])
          refine wpAnyH_done (by kernel_rfl) ?_ _
          have HH := Lib.hid hHeld
          clear hHeld
          go_wp2
          refine post_meta rfl (by rfl) (by rfl) HRf.out rfl ?_
          exact ⟨_, by rw [new_v]; rfl, HFIN.out, HH.out.1⟩
        exact AllReadyH.nil
      refine AllReadyH.cons rfl (fun K hK => ?_) ?_
      · have hmk := run_make_s v2 14 27 48 (inoC Ino.zero) 104 (inoC_len _) (by decide) Try.underlying27 infoNC I (by omega) (by omega)
        rw [flat_repI] at hmk
        have hrow := Row.new v2 48 (flat inoC (List.replicate I Ino.zero))
        have hXX := (Ext.refl v2).alloc (.cells ((flat inoC (List.replicate I Ino.zero))).toArray 48)
        have HX2 := Lib.hid hXX
        have HW7 := Lib.hid hrow
        obtain ⟨b7, hb⟩ : ∃ q, q = v2.heap.size := ⟨_, rfl⟩
        have HB7 := Lib.hid hb
        rw [← hb] at hmk HW7
        clear hrow hXX hb
        generalize v2.alloc (.cells ((flat inoC (List.replicate I Ino.zero))).toArray 48) = v3 at *
        go_simp
        refine hK.out _ _ ⟨hHeld.1.trans HX2.out, hHeld.2.ext HX2.out⟩ (fun hHeld => ?_)
        clear hK hmk
        refine wpAnyH_ready (rs := [4]) (by kernel_rfl) (by simp) ?_
        refine AllReadyH.cons rfl (fun K hK => ?_) ?_
        · have hmk := run_make_ints (P := Try.prog) v3 26 5 .u8 1 Try.underlying26 infoBC .i64 .i64 64 64 rfl (by decide) (by decide)
          have hrow := Row.new v3 5 (ints .u8 (List.replicate 64 0))
          have hXX := (Ext.refl v3).alloc (.cells ((ints .u8 (List.replicate 64 0))).toArray 5)
          have HX3 := Lib.hid hXX
          have HW4 := Lib.hid hrow
          obtain ⟨b4, hb⟩ : ∃ q, q = v3.heap.size := ⟨_, rfl⟩
          have HB4 := Lib.hid hb
          rw [← hb] at hmk HW4
          clear hrow hXX hb
          generalize v3.alloc (.cells ((ints .u8 (List.replicate 64 0))).toArray 5) = v4 at *
          go_simp
          refine hK.out _ _ ⟨hHeld.1.trans HX3.out, hHeld.2.ext HX3.out⟩ (fun hHeld => ?_)
          clear hK hmk
          have HRm := Lib.hid (((((HR2.out.ext hX0).ext HX0.out).ext HX1.out).ext HX2.out).ext HX3.out)
          have HRR := Lib.hid (And.intro ((HW0.out.ext HX2.out).ext HX3.out) (And.intro (((HW3.out.ext HX1.out).ext HX2.out).ext HX3.out) (And.intro HW4.out (HW7.out.ext HX3.out))))
          have HNE := Lib.hid (show b0 ≠ w.heap.size + 1 ∧ b3 ≠ w.heap.size + 1 ∧ b4 ≠ w.heap.size + 1 ∧ b7 ≠ w.heap.size + 1 from by
            have := HB0.out; have := HB3.out; have := HB4.out; have := HB7.out; have := HR2.out.lt; have := hX0.size; have := HX0.out.size; have := HX1.out.size; have := HX2.out.size
            omega)
          refine takeD (i := 8) (v := ?_) rfl rfl (by kernel_rfl) (by kernel_rfl) (by kernel_rfl) (fun _ _ _ h => h) (Or.inl ⟨by rfl, ?_⟩) hHeld ?_
          rotate_left
          · (intro v hv; (obtain ⟨hv0, hv1⟩ := hv; have c1 := (hv1.cell? 1).trans rfl; have c2 := (hv1.cell? 2).trans rfl); go_simp; try (with_reducible rfl))
          (try simp only [List.setIfInBounds_toArray, List.set_cons_zero, List.set_cons_succ])
          refine wpAnyH_ready (rs := [9]) (by kernel_rfl) (by simp) ?_
          refine AllReadyH.cons rfl (fun K hK => ?_) AllReadyH.nil
          rw [if_pos (by rfl)]
          refine store_rowN _ _ _ rfl rfl (w.heap.size + 1) #[.slice (some ⟨b0, 0, none⟩) 16 16, .slice (some ⟨b3, 0, none⟩) G G, .slice (some ⟨b4, 0, none⟩) 64 64, .slice (some ⟨b7, 0, none⟩) I I] rfl rfl 29 _ HRm.out infoMeta rfl (by simp [Value.oneCell']) ?_
          have HFIN := Lib.hid (new_in (HRR.out.1.setRow_other #[.slice (some ⟨b0, 0, none⟩) 16 16, .slice (some ⟨b3, 0, none⟩) G G, .slice (some ⟨b4, 0, none⟩) 64 64, .slice (some ⟨b7, 0, none⟩) I I] HNE.out.1) (HRR.out.2.1.setRow_other _ HNE.out.2.1) (HRR.out.2.2.1.setRow_other _ HNE.out.2.2.1) (HRR.out.2.2.2.setRow_other _ HNE.out.2.2.2) hg64 hi64)
          have HRf := Lib.hid (HRm.out.setRow #[.slice (some ⟨b0, 0, none⟩) 16 16, .slice (some ⟨b3, 0, none⟩) G G, .slice (some ⟨b4, 0, none⟩) 64 64, .slice (some ⟨b7, 0, none⟩) I I])
          refine hK.out _ _ ⟨hHeld.1.setRow (Nat.le_succ _) _, hHeld.2.setRow_other _ (by omega)⟩ (fun hHeld => ?_)
          clear hK
          refine takeD (i := 10) (v := ?_) rfl rfl (by kernel_rfl) (by kernel_rfl) (by kernel_rfl) (fun _ _ _ h => h) (Or.inl ⟨by rfl, ?_⟩) hHeld ?_
          rotate_left
          · (intro v hv; (obtain ⟨hv0, hv1⟩ := hv; have c1 := (hv1.cell? 1).trans rfl; have c2 := (hv1.cell? 2).trans rfl); go_simp; try (with_reducible rfl))
          (try simp only [List.setIfInBounds_toArray, List.set_cons_zero, List.set_cons_succ])
          refine wpAnyH_done (by kernel_rfl) ?_ _
          have HH := Lib.hid hHeld
          clear hHeld
          go_wp2
          refine post_meta rfl (by rfl) (by rfl) HRf.out rfl ?_
          exact ⟨_, by rw [new_v]; rfl, HFIN.out, HH.out.1⟩
        exact AllReadyH.nil
      exact AllReadyH.nil
    refine AllReadyH.cons rfl (fun K hK => ?_) ?_
    · have hmk := run_make_ints (P := Try.prog) v1 26 5 .u8 1 Try.underlying26 infoBC .i64 .i64 64 64 rfl (by decide) (by decide)
      have hrow := Row.new v1 5 (ints .u8 (List.replicate 64 0))
      have hXX := (Ext.refl v1).alloc (.cells ((ints .u8 (List.replicate 64 0))).toArray 5)
      have HX1 := Lib.hid hXX
      have HW4 := Lib.hid hrow
      obtain ⟨b4, hb⟩ : ∃ q, q = v1.heap.size := ⟨_, rfl⟩
      have HB4 := Lib.hid hb
      rw [← hb] at hmk HW4
      clear hrow hXX hb
      generalize v1.alloc (.cells ((ints .u8 (List.replicate 64 0))).toArray 5) = v2 at *
      go_simp
      refine hK.out _ _ ⟨hHeld.1.trans HX1.out, hHeld.2.ext HX1.out⟩ (fun hHeld => ?_)
      clear hK hmk
      refine wpAnyH_ready (rs := [0, 7]) (by kernel_rfl) (by simp) ?_
      refine AllReadyH.cons rfl (fun K hK => ?_) ?_
      · have hmk0 := run_make_s v2 2 24 45 [.int .u16 0, .int .i64 0] 16 rfl (by decide) Try.underlying24 infoRC 16 (by decide) (by decide)
        rw [flat_repR] at hmk0
        have hmk : (Instr.makeSlice 24 (.int .i64 16) (.int .i64 16)).run Try.prog v2 = .ok (.slice (some ⟨v2.heap.size, 0, none⟩) 16 16) (v2.alloc (.cells (rowsC (List.replicate 16 (0, 0))).toArray 45)) := hmk0
        clear hmk0
        have hrow := Row.new v2 45 (rowsC (List.replicate 16 (0, 0)))
        have hXX := (Ext.refl v2).alloc (.cells ((rowsC (List.replicate 16 (0, 0)))).toArray 45)
        have HX2 := Lib.hid hXX
        have HW0 := Lib.hid hrow
        obtain ⟨b0, hb⟩ : ∃ q, q = v2.heap.size := ⟨_, rfl⟩
        have HB0 := Lib.hid hb
        rw [← hb] at hmk HW0
        clear hrow hXX hb
        generalize v2.alloc (.cells ((rowsC (List.replicate 16 (0, 0)))).toArray 45) = v3 at *
        go_simp
        refine hK.out _ _ ⟨hHeld.1.trans HX2.out, hHeld.2.ext HX2.out⟩ (fun hHeld => ?_)
        clear hK hmk
        refine wpAnyH_ready (rs := [7]) (by kernel_rfl) (by simp) ?_
        refine AllReadyH.cons rfl (fun K hK => ?_) ?_
        · have hmk := run_make_s v3 14 27 48 (inoC Ino.zero) 104 (inoC_len _) (by decide) Try.underlying27 infoNC I (by omega) (by omega)
          rw [flat_repI] at hmk
          have hrow := Row.new v3 48 (flat inoC (List.replicate I Ino.zero))
          have hXX := (Ext.refl v3).alloc (.cells ((flat inoC (List.replicate I Ino.zero))).toArray 48)
          have HX3 := Lib.hid hXX
          have HW7 := Lib.hid hrow
          obtain ⟨b7, hb⟩ : ∃ q, q = v3.heap.size := ⟨_, rfl⟩
          have HB7 := Lib.hid hb
          rw [← hb] at hmk HW7
          clear hrow hXX hb
          generalize v3.alloc (.cells ((flat inoC (List.replicate I Ino.zero))).toArray 48) = v4 at *
          go_simp
          refine hK.out _ _ ⟨hHeld.1.trans HX3.out, hHeld.2.ext HX3.out⟩ (fun hHeld => ?_)
          clear hK hmk
          have HRm := Lib.hid (((((HR2.out.ext hX0).ext HX0.out).ext HX1.out).ext HX2.out).ext HX3.out)
          have HRR := Lib.hid (And.intro (HW0.out.ext HX3.out) (And.intro (((HW3.out.ext HX1.out).ext HX2.out).ext HX3.out) (And.intro ((HW4.out.ext HX2.out).ext HX3.out) HW7.out)))
          have HNE := Lib.hid (show b0 ≠ w.heap.size + 1 ∧ b3 ≠ w.heap.size + 1 ∧ b4 ≠ w.heap.size + 1 ∧ b7 ≠ w.heap.size + 1 from by
            have := HB0.out; have := HB3.out; have := HB4.out; have := HB7.out; have := HR2.out.lt; have := hX0.size; have := HX0.out.size; have := HX1.out.size; have := HX2.out.size
            omega)
          refine takeD (i := 8) (v := ?_) rfl rfl (by kernel_rfl) (by kernel_rfl) (by kernel_rfl) (fun _ _ _ h => h) (Or.inl ⟨by rfl, ?_⟩) hHeld ?_
          rotate_left
          · (intro v hv; (obtain ⟨hv0, hv1⟩ := hv; have c1 := (hv1.cell? 1).trans rfl; have c2 := (hv1.cell? 2).trans rfl); go_simp; try (with_reducible rfl))
          (try simp only [List.setIfInBounds_toArray, List.set_cons_zero, List.set_cons_succ])
          refine wpAnyH_ready (rs := [9]) (by kernel_rfl) (by simp) ?_
          refine AllReadyH.cons rfl (fun K hK => ?_) AllReadyH.nil
          rw [if_pos (by rfl)]
          refine store_rowN _ _ _ rfl rfl (w.heap.size + 1) #[.slice (some ⟨b0, 0, none⟩) 16 16, .slice (some ⟨b3, 0, none⟩) G G, .slice (some ⟨b4, 0, none⟩) 64 64, .slice (some ⟨b7, 0, none⟩) I I] rfl rfl 29 _ HRm.out infoMeta rfl (by simp [Value.oneCell']) ?_
          have HFIN := Lib.hid (new_in (HRR.out.1.setRow_other #[.slice (some ⟨b0, 0, none⟩) 16 16, .slice (some ⟨b3, 0, none⟩) G G, .slice (some ⟨b4, 0, none⟩) 64 64, .slice (some ⟨b7, 0, none⟩) I I] HNE.out.1) (HRR.out.2.1.setRow_other _ HNE.out.2.1) (HRR.out.2.2.1.setRow_other _ HNE.out.2.2.1) (HRR.out.2.2.2.setRow_other _ HNE.out.2.2.2) hg64 hi64)
          have HRf := Lib.hid (HRm.out.setRow #[.slice (some ⟨b0, 0, none⟩) 16 16, .slice (some ⟨b3, 0, none⟩) G G, .slice (some ⟨b4, 0, none⟩) 64 64, .slice (some ⟨b7, 0, none⟩) I I])
          refine hK.out _ _ ⟨hHeld.1.setRow (Nat.le_succ _) _, hHeld.2.setRow_other _ (by omega)⟩ (fun hHeld => ?_)
          clear hK
          refine takeD (i := 10) (v := ?_) rfl rfl (by kernel_rfl) (by kernel_rfl) (by kernel_rfl) (fun _ _ _ h => h) (Or.inl ⟨by rfl, ?_⟩) hHeld ?_
          rotate_left
          · (intro v hv; (obtain ⟨hv0, hv1⟩ := hv; have c1 := (hv1.cell? 1).trans rfl; have c2 := (hv1.cell? 2).trans rfl); go_simp; try (with_reducible rfl))
          (try simp only [List.setIfInBounds_toArray, List.set_cons_zero, List.set_cons_succ])
          refine wpAnyH_done (by kernel_rfl) ?_ _
          have HH := Lib.hid hHeld
          clear hHeld
          go_wp2
          refine post_meta rfl (by rfl) (by rfl) HRf.out rfl ?_
          exact ⟨_, by rw [new_v]; rfl, HFIN.out, HH.out.1⟩
        exact AllReadyH.nil
      refine AllReadyH.cons rfl (fun K hK => ?_) ?_
      · have hmk := run_make_s v2 14 27 48 (inoC Ino.zero) 104 (inoC_len _) (by decide) Try.underlying27 infoNC I (by omega) (by omega)
        rw [flat_repI] at hmk
        have hrow := Row.new v2 48 (flat inoC (List.replicate I Ino.zero))
        have hXX := (Ext.refl v2).alloc (.cells ((flat inoC (List.replicate I Ino.zero))).toArray 48)
        have HX2 := Lib.hid hXX
        have HW7 := Lib.hid hrow
        obtain ⟨b7, hb⟩ : ∃ q, q = v2.heap.size := ⟨_, rfl⟩
        have HB7 := Lib.hid hb
        rw [← hb] at hmk HW7
        clear hrow hXX hb
        generalize v2.alloc (.cells ((flat inoC (List.replicate I Ino.zero))).toArray 48) = v3 at *
        go_simp
        refine hK.out _ _ ⟨hHeld.1.trans HX2.out, hHeld.2.ext HX2.out⟩ (fun hHeld => ?_)
        clear hK hmk
        refine wpAnyH_ready (rs := [0]) (by kernel_rfl) (by simp) ?_
        refine AllReadyH.cons rfl (fun K hK => ?_) ?_
        · have hmk0 := run_make_s v3 2 24 45 [.int .u16 0, .int .i64 0] 16 rfl (by decide) Try.underlying24 infoRC 16 (by decide) (by decide)
          rw [flat_repR] at hmk0
          have hmk : (Instr.makeSlice 24 (.int .i64 16) (.int .i64 16)).run Try.prog v3 = .ok (.slice (some ⟨v3.heap.size, 0, none⟩) 16 16) (v3.alloc (.cells (rowsC (List.replicate 16 (0, 0))).toArray 45)) := hmk0
          clear hmk0
          have hrow := Row.new v3 45 (rowsC (List.replicate 16 (0, 0)))
          have hXX := (Ext.refl v3).alloc (.cells ((rowsC (List.replicate 16 (0, 0)))).toArray 45)
          have HX3 := Lib.hid hXX
          have HW0 := Lib.hid hrow
          obtain ⟨b0, hb⟩ : ∃ q, q = v3.heap.size := ⟨_, rfl⟩
          have HB0 := Lib.hid hb
          rw [← hb] at hmk HW0
          clear hrow hXX hb
          generalize v3.alloc (.cells ((rowsC (List.replicate 16 (0, 0)))).toArray 45) = v4 at *
          go_simp
          refine hK.out _ _ ⟨hHeld.1.trans HX3.out, hHeld.2.ext HX3.out⟩ (fun hHeld => ?_)
          clear hK hmk
          have HRm := Lib.hid (((((HR2.out.ext hX0).ext HX0.out).ext HX1.out).ext HX2.out).ext HX3.out)
          have HRR := Lib.hid (And.intro HW0.out (And.intro (((HW3.out.ext HX1.out).ext HX2.out).ext HX3.out) (And.intro ((HW4.out.ext HX2.out).ext HX3.out) (HW7.out.ext HX3.out))))
          have HNE := Lib.hid (show b0 ≠ w.heap.size + 1 ∧ b3 ≠ w.heap.size + 1 ∧ b4 ≠ w.heap.size + 1 ∧ b7 ≠ w.heap.size + 1 from by
            have := HB0.out; have := HB3.out; have := HB4.out; have := HB7.out; have := HR2.out.lt; have := hX0.size; have := HX0.out.size; have := HX1.out.size; have := HX2.out.size
            omega)
          refine takeD (i := 8) (v := ?_) rfl rfl (by kernel_rfl) (by kernel_rfl) (by kernel_rfl) (fun _ _ _ h => h) (Or.inl ⟨by rfl, ?_⟩) hHeld ?_
          rotate_left
          · (intro v hv; (obtain ⟨hv0, hv1⟩ := hv; have c1 := (hv1.cell? 1).trans rfl; have c2 := (hv1.cell? 2).trans rfl); go_simp; try (with_reducible rfl))
          (try simp only [List.setIfInBounds_toArray, List.set_cons_zero, List.set_cons_succ])
          refine wpAnyH_ready (rs := [9]) (by kernel_rfl) (by simp) ?_
          refine AllReadyH.cons rfl (fun K hK => ?_) AllReadyH.nil
          rw [if_pos (by rfl)]
          refine store_rowN _ _ _ rfl rfl (w.heap.size + 1) #[.slice (some ⟨b0, 0, none⟩) 16 16, .slice (some ⟨b3, 0, none⟩) G G, .slice (some ⟨b4, 0, none⟩) 64 64, .slice (some ⟨b7, 0, none⟩) I I] rfl rfl 29 _ HRm.out infoMeta rfl (by simp [Value.oneCell']) ?_
          have HFIN := Lib.hid (new_in (HRR.out.1.setRow_other #[.slice (some ⟨b0, 0, none⟩) 16 16, .slice (some ⟨b3, 0, none⟩) G G, .slice (some ⟨b4, 0, none⟩) 64 64, .slice (some ⟨b7, 0, none⟩) I I] HNE.out.1) (HRR.out.2.1.setRow_other _ HNE.out.2.1) (HRR.out.2.2.1.setRow_other _ HNE.out.2.2.1) (HRR.out.2.2.2.setRow_other _ HNE.out.2.2.2) hg64 hi64)
          have HRf := Lib.hid (HRm.out.setRow #[.slice (some ⟨b0, 0, none⟩) 16 16, .slice (some ⟨b3, 0, none⟩) G G, .slice (some ⟨b4, 0, none⟩) 64 64, .slice (some ⟨b7, 0, none⟩) I I])
          refine hK.out _ _ ⟨hHeld.1.setRow (Nat.le_succ _) _, hHeld.2.setRow_other _ (by omega)⟩ (fun hHeld => ?_)
          clear hK
          refine takeD (i := 10) (v := ?_) rfl rfl (by kernel_rfl) (by kernel_rfl) (by kernel_rfl) (fun _ _ _ h => h) (Or.inl ⟨by rfl, ?_⟩) hHeld ?_
          rotate_left
          · (intro v hv; (obtain ⟨hv0, hv1⟩ := hv; have c1 := (hv1.cell? 1).trans rfl; have c2 := (hv1.cell? 2).trans rfl); go_simp; try (with_reducible rfl))
          (try simp only [List.setIfInBounds_toArray, List.set_cons_zero, List.set_cons_succ])
          refine wpAnyH_done (by kernel_rfl) ?_ _
          have HH := Lib.hid hHeld
          clear hHeld
          go_wp2
          refine post_meta rfl (by rfl) (by rfl) HRf.out rfl ?_
          exact ⟨_, by rw [new_v]; rfl, HFIN.out, HH.out.1⟩
        exact AllReadyH.nil
      exact AllReadyH.nil
    refine AllReadyH.cons rfl (fun K hK => ?_) ?_
    · have hmk := run_make_s v1 14 27 48 (inoC Ino.zero) 104 (inoC_len _) (by decide) Try.underlying27 infoNC I (by omega) (by omega)
      rw [flat_repI] at hmk
      have hrow := Row.new v1 48 (flat inoC (List.replicate I Ino.zero))
      have hXX := (Ext.refl v1).alloc (.cells ((flat inoC (List.replicate I Ino.zero))).toArray 48)
      have HX1 := Lib.hid hXX
      have HW7 := Lib.hid hrow
      obtain ⟨b7, hb⟩ : ∃ q, q = v1.heap.size := ⟨_, rfl⟩
      have HB7 := Lib.hid hb
      rw [← hb] at hmk HW7
      clear hrow hXX hb
      generalize v1.alloc (.cells ((flat inoC (List.replicate I Ino.zero))).toArray 48) = v2 at *
      go_simp
      refine hK.out _ _ ⟨hHeld.1.trans HX1.out, hHeld.2.ext HX1.out⟩ (fun hHeld => ?_)
      clear hK hmk
      refine wpAnyH_ready (rs := [0, 4]) (by kernel_rfl) (by simp) ?_
      refine AllReadyH.cons rfl (fun K hK => ?_) ?_
      · have hmk0 := run_make_s v2 2 24 45 [.int .u16 0, .int .i64 0] 16 rfl (by decide) Try.underlying24 infoRC 16 (by decide) (by decide)
        rw [flat_repR] at hmk0
        have hmk : (Instr.makeSlice 24 (.int .i64 16) (.int .i64 16)).run Try.prog v2 = .ok (.slice (some ⟨v2.heap.size, 0, none⟩) 16 16) (v2.alloc (.cells (rowsC (List.replicate 16 (0, 0))).toArray 45)) := hmk0
        clear hmk0
        have hrow := Row.new v2 45 (rowsC (List.replicate 16 (0, 0)))
        have hXX := (Ext.refl v2).alloc (.cells ((rowsC (List.replicate 16 (0, 0)))).toArray 45)
        have HX2 := Lib.hid hXX
        have HW0 := Lib.hid hrow
        obtain ⟨b0, hb⟩ : ∃ q, q = v2.heap.size := ⟨_, rfl⟩
        have HB0 := Lib.hid hb
        rw [← hb] at hmk HW0
        clear hrow hXX hb
        generalize v2.alloc (.cells ((rowsC (List.replicate 16 (0, 0)))).toArray 45) = v3 at *
        go_simp
        refine hK.out _ _ ⟨hHeld.1.trans HX2.out, hHeld.2.ext HX2.out⟩ (fun hHeld => ?_)
        clear hK hmk
        refine wpAnyH_ready (rs := [4]) (by kernel_rfl) (by simp) ?_
        refine AllReadyH.cons rfl (fun K hK => ?_) ?_
        · have hmk := run_make_ints (P := Try.prog) v3 26 5 .u8 1 Try.underlying26 infoBC .i64 .i64 64 64 rfl (by decide) (by decide)
          have hrow := Row.new v3 5 (ints .u8 (List.replicate 64 0))
          have hXX := (Ext.refl v3).alloc (.cells ((ints .u8 (List.replicate 64 0))).toArray 5)
          have HX3 := Lib.hid hXX
          have HW4 := Lib.hid hrow
          obtain ⟨b4, hb⟩ : ∃ q, q = v3.heap.size := ⟨_, rfl⟩
          have HB4 := Lib.hid hb
          rw [← hb] at hmk HW4
          clear hrow hXX hb
          generalize v3.alloc (.cells ((ints .u8 (List.replicate 64 0))).toArray 5) = v4 at *
          go_simp
          refine hK.out _ _ ⟨hHeld.1.trans HX3.out, hHeld.2.ext HX3.out⟩ (fun hHeld => ?_)
          clear hK hmk
          have HRm := Lib.hid (((((HR2.out.ext hX0).ext HX0.out).ext HX1.out).ext HX2.out).ext HX3.out)
          have HRR := Lib.hid (And.intro (HW0.out.ext HX3.out) (And.intro (((HW3.out.ext HX1.out).ext HX2.out).ext HX3.out) (And.intro HW4.out ((HW7.out.ext HX2.out).ext HX3.out))))
          have HNE := Lib.hid (show b0 ≠ w.heap.size + 1 ∧ b3 ≠ w.heap.size + 1 ∧ b4 ≠ w.heap.size + 1 ∧ b7 ≠ w.heap.size + 1 from by
            have := HB0.out; have := HB3.out; have := HB4.out; have := HB7.out; have := HR2.out.lt; have := hX0.size; have := HX0.out.size; have := HX1.out.size; have := HX2.out.size
            omega)
          refine takeD (i := 8) (v := ?_) rfl rfl (by kernel_rfl) (by kernel_rfl) (by kernel_rfl) (fun _ _ _ h => h) (Or.inl ⟨by rfl, ?_⟩) hHeld ?_
          rotate_left
          · (intro v hv; (obtain ⟨hv0, hv1⟩ := hv; have c1 := (hv1.cell? 1).trans rfl; have c2 := (hv1.cell? 2).trans rfl); go_simp; try (with_reducible rfl))
          (try simp only [List.setIfInBounds_toArray, List.set_cons_zero, List.set_cons_succ])
          refine wpAnyH_ready (rs := [9]) (by kernel_rfl) (by simp) ?_
          refine AllReadyH.cons rfl (fun K hK => ?_) AllReadyH.nil
          rw [if_pos (by rfl)]
          refine store_rowN _ _ _ rfl rfl (w.heap.size + 1) #[.slice (some ⟨b0, 0, none⟩) 16 16, .slice (some ⟨b3, 0, none⟩) G G, .slice (some ⟨b4, 0, none⟩) 64 64, .slice (some ⟨b7, 0, none⟩) I I] rfl rfl 29 _ HRm.out infoMeta rfl (by simp [Value.oneCell']) ?_
          have HFIN := Lib.hid (new_in (HRR.out.1.setRow_other #[.slice (some ⟨b0, 0, none⟩) 16 16, .slice (some ⟨b3, 0, none⟩) G G, .slice (some ⟨b4, 0, none⟩) 64 64, .slice (some ⟨b7, 0, none⟩) I I] HNE.out.1) (HRR.out.2.1.setRow_other _ HNE.out.2.1) (HRR.out.2.2.1.setRow_other _ HNE.out.2.2.1) (HRR.out.2.2.2.setRow_other _ HNE.out.2.2.2) hg64 hi64)
          have HRf := Lib.hid (HRm.out.setRow #[.slice (some ⟨b0, 0, none⟩) 16 16, .slice (some ⟨b3, 0, none⟩) G G, .slice (some ⟨b4, 0, none⟩) 64 64, .slice (some ⟨b7, 0, none⟩) I I])
          refine hK.out _ _ ⟨hHeld.1.setRow (Nat.le_succ _) _, hHeld.2.setRow_other _ (by omega)⟩ (fun hHeld => ?_)
          clear hK
          refine takeD (i := 10) (v := ?_) rfl rfl (by kernel_rfl) (by kernel_rfl) (by kernel_rfl) (fun _ _ _ h => h) (Or.inl ⟨by rfl, ?_⟩) hHeld ?_
          rotate_left
          · (intro v hv; (obtain ⟨hv0, hv1⟩ := hv; have c1 := (hv1.cell? 1).trans rfl; have c2 := (hv1.cell? 2).trans rfl); go_simp; try (with_reducible rfl))
          (try simp only [List.setIfInBounds_toArray, List.set_cons_zero, List.set_cons_succ])
          refine wpAnyH_done (by kernel_rfl) ?_ _
          have HH := Lib.hid hHeld
          clear hHeld
          go_wp2
          refine post_meta rfl (by rfl) (by rfl) HRf.out rfl ?_
          exact ⟨_, by rw [new_v]; rfl, HFIN.out, HH.out.1⟩
        exact AllReadyH.nil
      refine AllReadyH.cons rfl (fun K hK => ?_) ?_
      · have hmk := run_make_ints (P := Try.prog) v2 26 5 .u8 1 Try.underlying26 infoBC .i64 .i64 64 64 rfl (by decide) (by decide)
        have hrow := Row.new v2 5 (ints .u8 (List.replicate 64 0))
        have hXX := (Ext.refl v2).alloc (.cells ((ints .u8 (List.replicate 64 0))).toArray 5)
        have HX2 := Lib.hid hXX
        have HW4 := Lib.hid hrow
        obtain ⟨b4, hb⟩ : ∃ q, q = v2.heap.size := ⟨_, rfl⟩
        have HB4 := Lib.hid hb
        rw [← hb] at hmk HW4
        clear hrow hXX hb
        generalize v2.alloc (.cells ((ints .u8 (List.replicate 64 0))).toArray 5) = v3 at *
        go_simp
        refine hK.out _ _ ⟨hHeld.1.trans HX2.out, hHeld.2.ext HX2.out⟩ (fun hHeld => ?_)
        clear hK hmk
        refine wpAnyH_ready (rs := [0]) (by kernel_rfl) (by simp) ?_
        refine AllReadyH.cons rfl (fun K hK => ?_) ?_
        · have hmk0 := run_make_s v3 2 24 45 [.int .u16 0, .int .i64 0] 16 rfl (by decide) Try.underlying24 infoRC 16 (by decide) (by decide)
          rw [flat_repR] at hmk0
          have hmk : (Instr.makeSlice 24 (.int .i64 16) (.int .i64 16)).run Try.prog v3 = .ok (.slice (some ⟨v3.heap.size, 0, none⟩) 16 16) (v3.alloc (.cells (rowsC (List.replicate 16 (0, 0))).toArray 45)) := hmk0
          clear hmk0
          have hrow := Row.new v3 45 (rowsC (List.replicate 16 (0, 0)))
          have hXX := (Ext.refl v3).alloc (.cells ((rowsC (List.replicate 16 (0, 0)))).toArray 45)
          have HX3 := Lib.hid hXX
          have HW0 := Lib.hid hrow
          obtain ⟨b0, hb⟩ : ∃ q, q = v3.heap.size := ⟨_, rfl⟩
          have HB0 := Lib.hid hb
          rw [← hb] at hmk HW0
          clear hrow hXX hb
          generalize v3.alloc (.cells ((rowsC (List.replicate 16 (0, 0)))).toArray 45) = v4 at *
          go_simp
          refine hK.out _ _ ⟨hHeld.1.trans HX3.out, hHeld.2.ext HX3.out⟩ (fun hHeld => ?_)
          clear hK hmk
          have HRm := Lib.hid (((((HR2.out.ext hX0).ext HX0.out).ext HX1.out).ext HX2.out).ext HX3.out)
          have HRR := Lib.hid (And.intro HW0.out (And.intro (((HW3.out.ext HX1.out).ext HX2.out).ext HX3.out) (And.intro (HW4.out.ext HX3.out) ((HW7.out.ext HX2.out).ext HX3.out))))
          have HNE := Lib.hid (show b0 ≠ w.heap.size + 1 ∧ b3 ≠ w.heap.size + 1 ∧ b4 ≠ w.heap.size + 1 ∧ b7 ≠ w.heap.size + 1 from by
            have := HB0.out; have := HB3.out; have := HB4.out; have := HB7.out; have := HR2.out.lt; have := hX0.size; have := HX0.out.size; have := HX1.out.size; have := HX2.out.size
            omega)
          refine takeD (i := 8) (v := ?_) rfl rfl (by kernel_rfl) (by kernel_rfl) (by kernel_rfl) (fun _ _ _ h => h) (Or.inl ⟨by rfl, ?_⟩) hHeld ?_
          rotate_left
          · (intro v hv; (obtain ⟨hv0, hv1⟩ := hv; have c1 := (hv1.cell? 1).trans rfl; have c2 := (hv1.cell? 2).trans rfl); go_simp; try (with_reducible rfl))
          (try simp only [List.setIfInBounds_toArray, List.set_cons_zero, List.set_cons_succ])
          refine wpAnyH_ready (rs := [9]) (by kernel_rfl) (by simp) ?_
          refine AllReadyH.cons rfl (fun K hK => ?_) AllReadyH.nil
          rw [if_pos (by rfl)]
          refine store_rowN _ _ _ rfl rfl (w.heap.size + 1) #[.slice (some ⟨b0, 0, none⟩) 16 16, .slice (some ⟨b3, 0, none⟩) G G, .slice (some ⟨b4, 0, none⟩) 64 64, .slice (some ⟨b7, 0, none⟩) I I] rfl rfl 29 _ HRm.out infoMeta rfl (by simp [Value.oneCell']) ?_
          have HFIN := Lib.hid (new_in (HRR.out.1.setRow_other #[.slice (some ⟨b0, 0, none⟩) 16 16, .slice (some ⟨b3, 0, none⟩) G G, .slice (some ⟨b4, 0, none⟩) 64 64, .slice (some ⟨b7, 0, none⟩) I I] HNE.out.1) (HRR.out.2.1.setRow_other _ HNE.out.2.1) (HRR.out.2.2.1.setRow_other _ HNE.out.2.2.1) (HRR.out.2.2.2.setRow_other _ HNE.out.2.2.2) hg64 hi64)
          have HRf := Lib.hid (HRm.out.setRow #[.slice (some ⟨b0, 0, none⟩) 16 16, .slice (some ⟨b3, 0, none⟩) G G, .slice (some ⟨b4, 0, none⟩) 64 64, .slice (some ⟨b7, 0, none⟩) I I])
          refine hK.out _ _ ⟨hHeld.1.setRow (Nat.le_succ _) _, hHeld.2.setRow_other _ (by omega)⟩ (fun hHeld => ?_)
          clear hK
          refine takeD (i := 10) (v := ?_) rfl rfl (by kernel_rfl) (by kernel_rfl) (by kernel_rfl) (fun _ _ _ h => h) (Or.inl ⟨by rfl, ?_⟩) hHeld ?_
          rotate_left
          · (intro v hv; (obtain ⟨hv0, hv1⟩ := hv; have c1 := (hv1.cell? 1).trans rfl; have c2 := (hv1.cell? 2).trans rfl); go_simp; try (with_reducible rfl))
          (try simp only [List.setIfInBounds_toArray, List.set_cons_zero, List.set_cons_succ])
          refine wpAnyH_done (by kernel_rfl) ?_ _
          have HH := Lib.hid hHeld
          clear hHeld
          go_wp2
          refine post_meta rfl (by rfl) (by rfl) HRf.out rfl ?_
          exact ⟨_, by rw [new_v]; rfl, HFIN.out, HH.out.1⟩
        exact AllReadyH.nil
      exact AllReadyH.nil
    exact AllReadyH.nil
  refine AllReadyH.cons rfl (fun K hK => ?_) ?_
  · have hmk := run_make_ints (P := Try.prog) v0 26 5 .u8 1 Try.underlying26 infoBC .i64 .i64 64 64 rfl (by decide) (by decide)
    have hrow := Row.new v0 5 (ints .u8 (List.replicate 64 0))
    have hXX := (Ext.refl v0).alloc (.cells ((ints .u8 (List.replicate 64 0))).toArray 5)
    have HX0 := Lib.hid hXX
    have HW4 := Lib.hid hrow
    obtain ⟨b4, hb⟩ : ∃ q, q = v0.heap.size := ⟨_, rfl⟩
    have HB4 := Lib.hid hb
    rw [← hb] at hmk HW4
    clear hrow hXX hb
    generalize v0.alloc (.cells ((ints .u8 (List.replicate 64 0))).toArray 5) = v1 at *
    go_simp
    refine hK.out _ _ ⟨hHeld.1.trans HX0.out, hHeld.2.ext HX0.out⟩ (fun hHeld => ?_)
    clear hK hmk
    refine wpAnyH_ready (rs := [0, 3, 7]) (by kernel_rfl) (by simp) ?_
    refine AllReadyH.cons rfl (fun K hK => ?_) ?_
    · have hmk0 := run_make_s v1 2 24 45 [.int .u16 0, .int .i64 0] 16 rfl (by decide) Try.underlying24 infoRC 16 (by decide) (by decide)
      rw [flat_repR] at hmk0
      have hmk : (Instr.makeSlice 24 (.int .i64 16) (.int .i64 16)).run Try.prog v1 = .ok (.slice (some ⟨v1.heap.size, 0, none⟩) 16 16) (v1.alloc (.cells (rowsC (List.replicate 16 (0, 0))).toArray 45)) := hmk0
      clear hmk0
      have hrow := Row.new v1 45 (rowsC (List.replicate 16 (0, 0)))
      have hXX := (Ext.refl v1).alloc (.cells ((rowsC (List.replicate 16 (0, 0)))).toArray 45)
      have HX1 := Lib.hid hXX
      have HW0 := Lib.hid hrow
      obtain ⟨b0, hb⟩ : ∃ q, q = v1.heap.size := ⟨_, rfl⟩
      have HB0 := Lib.hid hb
      rw [← hb] at hmk HW0
      clear hrow hXX hb
      generalize v1.alloc (.cells ((rowsC (List.replicate 16 (0, 0)))).toArray 45) = v2 at *
      go_simp
      refine hK.out _ _ ⟨hHeld.1.trans HX1.out, hHeld.2.ext HX1.out⟩ (fun hHeld => ?_)
      clear hK hmk
      refine wpAnyH_ready (rs := [3, 7]) (by kernel_rfl) (by simp) ?_
      refine AllReadyH.cons rfl (fun K hK => ?_) ?_
      · have hmk := run_make_ints (P := Try.prog) v2 25 3 .i64 8 Try.underlying25 info64I .i64 .i64 G G rfl (by omega) (by omega)
        have hrow := Row.new v2 3 (ints .i64 (List.replicate G 0))
        have hXX := (Ext.refl v2).alloc (.cells ((ints .i64 (List.replicate G 0))).toArray 3)
        have HX2 := Lib.hid hXX
        have HW3 := Lib.hid hrow
        obtain ⟨b3, hb⟩ : ∃ q, q = v2.heap.size := ⟨_, rfl⟩
        have HB3 := Lib.hid hb
        rw [← hb] at hmk HW3
        clear hrow hXX hb
        generalize v2.alloc (.cells ((ints .i64 (List.replicate G 0))).toArray 3) = v3 at *
        go_simp
        refine hK.out _ _ ⟨hHeld.1.trans HX2.out, hHeld.2.ext HX2.out⟩ (fun hHeld => ?_)
        clear hK hmk
        refine wpAnyH_ready (rs := [7]) (by kernel_rfl) (by simp) ?_
        refine AllReadyH.cons rfl (fun K hK => ?_) ?_
        · have hmk := run_make_s v3 14 27 48 (inoC Ino.zero) 104 (inoC_len _) (by decide) Try.underlying27 infoNC I (by omega) (by omega)
          rw [flat_repI] at hmk
          have hrow := Row.new v3 48 (flat inoC (List.replicate I Ino.zero))
          have hXX := (Ext.refl v3).alloc (.cells ((flat inoC (List.replicate I Ino.zero))).toArray 48)
          have HX3 := Lib.hid hXX
          have HW7 := Lib.hid hrow
          obtain ⟨b7, hb⟩ : ∃ q, q = v3.heap.size := ⟨_, rfl⟩
          have HB7 := Lib.hid hb
          rw [← hb] at hmk HW7
          clear hrow hXX hb
          generalize v3.alloc (.cells ((flat inoC (List.replicate I Ino.zero))).toArray 48) = v4 at *
          go_simp
          refine hK.out _ _ ⟨hHeld.1.trans HX3.out, hHeld.2.ext HX3.out⟩ (fun hHeld => ?_)
          clear hK hmk
          have HRm := Lib.hid (((((HR2.out.ext hX0).ext HX0.out).ext HX1.out).ext HX2.out).ext HX3.out)
          have HRR := Lib.hid (And.intro ((HW0.out.ext HX2.out).ext HX3.out) (And.intro (HW3.out.ext HX3.out) (And.intro (((HW4.out.ext HX1.out).ext HX2.out).ext HX3.out) HW7.out)))
          have HNE := Lib.hid (show b0 ≠ w.heap.size + 1 ∧ b3 ≠ w.heap.size + 1 ∧ b4 ≠ w.heap.size + 1 ∧ b7 ≠ w.heap.size + 1 from by
            have := HB0.out; have := HB3.out; have := HB4.out; have := HB7.out; have := HR2.out.lt; have := hX0.size; have := HX0.out.size; have := HX1.out.size; have := HX2.out.size
            omega)
          refine takeD (i := 8) (v := ?_) rfl rfl (by kernel_rfl) (by kernel_rfl) (by kernel_rfl) (fun _ _ _ h => h) (Or.inl ⟨by rfl, ?_⟩) hHeld ?_
          rotate_left
          · (intro v hv; (obtain ⟨hv0, hv1⟩ := hv; have c1 := (hv1.cell? 1).trans rfl; have c2 := (hv1.cell? 2).trans rfl); go_simp; try (with_reducible rfl))
          (try simp only [List.setIfInBounds_toArray, List.set_cons_zero, List.set_cons_succ])
          refine wpAnyH_ready (rs := [9]) (by kernel_rfl) (by simp) ?_
          refine AllReadyH.cons rfl (fun K hK => ?_) AllReadyH.nil
          rw [if_pos (by rfl)]
          refine store_rowN _ _ _ rfl rfl (w.heap.size + 1) #[.slice (some ⟨b0, 0, none⟩) 16 16, .slice (some ⟨b3, 0, none⟩) G G, .slice (some ⟨b4, 0, none⟩) 64 64, .slice (some ⟨b7, 0, none⟩) I I] rfl rfl 29 _ HRm.out infoMeta rfl (by simp [Value.oneCell']) ?_
          have HFIN := Lib.hid (new_in (HRR.out.1.setRow_other #[.slice (some ⟨b0, 0, none⟩) 16 16, .slice (some ⟨b3, 0, none⟩) G G, .slice (some ⟨b4, 0, none⟩) 64 64, .slice (some ⟨b7, 0, none⟩) I I] HNE.out.1) (HRR.out.2.1.setRow_other _ HNE.out.2.1) (HRR.out.2.2.1.setRow_other _ HNE.out.2.2.1) (HRR.out.2.2.2.setRow_other _ HNE.out.2.2.2) hg64 hi64)
          have HRf := Lib.hid (HRm.out.setRow #[.slice (some ⟨b0, 0, none⟩) 16 16, .slice (some ⟨b3, 0, none⟩) G G, .slice (some ⟨b4, 0, none⟩) 64 64, .slice (some ⟨b7, 0, none⟩) I I])
          refine hK.out _ _ ⟨hHeld.1.setRow (Nat.le_succ _) _, hHeld.2.setRow_other _ (by omega)⟩ (fun hHeld => ?_)
          clear hK
          refine takeD (i := 10) (v := ?_) rfl rfl (by kernel_rfl) (by kernel_rfl) (by kernel_rfl) (fun _ _ _ h => h) (Or.inl ⟨by rfl, ?_⟩) hHeld ?_
          rotate_left
          · (intro v hv; (obtain ⟨hv0, hv1⟩ := hv; have c1 := (hv1.cell? 1).trans rfl; have c2 := (hv1.cell? 2).trans rfl); go_simp; try (with_reducible rfl))
          (try simp only [List.setIfInBounds_toArray, List.set_cons_zero, List.set_cons_succ])
          refine wpAnyH_done (by kernel_rfl) ?_ _
          have HH := Lib.hid hHeld
          clear hHeld
          go_wp2
          refine post_meta rfl (by rfl) (by rfl) HRf.out rfl ?_
          exact ⟨_, by rw [new_v]; rfl, HFIN.out, HH.out.1⟩
        exact AllReadyH.nil
      refine AllReadyH.cons rfl (fun K hK => ?_) ?_
      · have hmk := run_make_s v2 14 27 48 (inoC Ino.zero) 104 (inoC_len _) (by decide) Try.underlying27 infoNC I (by omega) (by omega)
        rw [flat_repI] at hmk
        have hrow := Row.new v2 48 (flat inoC (List.replicate I Ino.zero))
        have hXX := (Ext.refl v2).alloc (.cells ((flat inoC (List.replicate I Ino.zero))).toArray 48)
        have HX2 := Lib.hid hXX
        have HW7 := Lib.hid hrow
        obtain ⟨b7, hb⟩ : ∃ q, q = v2.heap.size := ⟨_, rfl⟩
        have HB7 := Lib.hid hb
        rw [← hb] at hmk HW7
        clear hrow hXX hb
        generalize v2.alloc (.cells ((flat inoC (List.replicate I Ino.zero))).toArray 48) = v3 at *
        go_simp
        refine hK.out _ _ ⟨hHeld.1.trans HX2.out, hHeld.2.ext HX2.out⟩ (fun hHeld => ?_)
        clear hK hmk
        refine wpAnyH_ready (rs := [3]) (by kernel_rfl) (by simp) ?_
        refine AllReadyH.cons rfl (fun K hK => ?_) ?_
        · have hmk := run_make_ints (P := Try.prog) v3 25 3 .i64 8 Try.underlying25 info64I .i64 .i64 G G rfl (by omega) (by omega)
          have hrow := Row.new v3 3 (ints .i64 (List.replicate G 0))
          have hXX := (Ext.refl v3).alloc (.cells ((ints .i64 (List.replicate G 0))).toArray 3)
          have HX3 := Lib.hid hXX
          have HW3 := Lib.hid hrow
          obtain ⟨b3, hb⟩ : ∃ q, q = v3.heap.size := ⟨_, rfl⟩
          have HB3 := Lib.hid hb
          rw [← hb] at hmk HW3
          clear hrow hXX hb
          generalize v3.alloc (.cells ((ints .i64 (List.replicate G 0))).toArray 3) = v4 at *
          go_simp
          refine hK.out _ _ ⟨hHeld.1.trans HX3.out, hHeld.2.ext HX3.out⟩ (fun hHeld => ?_)
          clear hK hmk
          have HRm := Lib.hid (((((HR2.out.ext hX0).ext HX0.out).ext HX1.out).ext HX2.out).ext HX3.out)
          have HRR := Lib.hid (And.intro ((HW0.out.ext HX2.out).ext HX3.out) (And.intro HW3.out (And.intro (((HW4.out.ext HX1.out).ext HX2.out).ext HX3.out) (HW7.out.ext HX3.out))))
          have HNE := Lib.hid (show b0 ≠ w.heap.size + 1 ∧ b3 ≠ w.heap.size + 1 ∧ b4 ≠ w.heap.size + 1 ∧ b7 ≠ w.heap.size + 1 from by
            have := HB0.out; have := HB3.out; have := HB4.out; have := HB7.out; have := HR2.out.lt; have := hX0.size; have := HX0.out.size; have := HX1.out.size; have := HX2.out.size
            omega)
          refine takeD (i := 8) (v := ?_) rfl rfl (by kernel_rfl) (by kernel_rfl) (by kernel_rfl) (fun _ _ _ h => h) (Or.inl ⟨by rfl, ?_⟩) hHeld ?_
          rotate_left
          · (intro v hv; (obtain ⟨hv0, hv1⟩ := hv; have c1 := (hv1.cell? 1).trans rfl; have c2 := (hv1.cell? 2).trans rfl); go_simp; try (with_reducible rfl))
          (try simp only [List.setIfInBounds_toArray, List.set_cons_zero, List.set_cons_succ])
          refine wpAnyH_ready (rs := [9]) (by kernel_rfl) (by simp) ?_
          refine AllReadyH.cons rfl (fun K hK => ?_) AllReadyH.nil
          rw [if_pos (by rfl)]
          refine store_rowN _ _ _ rfl rfl (w.heap.size + 1) #[.slice (some ⟨b0, 0, none⟩) 16 16, .slice (some ⟨b3, 0, none⟩) G G, .slice (some ⟨b4, 0, none⟩) 64 64, .slice (some ⟨b7, 0, none⟩) I I] rfl rfl 29 _ HRm.out infoMeta rfl (by simp [Value.oneCell']) ?_
          have HFIN := Lib.hid (new_in (HRR.out.1.setRow_other #[.slice (some ⟨b0, 0, none⟩) 16 16, .slice (some ⟨b3, 0, none⟩) G G, .slice (some ⟨b4, 0, none⟩) 64 64, .slice (some ⟨b7, 0, none⟩) I I] HNE.out.1) (HRR.out.2.1.setRow_other _ HNE.out.2.1) (HRR.out.2.2.1.setRow_other _ HNE.out.2.2.1) (HRR.out.2.2.2.setRow_other _ HNE.out.2.2.2) hg64 hi64)
          have HRf := Lib.hid (HRm.out.setRow #[.slice (some ⟨b0, 0, none⟩) 16 16, .slice (some ⟨b3, 0, none⟩) G G, .slice (some ⟨b4, 0, none⟩) 64 64, .slice (some ⟨b7, 0, none⟩) I I])
          refine hK.out _ _ ⟨hHeld.1.setRow (Nat.le_succ _) _, hHeld.2.setRow_other _ (by omega)⟩ (fun hHeld => ?_)
          clear hK
          refine takeD (i := 10) (v := ?_) rfl rfl (by kernel_rfl) (by kernel_rfl) (by kernel_rfl) (fun _ _ _ h => h) (Or.inl ⟨by rfl, ?_⟩) hHeld ?_
          rotate_left
          · (intro v hv; (obtain ⟨hv0, hv1⟩ := hv; have c1 := (hv1.cell? 1).trans rfl; have c2 := (hv1.cell? 2).trans rfl); go_simp; try (with_reducible rfl))
          (try simp only [List.setIfInBounds_toArray, List.set_cons_zero, List.set_cons_succ])
          refine wpAnyH_done (by kernel_rfl) ?_ _
          have HH := Lib.hid hHeld
          clear hHeld
          go_wp2
          refine post_meta rfl (by rfl) (by rfl) HRf.out rfl ?_
          exact ⟨_, by rw [new_v]; rfl, HFIN.out, HH.out.1⟩
        exact AllReadyH.nil
      exact AllReadyH.nil
    refine AllReadyH.cons rfl (fun K hK => ?_) ?_
    · have hmk := run_make_ints (P := Try.prog) v1 25 3 .i64 8 Try.underlying25 info64I .i64 .i64 G G rfl (by omega) (by omega)
      have hrow := Row.new v1 3 (ints .i64 (List.replicate G 0))
      have hXX := (Ext.refl v1).alloc (.cells ((ints .i64 (List.replicate G 0))).toArray 3)
      have HX1 := Lib.hid hXX
      have HW3 := Lib.hid hrow
      obtain ⟨b3, hb⟩ : ∃ q, q = v1.heap.size := ⟨_, rfl⟩
      have HB3 := Lib.hid hb
      rw [← hb] at hmk HW3
      clear hrow hXX hb
      generalize v1.alloc (.cells ((ints .i64 (List.replicate G 0))).toArray 3) = v2 at *
      go_simp
      refine hK.out _ _ ⟨hHeld.1.trans HX1.out, hHeld.2.ext HX1.out⟩ (fun hHeld => ?_)
      clear hK hmk
      refine wpAnyH_ready (rs := [0, 7]) (by kernel_rfl) (by simp) ?_
      refine AllReadyH.cons rfl (fun K hK => ?_) ?_
      · have hmk0 := run_make_s v2 2 24 45 [.int .u16 0, .int .i64 0] 16 rfl (by decide) Try.underlying24 infoRC 16 (by decide) (by decide)
        rw [flat_repR] at hmk0
        have hmk : (Instr.makeSlice 24 (.int .i64 16) (.int .i64 16)).run Try.prog v2 = .ok (.slice (some ⟨v2.heap.size, 0, none⟩) 16 16) (v2.alloc (.cells (rowsC (List.replicate 16 (0, 0))).toArray 45)) := hmk0
        clear hmk0
        have hrow := Row.new v2 45 (rowsC (List.replicate 16 (0, 0)))
        have hXX := (Ext.refl v2).alloc (.cells ((rowsC (List.replicate 16 (0, 0)))).toArray 45)
        have HX2 := Lib.hid hXX
        have HW0 := Lib.hid hrow
        obtain ⟨b0, hb⟩ : ∃ q, q = v2.heap.size := ⟨_, rfl⟩
        have HB0 := Lib.hid hb
        rw [← hb] at hmk HW0
        clear hrow hXX hb
        generalize v2.alloc (.cells ((rowsC (List.replicate 16 (0, 0)))).toArray 45) = v3 at *
        go_simp
        refine hK.out _ _ ⟨hHeld.1.trans HX2.out, hHeld.2.ext HX2.out⟩ (fun hHeld => ?_)
        clear hK hmk
        refine wpAnyH_ready (rs := [7]) (by kernel_rfl) (by simp) ?_
        refine AllReadyH.cons rfl (fun K hK => ?_) ?_
        · have hmk := run_make_s v3 14 27 48 (inoC Ino.zero) 104 (inoC_len _) (by decide) Try.underlying27 infoNC I (by omega) (by omega)
          rw [flat_repI] at hmk
          have hrow := Row.new v3 48 (flat inoC (List.replicate I Ino.zero))
          have hXX := (Ext.refl v3).alloc (.cells ((flat inoC (List.replicate I Ino.zero))).toArray 48)
          have HX3 := Lib.hid hXX
          have HW7 := Lib.hid hrow
          obtain ⟨b7, hb⟩ : ∃ q, q = v3.heap.size := ⟨_, rfl⟩
          have HB7 := Lib.hid hb
          rw [← hb] at hmk HW7
          clear hrow hXX hb
          generalize v3.alloc (.cells ((flat inoC (List.replicate I Ino.zero))).toArray 48) = v4 at *
          go_simp
          refine hK.out _ _ ⟨hHeld.1.trans HX3.out, hHeld.2.ext HX3.out⟩ (fun hHeld => ?_)
          clear hK hmk
          have HRm := Lib.hid (((((HR2.out.ext hX0).ext HX0.out).ext HX1.out).ext HX2.out).ext HX3.out)
          have HRR := Lib.hid (And.intro (HW0.out.ext HX3.out) (And.intro ((HW3.out.ext HX2.out).ext HX3.out) (And.intro (((HW4.out.ext HX1.out).ext HX2.out).ext HX3.out) HW7.out)))
          have HNE := Lib.hid (show b0 ≠ w.heap.size + 1 ∧ b3 ≠ w.heap.size + 1 ∧ b4 ≠ w.heap.size + 1 ∧ b7 ≠ w.heap.size + 1 from by
            have := HB0.out; have := HB3.out; have := HB4.out; have := HB7.out; have := HR2.out.lt; have := hX0.size; have := HX0.out.size; have := HX1.out.size; have := HX2.out.size
            omega)
          refine takeD (i := 8) (v := ?_) rfl rfl (by kernel_rfl) (by kernel_rfl) (by kernel_rfl) (fun _ _ _ h => h) (Or.inl ⟨by rfl, ?_⟩) hHeld ?_
          rotate_left
          · (intro v hv; (obtain ⟨hv0, hv1⟩ := hv; have c1 := (hv1.cell? 1).trans rfl; have c2 := (hv1.cell? 2).trans rfl); go_simp; try (with_reducible rfl))
          (try simp only [List.setIfInBounds_toArray, List.set_cons_zero, List.set_cons_succ])
          refine wpAnyH_ready (rs := [9]) (by kernel_rfl) (by simp) ?_
          refine AllReadyH.cons rfl (fun K hK => ?_) AllReadyH.nil
          rw [if_pos (by rfl)]
          refine store_rowN _ _ _ rfl rfl (w.heap.size + 1) #[.slice (some ⟨b0, 0, none⟩) 16 16, .slice (some ⟨b3, 0, none⟩) G G, .slice (some ⟨b4, 0, none⟩) 64 64, .slice (some ⟨b7, 0, none⟩) I I] rfl rfl 29 _ HRm.out infoMeta rfl (by simp [Value.oneCell']) ?_
          have HFIN := Lib.hid (new_in (HRR.out.1.setRow_other #[.slice (some ⟨b0, 0, none⟩) 16 16, .slice (some ⟨b3, 0, none⟩) G G, .slice (some ⟨b4, 0, none⟩) 64 64, .slice (some ⟨b7, 0, none⟩) I I] HNE.out.1) (HRR.out.2.1.setRow_other _ HNE.out.2.1) (HRR.out.2.2.1.setRow_other _ HNE.out.2.2.1) (HRR.out.2.2.2.setRow_other _ HNE.out.2.2.2) hg64 hi64)
          have HRf := Lib.hid (HRm.out.setRow #[.slice (some ⟨b0, 0, none⟩) 16 16, .slice (some ⟨b3, 0, none⟩) G G, .slice (some ⟨b4, 0, none⟩) 64 64, .slice (some ⟨b7, 0, none⟩) I I])
          refine hK.out _ _ ⟨hHeld.1.setRow (Nat.le_succ _) _, hHeld.2.setRow_other _ (by omega)⟩ (fun hHeld => ?_)
          clear hK
          refine takeD (i := 10) (v := ?_) rfl rfl (by kernel_rfl) (by kernel_rfl) (by kernel_rfl) (fun _ _ _ h => h) (Or.inl ⟨by rfl, ?_⟩) hHeld ?_
          rotate_left
          · (intro v hv; (obtain ⟨hv0, hv1⟩ := hv; have c1 := (hv1.cell? 1).trans rfl; have c2 := (hv1.cell? 2).trans rfl); go_simp; try (with_reducible rfl))
          (try simp only [List.setIfInBounds_toArray, List.set_cons_zero, List.set_cons_succ])
          refine wpAnyH_done (by kernel_rfl) ?_ _
          have HH := Lib.hid hHeld
          clear hHeld
          go_wp2
          refine post_meta rfl (by rfl) (by rfl) HRf.out rfl ?_
          exact ⟨_, by rw [new_v]; rfl, HFIN.out, HH.out.1⟩
        exact AllReadyH.nil
      refine AllReadyH.cons rfl (fun K hK => ?_) ?_
      · have hmk := run_make_s v2 14 27 48 (inoC Ino.zero) 104 (inoC_len _) (by decide) Try.underlying27 infoNC I (by omega) (by omega)
        rw [flat_repI] at hmk
        have hrow := Row.new v2 48 (flat inoC (List.replicate I Ino.zero))
        have hXX := (Ext.refl v2).alloc (.cells ((flat inoC (List.replicate I Ino.zero))).toArray 48)
        have HX2 := Lib.hid hXX
        have HW7 := Lib.hid hrow
        obtain ⟨b7, hb⟩ : ∃ q, q = v2.heap.size := ⟨_, rfl⟩
        have HB7 := Lib.hid hb
        rw [← hb] at hmk HW7
        clear hrow hXX hb
        generalize v2.alloc (.cells ((flat inoC (List.replicate I Ino.zero))).toArray 48) = v3 at *
        go_simp
        refine hK.out _ _ ⟨hHeld.1.trans HX2.out, hHeld.2.ext HX2.out⟩ (fun hHeld => ?_)
        clear hK hmk
        refine wpAnyH_ready (rs := [0]) (by kernel_rfl) (by simp) ?_
        refine AllReadyH.cons rfl (fun K hK => ?_) ?_
        · have hmk0 := run_make_s v3 2 24 45 [.int .u16 0, .int .i64 0] 16 rfl (by decide) Try.underlying24 infoRC 16 (by decide) (by decide)
          rw [flat_repR] at hmk0
          have hmk : (Instr.makeSlice 24 (.int .i64 16) (.int .i64 16)).run Try.prog v3 = .ok (.slice (some ⟨v3.heap.size, 0, none⟩) 16 16) (v3.alloc (.cells (rowsC (List.replicate 16 (0, 0))).toArray 45)) := hmk0
          clear hmk0
          have hrow := Row.new v3 45 (rowsC (List.replicate 16 (0, 0)))
          have hXX := (Ext.refl v3).alloc (.cells ((rowsC (List.replicate 16 (0, 0)))).toArray 45)
          have HX3 := Lib.hid hXX
          have HW0 := Lib.hid hrow
          obtain ⟨b0, hb⟩ : ∃ q, q = v3.heap.size := ⟨_, rfl⟩
          have HB0 := Lib.hid hb
          rw [← hb] at hmk HW0
          clear hrow hXX hb
          generalize v3.alloc (.cells ((rowsC (List.replicate 16 (0, 0)))).toArray 45) = v4 at *
          go_simp
          refine hK.out _ _ ⟨hHeld.1.trans HX3.out, hHeld.2.ext HX3.out⟩ (fun hHeld => ?_)
          clear hK hmk
          have HRm := Lib.hid (((((HR2.out.ext hX0).ext HX0.out).ext HX1.out).ext HX2.out).ext HX3.out)
          have HRR := Lib.hid (And.intro HW0.out (And.intro ((HW3.out.ext HX2.out).ext HX3.out) (And.intro (((HW4.out.ext HX1.out).ext HX2.out).ext HX3.out) (HW7.out.ext HX3.out))))
          have HNE := Lib.hid (show b0 ≠ w.heap.size + 1 ∧ b3 ≠ w.heap.size + 1 ∧ b4 ≠ w.heap.size + 1 ∧ b7 ≠ w.heap.size + 1 from by
            have := HB0.out; have := HB3.out; have := HB4.out; have := HB7.out; have := HR2.out.lt; have := hX0.size; have := HX0.out.size; have := HX1.out.size; have := HX2.out.size
            omega)
          refine takeD (i := 8) (v := ?_) rfl rfl (by kernel_rfl) (by kernel_rfl) (by kernel_rfl) (fun _ _ _ h => h) (Or.inl ⟨by rfl, ?_⟩) hHeld ?_
          rotate_left
          · (intro v hv; (obtain ⟨hv0, hv1⟩ := hv; have c1 := (hv1.cell? 1).trans rfl; have c2 := (hv1.cell? 2).trans rfl); go_simp; try (with_reducible rfl))
          (try simp only [List.setIfInBounds_toArray, List.set_cons_zero, List.set_cons_succ])
          refine wpAnyH_ready (rs := [9]) (by kernel_rfl) (by simp) ?_
          refine AllReadyH.cons rfl (fun K hK => ?_) AllReadyH.nil
          rw [if_pos (by rfl)]
          refine store_rowN _ _ _ rfl rfl (w.heap.size + 1) #[.slice (some ⟨b0, 0, none⟩) 16 16, .slice (some ⟨b3, 0, none⟩) G G, .slice (some ⟨b4, 0, none⟩) 64 64, .slice (some ⟨b7, 0, none⟩) I I] rfl rfl 29 _ HRm.out infoMeta rfl (by simp [Value.oneCell']) ?_
          have HFIN := Lib.hid (new_in (HRR.out.1.setRow_other #[.slice (some ⟨b0, 0, none⟩) 16 16, .slice (some ⟨b3, 0, none⟩) G G, .slice (some ⟨b4, 0, none⟩) 64 64, .slice (some ⟨b7, 0, none⟩) I I] HNE.out.1) (HRR.out.2.1.setRow_other _ HNE.out.2.1) (HRR.out.2.2.1.setRow_other _ HNE.out.2.2.1) (HRR.out.2.2.2.setRow_other _ HNE.out.2.2.2) hg64 hi64)
          have HRf := Lib.hid (HRm.out.setRow #[.slice (some ⟨b0, 0, none⟩) 16 16, .slice (some ⟨b3, 0, none⟩) G G, .slice (some ⟨b4, 0, none⟩) 64 64, .slice (some ⟨b7, 0, none⟩) I I])
          refine hK.out _ _ ⟨hHeld.1.setRow (Nat.le_succ _) _, hHeld.2.setRow_other _ (by omega)⟩ (fun hHeld => ?_)
          clear hK
          refine takeD (i := 10) (v := ?_) rfl rfl (by kernel_rfl) (by kernel_rfl) (by kernel_rfl) (fun _ _ _ h => h) (Or.inl ⟨by rfl, ?_⟩) hHeld ?_
          rotate_left
          · (intro v hv; (obtain ⟨hv0, hv1⟩ := hv; have c1 := (hv1.cell? 1).trans rfl; have c2 := (hv1.cell? 2).trans rfl); go_simp; try (with_reducible rfl))
          (try simp only [List.setIfInBounds_toArray, List.set_cons_zero, List.set_cons_succ])
          refine wpAnyH_done (by kernel_rfl) ?_ _
          have HH := Lib.hid hHeld
          clear hHeld
          go_wp2
          refine post_meta rfl (by rfl) (by rfl) HRf.out rfl ?_
          exact ⟨_, by rw [new_v]; rfl, HFIN.out, HH.out.1⟩
        exact AllReadyH.nil
      exact AllReadyH.nil
    refine AllReadyH.cons rfl (fun K hK => ?_) ?_
    · have hmk := run_make_s v1 14 27 48 (inoC Ino.zero) 104 (inoC_len _) (by decide) Try.underlying27 infoNC I (by omega) (by omega)
      rw [flat_repI] at hmk
      have hrow := Row.new v1 48 (flat inoC (List.replicate I Ino.zero))
      have hXX := (Ext.refl v1).alloc (.cells ((flat inoC (List.replicate I Ino.zero))).toArray 48)
      have HX1 := Lib.hid hXX
      have HW7 := Lib.hid hrow
      obtain ⟨b7, hb⟩ : ∃ q, q = v1.heap.size := ⟨_, rfl⟩
      have HB7 := Lib.hid hb
      rw [← hb] at hmk HW7
      clear hrow hXX hb
      generalize v1.alloc (.cells ((flat inoC (List.replicate I Ino.zero))).toArray 48) = v2 at *
      go_simp
      refine hK.out _ _ ⟨hHeld.1.trans HX1.out, hHeld.2.ext HX1.out⟩ (fun hHeld => ?_)
      clear hK hmk
      refine wpAnyH_ready (rs := [0, 3]) (by kernel_rfl) (by simp) ?_
      refine AllReadyH.cons rfl (fun K hK => ?_) ?_
      · have hmk0 := run_make_s v2 2 24 45 [.int .u16 0, .int .i64 0] 16 rfl (by decide) Try.underlying24 infoRC 16 (by decide) (by decide)
        rw [flat_repR] at hmk0
        have hmk : (Instr.makeSlice 24 (.int .i64 16) (.int .i64 16)).run Try.prog v2 = .ok (.slice (some ⟨v2.heap.size, 0, none⟩) 16 16) (v2.alloc (.cells (rowsC (List.replicate 16 (0, 0))).toArray 45)) := hmk0
        clear hmk0
        have hrow := Row.new v2 45 (rowsC (List.replicate 16 (0, 0)))
        have hXX := (Ext.refl v2).alloc (.cells ((rowsC (List.replicate 16 (0, 0)))).toArray 45)
        have HX2 := Lib.hid hXX
        have HW0 := Lib.hid hrow
        obtain ⟨b0, hb⟩ : ∃ q, q = v2.heap.size := ⟨_, rfl⟩
        have HB0 := Lib.hid hb
        rw [← hb] at hmk HW0
        clear hrow hXX hb
        generalize v2.alloc (.cells ((rowsC (List.replicate 16 (0, 0)))).toArray 45) = v3 at *
        go_simp
        refine hK.out _ _ ⟨hHeld.1.trans HX2.out, hHeld.2.ext HX2.out⟩ (fun hHeld => ?_)
        clear hK hmk
        refine wpAnyH_ready (rs := [3]) (by kernel_rfl) (by simp) ?_
        refine AllReadyH.cons rfl (fun K hK => ?_) ?_
        · have hmk := run_make_ints (P := Try.prog) v3 25 3 .i64 8 Try.underlying25 info64I .i64 .i64 G G rfl (by omega) (by omega)
          have hrow := Row.new v3 3 (ints .i64 (List.replicate G 0))
          have hXX := (Ext.refl v3).alloc (.cells ((ints .i64 (List.replicate G 0))).toArray 3)
          have HX3 := Lib.hid hXX
          have HW3 := Lib.hid hrow
          obtain ⟨b3, hb⟩ : ∃ q, q = v3.heap.size := ⟨_, rfl⟩
          have HB3 := Lib.hid hb
          rw [← hb] at hmk HW3
          clear hrow hXX hb
          generalize v3.alloc (.cells ((ints .i64 (List.replicate G 0))).toArray 3) = v4 at *
          go_simp
          refine hK.out _ _ ⟨hHeld.1.trans HX3.out, hHeld.2.ext HX3.out⟩ (fun hHeld => ?_)
          clear hK hmk
          have HRm := Lib.hid (((((HR2.out.ext hX0).ext HX0.out).ext HX1.out).ext HX2.out).ext HX3.out)
          have HRR := Lib.hid (And.intro (HW0.out.ext HX3.out) (And.intro HW3.out (And.intro (((HW4.out.ext HX1.out).ext HX2.out).ext HX3.out) ((HW7.out.ext HX2.out).ext HX3.out))))
          have HNE := Lib.hid (show b0 ≠ w.heap.size + 1 ∧ b3 ≠ w.heap.size + 1 ∧ b4 ≠ w.heap.size + 1 ∧ b7 ≠ w.heap.size + 1 from by
            have := HB0.out; have := HB3.out; have := HB4.out; have := HB7.out; have := HR2.out.lt; have := hX0.size; have := HX0.out.size; have := HX1.out.size; have := HX2.out.size
            omega)
          refine takeD (i := 8) (v := ?_) rfl rfl (by kernel_rfl) (by kernel_rfl) (by kernel_rfl) (fun _ _ _ h => h) (Or.inl ⟨by rfl, ?_⟩) hHeld ?_
          rotate_left
          · (intro v hv; (obtain ⟨hv0, hv1⟩ := hv; have c1 := (hv1.cell? 1).trans rfl; have c2 := (hv1.cell? 2).trans rfl); go_simp; try (with_reducible rfl))
          (try simp only [List.setIfInBounds_toArray, List.set_cons_zero, List.set_cons_succ])
          refine wpAnyH_ready (rs := [9]) (by kernel_rfl) (by simp) ?_
          refine AllReadyH.cons rfl (fun K hK => ?_) AllReadyH.nil
          rw [if_pos (by rfl)]
          refine store_rowN _ _ _ rfl rfl (w.heap.size + 1) #[.slice (some ⟨b0, 0, none⟩) 16 16, .slice (some ⟨b3, 0, none⟩) G G, .slice (some ⟨b4, 0, none⟩) 64 64, .slice (some ⟨b7, 0, none⟩) I I] rfl rfl 29 _ HRm.out infoMeta rfl (by simp [Value.oneCell']) ?_
          have HFIN := Lib.hid (new_in (HRR.out.1.setRow_other #[.slice (some ⟨b0, 0, none⟩) 16 16, .slice (some ⟨b3, 0, none⟩) G G, .slice (some ⟨b4, 0, none⟩) 64 64, .slice (some ⟨b7, 0, none⟩) I I] HNE.out.1) (HRR.out.2.1.setRow_other _ HNE.out.2.1) (HRR.out.2.2.1.setRow_other _ HNE.out.2.2.1) (HRR.out.2.2.2.setRow_other _ HNE.out.2.2.2) hg64 hi64)
          have HRf := Lib.hid (HRm.out.setRow #[.slice (some ⟨b0, 0, none⟩) 16 16, .slice (some ⟨b3, 0, none⟩) G G, .slice (some ⟨b4, 0, none⟩) 64 64, .slice (some ⟨b7, 0, none⟩) I I])
          refine hK.out _ _ ⟨hHeld.1.setRow (Nat.le_succ _) _, hHeld.2.setRow_other _ (by omega)⟩ (fun hHeld => ?_)
          clear hK
          refine takeD (i := 10) (v := ?_) rfl rfl (by kernel_rfl) (by kernel_rfl) (by kernel_rfl) (fun _ _ _ h => h) (Or.inl ⟨by rfl, ?_⟩) hHeld ?_
          rotate_left
          · (intro v hv; (obtain ⟨hv0, hv1⟩ := hv; have c1 := (hv1.cell? 1).trans rfl; have c2 := (hv1.cell? 2).trans rfl); go_simp; try (with_reducible rfl))
          (try simp only [List.setIfInBounds_toArray, List.set_cons_zero, List.set_cons_succ])
          refine wpAnyH_done (by kernel_rfl) ?_ _
          have HH := Lib.hid hHeld
          clear hHeld
          go_wp2
          refine post_meta rfl (by rfl) (by rfl) HRf.out rfl ?_
          exact ⟨_, by rw [new_v]; rfl, HFIN.out, HH.out.1⟩
        exact AllReadyH.nil
      refine AllReadyH.cons rfl (fun K hK => ?_) ?_
      · have hmk := run_make_ints (P := Try.prog) v2 25 3 .i64 8 Try.underlying25 info64I .i64 .i64 G G rfl (by omega) (by omega)
        have hrow := Row.new v2 3 (ints .i64 (List.replicate G 0))
        have hXX := (Ext.refl v2).alloc (.cells ((ints .i64 (List.replicate G 0))).toArray 3)
        have HX2 := Lib.hid hXX
        have HW3 := Lib.hid hrow
        obtain ⟨b3, hb⟩ : ∃ q, q = v2.heap.size := ⟨_, rfl⟩
        have HB3 := Lib.hid hb
        rw [← hb] at hmk HW3
        clear hrow hXX hb
        generalize v2.alloc (.cells ((ints .i64 (List.replicate G 0))).toArray 3) = v3 at *
        go_simp
        refine hK.out _ _ ⟨hHeld.1.trans HX2.out, hHeld.2.ext HX2.out⟩ (fun hHeld => ?_)
        clear hK hmk
        refine wpAnyH_ready (rs := [0]) (by kernel_rfl) (by simp) ?_
        refine AllReadyH.cons rfl (fun K hK => ?_) ?_
        · have hmk0 := run_make_s v3 2 24 45 [.int .u16 0, .int .i64 0] 16 rfl (by decide) Try.underlying24 infoRC 16 (by decide) (by decide)
          rw [flat_repR] at hmk0
          have hmk : (Instr.makeSlice 24 (.int .i64 16) (.int .i64 16)).run Try.prog v3 = .ok (.slice (some ⟨v3.heap.size, 0, none⟩) 16 16) (v3.alloc (.cells (rowsC (List.replicate 16 (0, 0))).toArray 45)) := hmk0
          clear hmk0
          have hrow := Row.new v3 45 (rowsC (List.replicate 16 (0, 0)))
          have hXX := (Ext.refl v3).alloc (.cells ((rowsC (List.replicate 16 (0, 0)))).toArray 45)
          have HX3 := Lib.hid hXX
          have HW0 := Lib.hid hrow
          obtain ⟨b0, hb⟩ : ∃ q, q = v3.heap.size := ⟨_, rfl⟩
          have HB0 := Lib.hid hb
          rw [← hb] at hmk HW0
          clear hrow hXX hb
          generalize v3.alloc (.cells ((rowsC (List.replicate 16 (0, 0)))).toArray 45) = v4 at *
          go_simp
          refine hK.out _ _ ⟨hHeld.1.trans HX3.out, hHeld.2.ext HX3.out⟩ (fun hHeld => ?_)
          clear hK hmk
          have HRm := Lib.hid (((((HR2.out.ext hX0).ext HX0.out).ext HX1.out).ext HX2.out).ext HX3.out)
          have HRR := Lib.hid (And.intro HW0.out (And.intro (HW3.out.ext HX3.out) (And.intro (((HW4.out.ext HX1.out).ext HX2.out).ext HX3.out) ((HW7.out.ext HX2.out).ext HX3.out))))
          have HNE := Lib.hid (show b0 ≠ w.heap.size + 1 ∧ b3 ≠ w.heap.size + 1 ∧ b4 ≠ w.heap.size + 1 ∧ b7 ≠ w.heap.size + 1 from by
            have := HB0.out; have := HB3.out; have := HB4.out; have := HB7.out; have := HR2.out.lt; have := hX0.size; have := HX0.out.size; have := HX1.out.size; have := HX2.out.size
            omega)
          refine takeD (i := 8) (v := ?_) rfl rfl (by kernel_rfl) (by kernel_rfl) (by kernel_rfl) (fun _ _ _ h => h) (Or.inl ⟨by rfl, ?_⟩) hHeld ?_
          rotate_left
          · (intro v hv; (obtain ⟨hv0, hv1⟩ := hv; have c1 := (hv1.cell? 1).trans rfl; have c2 := (hv1.cell? 2).trans rfl); go_simp; try (with_reducible rfl))
          (try simp only [List.setIfInBounds_toArray, List.set_cons_zero, List.set_cons_succ])
          refine wpAnyH_ready (rs := [9]) (by kernel_rfl) (by simp) ?_
          refine AllReadyH.cons rfl (fun K hK => ?_) AllReadyH.nil
          rw [if_pos (by rfl)]
          refine store_rowN _ _ _ rfl rfl (w.heap.size + 1) #[.slice (some ⟨b0, 0, none⟩) 16 16, .slice (some ⟨b3, 0, none⟩) G G, .slice (some ⟨b4, 0, none⟩) 64 64, .slice (some ⟨b7, 0, none⟩) I I] rfl rfl 29 _ HRm.out infoMeta rfl (by simp [Value.oneCell']) ?_
          have HFIN := Lib.hid (new_in (HRR.out.1.setRow_other #[.slice (some ⟨b0, 0, none⟩) 16 16, .slice (some ⟨b3, 0, none⟩) G G, .slice (some ⟨b4, 0, none⟩) 64 64, .slice (some ⟨b7, 0, none⟩) I I] HNE.out.1) (HRR.out.2.1.setRow_other _ HNE.out.2.1) (HRR.out.2.2.1.setRow_other _ HNE.out.2.2.1) (HRR.out.2.2.2.setRow_other _ HNE.out.2.2.2) hg64 hi64)
          have HRf := Lib.hid (HRm.out.setRow #[.slice (some ⟨b0, 0, none⟩) 16 16, .slice (some ⟨b3, 0, none⟩) G G, .slice (some ⟨b4, 0, none⟩) 64 64, .slice (some ⟨b7, 0, none⟩) I I])
          refine hK.out _ _ ⟨hHeld.1.setRow (Nat.le_succ _) _, hHeld.2.setRow_other _ (by omega)⟩ (fun hHeld => ?_)
          clear hK
          refine takeD (i := 10) (v := ?_) rfl rfl (by kernel_rfl) (by kernel_rfl) (by kernel_rfl) (fun _ _ _ h => h) (Or.inl ⟨by rfl, ?_⟩) hHeld ?_
          rotate_left
          · (intro v hv; (obtain ⟨hv0, hv1⟩ := hv; have c1 := (hv1.cell? 1).trans rfl; have c2 := (hv1.cell? 2).trans rfl); go_simp; try (with_reducible rfl))
          (try simp only [List.setIfInBounds_toArray, List.set_cons_zero, List.set_cons_succ])
          refine wpAnyH_done (by kernel_rfl) ?_ _
          have HH := Lib.hid hHeld
          clear hHeld
          go_wp2
          refine post_meta rfl (by rfl) (by rfl) HRf.out rfl ?_
          exact ⟨_, by rw [new_v]; rfl, HFIN.out, HH.out.1⟩
        exact AllReadyH.nil
      exact AllReadyH.nil
    exact AllReadyH.nil
  refine AllReadyH.cons rfl (fun K hK => ?_) ?_
  · have hmk := run_make_s v0 14 27 48 (inoC Ino.zero) 104 (inoC_len _) (by decide) Try.underlying27 infoNC I (by omega) (by omega)
    rw [flat_repI] at hmk
    have hrow := Row.new v0 48 (flat inoC (List.replicate I Ino.zero))
    have hXX := (Ext.refl v0).alloc (.cells ((flat inoC (List.replicate I Ino.zero))).toArray 48)
    have HX0 := Lib.hid hXX
    have HW7 := Lib.hid hrow
    obtain ⟨b7, hb⟩ : ∃ q, q = v0.heap.size := ⟨_, rfl⟩
    have HB7 := Lib.hid hb
    rw [← hb] at hmk HW7
    clear hrow hXX hb
    generalize v0.alloc (.cells ((flat inoC (List.replicate I Ino.zero))).toArray 48) = v1 at *
    go_simp
    refine hK.out _ _ ⟨hHeld.1.trans HX0.out, hHeld.2.ext HX0.out⟩ (fun hHeld => ?_)
    clear hK hmk
    refine wpAnyH_ready (rs := [0, 3, 4]) (by kernel_rfl) (by simp) ?_
    refine AllReadyH.cons rfl (fun K hK => ?_) ?_
    · have hmk0 := run_make_s v1 2 24 45 [.int .u16 0, .int .i64 0] 16 rfl (by decide) Try.underlying24 infoRC 16 (by decide) (by decide)
      rw [flat_repR] at hmk0
      have hmk : (Instr.makeSlice 24 (.int .i64 16) (.int .i64 16)).run Try.prog v1 = .ok (.slice (some ⟨v1.heap.size, 0, none⟩) 16 16) (v1.alloc (.cells (rowsC (List.replicate 16 (0, 0))).toArray 45)) := hmk0
      clear hmk0
      have hrow := Row.new v1 45 (rowsC (List.replicate 16 (0, 0)))
      have hXX := (Ext.refl v1).alloc (.cells ((rowsC (List.replicate 16 (0, 0)))).toArray 45)
      have HX1 := Lib.hid hXX
      have HW0 := Lib.hid hrow
      obtain ⟨b0, hb⟩ : ∃ q, q = v1.heap.size := ⟨_, rfl⟩
      have HB0 := Lib.hid hb
      rw [← hb] at hmk HW0
      clear hrow hXX hb
      generalize v1.alloc (.cells ((rowsC (List.replicate 16 (0, 0)))).toArray 45) = v2 at *
      go_simp
      refine hK.out _ _ ⟨hHeld.1.trans HX1.out, hHeld.2.ext HX1.out⟩ (fun hHeld => ?_)
      clear hK hmk
      refine wpAnyH_ready (rs := [3, 4]) (by kernel_rfl) (by simp) ?_
      refine AllReadyH.cons rfl (fun K hK => ?_) ?_
      · have hmk := run_make_ints (P := Try.prog) v2 25 3 .i64 8 Try.underlying25 info64I .i64 .i64 G G rfl (by omega) (by omega)
        have hrow := Row.new v2 3 (ints .i64 (List.replicate G 0))
        have hXX := (Ext.refl v2).alloc (.cells ((ints .i64 (List.replicate G 0))).toArray 3)
        have HX2 := Lib.hid hXX
        have HW3 := Lib.hid hrow
        obtain ⟨b3, hb⟩ : ∃ q, q = v2.heap.size := ⟨_, rfl⟩
        have HB3 := Lib.hid hb
        rw [← hb] at hmk HW3
        clear hrow hXX hb
        generalize v2.alloc (.cells ((ints .i64 (List.replicate G 0))).toArray 3) = v3 at *
        go_simp
        refine hK.out _ _ ⟨hHeld.1.trans HX2.out, hHeld.2.ext HX2.out⟩ (fun hHeld => ?_)
        clear hK hmk
        refine wpAnyH_ready (rs := [4]) (by kernel_rfl) (by simp) ?_
        refine AllReadyH.cons rfl (fun K hK => ?_) ?_
        · have hmk := run_make_ints (P := Try.prog) v3 26 5 .u8 1 Try.underlying26 infoBC .i64 .i64 64 64 rfl (by decide) (by decide)
          have hrow := Row.new v3 5 (ints .u8 (List.replicate 64 0))
          have hXX := (Ext.refl v3).alloc (.cells ((ints .u8 (List.replicate 64 0))).toArray 5)
          have HX3 := Lib.hid hXX
          have HW4 := Lib.hid hrow
          obtain ⟨b4, hb⟩ : ∃ q, q = v3.heap.size := ⟨_, rfl⟩
          have HB4 := Lib.hid hb
          rw [← hb] at hmk HW4
          clear hrow hXX hb
          generalize v3.alloc (.cells ((ints .u8 (List.replicate 64 0))).toArray 5) = v4 at *
          go_simp
          refine hK.out _ _ ⟨hHeld.1.trans HX3.out, hHeld.2.ext HX3.out⟩ (fun hHeld => ?_)
          clear hK hmk
          have HRm := Lib.hid (((((HR2.out.ext hX0).ext HX0.out).ext HX1.out).ext HX2.out).ext HX3.out)
          have HRR := Lib.hid (And.intro ((HW0.out.ext HX2.out).ext HX3.out) (And.intro (HW3.out.ext HX3.out) (And.intro HW4.out (((HW7.out.ext HX1.out).ext HX2.out).ext HX3.out))))
          have HNE := Lib.hid (show b0 ≠ w.heap.size + 1 ∧ b3 ≠ w.heap.size + 1 ∧ b4 ≠ w.heap.size + 1 ∧ b7 ≠ w.heap.size + 1 from by
            have := HB0.out; have := HB3.out; have := HB4.out; have := HB7.out; have := HR2.out.lt; have := hX0.size; have := HX0.out.size; have := HX1.out.size; have := HX2.out.size
            omega)
          refine takeD (i := 8) (v := ?_) rfl rfl (by kernel_rfl) (by kernel_rfl) (by kernel_rfl) (fun _ _ _ h => h) (Or.inl ⟨by rfl, ?_⟩) hHeld ?_
          rotate_left
          · (intro v hv; (obtain ⟨hv0, hv1⟩ := hv; have c1 := (hv1.cell? 1).trans rfl; have c2 := (hv1.cell? 2).trans rfl); go_simp; try (with_reducible rfl))
          (try simp only [List.setIfInBounds_toArray, List.set_cons_zero, List.set_cons_succ])
          refine wpAnyH_ready (rs := [9]) (by kernel_rfl) (by simp) ?_
          refine AllReadyH.cons rfl (fun K hK => ?_) AllReadyH.nil
          rw [if_pos (by rfl)]
          refine store_rowN _ _ _ rfl rfl (w.heap.size + 1) #[.slice (some ⟨b0, 0, none⟩) 16 16, .slice (some ⟨b3, 0, none⟩) G G, .slice (some ⟨b4, 0, none⟩) 64 64, .slice (some ⟨b7, 0, none⟩) I I] rfl rfl 29 _ HRm.out infoMeta rfl (by simp [Value.oneCell']) ?_
          have HFIN := Lib.hid (new_in (HRR.out.1.setRow_other #[.slice (some ⟨b0, 0, none⟩) 16 16, .slice (some ⟨b3, 0, none⟩) G G, .slice (some ⟨b4, 0, none⟩) 64 64, .slice (some ⟨b7, 0, none⟩) I I] HNE.out.1) (HRR.out.2.1.setRow_other _ HNE.out.2.1) (HRR.out.2.2.1.setRow_other _ HNE.out.2.2.1) (HRR.out.2.2.2.setRow_other _ HNE.out.2.2.2) hg64 hi64)
          have HRf := Lib.hid (HRm.out.setRow #[.slice (some ⟨b0, 0, none⟩) 16 16, .slice (some ⟨b3, 0, none⟩) G G, .slice (some ⟨b4, 0, none⟩) 64 64, .slice (some ⟨b7, 0, none⟩) I I])
          refine hK.out _ _ ⟨hHeld.1.setRow (Nat.le_succ _) _, hHeld.2.setRow_other _ (by omega)⟩ (fun hHeld => ?_)
          clear hK
          refine takeD (i := 10) (v := ?_) rfl rfl (by kernel_rfl) (by kernel_rfl) (by kernel_rfl) (fun _ _ _ h => h) (Or.inl ⟨by rfl, ?_⟩) hHeld ?_
          rotate_left
          · (intro v hv; (obtain ⟨hv0, hv1⟩ := hv; have c1 := (hv1.cell? 1).trans rfl; have c2 := (hv1.cell? 2).trans rfl); go_simp; try (with_reducible rfl))
          (try simp only [List.setIfInBounds_toArray, List.set_cons_zero, List.set_cons_succ])
          refine wpAnyH_done (by kernel_rfl) ?_ _
          have HH := Lib.hid hHeld
          clear hHeld
          go_wp2
          refine post_meta rfl (by rfl) (by rfl) HRf.out rfl ?_
          exact ⟨_, by rw [new_v]; rfl, HFIN.out, HH.out.1⟩
        exact AllReadyH.nil
      refine AllReadyH.cons rfl (fun K hK => ?_) ?_
      · have hmk := run_make_ints (P := Try.prog) v2 26 5 .u8 1 Try.underlying26 infoBC .i64 .i64 64 64 rfl (by decide) (by decide)
        have hrow := Row.new v2 5 (ints .u8 (List.replicate 64 0))
        have hXX := (Ext.refl v2).alloc (.cells ((ints .u8 (List.replicate 64 0))).toArray 5)
        have HX2 := Lib.hid hXX
        have HW4 := Lib.hid hrow
        obtain ⟨b4, hb⟩ : ∃ q, q = v2.heap.size := ⟨_, rfl⟩
        have HB4 := Lib.hid hb
        rw [← hb] at hmk HW4
        clear hrow hXX hb
        generalize v2.alloc (.cells ((ints .u8 (List.replicate 64 0))).toArray 5) = v3 at *
        go_simp
        refine hK.out _ _ ⟨hHeld.1.trans HX2.out, hHeld.2.ext HX2.out⟩ (fun hHeld => ?_)
        clear hK hmk
        refine wpAnyH_ready (rs := [3]) (by kernel_rfl) (by simp) ?_
        refine AllReadyH.cons rfl (fun K hK => ?_) ?_
        · have hmk := run_make_ints (P := Try.prog) v3 25 3 .i64 8 Try.underlying25 info64I .i64 .i64 G G rfl (by omega) (by omega)
          have hrow := Row.new v3 3 (ints .i64 (List.replicate G 0))
          have hXX := (Ext.refl v3).alloc (.cells ((ints .i64 (List.replicate G 0))).toArray 3)
          have HX3 := Lib.hid hXX
          have HW3 := Lib.hid hrow
          obtain ⟨b3, hb⟩ : ∃ q, q = v3.heap.size := ⟨_, rfl⟩
          have HB3 := Lib.hid hb
          rw [← hb] at hmk HW3
          clear hrow hXX hb
          generalize v3.alloc (.cells ((ints .i64 (List.replicate G 0))).toArray 3) = v4 at *
          go_simp
          refine hK.out _ _ ⟨hHeld.1.trans HX3.out, hHeld.2.ext HX3.out⟩ (fun hHeld => ?_)
          clear hK hmk
          have HRm := Lib.hid (((((HR2.out.ext hX0).ext HX0.out).ext HX1.out).ext HX2.out).ext HX3.out)
          have HRR := Lib.hid (And.intro ((HW0.out.ext HX2.out).ext HX3.out) (And.intro HW3.out (And.intro (HW4.out.ext HX3.out) (((HW7.out.ext HX1.out).ext HX2.out).ext HX3.out))))
          have HNE := Lib.hid (show b0 ≠ w.heap.size + 1 ∧ b3 ≠ w.heap.size + 1 ∧ b4 ≠ w.heap.size + 1 ∧ b7 ≠ w.heap.size + 1 from by
            have := HB0.out; have := HB3.out; have := HB4.out; have := HB7.out; have := HR2.out.lt; have := hX0.size; have := HX0.out.size; have := HX1.out.size; have := HX2.out.size
            omega)
          refine takeD (i := 8) (v := ?_) rfl rfl (by kernel_rfl) (by kernel_rfl) (by kernel_rfl) (fun _ _ _ h => h) (Or.inl ⟨by rfl, ?_⟩) hHeld ?_
          rotate_left
          · (intro v hv; (obtain ⟨hv0, hv1⟩ := hv; have c1 := (hv1.cell? 1).trans rfl; have c2 := (hv1.cell? 2).trans rfl); go_simp; try (with_reducible rfl))
          (try simp only [List.setIfInBounds_toArray, List.set_cons_zero, List.set_cons_succ])
          refine wpAnyH_ready (rs := [9]) (by kernel_rfl) (by simp) ?_
          refine AllReadyH.cons rfl (fun K hK => ?_) AllReadyH.nil
          rw [if_pos (by rfl)]
          refine store_rowN _ _ _ rfl rfl (w.heap.size + 1) #[.slice (some ⟨b0, 0, none⟩) 16 16, .slice (some ⟨b3, 0, none⟩) G G, .slice (some ⟨b4, 0, none⟩) 64 64, .slice (some ⟨b7, 0, none⟩) I I] rfl rfl 29 _ HRm.out infoMeta rfl (by simp [Value.oneCell']) ?_
          have HFIN := Lib.hid (new_in (HRR.out.1.setRow_other #[.slice (some ⟨b0, 0, none⟩) 16 16, .slice (some ⟨b3, 0, none⟩) G G, .slice (some ⟨b4, 0, none⟩) 64 64, .slice (some ⟨b7, 0, none⟩) I I] HNE.out.1) (HRR.out.2.1.setRow_other _ HNE.out.2.1) (HRR.out.2.2.1.setRow_other _ HNE.out.2.2.1) (HRR.out.2.2.2.setRow_other _ HNE.out.2.2.2) hg64 hi64)
          have HRf := Lib.hid (HRm.out.setRow #[.slice (some ⟨b0, 0, none⟩) 16 16, .slice (some ⟨b3, 0, none⟩) G G, .slice (some ⟨b4, 0, none⟩) 64 64, .slice (some ⟨b7, 0, none⟩) I I])
          refine hK.out _ _ ⟨hHeld.1.setRow (Nat.le_succ _) _, hHeld.2.setRow_other _ (by omega)⟩ (fun hHeld => ?_)
          clear hK
          refine takeD (i := 10) (v := ?_) rfl rfl (by kernel_rfl) (by kernel_rfl) (by kernel_rfl) (fun _ _ _ h => h) (Or.inl ⟨by rfl, ?_⟩) hHeld ?_
          rotate_left
          · (intro v hv; (obtain ⟨hv0, hv1⟩ := hv; have c1 := (hv1.cell? 1).trans rfl; have c2 := (hv1.cell? 2).trans rfl); go_simp; try (with_reducible rfl))
          (try simp only [List.setIfInBounds_toArray, List.set_cons_zero, List.set_cons_succ])
          refine wpAnyH_done (by kernel_rfl) ?_ _
          have HH := Lib.hid hHeld
          clear hHeld
          go_wp2
          refine post_meta rfl (by rfl) (by rfl) HRf.out rfl ?_
          exact ⟨_, by rw [new_v]; rfl, HFIN.out, HH.out.1⟩
        exact AllReadyH.nil
      exact AllReadyH.nil
    refine AllReadyH.cons rfl (fun K hK => ?_) ?_
    · have hmk := run_make_ints (P := Try.prog) v1 25 3 .i64 8 Try.underlying25 info64I .i64 .i64 G G rfl (by omega) (by omega)
      have hrow := Row.new v1 3 (ints .i64 (List.replicate G 0))
      have hXX := (Ext.refl v1).alloc (.cells ((ints .i64 (List.replicate G 0))).toArray 3)
      have HX1 := Lib.hid hXX
      have HW3 := Lib.hid hrow
      obtain ⟨b3, hb⟩ : ∃ q, q = v1.heap.size := ⟨_, rfl⟩
      have HB3 := Lib.hid hb
      rw [← hb] at hmk HW3
      clear hrow hXX hb
      generalize v1.alloc (.cells ((ints .i64 (List.replicate G 0))).toArray 3) = v2 at *
      go_simp
      refine hK.out _ _ ⟨hHeld.1.trans HX1.out, hHeld.2.ext HX1.out⟩ (fun hHeld => ?_)
      clear hK hmk
      refine wpAnyH_ready (rs := [0, 4]) (by kernel_rfl) (by simp) ?_
      refine AllReadyH.cons rfl (fun K hK => ?_) ?_
      · have hmk0 := run_make_s v2 2 24 45 [.int .u16 0, .int .i64 0] 16 rfl (by decide) Try.underlying24 infoRC 16 (by decide) (by decide)
        rw [flat_repR] at hmk0
        have hmk : (Instr.makeSlice 24 (.int .i64 16) (.int .i64 16)).run Try.prog v2 = .ok (.slice (some ⟨v2.heap.size, 0, none⟩) 16 16) (v2.alloc (.cells (rowsC (List.replicate 16 (0, 0))).toArray 45)) := hmk0
        clear hmk0
        have hrow := Row.new v2 45 (rowsC (List.replicate 16 (0, 0)))
        have hXX := (Ext.refl v2).alloc (.cells ((rowsC (List.replicate 16 (0, 0)))).toArray 45)
        have HX2 := Lib.hid hXX
        have HW0 := Lib.hid hrow
        obtain ⟨b0, hb⟩ : ∃ q, q = v2.heap.size := ⟨_, rfl⟩
        have HB0 := Lib.hid hb
        rw [← hb] at hmk HW0
        clear hrow hXX hb
        generalize v2.alloc (.cells ((rowsC (List.replicate 16 (0, 0)))).toArray 45) = v3 at *
        go_simp
        refine hK.out _ _ ⟨hHeld.1.trans HX2.out, hHeld.2.ext HX2.out⟩ (fun hHeld => ?_)
        clear hK hmk
        refine wpAnyH_ready (rs := [4]) (by kernel_rfl) (by simp) ?_
        refine AllReadyH.cons rfl (fun K hK => ?_) ?_
        · have hmk := run_make_ints (P := Try.prog) v3 26 5 .u8 1 Try.underlying26 infoBC .i64 .i64 64 64 rfl (by decide) (by decide)
          have hrow := Row.new v3 5 (ints .u8 (List.replicate 64 0))
          have hXX := (Ext.refl v3).alloc (.cells ((ints .u8 (List.replicate 64 0))).toArray 5)
          have HX3 := Lib.hid hXX
          have HW4 := Lib.hid hrow
          obtain ⟨b4, hb⟩ : ∃ q, q = v3.heap.size := ⟨_, rfl⟩
          have HB4 := Lib.hid hb
          rw [← hb] at hmk HW4
          clear hrow hXX hb
          generalize v3.alloc (.cells ((ints .u8 (List.replicate 64 0))).toArray 5) = v4 at *
          go_simp
          refine hK.out _ _ ⟨hHeld.1.trans HX3.out, hHeld.2.ext HX3.out⟩ (fun hHeld => ?_)
          clear hK hmk
          have HRm := Lib.hid (((((HR2.out.ext hX0).ext HX0.out).ext HX1.out).ext HX2.out).ext HX3.out)
          have HRR := Lib.hid (And.intro (HW0.out.ext HX3.out) (And.intro ((HW3.out.ext HX2.out).ext HX3.out) (And.intro HW4.out (((HW7.out.ext HX1.out).ext HX2.out).ext HX3.out))))
          have HNE := Lib.hid (show b0 ≠ w.heap.size + 1 ∧ b3 ≠ w.heap.size + 1 ∧ b4 ≠ w.heap.size + 1 ∧ b7 ≠ w.heap.size + 1 from by
            have := HB0.out; have := HB3.out; have := HB4.out; have := HB7.out; have := HR2.out.lt; have := hX0.size; have := HX0.out.size; have := HX1.out.size; have := HX2.out.size
            omega)
          refine takeD (i := 8) (v := ?_) rfl rfl (by kernel_rfl) (by kernel_rfl) (by kernel_rfl) (fun _ _ _ h => h) (Or.inl ⟨by rfl, ?_⟩) hHeld ?_
          rotate_left
          · (intro v hv; (obtain ⟨hv0, hv1⟩ := hv; have c1 := (hv1.cell? 1).trans rfl; have c2 := (hv1.cell? 2).trans rfl); go_simp; try (with_reducible rfl))
          (try simp only [List.setIfInBounds_toArray, List.set_cons_zero, List.set_cons_succ])
          refine wpAnyH_ready (rs := [9]) (by kernel_rfl) (by simp) ?_
          refine AllReadyH.cons rfl (fun K hK => ?_) AllReadyH.nil
          rw [if_pos (by rfl)]
          refine store_rowN _ _ _ rfl rfl (w.heap.size + 1) #[.slice (some ⟨b0, 0, none⟩) 16 16, .slice (some ⟨b3, 0, none⟩) G G, .slice (some ⟨b4, 0, none⟩) 64 64, .slice (some ⟨b7, 0, none⟩) I I] rfl rfl 29 _ HRm.out infoMeta rfl (by simp [Value.oneCell']) ?_
          have HFIN := Lib.hid (new_in (HRR.out.1.setRow_other #[.slice (some ⟨b0, 0, none⟩) 16 16, .slice (some ⟨b3, 0, none⟩) G G, .slice (some ⟨b4, 0, none⟩) 64 64, .slice (some ⟨b7, 0, none⟩) I I] HNE.out.1) (HRR.out.2.1.setRow_other _ HNE.out.2.1) (HRR.out.2.2.1.setRow_other _ HNE.out.2.2.1) (HRR.out.2.2.2.setRow_other _ HNE.out.2.2.2) hg64 hi64)
          have HRf := Lib.hid (HRm.out.setRow #[.slice (some ⟨b0, 0, none⟩) 16 16, .slice (some ⟨b3, 0, none⟩) G G, .slice (some ⟨b4, 0, none⟩) 64 64, .slice (some ⟨b7, 0, none⟩) I I])
          refine hK.out _ _ ⟨hHeld.1.setRow (Nat.le_succ _) _, hHeld.2.setRow_other _ (by omega)⟩ (fun hHeld => ?_)
          clear hK
          refine takeD (i := 10) (v := ?_) rfl rfl (by kernel_rfl) (by kernel_rfl) (by kernel_rfl) (fun _ _ _ h => h) (Or.inl ⟨by rfl, ?_⟩) hHeld ?_
          rotate_left
          · (intro v hv; (obtain ⟨hv0, hv1⟩ := hv; have c1 := (hv1.cell? 1).trans rfl; have c2 := (hv1.cell? 2).trans rfl); go_simp; try (with_reducible rfl))
          (try simp only [List.setIfInBounds_toArray, List.set_cons_zero, List.set_cons_succ])
          refine wpAnyH_done (by kernel_rfl) ?_ _
          have HH := Lib.hid hHeld
          clear hHeld
          go_wp2
          refine post_meta rfl (by rfl) (by rfl) HRf.out rfl ?_
          exact ⟨_, by rw [new_v]; rfl, HFIN.out, HH.out.1⟩
        exact AllReadyH.nil
      refine AllReadyH.cons rfl (fun K hK => ?_) ?_
      · have hmk := run_make_ints (P := Try.prog) v2 26 5 .u8 1 Try.underlying26 infoBC .i64 .i64 64 64 rfl (by decide) (by decide)
        have hrow := Row.new v2 5 (ints .u8 (List.replicate 64 0))
        have hXX := (Ext.refl v2).alloc (.cells ((ints .u8 (List.replicate 64 0))).toArray 5)
        have HX2 := Lib.hid hXX
        have HW4 := Lib.hid hrow
        obtain ⟨b4, hb⟩ : ∃ q, q = v2.heap.size := ⟨_, rfl⟩
        have HB4 := Lib.hid hb
        rw [← hb] at hmk HW4
        clear hrow hXX hb
        generalize v2.alloc (.cells ((ints .u8 (List.replicate 64 0))).toArray 5) = v3 at *
        go_simp
        refine hK.out _ _ ⟨hHeld.1.trans HX2.out, hHeld.2.ext HX2.out⟩ (fun hHeld => ?_)
        clear hK hmk
        refine wpAnyH_ready (rs := [0]) (by kernel_rfl) (by simp) ?_
        refine AllReadyH.cons rfl (fun K hK => ?_) ?_
        · have hmk0 := run_make_s v3 2 24 45 [.int .u16 0, .int .i64 0] 16 rfl (by decide) Try.underlying24 infoRC 16 (by decide) (by decide)
          rw [flat_repR] at hmk0
          have hmk : (Instr.makeSlice 24 (.int .i64 16) (.int .i64 16)).run Try.prog v3 = .ok (.slice (some ⟨v3.heap.size, 0, none⟩) 16 16) (v3.alloc (.cells (rowsC (List.replicate 16 (0, 0))).toArray 45)) := hmk0
          clear hmk0
          have hrow := Row.new v3 45 (rowsC (List.replicate 16 (0, 0)))
          have hXX := (Ext.refl v3).alloc (.cells ((rowsC (List.replicate 16 (0, 0)))).toArray 45)
          have HX3 := Lib.hid hXX
          have HW0 := Lib.hid hrow
          obtain ⟨b0, hb⟩ : ∃ q, q = v3.heap.size := ⟨_, rfl⟩
          have HB0 := Lib.hid hb
          rw [← hb] at hmk HW0
          clear hrow hXX hb
          generalize v3.alloc (.cells ((rowsC (List.replicate 16 (0, 0)))).toArray 45) = v4 at *
          go_simp
          refine hK.out _ _ ⟨hHeld.1.trans HX3.out, hHeld.2.ext HX3.out⟩ (fun hHeld => ?_)
          clear hK hmk
          have HRm := Lib.hid (((((HR2.out.ext hX0).ext HX0.out).ext HX1.out).ext HX2.out).ext HX3.out)
          have HRR := Lib.hid (And.intro HW0.out (And.intro ((HW3.out.ext HX2.out).ext HX3.out) (And.intro (HW4.out.ext HX3.out) (((HW7.out.ext HX1.out).ext HX2.out).ext HX3.out))))
          have HNE := Lib.hid (show b0 ≠ w.heap.size + 1 ∧ b3 ≠ w.heap.size + 1 ∧ b4 ≠ w.heap.size + 1 ∧ b7 ≠ w.heap.size + 1 from by
            have := HB0.out; have := HB3.out; have := HB4.out; have := HB7.out; have := HR2.out.lt; have := hX0.size; have := HX0.out.size; have := HX1.out.size; have := HX2.out.size
            omega)
          refine takeD (i := 8) (v := ?_) rfl rfl (by kernel_rfl) (by kernel_rfl) (by kernel_rfl) (fun _ _ _ h => h) (Or.inl ⟨by rfl, ?_⟩) hHeld ?_
          rotate_left
          · (intro v hv; (obtain ⟨hv0, hv1⟩ := hv; have c1 := (hv1.cell? 1).trans rfl; have c2 := (hv1.cell? 2).trans rfl); go_simp; try (with_reducible rfl))
          (try simp only [List.setIfInBounds_toArray, List.set_cons_zero, List.set_cons_succ])
          refine wpAnyH_ready (rs := [9]) (by kernel_rfl) (by simp) ?_
          refine AllReadyH.cons rfl (fun K hK => ?_) AllReadyH.nil
          rw [if_pos (by rfl)]
          refine store_rowN _ _ _ rfl rfl (w.heap.size + 1) #[.slice (some ⟨b0, 0, none⟩) 16 16, .slice (some ⟨b3, 0, none⟩) G G, .slice (some ⟨b4, 0, none⟩) 64 64, .slice (some ⟨b7, 0, none⟩) I I] rfl rfl 29 _ HRm.out infoMeta rfl (by simp [Value.oneCell']) ?_
          have HFIN := Lib.hid (new_in (HRR.out.1.setRow_other #[.slice (some ⟨b0, 0, none⟩) 16 16, .slice (some ⟨b3, 0, none⟩) G G, .slice (some ⟨b4, 0, none⟩) 64 64, .slice (some ⟨b7, 0, none⟩) I I] HNE.out.1) (HRR.out.2.1.setRow_other _ HNE.out.2.1) (HRR.out.2.2.1.setRow_other _ HNE.out.2.2.1) (HRR.out.2.2.2.setRow_other _ HNE.out.2.2.2) hg64 hi64)
          have HRf := Lib.hid (HRm.out.setRow #[.slice (some ⟨b0, 0, none⟩) 16 16, .slice (some ⟨b3, 0, none⟩) G G, .slice (some ⟨b4, 0, none⟩) 64 64, .slice (some ⟨b7, 0, none⟩) I I])
          refine hK.out _ _ ⟨hHeld.1.setRow (Nat.le_succ _) _, hHeld.2.setRow_other _ (by omega)⟩ (fun hHeld => ?_)
          clear hK
          refine takeD (i := 10) (v := ?_) rfl rfl (by kernel_rfl) (by kernel_rfl) (by kernel_rfl) (fun _ _ _ h => h) (Or.inl ⟨by rfl, ?_⟩) hHeld ?_
          rotate_left
          · (intro v hv; (obtain ⟨hv0, hv1⟩ := hv; have c1 := (hv1.cell? 1).trans rfl; have c2 := (hv1.cell? 2).trans rfl); go_simp; try (with_reducible rfl))
          (try simp only [List.setIfInBounds_toArray, List.set_cons_zero, List.set_cons_succ])
          refine wpAnyH_done (by kernel_rfl) ?_ _
          have HH := Lib.hid hHeld
          clear hHeld
          go_wp2
          refine post_meta rfl (by rfl) (by rfl) HRf.out rfl ?_
          exact ⟨_, by rw [new_v]; rfl, HFIN.out, HH.out.1⟩
        exact AllReadyH.nil
      exact AllReadyH.nil
    refine AllReadyH.cons rfl (fun K hK => ?_) ?_
    · have hmk := run_make_ints (P := Try.prog) v1 26 5 .u8 1 Try.underlying26 infoBC .i64 .i64 64 64 rfl (by decide) (by decide)
      have hrow := Row.new v1 5 (ints .u8 (List.replicate 64 0))
      have hXX := (Ext.refl v1).alloc (.cells ((ints .u8 (List.replicate 64 0))).toArray 5)
      have HX1 := Lib.hid hXX
      have HW4 := Lib.hid hrow
      obtain ⟨b4, hb⟩ : ∃ q, q = v1.heap.size := ⟨_, rfl⟩
      have HB4 := Lib.hid hb
      rw [← hb] at hmk HW4
      clear hrow hXX hb
      generalize v1.alloc (.cells ((ints .u8 (List.replicate 64 0))).toArray 5) = v2 at *
      go_simp
      refine hK.out _ _ ⟨hHeld.1.trans HX1.out, hHeld.2.ext HX1.out⟩ (fun hHeld => ?_)
      clear hK hmk
      refine wpAnyH_ready (rs := [0, 3]) (by kernel_rfl) (by simp) ?_
      refine AllReadyH.cons rfl (fun K hK => ?_) ?_
      · have hmk0 := run_make_s v2 2 24 45 [.int .u16 0, .int .i64 0] 16 rfl (by decide) Try.underlying24 infoRC 16 (by decide) (by decide)
        rw [flat_repR] at hmk0
        have hmk : (Instr.makeSlice 24 (.int .i64 16) (.int .i64 16)).run Try.prog v2 = .ok (.slice (some ⟨v2.heap.size, 0, none⟩) 16 16) (v2.alloc (.cells (rowsC (List.replicate 16 (0, 0))).toArray 45)) := hmk0
        clear hmk0
        have hrow := Row.new v2 45 (rowsC (List.replicate 16 (0, 0)))
        have hXX := (Ext.refl v2).alloc (.cells ((rowsC (List.replicate 16 (0, 0)))).toArray 45)
        have HX2 := Lib.hid hXX
        have HW0 := Lib.hid hrow
        obtain ⟨b0, hb⟩ : ∃ q, q = v2.heap.size := ⟨_, rfl⟩
        have HB0 := Lib.hid hb
        rw [← hb] at hmk HW0
        clear hrow hXX hb
        generalize v2.alloc (.cells ((rowsC (List.replicate 16 (0, 0)))).toArray 45) = v3 at *
        go_simp
        refine hK.out _ _ ⟨hHeld.1.trans HX2.out, hHeld.2.ext HX2.out⟩ (fun hHeld => ?_)
        clear hK hmk
        refine wpAnyH_ready (rs := [3]) (by kernel_rfl) (by simp) ?_
        refine AllReadyH.cons rfl (fun K hK => ?_) ?_
        · have hmk := run_make_ints (P := Try.prog) v3 25 3 .i64 8 Try.underlying25 info64I .i64 .i64 G G rfl (by omega) (by omega)
          have hrow := Row.new v3 3 (ints .i64 (List.replicate G 0))
          have hXX := (Ext.refl v3).alloc (.cells ((ints .i64 (List.replicate G 0))).toArray 3)
          have HX3 := Lib.hid hXX
          have HW3 := Lib.hid hrow
          obtain ⟨b3, hb⟩ : ∃ q, q = v3.heap.size := ⟨_, rfl⟩
          have HB3 := Lib.hid hb
          rw [← hb] at hmk HW3
          clear hrow hXX hb
          generalize v3.alloc (.cells ((ints .i64 (List.replicate G 0))).toArray 3) = v4 at *
          go_simp
          refine hK.out _ _ ⟨hHeld.1.trans HX3.out, hHeld.2.ext HX3.out⟩ (fun hHeld => ?_)
          clear hK hmk
          have HRm := Lib.hid (((((HR2.out.ext hX0).ext HX0.out).ext HX1.out).ext HX2.out).ext HX3.out)
          have HRR := Lib.hid (And.intro (HW0.out.ext HX3.out) (And.intro HW3.out (And.intro ((HW4.out.ext HX2.out).ext HX3.out) (((HW7.out.ext HX1.out).ext HX2.out).ext HX3.out))))
          have HNE := Lib.hid (show b0 ≠ w.heap.size + 1 ∧ b3 ≠ w.heap.size + 1 ∧ b4 ≠ w.heap.size + 1 ∧ b7 ≠ w.heap.size + 1 from by
            have := HB0.out; have := HB3.out; have := HB4.out; have := HB7.out; have := HR2.out.lt; have := hX0.size; have := HX0.out.size; have := HX1.out.size; have := HX2.out.size
            omega)
          refine takeD (i := 8) (v := ?_) rfl rfl (by kernel_rfl) (by kernel_rfl) (by kernel_rfl) (fun _ _ _ h => h) (Or.inl ⟨by rfl, ?_⟩) hHeld ?_
          rotate_left
          · (intro v hv; (obtain ⟨hv0, hv1⟩ := hv; have c1 := (hv1.cell? 1).trans rfl; have c2 := (hv1.cell? 2).trans rfl); go_simp; try (with_reducible rfl))
          (try simp only [List.setIfInBounds_toArray, List.set_cons_zero, List.set_cons_succ])
          refine wpAnyH_ready (rs := [9]) (by kernel_rfl) (by simp) ?_
          refine AllReadyH.cons rfl (fun K hK => ?_) AllReadyH.nil
          rw [if_pos (by rfl)]
          refine store_rowN _ _ _ rfl rfl (w.heap.size + 1) #[.slice (some ⟨b0, 0, none⟩) 16 16, .slice (some ⟨b3, 0, none⟩) G G, .slice (some ⟨b4, 0, none⟩) 64 64, .slice (some ⟨b7, 0, none⟩) I I] rfl rfl 29 _ HRm.out infoMeta rfl (by simp [Value.oneCell']) ?_
          have HFIN := Lib.hid (new_in (HRR.out.1.setRow_other #[.slice (some ⟨b0, 0, none⟩) 16 16, .slice (some ⟨b3, 0, none⟩) G G, .slice (some ⟨b4, 0, none⟩) 64 64, .slice (some ⟨b7, 0, none⟩) I I] HNE.out.1) (HRR.out.2.1.setRow_other _ HNE.out.2.1) (HRR.out.2.2.1.setRow_other _ HNE.out.2.2.1) (HRR.out.2.2.2.setRow_other _ HNE.out.2.2.2) hg64 hi64)
          have HRf := Lib.hid (HRm.out.setRow #[.slice (some ⟨b0, 0, none⟩) 16 16, .slice (some ⟨b3, 0, none⟩) G G, .slice (some ⟨b4, 0, none⟩) 64 64, .slice (some ⟨b7, 0, none⟩) I I])
          refine hK.out _ _ ⟨hHeld.1.setRow (Nat.le_succ _) _, hHeld.2.setRow_other _ (by omega)⟩ (fun hHeld => ?_)
          clear hK
          refine takeD (i := 10) (v := ?_) rfl rfl (by kernel_rfl) (by kernel_rfl) (by kernel_rfl) (fun _ _ _ h => h) (Or.inl ⟨by rfl, ?_⟩) hHeld ?_
          rotate_left
          · (intro v hv; (obtain ⟨hv0, hv1⟩ := hv; have c1 := (hv1.cell? 1).trans rfl; have c2 := (hv1.cell? 2).trans rfl); go_simp; try (with_reducible rfl))
          (try simp only [List.setIfInBounds_toArray, List.set_cons_zero, List.set_cons_succ])
          refine wpAnyH_done (by kernel_rfl) ?_ _
          have HH := Lib.hid hHeld
          clear hHeld
          go_wp2
          refine post_meta rfl (by rfl) (by rfl) HRf.out rfl ?_
          exact ⟨_, by rw [new_v]; rfl, HFIN.out, HH.out.1⟩
        exact AllReadyH.nil
      refine AllReadyH.cons rfl (fun K hK => ?_) ?_
      · have hmk := run_make_ints (P := Try.prog) v2 25 3 .i64 8 Try.underlying25 info64I .i64 .i64 G G rfl (by omega) (by omega)
        have hrow := Row.new v2 3 (ints .i64 (List.replicate G 0))
        have hXX := (Ext.refl v2).alloc (.cells ((ints .i64 (List.replicate G 0))).toArray 3)
        have HX2 := Lib.hid hXX
        have HW3 := Lib.hid hrow
        obtain ⟨b3, hb⟩ : ∃ q, q = v2.heap.size := ⟨_, rfl⟩
        have HB3 := Lib.hid hb
        rw [← hb] at hmk HW3
        clear hrow hXX hb
        generalize v2.alloc (.cells ((ints .i64 (List.replicate G 0))).toArray 3) = v3 at *
        go_simp
        refine hK.out _ _ ⟨hHeld.1.trans HX2.out, hHeld.2.ext HX2.out⟩ (fun hHeld => ?_)
        clear hK hmk
        refine wpAnyH_ready (rs := [0]) (by kernel_rfl) (by simp) ?_
        refine AllReadyH.cons rfl (fun K hK => ?_) ?_
        · have hmk0 := run_make_s v3 2 24 45 [.int .u16 0, .int .i64 0] 16 rfl (by decide) Try.underlying24 infoRC 16 (by decide) (by decide)
          rw [flat_repR] at hmk0
          have hmk : (Instr.makeSlice 24 (.int .i64 16) (.int .i64 16)).run Try.prog v3 = .ok (.slice (some ⟨v3.heap.size, 0, none⟩) 16 16) (v3.alloc (.cells (rowsC (List.replicate 16 (0, 0))).toArray 45)) := hmk0
          clear hmk0
          have hrow := Row.new v3 45 (rowsC (List.replicate 16 (0, 0)))
          have hXX := (Ext.refl v3).alloc (.cells ((rowsC (List.replicate 16 (0, 0)))).toArray 45)
          have HX3 := Lib.hid hXX
          have HW0 := Lib.hid hrow
          obtain ⟨b0, hb⟩ : ∃ q, q = v3.heap.size := ⟨_, rfl⟩
          have HB0 := Lib.hid hb
          rw [← hb] at hmk HW0
          clear hrow hXX hb
          generalize v3.alloc (.cells ((rowsC (List.replicate 16 (0, 0)))).toArray 45) = v4 at *
          go_simp
          refine hK.out _ _ ⟨hHeld.1.trans HX3.out, hHeld.2.ext HX3.out⟩ (fun hHeld => ?_)
          clear hK hmk
          have HRm := Lib.hid (((((HR2.out.ext hX0).ext HX0.out).ext HX1.out).ext HX2.out).ext HX3.out)
          have HRR := Lib.hid (And.intro HW0.out (And.intro (HW3.out.ext HX3.out) (And.intro ((HW4.out.ext HX2.out).ext HX3.out) (((HW7.out.ext HX1.out).ext HX2.out).ext HX3.out))))
          have HNE := Lib.hid (show b0 ≠ w.heap.size + 1 ∧ b3 ≠ w.heap.size + 1 ∧ b4 ≠ w.heap.size + 1 ∧ b7 ≠ w.heap.size + 1 from by
            have := HB0.out; have := HB3.out; have := HB4.out; have := HB7.out; have := HR2.out.lt; have := hX0.size; have := HX0.out.size; have := HX1.out.size; have := HX2.out.size
            omega)
          refine takeD (i := 8) (v := ?_) rfl rfl (by kernel_rfl) (by kernel_rfl) (by kernel_rfl) (fun _ _ _ h => h) (Or.inl ⟨by rfl, ?_⟩) hHeld ?_
          rotate_left
          · (intro v hv; (obtain ⟨hv0, hv1⟩ := hv; have c1 := (hv1.cell? 1).trans rfl; have c2 := (hv1.cell? 2).trans rfl); go_simp; try (with_reducible rfl))
          (try simp only [List.setIfInBounds_toArray, List.set_cons_zero, List.set_cons_succ])
          refine wpAnyH_ready (rs := [9]) (by kernel_rfl) (by simp) ?_
          refine AllReadyH.cons rfl (fun K hK => ?_) AllReadyH.nil
          rw [if_pos (by rfl)]
          refine store_rowN _ _ _ rfl rfl (w.heap.size + 1) #[.slice (some ⟨b0, 0, none⟩) 16 16, .slice (some ⟨b3, 0, none⟩) G G, .slice (some ⟨b4, 0, none⟩) 64 64, .slice (some ⟨b7, 0, none⟩) I I] rfl rfl 29 _ HRm.out infoMeta rfl (by simp [Value.oneCell']) ?_
          have HFIN := Lib.hid (new_in (HRR.out.1.setRow_other #[.slice (some ⟨b0, 0, none⟩) 16 16, .slice (some ⟨b3, 0, none⟩) G G, .slice (some ⟨b4, 0, none⟩) 64 64, .slice (some ⟨b7, 0, none⟩) I I] HNE.out.1) (HRR.out.2.1.setRow_other _ HNE.out.2.1) (HRR.out.2.2.1.setRow_other _ HNE.out.2.2.1) (HRR.out.2.2.2.setRow_other _ HNE.out.2.2.2) hg64 hi64)
          have HRf := Lib.hid (HRm.out.setRow #[.slice (some ⟨b0, 0, none⟩) 16 16, .slice (some ⟨b3, 0, none⟩) G G, .slice (some ⟨b4, 0, none⟩) 64 64, .slice (some ⟨b7, 0, none⟩) I I])
          refine hK.out _ _ ⟨hHeld.1.setRow (Nat.le_succ _) _, hHeld.2.setRow_other _ (by omega)⟩ (fun hHeld => ?_)
          clear hK
          refine takeD (i := 10) (v := ?_) rfl rfl (by kernel_rfl) (by kernel_rfl) (by kernel_rfl) (fun _ _ _ h => h) (Or.inl ⟨by rfl, ?_⟩) hHeld ?_
          rotate_left
          · (intro v hv; (obtain ⟨hv0, hv1⟩ := hv; have c1 := (hv1.cell? 1).trans rfl; have c2 := (hv1.cell? 2).trans rfl); go_simp; try (with_reducible rfl))
          (try simp only [List.setIfInBounds_toArray, List.set_cons_zero, List.set_cons_succ])
          refine wpAnyH_done (by kernel_rfl) ?_ _
          have HH := Lib.hid hHeld
          clear hHeld
          go_wp2
          refine post_meta rfl (by rfl) (by rfl) HRf.out rfl ?_
          exact ⟨_, by rw [new_v]; rfl, HFIN.out, HH.out.1⟩
        exact AllReadyH.nil
      exact AllReadyH.nil
    exact AllReadyH.nil
  exact AllReadyH.nil
end Go.Proofs.Ytnodinancnfoeaa.Mt
