/- meta.Copy (printed by gen_cp14.py). -/
import Derived.Test.YtnodinancnfoeaaMtSh
namespace Go.Proofs.Ytnodinancnfoeaa.Mt
open Go.RowKit Words Mem Plain Ops Agg OwnS Intern Ino
open Go.Proofs.Ytnodinancnfoeaa.Field
set_option linter.ambiguousOpen false
set_option linter.unusedVariables false
set_option linter.unusedSimpArgs false

theorem flat_one {α : Type} {f : α → List Value} (h : ∀ x, ∀ u ∈ f x, u.oneCell' = true) (L : List α) : ∀ u ∈ flat f L, u.oneCell' = true := by
  intro u hu
  unfold flat at hu
  obtain ⟨x, _, hx⟩ := List.mem_flatMap.1 hu
  exact h x u hx
theorem ownS_sl {w : World} {base n s cap : Nat} {t : TypeId} {a : Option Addr} {xs : List Value} (h : w.ownsRow base t s (.slice a n cap) n xs) : Sl w a xs := by
  rcases ownS_cases h with ⟨_, _, _, rfl⟩ | ⟨g, M, rfl, _, h3, _, _, _, h7⟩
  · exact Sl.nil _ _
  · refine Sl.mk fun j hj => ?_
    rw [Nat.zero_add, h3.cell?]
    have hx : (M.take (n * s))[j]? = some xs[j] := by rw [h7]; exact List.getElem?_eq_getElem hj
    rw [List.getElem?_take] at hx
    split at hx
    · exact hx
    · cases hx
theorem ownS_nilcap {w : World} {base n s cap : Nat} {t : TypeId} {a : Option Addr} {xs : List Value} (h : w.ownsRow base t s (.slice a n cap) n xs) : a = none → n = 0 ∧ cap = 0 := by
  intro e
  rcases ownS_cases h with ⟨_, h1, h2, _⟩ | ⟨g, M, e2, _⟩
  · exact ⟨h1, h2⟩
  · rw [e] at e2; cases e2
def apart (a b : Option Addr) : Prop := ∀ x y, a = some x → b = some y → x.block ≠ y.block
/-- What is known, in memory of one's own. -/
structure MetaAt (w : World) (lo : Nat) (p : Pl) (M : MetaT) : Prop where
  rows : w.ownsRow lo 45 2 (.slice p.ra M.rows.length p.rc) M.rows.length (rowsC M.rows)
  owners : w.ownsRow lo 3 1 (.slice p.oa M.owners.length p.oc) M.owners.length (ints .i64 M.owners)
  used : w.ownsRow lo 5 1 (.slice p.ua M.used.length p.uc) M.used.length (ints .u8 M.used)
  inodes : w.ownsRow lo 48 14 (.slice p.ia M.inodes.length p.ic) M.inodes.length (flat inoC M.inodes)
  wfr : wfR M.rows
  bu : isBytes M.used
  wfi : ∀ n ∈ M.inodes, n.wf
  few : M.rows.length ≤ 1000 ∧ M.owners.length ≤ 1000 ∧ M.used.length ≤ 1000 ∧ M.inodes.length ≤ 1000
  sep : (apart p.ra p.oa ∧ apart p.ra p.ua ∧ apart p.ra p.ia) ∧ (apart p.oa p.ua ∧ apart p.oa p.ia) ∧ apart p.ua p.ia
theorem MetaAt.in_ {w : World} {lo : Nat} {p : Pl} {M : MetaT} (h : MetaAt w lo p M) : MetaIn w p M :=
  ⟨ownS_sl h.rows, ownS_sl h.owners, ownS_sl h.used, ownS_sl h.inodes, h.wfr, h.bu, h.wfi, h.few, ownS_nilcap h.rows, ownS_nilcap h.owners, ownS_nilcap h.used, ownS_nilcap h.inodes⟩
theorem MetaAt.ext {w w' : World} {lo : Nat} {p : Pl} {M : MetaT} (h : MetaAt w lo p M) (e : Ext w w') : MetaAt w' lo p M :=
  ⟨ownS_ext h.rows e, ownS_ext h.owners e, ownS_ext h.used e, ownS_ext h.inodes e, h.wfr, h.bu, h.wfi, h.few, h.sep⟩
set_option maxHeartbeats 8000000 in
theorem Copy_ok (p : Pl) (M : MetaT) (w : World) (h : MetaIn w p M) :
    Calls Try.prog 19 #[metaV p M] w fun e w' => ∃ p', e = .returned (metaV p' M) ∧ MetaAt w' w.heap.size p' M ∧ Ext w w' := by
  have X1 := (Ext.refl w).alloc (.cells #[.slice p.ra M.rows.length p.rc, .slice p.oa M.owners.length p.oc, .slice p.ua M.used.length p.uc, .slice p.ia M.inodes.length p.ic] 29)
  have hrow1 := Row.new w 29 [.slice p.ra M.rows.length p.rc, .slice p.oa M.owners.length p.oc, .slice p.ua M.used.length p.uc, .slice p.ia M.inodes.length p.ic]
  have hs1 : (w.alloc (.cells #[.slice p.ra M.rows.length p.rc, .slice p.oa M.owners.length p.oc, .slice p.ua M.used.length p.uc, .slice p.ia M.inodes.length p.ic] 29)).heap.size = w.heap.size + 1 := by simp
  generalize hw1 : w.alloc (.cells #[.slice p.ra M.rows.length p.rc, .slice p.oa M.owners.length p.oc, .slice p.ua M.used.length p.uc, .slice p.ia M.inodes.length p.ic] 29) = w1 at *
  have X2 := (Ext.refl w1).alloc (.cells #[.slice none 0 0, .slice none 0 0, .slice none 0 0, .slice none 0 0] 29)
  have hrow2 := Row.new w1 29 [.slice none 0 0, .slice none 0 0, .slice none 0 0, .slice none 0 0]
  rw [hs1] at hrow2
  have HX2 := Lib.hid (X1.trans X2)
  have HR1 := Lib.hid (hrow1.ext X2)
  have HR2 := Lib.hid hrow2
  have HSZ := Lib.hid (show (w1.alloc (.cells #[.slice none 0 0, .slice none 0 0, .slice none 0 0, .slice none 0 0] 29)).heap.size = w.heap.size + 2 by simp [hs1])
  have hz := zeroMeta
  have hk := fun (v : World) (e : Ext w v) => h.ext e
  have HIN := Lib.hid hk
  have HFW := Lib.hid (And.intro h.wfr (And.intro h.bu (And.intro h.wfi h.few)))
  have HCR := Lib.hid (fun (v : World) (e : Ext w v) => CloneR_ok p.ra M.rows.length p.rc (rowsC M.rows) v (by rw [rowsC_length]; omega) (h.ext e).rows (rowsC_one _) h.nil.1 (by have := h.few; omega))
  have HCO := Lib.hid (fun (v : World) (e : Ext w v) => CloneI_ok p.oa M.owners.length p.oc (ints .i64 M.owners) v (by rw [ints_length]; omega) (h.ext e).owners (ints_oneCell' _ _) h.nil.2.1 (by have := h.few; omega))
  have HCU := Lib.hid (fun (v : World) (e : Ext w v) => CloneB_ok p.ua M.used.length p.uc (ints .u8 M.used) v (by rw [ints_length]; omega) (h.ext e).used (ints_oneCell' _ _) h.nil.2.2.1 (by have := h.few; omega))
  have HCN := Lib.hid (fun (v : World) (e : Ext w v) => CloneN_ok p.ia M.inodes.length p.ic (flat inoC M.inodes) v (flat_length inoC_len _) (h.ext e).inodes (flat_one inoC_one _) h.nil.2.2.2 (by have := h.few; omega))
  clear X1 X2 hrow1 hrow2 hs1 hk h
  subst hw1
  go_enter Try.func19, Try.ntmps19
  go_wp2_with fail
  have hX0 := Ext.drew (Ext.refl ((w.alloc (.cells #[.slice p.ra M.rows.length p.rc, .slice p.oa M.owners.length p.oc, .slice p.ua M.used.length p.uc, .slice p.ia M.inodes.length p.ic] 29)).alloc (.cells #[.slice none 0 0, .slice none 0 0, .slice none 0 0, .slice none 0 0] 29)))
  refine wp_region_held_drew (S := (fun v => Ext w v ∧ Row v w.heap.size 29 [.slice p.ra M.rows.length p.rc, .slice p.oa M.owners.length p.oc, .slice p.ua M.used.length p.uc, .slice p.ia M.inodes.length p.ic])) (by kernel_rfl) ⟨HX2.out.trans hX0, HR1.out.ext hX0⟩ (fun hHeld => ?_)
  have HR0 := Lib.hid (HR2.out.ext hX0)
  have hzz := hX0.size
  rw [HSZ.out] at hzz
  have HZ0 := Lib.hid hzz
  clear hX0 hzz
  generalize ((w.alloc (.cells #[.slice p.ra M.rows.length p.rc, .slice p.oa M.owners.length p.oc, .slice p.ua M.used.length p.uc, .slice p.ia M.inodes.length p.ic] 29)).alloc (.cells #[.slice none 0 0, .slice none 0 0, .slice none 0 0, .slice none 0 0] 29)).drew = v0 at *
  refine takeD (i := 0) (v := ?_) rfl rfl (by kernel_rfl) (by kernel_rfl) (by kernel_rfl) (fun _ _ _ h => h) (Or.inl ⟨by rfl, ?_⟩) hHeld ?_
  rotate_left
  · (intro v hv; (obtain ⟨hv0, hv1⟩ := hv; have c0 := (hv1.cell? 0).trans rfl; have c1 := (hv1.cell? 1).trans rfl; have c2 := (hv1.cell? 2).trans rfl; have c3 := (hv1.cell? 3).trans rfl); go_simp; try (with_reducible rfl))
  (try simp only [List.setIfInBounds_toArray, List.set_cons_zero, List.set_cons_succ])
  refine takeD (i := 1) (v := ?_) rfl rfl (by kernel_rfl) (by kernel_rfl) (by kernel_rfl) (fun _ _ _ h => h) (Or.inl ⟨by rfl, ?_⟩) hHeld ?_
  rotate_left
  · (intro v hv; (obtain ⟨hv0, hv1⟩ := hv; have c0 := (hv1.cell? 0).trans rfl; have c1 := (hv1.cell? 1).trans rfl; have c2 := (hv1.cell? 2).trans rfl; have c3 := (hv1.cell? 3).trans rfl); go_simp; try (with_reducible rfl))
  (try simp only [List.setIfInBounds_toArray, List.set_cons_zero, List.set_cons_succ])
  refine takeD (i := 3) (v := ?_) rfl rfl (by kernel_rfl) (by kernel_rfl) (by kernel_rfl) (fun _ _ _ h => h) (Or.inl ⟨by rfl, ?_⟩) hHeld ?_
  rotate_left
  · (intro v hv; (obtain ⟨hv0, hv1⟩ := hv; have c0 := (hv1.cell? 0).trans rfl; have c1 := (hv1.cell? 1).trans rfl; have c2 := (hv1.cell? 2).trans rfl; have c3 := (hv1.cell? 3).trans rfl); go_simp; try (with_reducible rfl))
  (try simp only [List.setIfInBounds_toArray, List.set_cons_zero, List.set_cons_succ])
  refine takeD (i := 4) (v := ?_) rfl rfl (by kernel_rfl) (by kernel_rfl) (by kernel_rfl) (fun _ _ _ h => h) (Or.inl ⟨by rfl, ?_⟩) hHeld ?_
  rotate_left
  · (intro v hv; (obtain ⟨hv0, hv1⟩ := hv; have c0 := (hv1.cell? 0).trans rfl; have c1 := (hv1.cell? 1).trans rfl; have c2 := (hv1.cell? 2).trans rfl; have c3 := (hv1.cell? 3).trans rfl); go_simp; try (with_reducible rfl))
  (try simp only [List.setIfInBounds_toArray, List.set_cons_zero, List.set_cons_succ])
  refine takeD (i := 6) (v := ?_) rfl rfl (by kernel_rfl) (by kernel_rfl) (by kernel_rfl) (fun _ _ _ h => h) (Or.inl ⟨by rfl, ?_⟩) hHeld ?_
  rotate_left
  · (intro v hv; (obtain ⟨hv0, hv1⟩ := hv; have c0 := (hv1.cell? 0).trans rfl; have c1 := (hv1.cell? 1).trans rfl; have c2 := (hv1.cell? 2).trans rfl; have c3 := (hv1.cell? 3).trans rfl); go_simp; try (with_reducible rfl))
  (try simp only [List.setIfInBounds_toArray, List.set_cons_zero, List.set_cons_succ])
  refine takeD (i := 7) (v := ?_) rfl rfl (by kernel_rfl) (by kernel_rfl) (by kernel_rfl) (fun _ _ _ h => h) (Or.inl ⟨by rfl, ?_⟩) hHeld ?_
  rotate_left
  · (intro v hv; (obtain ⟨hv0, hv1⟩ := hv; have c0 := (hv1.cell? 0).trans rfl; have c1 := (hv1.cell? 1).trans rfl; have c2 := (hv1.cell? 2).trans rfl; have c3 := (hv1.cell? 3).trans rfl); go_simp; try (with_reducible rfl))
  (try simp only [List.setIfInBounds_toArray, List.set_cons_zero, List.set_cons_succ])
  refine takeD (i := 9) (v := ?_) rfl rfl (by kernel_rfl) (by kernel_rfl) (by kernel_rfl) (fun _ _ _ h => h) (Or.inl ⟨by rfl, ?_⟩) hHeld ?_
  rotate_left
  · (intro v hv; (obtain ⟨hv0, hv1⟩ := hv; have c0 := (hv1.cell? 0).trans rfl; have c1 := (hv1.cell? 1).trans rfl; have c2 := (hv1.cell? 2).trans rfl; have c3 := (hv1.cell? 3).trans rfl); go_simp; try (with_reducible rfl))
  (try simp only [List.setIfInBounds_toArray, List.set_cons_zero, List.set_cons_succ])
  refine takeD (i := 10) (v := ?_) rfl rfl (by kernel_rfl) (by kernel_rfl) (by kernel_rfl) (fun _ _ _ h => h) (Or.inl ⟨by rfl, ?_⟩) hHeld ?_
  rotate_left
  · (intro v hv; (obtain ⟨hv0, hv1⟩ := hv; have c0 := (hv1.cell? 0).trans rfl; have c1 := (hv1.cell? 1).trans rfl; have c2 := (hv1.cell? 2).trans rfl; have c3 := (hv1.cell? 3).trans rfl); go_simp; try (with_reducible rfl))
  (try simp only [List.setIfInBounds_toArray, List.set_cons_zero, List.set_cons_succ])
  refine wpAnyH_ready (rs := [2]) (by kernel_rfl) (by simp) ?_
  refine AllReadyH.cons rfl (fun K hK => ?_) AllReadyH.nil
  go_simp
  refine (HCR.out v0 hHeld.1).mono ?_
  rintro e v1 ⟨a0, c0, rfl, ho0, hx0⟩
  have HO0 := Lib.hid ho0
  have HX0 := Lib.hid hx0
  refine hK.out _ _ ⟨hHeld.1.trans hx0, hHeld.2.ext hx0⟩ (fun hHeld => ?_)
  clear hK ho0 hx0
  refine wpAnyH_ready (rs := [5]) (by kernel_rfl) (by simp) ?_
  refine AllReadyH.cons rfl (fun K hK => ?_) AllReadyH.nil
  go_simp
  refine (HCO.out v1 hHeld.1).mono ?_
  rintro e v2 ⟨a1, c1, rfl, ho1, hx1⟩
  have HO1 := Lib.hid ho1
  have HX1 := Lib.hid hx1
  refine hK.out _ _ ⟨hHeld.1.trans hx1, hHeld.2.ext hx1⟩ (fun hHeld => ?_)
  clear hK ho1 hx1
  refine wpAnyH_ready (rs := [8]) (by kernel_rfl) (by simp) ?_
  refine AllReadyH.cons rfl (fun K hK => ?_) AllReadyH.nil
  go_simp
  refine (HCU.out v2 hHeld.1).mono ?_
  rintro e v3 ⟨a2, c2, rfl, ho2, hx2⟩
  have HO2 := Lib.hid ho2
  have HX2' := Lib.hid hx2
  refine hK.out _ _ ⟨hHeld.1.trans hx2, hHeld.2.ext hx2⟩ (fun hHeld => ?_)
  clear hK ho2 hx2
  refine wpAnyH_ready (rs := [11]) (by kernel_rfl) (by simp) ?_
  refine AllReadyH.cons rfl (fun K hK => ?_) AllReadyH.nil
  go_simp
  refine (HCN.out v3 hHeld.1).mono ?_
  rintro e v4 ⟨a3, c3, rfl, ho3, hx3⟩
  have HO3 := Lib.hid ho3
  have HX3 := Lib.hid hx3
  refine hK.out _ _ ⟨hHeld.1.trans hx3, hHeld.2.ext hx3⟩ (fun hHeld => ?_)
  clear hK ho3 hx3
  have HRm := Lib.hid ((((HR0.out.ext HX0.out).ext HX1.out).ext HX2'.out).ext HX3.out)
  refine takeD (i := 12) (v := ?_) rfl rfl (by kernel_rfl) (by kernel_rfl) (by kernel_rfl) (fun _ _ _ h => h) (Or.inl ⟨by rfl, ?_⟩) hHeld ?_
  rotate_left
  · (intro v hv; (obtain ⟨hv0, hv1⟩ := hv; have c0 := (hv1.cell? 0).trans rfl; have c1 := (hv1.cell? 1).trans rfl; have c2 := (hv1.cell? 2).trans rfl; have c3 := (hv1.cell? 3).trans rfl); go_simp; try (with_reducible rfl))
  (try simp only [List.setIfInBounds_toArray, List.set_cons_zero, List.set_cons_succ])
  refine wpAnyH_ready (rs := [13]) (by kernel_rfl) (by simp) ?_
  refine AllReadyH.cons rfl (fun K hK => ?_) AllReadyH.nil
  rw [if_pos (by rfl)]
  refine store_rowN _ _ _ rfl rfl (w.heap.size + 1) #[.slice a0 M.rows.length c0, .slice a1 M.owners.length c1, .slice a2 M.used.length c2, .slice a3 M.inodes.length c3] rfl rfl 29 _ HRm.out infoMeta rfl (by simp [Value.oneCell']) ?_
  have HRf := Lib.hid (HRm.out.setRow #[.slice a0 M.rows.length c0, .slice a1 M.owners.length c1, .slice a2 M.used.length c2, .slice a3 M.inodes.length c3])
  have HFIN := Lib.hid (show MetaAt (v4.setRow (w.heap.size + 1) #[.slice a0 M.rows.length c0, .slice a1 M.owners.length c1, .slice a2 M.used.length c2, .slice a3 M.inodes.length c3]) w.heap.size ⟨a0, c0, a1, c1, a2, c2, a3, c3⟩ M from by
    have z0 := HX0.out.size
    have z1 := HX1.out.size
    have z2 := HX2'.out.size
    have y0 := HZ0.out
    have o0 := ownS_ext (ownS_ext (ownS_ext HO0.out HX1.out) HX2'.out) HX3.out
    have o1 := ownS_ext (ownS_ext HO1.out HX2'.out) HX3.out
    have o2 := ownS_ext HO2.out HX3.out
    have o3 := HO3.out
    have kb : ∀ (t : TypeId) (s lo n c : Nat) (a : Option Addr) (xs : List Value), w.heap.size + 2 ≤ lo → v4.ownsRow lo t s (.slice a n c) n xs → (v4.setRow (w.heap.size + 1) #[.slice a0 M.rows.length c0, .slice a1 M.owners.length c1, .slice a2 M.used.length c2, .slice a3 M.inodes.length c3]).ownsRow w.heap.size t s (.slice a n c) n xs := fun t s lo n c a xs hlo ho =>
      ownS_base (ownS_block ho (fun ad e => by
        have := (ownS_lt ho ad e).1
        exact Go.setRow_other _ _ _ _ (by omega))) (by omega)
    have q0 := ownS_lt HO0.out
    have q1 := ownS_lt HO1.out
    have q2 := ownS_lt HO2.out
    have q3 := ownS_lt HO3.out
    exact ⟨kb _ _ _ _ _ _ _ (by omega) o0, kb _ _ _ _ _ _ _ (by omega) o1, kb _ _ _ _ _ _ _ (by omega) o2, kb _ _ _ _ _ _ _ (by omega) o3, HFW.out.1, HFW.out.2.1, HFW.out.2.2.1, HFW.out.2.2.2,
      ⟨fun x y e e' => by have := (q0 x e).2; have := (q1 y e').1; omega, fun x y e e' => by have := (q0 x e).2; have := (q2 y e').1; omega, fun x y e e' => by have := (q0 x e).2; have := (q3 y e').1; omega⟩,
      ⟨fun x y e e' => by have := (q1 x e).2; have := (q2 y e').1; omega, fun x y e e' => by have := (q1 x e).2; have := (q3 y e').1; omega⟩, fun x y e e' => by have := (q2 x e).2; have := (q3 y e').1; omega⟩)
  refine hK.out _ _ ⟨hHeld.1.setRow (Nat.le_succ _) _, hHeld.2.setRow_other _ (by omega)⟩ (fun hHeld => ?_)
  clear hK
  refine wpAnyH_done (by kernel_rfl) ?_ _
  have HH := Lib.hid hHeld
  clear hHeld
  go_wp2
  refine bodyPost_ret (v := .agg #[.slice a0 M.rows.length c0, .slice a1 M.owners.length c1, .slice a2 M.used.length c2, .slice a3 M.inodes.length c3]) ?_ rfl ?_
  · have hrf := HRf.out
    exact results_cell_row Try.results19 _ _ (w.heap.size + 1) 29 #[.slice a0 M.rows.length c0, .slice a1 M.owners.length c1, .slice a2 M.used.length c2, .slice a3 M.inodes.length c3] (0, 0) _ rfl (by unfold Row at hrf; simpa using hrf) Try.underlying29 rfl infoMeta
  · exact ⟨⟨a0, c0, a1, c1, a2, c2, a3, c3⟩, rfl, HFIN.out, HH.out.1⟩
end Go.Proofs.Ytnodinancnfoeaa.Mt
