/- The disk's Copy. -/
import Derived.Test.YtfonkicpjkcchaaDkI
import Derived.Test.YtfonkicpjkcchaaDkQ
namespace Go.Proofs.Ytfonkicpjkcchaa.Dk
open Go.RowKit Words Mem Plain Ops Agg OwnS
open Go.Joins Go.ChangeShapes Go.WideShapes Go.Deep
set_option linter.ambiguousOpen false
set_option linter.unusedVariables false
set_option linter.unusedSimpArgs false

theorem zeroDsk (w : World) : (zeroValue 59).run Try.prog w = .ok (.agg #[.slice none 0 0, .slice none 0 0, .bool false, .int .i64 0, .int .i64 0]) w := by kernel_rfl
theorem ownS_nilcap {w : World} {base n s cap : Nat} {t : TypeId} {a : Option Addr} {xs : List Value} (h : w.ownsRow base t s (.slice a n cap) n xs) : a = none → n = 0 ∧ cap = 0 := by
  intro e
  rcases ownS_cases h with ⟨_, h1, h2, _⟩ | ⟨g, M, e2, _⟩
  · exact ⟨h1, h2⟩
  · rw [e] at e2; cases e2
theorem ownS_sl {w : World} {base n s cap : Nat} {t : TypeId} {a : Option Addr} {xs : List Value} (h : w.ownsRow base t s (.slice a n cap) n xs) : Sl w a xs := by
  rcases ownS_cases h with ⟨_, _, _, rfl⟩ | ⟨g, M, rfl, _, h3, _, _, _, h7⟩
  · exact Sl.nil _ _
  · refine Sl.mk fun j hj => ?_
    rw [Nat.zero_add, h3.cell?]
    have hx : (M.take (n * s))[j]? = some xs[j] := by rw [h7]; exact List.getElem?_eq_getElem hj
    rw [List.getElem?_take] at hx
    split at hx
    · exact hx
    · cases hx
theorem ownS_ext {w w' : World} {base n s cap : Nat} {t : TypeId} {a : Option Addr} {xs : List Value} (h : w.ownsRow base t s (.slice a n cap) n xs) (e : Ext w w') : w'.ownsRow base t s (.slice a n cap) n xs :=
  ownS_block h (fun ad ha => e.block _ (ownS_lt h ad ha).2)
theorem flat_one {α : Type} {f : α → List Value} (h : ∀ x, ∀ u ∈ f x, u.oneCell' = true) (L : List α) : ∀ u ∈ flat f L, u.oneCell' = true := by
  intro u hu
  unfold flat at hu
  obtain ⟨x, _, hx⟩ := List.mem_flatMap.1 hu
  exact h x u hx
set_option maxHeartbeats 2000000 in
theorem Copy_at {w0 u : World} {g gs sc : Nat} {D : Dsk} {b : Nat} (h : At w0 g gs sc D u) (hwf : D.Wf b) (hb : b ≤ 1000000) (hpos : 0 < D.secs.length) :
    Calls Try.prog 22 #[.pointer (some ⟨g, 0, none⟩)] u fun e w' => ∃ g' gs' sc', e = .returned (.pointer (some ⟨g', 0, none⟩)) ∧ At u g' gs' sc' D w' := by
  obtain ⟨h1, wa, wc, hD⟩ := h
  obtain ⟨c0, c1, c2, c3, c4⟩ := hD.cells
  have hz := zeroDsk
  have hm := hwf.many
  have hfew := hwf.few
  have hsl := ownS_sl hD.secs
  have hwl := ownS_sl hD.waits
  have HCS := Lib.hid (fun (v : World) (e : Ext u v) => CloneS_ok (some ⟨gs, 0, none⟩) D.secs.length sc (flat secC D.secs) v (flat_length secC_len _) (hsl.ext e) (flat_one secC_one _) (by simp) (by omega))
  have HCW := Lib.hid (fun (v : World) (e : Ext u v) => CloneW_ok wa D.waits.length wc (flat wtC D.waits) v (flat_length wtC_len _) (hwl.ext e) (flat_one wtC_one _) (ownS_nilcap hD.waits) (by omega))
  have HXR := Lib.hid ((Ext.refl u).alloc (.cells #[.slice (some ⟨gs, 0, none⟩) D.secs.length sc, .slice wa D.waits.length wc, .bool D.dead, .int .i64 D.fuse, .int .i64 D.done] 59))
  have HR2 := Lib.hid (Row.new u 59 [.slice (some ⟨gs, 0, none⟩) D.secs.length sc, .slice wa D.waits.length wc, .bool D.dead, .int .i64 D.fuse, .int .i64 D.done])
  have HC := Lib.hid hD.cells
  clear hsl hwl hD h1 hwf
  go_enter Try.func22, Try.ntmps22
  go_wp2_with fail
  generalize hu1 : u.alloc (.cells #[.slice (some ⟨gs, 0, none⟩) D.secs.length sc, .slice wa D.waits.length wc, .bool D.dead, .int .i64 D.fuse, .int .i64 D.done] 59) = u1 at *
  clear hu1
  obtain ⟨gn, hgn⟩ : ∃ q, q = u.heap.size := ⟨_, rfl⟩
  have HGN := Lib.hid hgn
  have HALL := Lib.hid (show ∀ v : World, Ext u v → (Ext u v ∧ v.cell? ⟨g, 0, none⟩ = some (.slice (some ⟨gs, 0, none⟩) D.secs.length sc) ∧ v.cell? ⟨g, 1, none⟩ = some (.slice wa D.waits.length wc)) from fun v hv => by
    have k0 := HC.out.1
    have k1 := HC.out.2.1
    have hxx := hv
    exact ⟨hv, (hxx.cell (World.block_lt_of_cell? u _ k0)).trans k0, (hxx.cell (World.block_lt_of_cell? u _ k1)).trans k1⟩)
  rw [← hgn] at HR2 ⊢
  clear hgn c0 c1 c2 c3 c4 hz
  refine wp_region_held_drew (S := (fun v => Ext u v ∧ v.cell? ⟨g, 0, none⟩ = some (.slice (some ⟨gs, 0, none⟩) D.secs.length sc) ∧ v.cell? ⟨g, 1, none⟩ = some (.slice wa D.waits.length wc))) (by kernel_rfl) (HALL.out _ (Ext.drew HXR.out)) (fun hHeld => ?_)
  refine takeD (i := 0) (v := ?_) rfl rfl (by kernel_rfl) (by kernel_rfl) (by kernel_rfl) (fun _ _ _ h => h) (Or.inl ⟨by rfl, ?_⟩) hHeld ?_
  rotate_left
  · (intro v hv; (try obtain ⟨hv0, hv1, hv2⟩ := hv); go_simp; try (with_reducible rfl))
  (try simp only [List.setIfInBounds_toArray, List.set_cons_zero, List.set_cons_succ])
  refine takeD (i := 1) (v := ?_) rfl rfl (by kernel_rfl) (by kernel_rfl) (by kernel_rfl) (fun _ _ _ h => h) (Or.inl ⟨by rfl, ?_⟩) hHeld ?_
  rotate_left
  · (intro v hv; (try obtain ⟨hv0, hv1, hv2⟩ := hv); go_simp; try (with_reducible rfl))
  (try simp only [List.setIfInBounds_toArray, List.set_cons_zero, List.set_cons_succ])
  refine takeD (i := 2) (v := ?_) rfl rfl (by kernel_rfl) (by kernel_rfl) (by kernel_rfl) (fun _ _ _ h => h) (Or.inl ⟨by rfl, ?_⟩) hHeld ?_
  rotate_left
  · (intro v hv; (try obtain ⟨hv0, hv1, hv2⟩ := hv); go_simp; try (with_reducible rfl))
  (try simp only [List.setIfInBounds_toArray, List.set_cons_zero, List.set_cons_succ])
  refine takeD (i := 3) (v := ?_) rfl rfl (by kernel_rfl) (by kernel_rfl) (by kernel_rfl) (fun _ _ _ h => h) (Or.inl ⟨by rfl, ?_⟩) hHeld ?_
  rotate_left
  · (intro v hv; (try obtain ⟨hv0, hv1, hv2⟩ := hv); go_simp; try (with_reducible rfl))
  (try simp only [List.setIfInBounds_toArray, List.set_cons_zero, List.set_cons_succ])
  refine takeD (i := 5) (v := ?_) rfl rfl (by kernel_rfl) (by kernel_rfl) (by kernel_rfl) (fun _ _ _ h => h) (Or.inl ⟨by rfl, ?_⟩) hHeld ?_
  rotate_left
  · (intro v hv; (try obtain ⟨hv0, hv1, hv2⟩ := hv); go_simp; try (with_reducible rfl))
  (try simp only [List.setIfInBounds_toArray, List.set_cons_zero, List.set_cons_succ])
  refine takeD (i := 6) (v := ?_) rfl rfl (by kernel_rfl) (by kernel_rfl) (by kernel_rfl) (fun _ _ _ h => h) (Or.inl ⟨by rfl, ?_⟩) hHeld ?_
  rotate_left
  · (intro v hv; (try obtain ⟨hv0, hv1, hv2⟩ := hv); go_simp; try (with_reducible rfl))
  (try simp only [List.setIfInBounds_toArray, List.set_cons_zero, List.set_cons_succ])
  refine takeD (i := 7) (v := ?_) rfl rfl (by kernel_rfl) (by kernel_rfl) (by kernel_rfl) (fun _ _ _ h => h) (Or.inl ⟨by rfl, ?_⟩) hHeld ?_
  rotate_left
  · (intro v hv; (try obtain ⟨hv0, hv1, hv2⟩ := hv); go_simp; try (with_reducible rfl))
  (try simp only [List.setIfInBounds_toArray, List.set_cons_zero, List.set_cons_succ])
  refine takeD (i := 8) (v := ?_) rfl rfl (by kernel_rfl) (by kernel_rfl) (by kernel_rfl) (fun _ _ _ h => h) (Or.inl ⟨by rfl, ?_⟩) hHeld ?_
  rotate_left
  · (intro v hv; (try obtain ⟨hv0, hv1, hv2⟩ := hv); go_simp; try (with_reducible rfl))
  (try simp only [List.setIfInBounds_toArray, List.set_cons_zero, List.set_cons_succ])
  refine wpAnyH_ready (rs := [4]) (by kernel_rfl) (by simp) ?_
  refine AllReadyH.cons rfl (fun K hK => ?_) AllReadyH.nil
  go_simp
  refine (HCS.out _ hHeld.1).mono ?_
  rintro e v1 ⟨a_s, c_s, rfl, ho1, hx1⟩
  have HR3 := Lib.hid ((HR2.out.ext ((Ext.refl u1).drew)).ext hx1)
  have HO1 := Lib.hid ho1
  refine hK.out _ _ (HALL.out _ (hHeld.1.trans hx1)) (fun hHeld => ?_)
  clear hK
  refine wpAnyH_ready (rs := [9]) (by kernel_rfl) (by simp) ?_
  refine AllReadyH.cons rfl (fun K hK => ?_) AllReadyH.nil
  go_simp
  refine (HCW.out _ hHeld.1).mono ?_
  rintro e v2 ⟨a_w, c_w, rfl, ho2, hx2⟩
  have HR4 := Lib.hid (HR3.out.ext hx2)
  have HO2 := Lib.hid ho2
  have HO3 := Lib.hid (ownS_ext HO1.out hx2)
  refine hK.out _ _ (HALL.out _ (hHeld.1.trans hx2)) (fun hHeld => ?_)
  clear hK
  refine takeD (i := 10) (v := ?_) rfl rfl (by kernel_rfl) (by kernel_rfl) (by kernel_rfl) (fun _ _ _ h => h) (Or.inl ⟨by rfl, ?_⟩) hHeld ?_
  rotate_left
  · (intro v hv; (try obtain ⟨hv0, hv1, hv2⟩ := hv); go_simp; try (with_reducible rfl))
  (try simp only [List.setIfInBounds_toArray, List.set_cons_zero, List.set_cons_succ])
  have k0 := (HR4.out.cell? 0).trans rfl
  have f0 := HR4.out.frozen 0
  refine wpAnyH_ready (rs := [11]) (by kernel_rfl) (by simp) ?_
  refine AllReadyH.cons rfl (fun K hK => ?_) AllReadyH.nil
  go_simp
  have HR5 := Lib.hid (Row.set HR4.out 0 (.slice a_s D.secs.length c_s))
  have B5 := By.set v2 gn 0 (.slice a_s D.secs.length c_s)
  have X5 := Ext.setCell hHeld.1 (p := ⟨gn, 0, none⟩) (by rw [HGN.out]; exact Nat.le_refl _) (.slice a_s D.secs.length c_s)
  generalize v2.setCell ⟨gn, 0, none⟩ (.slice a_s D.secs.length c_s) = v3 at *
  refine hK.out _ _ (HALL.out _ X5) (fun hHeld => ?_)
  clear hK k0 f0
  refine takeD (i := 12) (v := ?_) rfl rfl (by kernel_rfl) (by kernel_rfl) (by kernel_rfl) (fun _ _ _ h => h) (Or.inl ⟨by rfl, ?_⟩) hHeld ?_
  rotate_left
  · (intro v hv; (try obtain ⟨hv0, hv1, hv2⟩ := hv); go_simp; try (with_reducible rfl))
  (try simp only [List.setIfInBounds_toArray, List.set_cons_zero, List.set_cons_succ])
  have k1 := (HR5.out.cell? 1).trans rfl
  have f1 := HR5.out.frozen 1
  refine wpAnyH_ready (rs := [13]) (by kernel_rfl) (by simp) ?_
  refine AllReadyH.cons rfl (fun K hK => ?_) AllReadyH.nil
  go_simp
  have HR6 := Lib.hid (Row.set HR5.out 1 (.slice a_w D.waits.length c_w))
  have B6 := B5.trans (By.set v3 gn 1 (.slice a_w D.waits.length c_w))
  have X6 := Ext.setCell X5 (p := ⟨gn, 1, none⟩) (by rw [HGN.out]; exact Nat.le_refl _) (.slice a_w D.waits.length c_w)
  generalize v3.setCell ⟨gn, 1, none⟩ (.slice a_w D.waits.length c_w) = v4 at *
  refine hK.out _ _ (HALL.out _ X6) (fun hHeld => ?_)
  clear hK k1 f1
  refine wpAnyH_done (by kernel_rfl) ?_ _
  have hgu : gn < u1.heap.size := HR2.out.lt
  have hs1 := ownS_lt HO3.out
  have hw1 := ownS_lt HO2.out
  have hx1s := hx1.size
  have huz := HXR.out.size
  have hdz : u1.drew.heap.size = u1.heap.size := by simp
  obtain ⟨gs', hgs'⟩ : ∃ q, a_s = some ⟨q, 0, none⟩ := by
    rcases ownS_cases HO3.out with ⟨_, e, _⟩ | ⟨q, M, e, _⟩
    · omega
    · exact ⟨q, e⟩
  subst hgs'
  have hgs2 := hs1 _ rfl
  dsimp only at hgs2
  have hgs3 : gs' < v1.heap.size := by
    have := ownS_lt HO1.out _ rfl
    exact this.2
  have HFIN := Lib.hid (show At u gn gs' c_s D v4 from ⟨X6, a_w, c_w, by simpa using HR6.out,
    ownS_base (ownS_block HO3.out (fun ad e => B6.block _ (hs1 ad e).2 (by cases e; simp; omega))) (by omega),
    ownS_base (ownS_block HO2.out (fun ad e => B6.block _ (hw1 ad e).2 (by have := (hw1 ad e).1; simp; omega))) (by omega),
    by rw [HGN.out]; exact Nat.le_refl _,
    fun ad e => by cases e; dsimp only; omega,
    fun ad e => by have := (hw1 ad e).1; omega,
    fun ad ad' e e' => by cases e; dsimp only; have := (hw1 ad' e').1; omega⟩)
  go_wp2
  go_ret
  exact ⟨gn, gs', c_s, rfl, HFIN.out⟩
end Go.Proofs.Ytfonkicpjkcchaa.Dk
