/- JournalAtomic: what is plain. -/
import Derived.Test.YtfodpphbdbeciaaJnAgain
import Derived.Lib.ConvBytes
namespace Go.Proofs.Ytfodpphbdbeciaa.Jn
open Go.RowKit Words Mem Plain Ops Agg OwnS Dk
set_option maxRecDepth 100000
set_option linter.ambiguousOpen false
set_option linter.unusedVariables false
set_option linter.unusedSimpArgs false

/-! A sector's place in the first sectors' bytes. -/
theorem flat_get {f : Nat → List Int} (hf : ∀ k, (f k).length = 64) : ∀ (n i : Nat), i < 64 * n → ((List.range n).flatMap f)[i]? = (f (i / 64))[i % 64]?
  | 0, i, h => by omega
  | n + 1, i, h => by
    have hl : ((List.range n).flatMap f).length = 64 * n := by
      clear h
      induction n with
      | zero => rfl
      | succ n ih => rw [List.range_succ, List.flatMap_append, List.length_append, ih]; simp [hf]; omega
    rw [List.range_succ, List.flatMap_append]
    by_cases hi : i < 64 * n
    · rw [List.getElem?_append_left (by rw [hl]; exact hi)]
      exact flat_get hf n i hi
    · rw [List.getElem?_append_right (by rw [hl]; omega), hl, show i / 64 = n by omega]
      simp only [List.flatMap_cons, List.flatMap_nil, List.append_nil]
      congr 1
      omega
theorem nowB_len (Z : List Sec) : (nowB Z).length = 768 := nowK_len Z 12
theorem nowB_get (Z : List Sec) {i : Nat} (h : i < 768) : (nowB Z)[i]? = (pad64 (sg Z (i / 64)).bs)[i % 64]? := flat_get (fun k => pad64_len _) 12 i (by omega)
theorem nowB_set {Z : List Sec} (hZ : Z.length = 60) {k : Nat} (hk : k < 12) {bs : List Int} (hb : bs.length = 64) (tag : Int) : nowB (setS Z ⟨k, bs, tag⟩) = (nowB Z).take (64 * k) ++ bs ++ (nowB Z).drop (64 * k + 64) := by
  refine List.ext_getElem? (fun i => ?_)
  by_cases hi : i < 768
  · rw [nowB_get _ hi]
    have hsg : sg (setS Z ⟨k, bs, tag⟩) (i / 64) = if i / 64 = k then ⟨bs, tag⟩ else sg Z (i / 64) := by
      unfold setS
      rw [sg_set]
      by_cases e : i / 64 = k
      · rw [if_pos ⟨by show i / 64 = ((k : Int)).toNat; rw [Int.toNat_natCast]; exact e, by show ((k : Int)).toNat < _; rw [Int.toNat_natCast, hZ]; omega⟩, if_pos e]
      · rw [if_neg (fun h => e (by have h1 : i / 64 = ((k : Int)).toNat := h.1; rwa [Int.toNat_natCast] at h1)), if_neg e]
    have hlt : ((nowB Z).take (64 * k)).length = 64 * k := by rw [List.length_take, nowB_len]; omega
    rw [hsg, List.append_assoc]
    by_cases h1 : i < 64 * k
    · rw [if_neg (by omega), List.getElem?_append_left (by rw [hlt]; exact h1), List.getElem?_take, if_pos h1, nowB_get _ hi]
    · rw [List.getElem?_append_right (by rw [hlt]; omega), hlt]
      by_cases h2 : i < 64 * k + 64
      · rw [if_pos (by omega), List.getElem?_append_left (by rw [hb]; omega), pad64_of hb]
        congr 1
        omega
      · rw [if_neg (by omega), List.getElem?_append_right (by rw [hb]; omega), List.getElem?_drop, nowB_get _ (by omega), hb]
        rw [show 64 * k + 64 + (i - 64 * k - 64) = i by omega]
  · rw [List.getElem?_eq_none (by rw [nowB_len]; omega), List.getElem?_eq_none]
    rw [List.length_append, List.length_append, List.length_take, List.length_drop, nowB_len, hb]
    omega
theorem nowB_bytes {D : Dsk} {b : Nat} (h : D.Wf b) (hl : D.secs.length = 60) : isBytes (nowB D.secs) := fun x hx => by
  obtain ⟨k, hk, hx⟩ := List.mem_flatMap.1 hx
  have hk := List.mem_range.1 hk
  have hm : sg D.secs k ∈ D.secs := by rw [sg_eq _ _ (by omega)]; exact List.getElem_mem _
  have hw := h.secs _ hm
  rw [pad64_of hw.1] at hx
  exact hw.2.1 x hx

/-! The sets that are taken. -/
def keepF (P : List (Int × Int)) (s : Int × Int) : List (Int × Int) := if 0 ≤ s.1 ∧ s.1 < 12 ∧ P.length < 40 then P ++ [s] else P
theorem keep_fold : ∀ (S P : List (Int × Int)), (P.length ≤ 40 ∧ ∀ s ∈ P, 0 ≤ s.1 ∧ s.1 ≤ 11 ∧ 0 ≤ s.2 ∧ s.2 ≤ 255) → (∀ s ∈ S, 0 ≤ s.2 ∧ s.2 ≤ 255) → ((S.foldl keepF P).length ≤ 40 ∧ ∀ s ∈ S.foldl keepF P, 0 ≤ s.1 ∧ s.1 ≤ 11 ∧ 0 ≤ s.2 ∧ s.2 ≤ 255)
  | [], P, h, _ => h
  | s :: S, P, h, hS => by
    rw [List.foldl_cons]
    refine keep_fold S _ ?_ (fun t ht => hS t (List.mem_cons_of_mem _ ht))
    unfold keepF
    split
    · rename_i hc
      refine ⟨by rw [List.length_append]; simp; omega, fun t ht => ?_⟩
      rcases List.mem_append.1 ht with ht | ht
      · exact h.2 t ht
      · rw [List.mem_singleton.1 ht]
        have := hS s List.mem_cons_self
        omega
    · exact h
theorem patches_first {P : List (Int × Int)} (h : ∀ s ∈ P, 0 ≤ s.1 ∧ s.1 ≤ 11 ∧ 0 ≤ s.2 ∧ s.2 ≤ 255) : firstP (patchesP P) := fun p hp => by
  obtain ⟨s, hs, rfl⟩ := List.mem_map.1 hp
  have := h s hs
  exact ⟨⟨allB_bytes ⟨this.2.2.1, this.2.2.2⟩, this.2.2.1, by show s.2 ≤ 65535; omega⟩, this.1, this.2.1, allB_len _⟩

/-! The law's disk between acts. -/
def AInv (D : Dsk) (s m : Nat) (W M : List Int) : Prop := s ≤ m ∧ ((D.dead = false ∧ D.waits = [] ∧ D.secs.length = 60 ∧ Rest D.secs s ∧ nowB D.secs = W) ∨ (D.dead = true ∧ CrashE D m (fun V => V = W ∨ V = M)))
theorem AInv.more {D : Dsk} {s m n : Nat} {W M : List Int} (h : AInv D s m W M) (hn : m ≤ n) : AInv D s n W M :=
  ⟨Nat.le_trans h.1 hn, h.2.imp id (fun h => ⟨h.1, h.2.mono (by omega) (fun _ h => h)⟩)⟩
theorem ainv_commit {D : Dsk} {s m : Nat} {W M : List Int} (h : AInv D s m W M) (hd : D.dead = false) (hm : m ≤ 100000) {P : List (Int × Int)} (hP : P.length ≤ 40 ∧ ∀ s ∈ P, 0 ≤ s.1 ∧ s.1 ≤ 11 ∧ 0 ≤ s.2 ∧ s.2 ≤ 255) :
    ∃ s' : Nat, (commitR D 12 (47 + 1 : Nat) s (patchesP P)).2.1 = s' ∧ (((commitR D 12 (47 + 1 : Nat) s (patchesP P)).2.2 = 0 ∧ (commitR D 12 (47 + 1 : Nat) s (patchesP P)).1.dead = false ∧ AInv (commitR D 12 (47 + 1 : Nat) s (patchesP P)).1 s' (m + 1) (nowB ((patchesP P).foldl setS D.secs)) (nowB ((patchesP P).foldl setS D.secs))) ∨
      ((commitR D 12 (47 + 1 : Nat) s (patchesP P)).2.2 = 6 ∧ (commitR D 12 (47 + 1 : Nat) s (patchesP P)).1.dead = true ∧ AInv (commitR D 12 (47 + 1 : Nat) s (patchesP P)).1 s' (m + 1) W (nowB ((patchesP P).foldl setS D.secs)))) := by
  obtain ⟨hs, ⟨h1, h2, h3, h4, h5⟩ | ⟨h1, _⟩⟩ := h
  · have hf := patches_first hP.2
    have hl : ((patchesP P).length : Int) ≤ roomN (47 + 1 : Nat) := by
      unfold patchesP
      rw [List.length_map, show roomN (47 + 1 : Nat) = 44 by decide]
      omega
    rcases commit_ends h1 h2 h3 (s := (s : Int)) (by omega) h4 (fun p hp => (hf p hp).1) with ⟨c, _, e, e0, ef⟩ | ⟨_, e, k1, k2, k3, k4, k5⟩ | ⟨_, e, k1, k2⟩
    · have hc := ef hf hl
      subst hc
      have hn := e0 rfl
      rw [e]
      refine ⟨s, rfl, .inl ⟨rfl, h1, by omega, .inl ⟨h1, h2, h3, h4, ?_⟩⟩⟩
      rw [hn]
      rfl
    · rw [e]
      exact ⟨s + 1, rfl, .inl ⟨rfl, k1, by omega, .inl ⟨k1, k2, k3, k4, k5⟩⟩⟩
    · rw [e]
      refine ⟨s, rfl, .inr ⟨rfl, k1, by omega, .inr ⟨k1, k2.mono (by omega) (fun V hV => ?_)⟩⟩⟩
      rw [h5] at hV
      exact hV
  · rw [hd] at h1; cases h1
theorem ainv_cut {D : Dsk} {s m : Nat} {W M : List Int} (h : AInv D s m W M) (n : Int) : AInv (cutR D n) s m W M := by
  obtain ⟨c1, c2, c3, c4⟩ := cut_dead D n
  obtain ⟨hs, ⟨h1, h2, h3, h4, h5⟩ | ⟨h1, h2⟩⟩ := h
  · exact ⟨hs, .inl ⟨by rw [c3]; exact h1, by rw [c2]; exact h2, by rw [c1]; exact h3, by rw [c1]; exact h4, by rw [c1]; exact h5⟩⟩
  · rw [c4 h1]
    exact ⟨hs, .inr ⟨h1, h2⟩⟩
/-- A crash, and the power that may fail again. -/
theorem ainv_crash {D : Dsk} {s m : Nat} {W M : List Int} (h : AInv D s m W M) (there n : Int) : ∃ (s' : Nat) (V : List Int), s' ≤ m ∧ (V = W ∨ V = M) ∧ (cutR (crashR D there) n).dead = false ∧ (cutR (crashR D there) n).waits = [] ∧ Ends (cutR (crashR D there) n).secs s' V := by
  obtain ⟨c1, c2, c3, c4⟩ := cut_dead (crashR D there) n
  rw [c1, c2, c3]
  obtain ⟨hs, ⟨h1, h2, h3, h4, h5⟩ | ⟨h1, h2⟩⟩ := h
  · exact ⟨s, W, hs, .inl rfl, rfl, rfl, by rw [crash_none h2]; exact h3, .inl ⟨by rw [crash_none h2]; exact h4, by rw [crash_none h2]; exact h5⟩⟩
  · obtain ⟨s', V, k1, k2, k3, k4⟩ := h2 there
    refine ⟨s'.toNat, V, by omega, k4, rfl, rfl, ?_⟩
    rw [show ((s'.toNat : Nat) : Int) = s' by omega]
    exact k3

/-! A row that a conversion has made: its mark stands behind its last cell. -/
theorem splice_step (L : List Value) (k : Nat) (v : Value) (vs : List Value) (h : k < L.length) : splice (L.set k v) (k + 1) vs = splice L k (v :: vs) := by
  unfold splice
  have e1 : (L.set k v).take (k + 1) = L.take k ++ [v] := by
    rw [List.take_set, List.take_succ_eq_append_getElem h, List.set_append_right _ _ (by rw [List.length_take]; omega)]
    rw [List.length_take, show k - min k L.length = 0 by omega]
    rfl
  rw [e1, List.drop_set_of_lt (by omega)]
  simp [Nat.add_assoc, Nat.add_comm]
  try omega
theorem storeF {P : Program} (g o : Nat) (t : TypeId) (N : Nat) : ∀ (vs : List Value) (i : Nat) (L : List Value) (w : World), w.heap[g]? = some (.cells L.toArray t (N, N + 1)) → L.length = N → o + i + vs.length ≤ N → (∀ v ∈ vs, v.oneCell' = true) →
    (storeCells ⟨g, o, none⟩ vs i).run P w = .ok () (w.setRow g (splice L (o + i) vs).toArray)
  | [], i, L, w, hg, _, _, _ => by
    rw [splice_nil, setRow_self w g L.toArray t (N, N + 1) hg]
    rfl
  | v :: vs, i, L, w, hg, hL, hl, h1 => by
    have hi : o + i < L.length := by simp at hl; omega
    have ha : (⟨g, o, none⟩ : Addr).add i = ⟨g, o + i, none⟩ := by unfold Addr.add; split <;> simp_all
    have hc : w.cell? ⟨g, o + i, none⟩ = some L[o + i] := by simp [World.cell?, hg, hi]
    have hf : w.frozen? ⟨g, o + i, none⟩ = false := by
      simp [World.frozen?, hg]
      omega
    have hs : (store ((⟨g, o, none⟩ : Addr).add i) v).run P w = .ok () (w.setRow g (L.set (o + i) v).toArray) := by
      rw [ha, run_store P w _ v _ (h1 v (by simp)), hc]
      simp [hf, setCell_eq_setRow w g (o + i) L.toArray t (N, N + 1) v hg]
    have ih := storeF (P := P) g o t N vs (i + 1) (L.set (o + i) v) (w.setRow g (L.set (o + i) v).toArray) (setRow_heap w g L.toArray _ t _ hg) (by rw [List.length_set]; exact hL) (by simp at hl; omega) (fun x hx => h1 x (by simp [hx]))
    simp only [storeCells, Sem.run_bind, hs, Result.andThen_ok, ih, setRow_setRow]
    rw [← Nat.add_assoc, splice_step L (o + i) v vs hi]
theorem copyF {P : Program} (w : World) (dT sT ty elem : TypeId) {g o N : Nat} (dCap : Nat) {a : Addr} (n sCap : Nat) {t : TypeId} {L xs : List Value}
    (hu : P.underlying dT = some (.slice elem)) (hs : (P.info? elem).map (·.size) = some 1) (hr : w.heap[g]? = some (.cells L.toArray t (N, N + 1))) (hN : L.length = N) (hx : Sl w (some a) xs) (hl : xs.length = n)
    (hfit : o + n ≤ N) (h1 : ∀ v ∈ xs, v.oneCell' = true) :
    (Builtin.copy_ #[dT, sT] ty #[.slice (some ⟨g, o, none⟩) n dCap, .slice (some a) n sCap]).run P w = .ok (goInt (n : Nat)) (w.setRow g (splice L o xs).toArray) := by
  have hld := run_loadCells_list (P := P) w a xs (fun j v hv => by
    have hj : j < xs.length := (List.getElem?_eq_some_iff.1 hv).1
    obtain ⟨ad, had, hcell⟩ := hx j hj
    cases had
    rw [hcell, ← hv]
    simp [hj])
  have hst := storeF (P := P) g o t N xs 0 L w hr hN (by omega) h1
  rw [hl] at hld
  cases hq : P.info? elem with
  | none => simp [hq] at hs
  | some i =>
    have hi : i.size = 1 := by simpa [hq] using hs
    have hmin : Nat.min n n = n := Nat.min_self n
    simp [Builtin.copy_, run_underlying hu, Builtin.lenOf, Builtin.firstCells, sizeOf, typeInfo, hq, hi, hmin, hld, hst]
/-- '[]byte(s)'. -/
theorem bytes_row (w : World) (e : TypeId) {W : List Int} (hb : isBytes W) : ∃ Zs : List Value, (Lib.bytesWorld w e (Ops.strOf W)).heap[w.heap.size]? = some (.cells (ints .u8 W ++ Zs).toArray e ((ints .u8 W ++ Zs).length, (ints .u8 W ++ Zs).length + 1)) ∧ Ext w (Lib.bytesWorld w e (Ops.strOf W)) := by
  refine ⟨List.replicate (grownCap w (Ops.strOf W).size 0 e - (Ops.strOf W).size) (.int .u8 0), ?_, ⟨rfl, rfl, rfl, by rw [Lib.bytesWorld_size]; omega, fun k hk => Lib.bytesWorld_at_old w e _ k hk⟩⟩
  have e1 : Lib.bytesCells w e (Ops.strOf W) = (ints .u8 W ++ List.replicate (grownCap w (Ops.strOf W).size 0 e - (Ops.strOf W).size) (Value.int .u8 0)).toArray := by
    apply Array.toList_inj.1
    unfold Lib.bytesCells
    rw [Array.toList_append, Array.toList_map, Array.toList_replicate]
    congr 1
    unfold Ops.strOf ints
    dsimp only
    rw [List.map_map]
    apply List.map_congr_left
    intro x hx
    have := hb x hx
    simp only [Function.comp]
    rw [UInt8.toNat_ofNat']
    congr 1
    omega
  rw [Lib.bytesWorld_at_new, e1]
  simp
theorem sl_heap {w : World} {g : Nat} {t : TypeId} {fr : Nat × Nat} {L Z : List Value} (h : w.heap[g]? = some (.cells (L ++ Z).toArray t fr)) : Sl w (some ⟨g, 0, none⟩) L := Sl.mk fun j hj => by
  unfold World.cell?
  rw [h]
  simp [List.getElem?_append_left hj, hj]
theorem run_slice_mid1 (w : World) (g n c lo hi : Nat) (h0 : lo ≤ hi) (h1 : hi ≤ c) (h2 : lo < c) :
    (Instr.slice 34 (.slice (some ⟨g, 0, none⟩) n c) (some (.int .i64 lo)) (some (.int .i64 hi)) none).run Try.prog w = .ok (.slice (some ⟨g, lo, none⟩) (hi - lo) (c - lo)) w := by
  have hsz : (sizeOf 5).run Try.prog w = .ok 1 w := by
    obtain ⟨i, hi, hi'⟩ := Option.map_eq_some_iff.1 (show (Try.prog.info? 5).map (·.size) = some 1 by kernel_rfl)
    simp [sizeOf, typeInfo, hi, hi', go_sem]
  have hne : ¬ c = lo := by omega
  have ha : (⟨g, 0, none⟩ : Addr).add lo = ⟨g, lo, none⟩ := by unfold Addr.add; split <;> simp_all
  simp [Instr.slice, run_underlying Try.underlying34, go_sem, hsz, h0, h1, hne, ha]
def setC (s : Int × Int) : List Value := [.int .i64 s.1, .int .u8 s.2]
theorem setC_len (s : Int × Int) : (setC s).length = 2 := rfl
theorem setC_one (s : Int × Int) : ∀ u ∈ setC s, u.oneCell' = true := by
  intro u hu
  simp [setC] at hu
  rcases hu with rfl | rfl <;> rfl
theorem setsIn_own {w : World} {base : Nat} {ap : Option Addr} {cp : Nat} {P : List (Int × Int)} (h : w.ownsRow base 53 2 (.slice ap P.length cp) P.length (flat setC P)) (hb : ∀ s ∈ P, 0 ≤ s.2 ∧ s.2 ≤ 255) : SetsIn w ap P.length P := by
  refine ⟨rfl, hb, fun h0 => ?_⟩
  obtain ⟨g, rfl, _⟩ := ownS_elem setC_len h rfl h0
  refine ⟨g, 0, rfl, fun i hi => ?_⟩
  obtain ⟨g', e, _, hr, _⟩ := ownS_elem setC_len h rfl hi
  cases e
  have h1 := hr 0 _ rfl
  have h2 := hr 1 _ rfl
  rw [Nat.zero_add]
  exact ⟨by simpa using h1, by simpa using h2⟩
theorem patches_take {P : List (Int × Int)} {q : Nat} (h : q < P.length) (Z : List Sec) : (patchesP (P.take (q + 1))).foldl setS Z = setS ((patchesP (P.take q)).foldl setS Z) ⟨P[q].1, allB P[q].2, P[q].2⟩ := by
  unfold patchesP
  rw [List.take_succ_eq_append_getElem h, List.map_append, List.foldl_append]
  rfl
end Go.Proofs.Ytfodpphbdbeciaa.Jn
