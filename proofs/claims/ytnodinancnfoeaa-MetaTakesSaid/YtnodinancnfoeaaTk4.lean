/- MtH; MtSh; MtCp; MtSS; RSame; MtSame; MtIn; MtW -/
import Derived.Test.YtnodinancnfoeaaTk3
import Derived.Test.YtnodinancnfoeaaTk1
import Derived.Deep.RegionHeld3
import Derived.Laws.StructEq
import Derived.Deep.Slices
import Derived.Lib.SmallJoins
import Derived.ChangeSame
import Derived.OpenShut
/- What is known of a new disk, plain; lists of lists of bytes; small and shown. -/
namespace Go.Proofs.Ytnodinancnfoeaa.Mt
open Go.RowKit Words Mem Plain Ops Agg OwnS Intern Ino
open Go.Proofs.Ytnodinancnfoeaa.Field
set_option linter.ambiguousOpen false
set_option linter.unusedVariables false
set_option linter.unusedSimpArgs false

theorem rows0 : Intern.rightB (List.replicate 16 (0, 0)) = true := by
  refine right_yes (by simp) (fun k hk => ?_)
  have e : ∀ j, rg (List.replicate 16 ((0 : Int), (0 : Int))) j = (0, 0) := fun j => by
    unfold rg
    rw [List.getD_eq_getElem?_getD, List.getElem?_replicate]
    split <;> rfl
  unfold goodAt
  rw [e k]
  exact ⟨by decide, by decide, fun _ => rfl, fun h => absurd h (by decide)⟩
theorem count0 (n : Nat) (x y : Int) : Bit.countN (List.replicate n 0) x y = 0 := by
  unfold Bit.countN Bit.countTo
  rw [List.length_eq_zero_iff, List.filter_eq_nil_iff]
  intro k _
  have : Bit.bitN (List.replicate n 0) k = false := by
    unfold Bit.bitN
    rw [List.getD_eq_getElem?_getD, List.getElem?_replicate]
    split <;> simp
  simp [Bit.inR, this]
theorem right0 {J P : Int} {G I : Nat} (h : Super.rightB J I G P = true) : rightM J I G P (newM G I) = true := by
  rw [rightM_of h rows0 (by simp [newM]) (by simp [newM]) (by simp [newM])]
  have e : (newM G I).used = List.replicate 64 0 := rfl
  rw [e, count0]
  simp [newM, ownB]
  exact Or.inr (by decide +kernel)
theorem pairs0 : ∀ q : Nat, pairsI (List.replicate (2 * q) Ino.zero) = List.replicate q (List.replicate 64 0)
  | 0 => rfl
  | q + 1 => by
    rw [show 2 * (q + 1) = 2 * q + 1 + 1 by omega, List.replicate_succ, List.replicate_succ]
    show (Ino.zero.bytes ++ Ino.zero.bytes) :: pairsI _ = _
    rw [pairs0 q, List.replicate_succ]
    congr 1
theorem sect0 {G q : Nat} (hg : G ≤ 64) : sectM (newM G (2 * q)) = List.replicate (3 + q) (List.replicate 64 0) := by
  unfold sectM ownersB
  have e1 : layed 2 (numsR (newM G (2 * q)).rows) = List.replicate 64 0 := by
    have : numsR (List.replicate 16 ((0 : Int), (0 : Int))) = List.replicate 32 0 := by decide +kernel
    show layed 2 (numsR (List.replicate 16 (0, 0))) = _
    rw [this, layed_zeros]
  have e2 : (newM G (2 * q)).owners ++ List.replicate (64 - (newM G (2 * q)).owners.length) 0 = List.replicate 64 (0 : Int) := by
    show List.replicate G (0 : Int) ++ List.replicate (64 - (List.replicate G (0 : Int)).length) 0 = _
    rw [List.length_replicate, List.replicate_append_replicate, show G + (64 - G) = 64 by omega]
  rw [e1, e2]
  show _ :: _ :: _ :: pairsI (List.replicate (2 * q) Ino.zero) = _
  rw [pairs0, show 3 + q = q + 1 + 1 + 1 by omega, List.replicate_succ, List.replicate_succ, List.replicate_succ]
  rfl
theorem lay0 {J P : Int} {G q : Nat} (h : Super.rightB J (2 * q : Nat) G P = true) : layM J (2 * q : Nat) G P (newM G (2 * q)) = (List.replicate (3 + q) (List.replicate 64 0), 0) := by
  unfold layM
  rw [if_pos (right0 h), sect0 (by have := Super.right_bd h; omega)]

/-- Lists of bytes that lie somewhere. -/
def LsIn (w : World) (a : Option Addr) (n : Nat) (L : List (List Int)) : Prop :=
  L.length = n ∧ (0 < n → ∃ b off, a = some ⟨b, off, none⟩ ∧ ∀ i (h : i < L.length), ∃ x m c, w.cell? ⟨b, off + i, none⟩ = some (.slice x m c) ∧ L[i].length = m ∧ m ≤ c ∧ c ≤ 9223372036854775807 ∧ Sl w x (ints .u8 L[i]) ∧ isBytes L[i] ∧ (x = none → m = 0 ∧ c = 0))
theorem LsIn.ext {w w' : World} {a : Option Addr} {n : Nat} {L : List (List Int)} (h : LsIn w a n L) (e : Ext w w') : LsIn w' a n L := by
  refine ⟨h.1, fun h0 => ?_⟩
  obtain ⟨b, off, ha, hi⟩ := h.2 h0
  refine ⟨b, off, ha, fun i hl => ?_⟩
  obtain ⟨x, m, c, h1, h2, h3, h3', h4, h5, h6⟩ := hi i hl
  exact ⟨x, m, c, e.keep h1, h2, h3, h3', h4.ext e, h5, h6⟩
theorem SecsAt.ls {w : World} {lo : Nat} {a : Option Addr} {n cap : Nat} {L : List (List Int)} (h : SecsAt w lo a n cap L) (hb : ∀ xs ∈ L, isBytes xs) : LsIn w a n L := by
  refine ⟨h.len, fun h0 => ?_⟩
  obtain ⟨h1, H, h2, h3, h4⟩ := h
  have hsl := ownsRow_sl h3
  have hHl : (slVs H).length = n := by simp [slVs, h2]
  obtain ⟨b, off, ha, hc⟩ := hsl.at (by omega)
  refine ⟨b, off, ha, fun i hl => ?_⟩
  have hi : i < H.length := by omega
  have hin := h4 i hi hl
  have hc1 := hc i (by omega)
  have e : (slVs H)[i]'(by omega) = slV H[i] := by simp [slVs]
  rw [e] at hc1
  have hcap := ownS_cap hin.own
  exact ⟨_, 64, _, hc1, hin.len, hcap.1, hcap.2, ownsRow_sl hin.own, hb _ (List.getElem_mem hl), fun e => by cases e⟩

theorem New_no (J I G P : Int) (w : World) (hr : Super.rightB J I G P = false) :
    Calls Try.prog 11 #[Super.geoV J I G P] w fun e w' => e = .returned (.tuple #[metaV nilP nilM, .int .i64 1]) ∧ Ext w w' := by
  have X1 := (Ext.refl w).alloc (.cells #[.int .i64 J, .int .i64 I, .int .i64 G, .int .i64 P] 23)
  have X2 := X1.alloc (.cells #[.slice none 0 0, .slice none 0 0, .slice none 0 0, .slice none 0 0] 29)
  have hrow2 := Row.new (w.alloc (.cells #[.int .i64 J, .int .i64 I, .int .i64 G, .int .i64 P] 23)) 29 [.slice none 0 0, .slice none 0 0, .slice none 0 0, .slice none 0 0]
  have hs1 : (w.alloc (.cells #[.int .i64 J, .int .i64 I, .int .i64 G, .int .i64 P] 23)).heap.size = w.heap.size + 1 := by simp
  rw [hs1] at hrow2
  have hgr := Super.Right_ok J I G P ((w.alloc (.cells #[.int .i64 J, .int .i64 I, .int .i64 G, .int .i64 P] 23)).alloc (.cells #[.slice none 0 0, .slice none 0 0, .slice none 0 0, .slice none 0 0] 29))
  rw [hr] at hgr
  have HX2 := Lib.hid X2
  have HROW2 := Lib.hid hrow2
  have hz := zeroMeta
  clear X1 X2 hrow2 hs1 hr
  go_enter Try.func11, Try.ntmps11
  go_wp2_with fail
  refine hgr.mono ?_
  rintro e w2 ⟨rfl, h2⟩
  have HX3 := Lib.hid (HX2.out.trans h2)
  have HR2 := Lib.hid (HROW2.out.ext h2)
  have k0 := (HR2.out.cell? 0).trans rfl
  have k1 := (HR2.out.cell? 1).trans rfl
  have k2 := (HR2.out.cell? 2).trans rfl
  have k3 := (HR2.out.cell? 3).trans rfl
  clear hgr h2 HROW2
  go_wp2_with (refine wpList_store_row rfl _ _ _ rfl (w.heap.size + 1) #[.slice none 0 0, .slice none 0 0, .slice none 0 0, .slice none 0 0] rfl rfl 29 _ HR2.out infoMeta rfl (by simp [Value.oneCell']) ?_)
  refine post_meta rfl (by rfl) (by rfl) (HR2.out.setRow #[.slice none 0 0, .slice none 0 0, .slice none 0 0, .slice none 0 0]) rfl ?_
  exact ⟨rfl, HX3.out.setRow (Nat.le_succ _) _⟩
theorem small_ok (p : Pl) (M : MetaT) (w : World) : Calls Try.prog 10 #[metaV p M] w fun e w' => e = .returned (.bool (decide (M.rows.length ≤ 100 ∧ M.owners.length ≤ 100 ∧ M.used.length ≤ 200 ∧ M.inodes.length ≤ 100))) ∧ Ext w w' := by
  have HX := Lib.hid ((Ext.refl w).alloc (.cells #[.slice p.ra M.rows.length p.rc, .slice p.oa M.owners.length p.oc, .slice p.ua M.used.length p.uc, .slice p.ia M.inodes.length p.ic] 29))
  obtain ⟨sb, hsb⟩ : ∃ q, q = decide (M.rows.length ≤ 100 ∧ M.owners.length ≤ 100 ∧ M.used.length ≤ 200 ∧ M.inodes.length ≤ 100) := ⟨_, rfl⟩
  rw [← hsb]
  have HSB := Lib.hid hsb
  clear hsb
  by_cases h1 : M.rows.length ≤ 100
  · by_cases h2 : M.owners.length ≤ 100
    · by_cases h3 : M.used.length ≤ 200
      · by_cases h4 : M.inodes.length ≤ 100
        · have HV := Lib.hid (show sb = true by rw [HSB.out]; simp; omega)
          have k1 : (M.rows.length : Int) ≤ 100 := by omega
          have k2 : (M.owners.length : Int) ≤ 100 := by omega
          have k3 : (M.used.length : Int) ≤ 200 := by omega
          have k4 : (M.inodes.length : Int) ≤ 100 := by omega
          go_enter Try.func10, Try.ntmps10
          go_wp2
          go_ret
          exact ⟨by rw [HV.out]; first | rfl | (show Ending.returned (.bool (decide ((M.inodes.length : Int) ≤ 100))) = _; simp only [k4, decide_true, decide_false]), HX.out⟩
        · have HV := Lib.hid (show sb = false by rw [HSB.out]; simp; omega)
          have k1 : (M.rows.length : Int) ≤ 100 := by omega
          have k2 : (M.owners.length : Int) ≤ 100 := by omega
          have k3 : (M.used.length : Int) ≤ 200 := by omega
          have k4 : ¬ (M.inodes.length : Int) ≤ 100 := by omega
          go_enter Try.func10, Try.ntmps10
          go_wp2
          go_ret
          exact ⟨by rw [HV.out]; first | rfl | (show Ending.returned (.bool (decide ((M.inodes.length : Int) ≤ 100))) = _; simp only [k4, decide_true, decide_false]), HX.out⟩
      · have HV := Lib.hid (show sb = false by rw [HSB.out]; simp; omega)
        have k1 : (M.rows.length : Int) ≤ 100 := by omega
        have k2 : (M.owners.length : Int) ≤ 100 := by omega
        have k3 : ¬ (M.used.length : Int) ≤ 200 := by omega
        go_enter Try.func10, Try.ntmps10
        go_wp2
        go_ret
        exact ⟨by rw [HV.out]; first | rfl | (show Ending.returned (.bool (decide ((M.inodes.length : Int) ≤ 100))) = _; simp only [k4, decide_true, decide_false]), HX.out⟩
    · have HV := Lib.hid (show sb = false by rw [HSB.out]; simp; omega)
      have k1 : (M.rows.length : Int) ≤ 100 := by omega
      have k2 : ¬ (M.owners.length : Int) ≤ 100 := by omega
      go_enter Try.func10, Try.ntmps10
      go_wp2
      go_ret
      exact ⟨by rw [HV.out]; first | rfl | (show Ending.returned (.bool (decide ((M.inodes.length : Int) ≤ 100))) = _; simp only [k4, decide_true, decide_false]), HX.out⟩
  · have HV := Lib.hid (show sb = false by rw [HSB.out]; simp; omega)
    have k1 : ¬ (M.rows.length : Int) ≤ 100 := by omega
    go_enter Try.func10, Try.ntmps10
    go_wp2
    go_ret
    exact ⟨by rw [HV.out]; first | rfl | (show Ending.returned (.bool (decide ((M.inodes.length : Int) ≤ 100))) = _; simp only [k4, decide_true, decide_false]), HX.out⟩
end Go.Proofs.Ytnodinancnfoeaa.Mt
/- moatlaw14's shown (printed by gen_sh14.py). -/
namespace Go.Proofs.Ytnodinancnfoeaa.Mt
open Go.RowKit Words Mem Plain Ops Agg OwnS Intern Ino
open Go.Proofs.Ytnodinancnfoeaa.Field
set_option linter.ambiguousOpen false
set_option linter.unusedVariables false
set_option linter.unusedSimpArgs false

theorem conv8 (v : World) {a : Option Addr} {n : Nat} (c : Nat) {xs : List Int} (h : Sl v a (ints .u8 xs)) (hl : xs.length = n) : (convert 26 9 (.slice a n c)).run Try.prog v = .ok (.string (strOf xs)) v :=
  run_conv_str (P := Try.prog) v 26 9 5 Try.underlying26 Try.underlying5 Try.underlying9 c h hl
theorem zeroGeo (w : World) : (zeroValue 23).run Try.prog w = .ok (.agg #[.int .i64 0, .int .i64 0, .int .i64 0, .int .i64 0]) w := by kernel_rfl
theorem infoGeo4 : (Try.prog.info? 23).map (·.size) = some 4 := by kernel_rfl
theorem zeros_bytes (n : Nat) : ∀ xs ∈ List.replicate n (List.replicate 64 (0 : Int)), isBytes xs := fun xs hx => by
  obtain rfl := List.eq_of_mem_replicate hx
  intro x hx
  obtain rfl := List.eq_of_mem_replicate hx
  decide
/-- One of some sectors of bytes 0. -/
theorem ls_zero {w : World} {a : Option Addr} {n m : Nat} (h : LsIn w a n (List.replicate m (List.replicate 64 0))) {k : Nat} (hk : k < n) : ∃ b off x c, a = some ⟨b, off, none⟩ ∧ w.cell? ⟨b, off + k, none⟩ = some (.slice x 64 c) ∧ Sl w x (ints .u8 (List.replicate 64 0)) := by
  have hl := h.1
  obtain ⟨b, off, ha, hi⟩ := h.2 (by omega)
  obtain ⟨x, m', c, h1, h2, _, _, h4, _, _⟩ := hi k (by omega)
  rw [List.getElem_replicate] at h2 h4
  rw [List.length_replicate] at h2
  subst h2
  exact ⟨b, off, x, c, ha, h1, h4⟩
set_option maxHeartbeats 8000000 in
set_option maxRecDepth 100000 in
theorem shown_ok (w : World) : Calls Try.prog 9 #[] w fun e w' => e = .returned (.bool true) ∧ Ext w w' := by
  have hr : Super.rightB 20 8 2 4 = true := by decide +kernel
  have hnew := New_yes 20 4 2 8 (w.alloc (.cells #[.int .i64 20, .int .i64 8, .int .i64 2, .int .i64 4] 23)) hr
  have hnew : Calls Try.prog 11 #[.agg #[.int .i64 20, .int .i64 8, .int .i64 2, .int .i64 4]] (w.alloc (.cells #[.int .i64 20, .int .i64 8, .int .i64 2, .int .i64 4] 23)) _ := hnew
  have hl0 := lay0 (J := 20) (P := 4) (G := 2) (q := 4) hr
  have HL0 := Lib.hid hl0
  have HX1 := Lib.hid ((Ext.refl w).alloc (.cells #[.int .i64 20, .int .i64 8, .int .i64 2, .int .i64 4] 23))
  have HR1 := Lib.hid (Row.new w 23 [.int .i64 20, .int .i64 8, .int .i64 2, .int .i64 4])
  have hz := zeroGeo
  have hz2 := zeroMeta
  clear hr hl0
  go_enter Try.func9, Try.ntmps9
  go_wp2_with fail
  refine hnew.mono ?_
  rintro e w2 ⟨p, rfl, hin, h2⟩
  have HIN := Lib.hid hin
  have HX2 := Lib.hid (HX1.out.trans h2)
  have HR2 := Lib.hid (HR1.out.ext h2)
  have hX3 := (Ext.refl w2).alloc (.cells #[.slice p.ra 16 p.rc, .slice p.oa 2 p.oc, .slice p.ua 64 p.uc, .slice p.ia 8 p.ic] 29)
  have HR3 := Lib.hid (HR2.out.ext hX3)
  have HM3 := Lib.hid (Row.new w2 29 [.slice p.ra 16 p.rc, .slice p.oa 2 p.oc, .slice p.ua 64 p.uc, .slice p.ia 8 p.ic])
  have hlay := Lay_ok 20 8 2 4 p (newM 2 8) _ (hin.ext hX3)
  have HX3 := Lib.hid (HX2.out.trans hX3)
  have g0 := (HR3.out.cell? 0).trans rfl
  have g1 := (HR3.out.cell? 1).trans rfl
  have g2 := (HR3.out.cell? 2).trans rfl
  have g3 := (HR3.out.cell? 3).trans rfl
  have hl8 : layM 20 8 2 4 (newM 2 8) = (List.replicate 7 (List.replicate 64 0), 0) := HL0.out
  rw [hl8] at hlay
  have hlay : Calls Try.prog 13 #[.agg #[.int .i64 20, .int .i64 8, .int .i64 2, .int .i64 4], .agg #[.slice p.ra 16 p.rc, .slice p.oa 2 p.oc, .slice p.ua 64 p.uc, .slice p.ia 8 p.ic]] (w2.alloc (.cells #[.slice p.ra 16 p.rc, .slice p.oa 2 p.oc, .slice p.ua 64 p.uc, .slice p.ia 8 p.ic] 29)) _ := hlay
  clear hnew hin h2 hX3 hl8
  rw [show metaV p (newM 2 8) = .agg #[.slice p.ra 16 p.rc, .slice p.oa 2 p.oc, .slice p.ua 64 p.uc, .slice p.ia 8 p.ic] from rfl]
  go_wp2_with fail
  refine hlay.mono ?_
  rintro e w4 ⟨a, cap, rfl, hS, h4⟩
  dsimp only at hS ⊢
  rw [List.length_replicate] at hS ⊢
  have HLS := Lib.hid (hS.ls (zeros_bytes 7))
  have HX4 := Lib.hid (HX3.out.trans h4)
  have HM4 := Lib.hid (HM3.out.ext h4)
  have k0 := (HM4.out.cell? 0).trans rfl
  have k1 := (HM4.out.cell? 1).trans rfl
  have k2 := (HM4.out.cell? 2).trans rfl
  have k3 := (HM4.out.cell? 3).trans rfl
  clear hlay hS h4 g0 g1 g2 g3
  go_wp2_with fail
  go_loopw [56] (fun v wr => ∃ k : Nat, k ≤ 7 ∧ v = .int .i64 k ∧ Ext w4 wr) (fun v _ => 7 - (intOf v).toNat)
  case atStart => exact ⟨0, by omega, rfl, Ext.refl _⟩
  case round =>
    obtain ⟨k, hk, rfl, hX⟩ := hrel
    have HX := Lib.hid hX
    clear hX k0 k1 k2 k3
    by_cases hlt : k < 7
    · obtain ⟨ob, oo, sx, scx, rfl, hoc, hsx⟩ := ls_zero (HLS.out.ext HX.out) hlt
      have hk7 : (k : Int) < 7 := by omega
      obtain ⟨S0, hS0⟩ : ∃ q, q = strOf (List.replicate 64 0) := ⟨_, rfl⟩
      have HS0 := Lib.hid hS0
      have hq1 : (S0.toList == S0.toList) = true := by simp
      have HALL := Lib.hid (show ∀ v : World, Ext wr v → (Ext wr v ∧ v.cell? ⟨ob, oo + k, none⟩ = some (.slice sx 64 scx) ∧ (convert 26 9 (.slice sx 64 scx)).run Try.prog v = .ok (.string S0) v) from fun v hv => ⟨hv, hv.keep hoc, by rw [hS0]; exact conv8 v scx (hsx.ext hv) (by simp)⟩)
      clear hS0 hoc hsx
      go_wp2_with fail
      refine wp_region_held_drew (S := (fun v => Ext wr v ∧ v.cell? ⟨ob, oo + k, none⟩ = some (.slice sx 64 scx) ∧ (convert 26 9 (.slice sx 64 scx)).run Try.prog v = .ok (.string S0) v)) (by kernel_rfl) (HALL.out _ ((Ext.refl _).drew)) (fun hHeld => ?_)
      generalize wr.drew = v0 at *
      refine takeD (i := 0) (v := ?_) rfl rfl (by kernel_rfl) (by kernel_rfl) (by kernel_rfl) (fun _ _ _ h => h) (Or.inl ⟨by rfl, ?_⟩) hHeld ?_
      rotate_left
      · (intro v hv; (try obtain ⟨hv0, hv1, hv2⟩ := hv); go_simp; try (with_reducible rfl))
      (try simp only [List.setIfInBounds_toArray, List.set_cons_zero, List.set_cons_succ])
      refine takeD (i := 1) (v := ?_) rfl rfl (by kernel_rfl) (by kernel_rfl) (by kernel_rfl) (fun _ _ _ h => h) (Or.inl ⟨by rfl, ?_⟩) hHeld ?_
      rotate_left
      · (intro v hv; (try obtain ⟨hv0, hv1, hv2⟩ := hv); go_simp; try (with_reducible rfl))
      (try simp only [List.setIfInBounds_toArray, List.set_cons_zero, List.set_cons_succ])
      refine takeD (i := 2) (v := ?_) rfl rfl (by kernel_rfl) (by kernel_rfl) (by kernel_rfl) (fun _ _ _ h => h) (Or.inl ⟨by rfl, ?_⟩) hHeld ?_
      rotate_left
      · (intro v hv; (try obtain ⟨hv0, hv1, hv2⟩ := hv); go_simp; try (with_reducible rfl))
      (try simp only [List.setIfInBounds_toArray, List.set_cons_zero, List.set_cons_succ])
      refine takeD (i := 3) (v := ?_) rfl rfl (by kernel_rfl) (by kernel_rfl) (by kernel_rfl) (fun _ _ _ h => h) (Or.inl ⟨by rfl, ?_⟩) hHeld ?_
      rotate_left
      · (intro v hv; (try obtain ⟨hv0, hv1, hv2⟩ := hv); go_simp; try (with_reducible rfl))
      (try simp only [List.setIfInBounds_toArray, List.set_cons_zero, List.set_cons_succ])
      refine takeD (i := 4) (v := (.string S0)) rfl rfl (by kernel_rfl) (by kernel_rfl) (by kernel_rfl) (fun _ _ _ h => h) (Or.inl ⟨by rfl, ?_⟩) hHeld ?_
      · (intro v hv; (try obtain ⟨hv0, hv1, hv2⟩ := hv); go_simp; try (with_reducible rfl))
      (try simp only [List.setIfInBounds_toArray, List.set_cons_zero, List.set_cons_succ])
      have hmk := run_make_ints (P := Try.prog) v0 26 5 .u8 1 Try.underlying26 infoBC .i64 .i64 64 64 rfl (by decide) (by decide)
      have hrow5 := Row.new v0 5 (ints .u8 (List.replicate 64 0))
      have hX5 := (Ext.refl v0).alloc (.cells (ints .u8 (List.replicate 64 0)).toArray 5)
      obtain ⟨b5, hb5⟩ : ∃ q, q = v0.heap.size := ⟨_, rfl⟩
      rw [← hb5] at hmk hrow5
      clear hb5
      generalize v0.alloc (.cells (ints .u8 (List.replicate 64 0)).toArray 5) = v1 at *
      have cv5 := conv8 v1 64 hrow5.sl0 (by simp : (List.replicate 64 (0 : Int)).length = 64)
      rw [← HS0.out] at cv5
      refine wpAnyH_ready (rs := [5]) (by kernel_rfl) (by simp) ?_
      refine AllReadyH.cons rfl (fun K hK => ?_) AllReadyH.nil
      go_simp
      refine hK.out _ _ (HALL.out _ (hHeld.1.trans hX5)) (fun hHeld => ?_)
      clear hK
      refine wpAnyH_ready (rs := [6]) (by kernel_rfl) (by simp) ?_
      refine AllReadyH.cons rfl (fun K hK => ?_) AllReadyH.nil
      go_simp
      refine hK.out _ _ hHeld (fun hHeld => ?_)
      clear hK
      refine takeD (i := 7) (v := ?_) rfl rfl (by kernel_rfl) (by kernel_rfl) (by kernel_rfl) (fun _ _ _ h => h) (Or.inl ⟨by rfl, ?_⟩) hHeld ?_
      rotate_left
      · (intro v hv; (try obtain ⟨hv0, hv1, hv2⟩ := hv); go_simp; try (with_reducible rfl))
      (try simp only [List.setIfInBounds_toArray, List.set_cons_zero, List.set_cons_succ])
      refine wpAnyH_done (by kernel_rfl) ?_ _
      have HH := Lib.hid hHeld
      clear hHeld hmk hrow5 hX5 cv5
      go_wp2
      go_roundw
      case rel => exact ⟨k + 1, hlt, by go_num, HX.out.trans HH.out.1⟩
      case measure => simp [intOf]; omega
    · obtain rfl : k = 7 := by omega
      go_wp2
      go_ret
      exact ⟨rfl, HX4.out.trans HX.out⟩
end Go.Proofs.Ytnodinancnfoeaa.Mt
/- meta.Copy (printed by gen_cp14.py). -/
namespace Go.Proofs.Ytnodinancnfoeaa.Mt
open Go.RowKit Words Mem Plain Ops Agg OwnS Intern Ino
open Go.Proofs.Ytnodinancnfoeaa.Field
set_option linter.ambiguousOpen false
set_option linter.unusedVariables false
set_option linter.unusedSimpArgs false

theorem flat_one {α : Type} {f : α → List Value} (h : ∀ x, ∀ u ∈ f x, u.oneCell' = true) (L : List α) : ∀ u ∈ flat f L, u.oneCell' = true := by
  intro u hu
  unfold flat at hu
  obtain ⟨x, _, hx⟩ := List.mem_flatMap.1 hu
  exact h x u hx
theorem ownS_sl {w : World} {base n s cap : Nat} {t : TypeId} {a : Option Addr} {xs : List Value} (h : w.ownsRow base t s (.slice a n cap) n xs) : Sl w a xs := by
  rcases ownS_cases h with ⟨_, _, _, rfl⟩ | ⟨g, M, rfl, _, h3, _, _, _, h7⟩
  · exact Sl.nil _ _
  · refine Sl.mk fun j hj => ?_
    rw [Nat.zero_add, h3.cell?]
    have hx : (M.take (n * s))[j]? = some xs[j] := by rw [h7]; exact List.getElem?_eq_getElem hj
    rw [List.getElem?_take] at hx
    split at hx
    · exact hx
    · cases hx
theorem ownS_nilcap {w : World} {base n s cap : Nat} {t : TypeId} {a : Option Addr} {xs : List Value} (h : w.ownsRow base t s (.slice a n cap) n xs) : a = none → n = 0 ∧ cap = 0 := by
  intro e
  rcases ownS_cases h with ⟨_, h1, h2, _⟩ | ⟨g, M, e2, _⟩
  · exact ⟨h1, h2⟩
  · rw [e] at e2; cases e2
def apart (a b : Option Addr) : Prop := ∀ x y, a = some x → b = some y → x.block ≠ y.block
/-- What is known, in memory of one's own. -/
structure MetaAt (w : World) (lo : Nat) (p : Pl) (M : MetaT) : Prop where
  rows : w.ownsRow lo 45 2 (.slice p.ra M.rows.length p.rc) M.rows.length (rowsC M.rows)
  owners : w.ownsRow lo 3 1 (.slice p.oa M.owners.length p.oc) M.owners.length (ints .i64 M.owners)
  used : w.ownsRow lo 5 1 (.slice p.ua M.used.length p.uc) M.used.length (ints .u8 M.used)
  inodes : w.ownsRow lo 48 14 (.slice p.ia M.inodes.length p.ic) M.inodes.length (flat inoC M.inodes)
  wfr : wfR M.rows
  bu : isBytes M.used
  wfi : ∀ n ∈ M.inodes, n.wf
  few : M.rows.length ≤ 1000 ∧ M.owners.length ≤ 1000 ∧ M.used.length ≤ 1000 ∧ M.inodes.length ≤ 1000
  sep : (apart p.ra p.oa ∧ apart p.ra p.ua ∧ apart p.ra p.ia) ∧ (apart p.oa p.ua ∧ apart p.oa p.ia) ∧ apart p.ua p.ia
theorem MetaAt.in_ {w : World} {lo : Nat} {p : Pl} {M : MetaT} (h : MetaAt w lo p M) : MetaIn w p M :=
  ⟨ownS_sl h.rows, ownS_sl h.owners, ownS_sl h.used, ownS_sl h.inodes, h.wfr, h.bu, h.wfi, h.few, ownS_nilcap h.rows, ownS_nilcap h.owners, ownS_nilcap h.used, ownS_nilcap h.inodes⟩
theorem MetaAt.ext {w w' : World} {lo : Nat} {p : Pl} {M : MetaT} (h : MetaAt w lo p M) (e : Ext w w') : MetaAt w' lo p M :=
  ⟨ownS_ext h.rows e, ownS_ext h.owners e, ownS_ext h.used e, ownS_ext h.inodes e, h.wfr, h.bu, h.wfi, h.few, h.sep⟩
set_option maxHeartbeats 8000000 in
theorem Copy_ok (p : Pl) (M : MetaT) (w : World) (h : MetaIn w p M) :
    Calls Try.prog 19 #[metaV p M] w fun e w' => ∃ p', e = .returned (metaV p' M) ∧ MetaAt w' w.heap.size p' M ∧ Ext w w' := by
  have X1 := (Ext.refl w).alloc (.cells #[.slice p.ra M.rows.length p.rc, .slice p.oa M.owners.length p.oc, .slice p.ua M.used.length p.uc, .slice p.ia M.inodes.length p.ic] 29)
  have hrow1 := Row.new w 29 [.slice p.ra M.rows.length p.rc, .slice p.oa M.owners.length p.oc, .slice p.ua M.used.length p.uc, .slice p.ia M.inodes.length p.ic]
  have hs1 : (w.alloc (.cells #[.slice p.ra M.rows.length p.rc, .slice p.oa M.owners.length p.oc, .slice p.ua M.used.length p.uc, .slice p.ia M.inodes.length p.ic] 29)).heap.size = w.heap.size + 1 := by simp
  generalize hw1 : w.alloc (.cells #[.slice p.ra M.rows.length p.rc, .slice p.oa M.owners.length p.oc, .slice p.ua M.used.length p.uc, .slice p.ia M.inodes.length p.ic] 29) = w1 at *
  have X2 := (Ext.refl w1).alloc (.cells #[.slice none 0 0, .slice none 0 0, .slice none 0 0, .slice none 0 0] 29)
  have hrow2 := Row.new w1 29 [.slice none 0 0, .slice none 0 0, .slice none 0 0, .slice none 0 0]
  rw [hs1] at hrow2
  have HX2 := Lib.hid (X1.trans X2)
  have HR1 := Lib.hid (hrow1.ext X2)
  have HR2 := Lib.hid hrow2
  have HSZ := Lib.hid (show (w1.alloc (.cells #[.slice none 0 0, .slice none 0 0, .slice none 0 0, .slice none 0 0] 29)).heap.size = w.heap.size + 2 by simp [hs1])
  have hz := zeroMeta
  have hk := fun (v : World) (e : Ext w v) => h.ext e
  have HIN := Lib.hid hk
  have HFW := Lib.hid (And.intro h.wfr (And.intro h.bu (And.intro h.wfi h.few)))
  have HCR := Lib.hid (fun (v : World) (e : Ext w v) => CloneR_ok p.ra M.rows.length p.rc (rowsC M.rows) v (by rw [rowsC_length]; omega) (h.ext e).rows (rowsC_one _) h.nil.1 (by have := h.few; omega))
  have HCO := Lib.hid (fun (v : World) (e : Ext w v) => CloneI_ok p.oa M.owners.length p.oc (ints .i64 M.owners) v (by rw [ints_length]; omega) (h.ext e).owners (ints_oneCell' _ _) h.nil.2.1 (by have := h.few; omega))
  have HCU := Lib.hid (fun (v : World) (e : Ext w v) => CloneB_ok p.ua M.used.length p.uc (ints .u8 M.used) v (by rw [ints_length]; omega) (h.ext e).used (ints_oneCell' _ _) h.nil.2.2.1 (by have := h.few; omega))
  have HCN := Lib.hid (fun (v : World) (e : Ext w v) => CloneN_ok p.ia M.inodes.length p.ic (flat inoC M.inodes) v (flat_length inoC_len _) (h.ext e).inodes (flat_one inoC_one _) h.nil.2.2.2 (by have := h.few; omega))
  clear X1 X2 hrow1 hrow2 hs1 hk h
  subst hw1
  go_enter Try.func19, Try.ntmps19
  go_wp2_with fail
  have hX0 := Ext.drew (Ext.refl ((w.alloc (.cells #[.slice p.ra M.rows.length p.rc, .slice p.oa M.owners.length p.oc, .slice p.ua M.used.length p.uc, .slice p.ia M.inodes.length p.ic] 29)).alloc (.cells #[.slice none 0 0, .slice none 0 0, .slice none 0 0, .slice none 0 0] 29)))
  refine wp_region_held_drew (S := (fun v => Ext w v ∧ Row v w.heap.size 29 [.slice p.ra M.rows.length p.rc, .slice p.oa M.owners.length p.oc, .slice p.ua M.used.length p.uc, .slice p.ia M.inodes.length p.ic])) (by kernel_rfl) ⟨HX2.out.trans hX0, HR1.out.ext hX0⟩ (fun hHeld => ?_)
  have HR0 := Lib.hid (HR2.out.ext hX0)
  have hzz := hX0.size
  rw [HSZ.out] at hzz
  have HZ0 := Lib.hid hzz
  clear hX0 hzz
  generalize ((w.alloc (.cells #[.slice p.ra M.rows.length p.rc, .slice p.oa M.owners.length p.oc, .slice p.ua M.used.length p.uc, .slice p.ia M.inodes.length p.ic] 29)).alloc (.cells #[.slice none 0 0, .slice none 0 0, .slice none 0 0, .slice none 0 0] 29)).drew = v0 at *
  refine takeD (i := 0) (v := ?_) rfl rfl (by kernel_rfl) (by kernel_rfl) (by kernel_rfl) (fun _ _ _ h => h) (Or.inl ⟨by rfl, ?_⟩) hHeld ?_
  rotate_left
  · (intro v hv; (obtain ⟨hv0, hv1⟩ := hv; have c0 := (hv1.cell? 0).trans rfl; have c1 := (hv1.cell? 1).trans rfl; have c2 := (hv1.cell? 2).trans rfl; have c3 := (hv1.cell? 3).trans rfl); go_simp; try (with_reducible rfl))
  (try simp only [List.setIfInBounds_toArray, List.set_cons_zero, List.set_cons_succ])
  refine takeD (i := 1) (v := ?_) rfl rfl (by kernel_rfl) (by kernel_rfl) (by kernel_rfl) (fun _ _ _ h => h) (Or.inl ⟨by rfl, ?_⟩) hHeld ?_
  rotate_left
  · (intro v hv; (obtain ⟨hv0, hv1⟩ := hv; have c0 := (hv1.cell? 0).trans rfl; have c1 := (hv1.cell? 1).trans rfl; have c2 := (hv1.cell? 2).trans rfl; have c3 := (hv1.cell? 3).trans rfl); go_simp; try (with_reducible rfl))
  (try simp only [List.setIfInBounds_toArray, List.set_cons_zero, List.set_cons_succ])
  refine takeD (i := 3) (v := ?_) rfl rfl (by kernel_rfl) (by kernel_rfl) (by kernel_rfl) (fun _ _ _ h => h) (Or.inl ⟨by rfl, ?_⟩) hHeld ?_
  rotate_left
  · (intro v hv; (obtain ⟨hv0, hv1⟩ := hv; have c0 := (hv1.cell? 0).trans rfl; have c1 := (hv1.cell? 1).trans rfl; have c2 := (hv1.cell? 2).trans rfl; have c3 := (hv1.cell? 3).trans rfl); go_simp; try (with_reducible rfl))
  (try simp only [List.setIfInBounds_toArray, List.set_cons_zero, List.set_cons_succ])
  refine takeD (i := 4) (v := ?_) rfl rfl (by kernel_rfl) (by kernel_rfl) (by kernel_rfl) (fun _ _ _ h => h) (Or.inl ⟨by rfl, ?_⟩) hHeld ?_
  rotate_left
  · (intro v hv; (obtain ⟨hv0, hv1⟩ := hv; have c0 := (hv1.cell? 0).trans rfl; have c1 := (hv1.cell? 1).trans rfl; have c2 := (hv1.cell? 2).trans rfl; have c3 := (hv1.cell? 3).trans rfl); go_simp; try (with_reducible rfl))
  (try simp only [List.setIfInBounds_toArray, List.set_cons_zero, List.set_cons_succ])
  refine takeD (i := 6) (v := ?_) rfl rfl (by kernel_rfl) (by kernel_rfl) (by kernel_rfl) (fun _ _ _ h => h) (Or.inl ⟨by rfl, ?_⟩) hHeld ?_
  rotate_left
  · (intro v hv; (obtain ⟨hv0, hv1⟩ := hv; have c0 := (hv1.cell? 0).trans rfl; have c1 := (hv1.cell? 1).trans rfl; have c2 := (hv1.cell? 2).trans rfl; have c3 := (hv1.cell? 3).trans rfl); go_simp; try (with_reducible rfl))
  (try simp only [List.setIfInBounds_toArray, List.set_cons_zero, List.set_cons_succ])
  refine takeD (i := 7) (v := ?_) rfl rfl (by kernel_rfl) (by kernel_rfl) (by kernel_rfl) (fun _ _ _ h => h) (Or.inl ⟨by rfl, ?_⟩) hHeld ?_
  rotate_left
  · (intro v hv; (obtain ⟨hv0, hv1⟩ := hv; have c0 := (hv1.cell? 0).trans rfl; have c1 := (hv1.cell? 1).trans rfl; have c2 := (hv1.cell? 2).trans rfl; have c3 := (hv1.cell? 3).trans rfl); go_simp; try (with_reducible rfl))
  (try simp only [List.setIfInBounds_toArray, List.set_cons_zero, List.set_cons_succ])
  refine takeD (i := 9) (v := ?_) rfl rfl (by kernel_rfl) (by kernel_rfl) (by kernel_rfl) (fun _ _ _ h => h) (Or.inl ⟨by rfl, ?_⟩) hHeld ?_
  rotate_left
  · (intro v hv; (obtain ⟨hv0, hv1⟩ := hv; have c0 := (hv1.cell? 0).trans rfl; have c1 := (hv1.cell? 1).trans rfl; have c2 := (hv1.cell? 2).trans rfl; have c3 := (hv1.cell? 3).trans rfl); go_simp; try (with_reducible rfl))
  (try simp only [List.setIfInBounds_toArray, List.set_cons_zero, List.set_cons_succ])
  refine takeD (i := 10) (v := ?_) rfl rfl (by kernel_rfl) (by kernel_rfl) (by kernel_rfl) (fun _ _ _ h => h) (Or.inl ⟨by rfl, ?_⟩) hHeld ?_
  rotate_left
  · (intro v hv; (obtain ⟨hv0, hv1⟩ := hv; have c0 := (hv1.cell? 0).trans rfl; have c1 := (hv1.cell? 1).trans rfl; have c2 := (hv1.cell? 2).trans rfl; have c3 := (hv1.cell? 3).trans rfl); go_simp; try (with_reducible rfl))
  (try simp only [List.setIfInBounds_toArray, List.set_cons_zero, List.set_cons_succ])
  refine wpAnyH_ready (rs := [2]) (by kernel_rfl) (by simp) ?_
  refine AllReadyH.cons rfl (fun K hK => ?_) AllReadyH.nil
  go_simp
  refine (HCR.out v0 hHeld.1).mono ?_
  rintro e v1 ⟨a0, c0, rfl, ho0, hx0⟩
  have HO0 := Lib.hid ho0
  have HX0 := Lib.hid hx0
  refine hK.out _ _ ⟨hHeld.1.trans hx0, hHeld.2.ext hx0⟩ (fun hHeld => ?_)
  clear hK ho0 hx0
  refine wpAnyH_ready (rs := [5]) (by kernel_rfl) (by simp) ?_
  refine AllReadyH.cons rfl (fun K hK => ?_) AllReadyH.nil
  go_simp
  refine (HCO.out v1 hHeld.1).mono ?_
  rintro e v2 ⟨a1, c1, rfl, ho1, hx1⟩
  have HO1 := Lib.hid ho1
  have HX1 := Lib.hid hx1
  refine hK.out _ _ ⟨hHeld.1.trans hx1, hHeld.2.ext hx1⟩ (fun hHeld => ?_)
  clear hK ho1 hx1
  refine wpAnyH_ready (rs := [8]) (by kernel_rfl) (by simp) ?_
  refine AllReadyH.cons rfl (fun K hK => ?_) AllReadyH.nil
  go_simp
  refine (HCU.out v2 hHeld.1).mono ?_
  rintro e v3 ⟨a2, c2, rfl, ho2, hx2⟩
  have HO2 := Lib.hid ho2
  have HX2' := Lib.hid hx2
  refine hK.out _ _ ⟨hHeld.1.trans hx2, hHeld.2.ext hx2⟩ (fun hHeld => ?_)
  clear hK ho2 hx2
  refine wpAnyH_ready (rs := [11]) (by kernel_rfl) (by simp) ?_
  refine AllReadyH.cons rfl (fun K hK => ?_) AllReadyH.nil
  go_simp
  refine (HCN.out v3 hHeld.1).mono ?_
  rintro e v4 ⟨a3, c3, rfl, ho3, hx3⟩
  have HO3 := Lib.hid ho3
  have HX3 := Lib.hid hx3
  refine hK.out _ _ ⟨hHeld.1.trans hx3, hHeld.2.ext hx3⟩ (fun hHeld => ?_)
  clear hK ho3 hx3
  have HRm := Lib.hid ((((HR0.out.ext HX0.out).ext HX1.out).ext HX2'.out).ext HX3.out)
  refine takeD (i := 12) (v := ?_) rfl rfl (by kernel_rfl) (by kernel_rfl) (by kernel_rfl) (fun _ _ _ h => h) (Or.inl ⟨by rfl, ?_⟩) hHeld ?_
  rotate_left
  · (intro v hv; (obtain ⟨hv0, hv1⟩ := hv; have c0 := (hv1.cell? 0).trans rfl; have c1 := (hv1.cell? 1).trans rfl; have c2 := (hv1.cell? 2).trans rfl; have c3 := (hv1.cell? 3).trans rfl); go_simp; try (with_reducible rfl))
  (try simp only [List.setIfInBounds_toArray, List.set_cons_zero, List.set_cons_succ])
  refine wpAnyH_ready (rs := [13]) (by kernel_rfl) (by simp) ?_
  refine AllReadyH.cons rfl (fun K hK => ?_) AllReadyH.nil
  rw [if_pos (by rfl)]
  refine store_rowN _ _ _ rfl rfl (w.heap.size + 1) #[.slice a0 M.rows.length c0, .slice a1 M.owners.length c1, .slice a2 M.used.length c2, .slice a3 M.inodes.length c3] rfl rfl 29 _ HRm.out infoMeta rfl (by simp [Value.oneCell']) ?_
  have HRf := Lib.hid (HRm.out.setRow #[.slice a0 M.rows.length c0, .slice a1 M.owners.length c1, .slice a2 M.used.length c2, .slice a3 M.inodes.length c3])
  have HFIN := Lib.hid (show MetaAt (v4.setRow (w.heap.size + 1) #[.slice a0 M.rows.length c0, .slice a1 M.owners.length c1, .slice a2 M.used.length c2, .slice a3 M.inodes.length c3]) w.heap.size ⟨a0, c0, a1, c1, a2, c2, a3, c3⟩ M from by
    have z0 := HX0.out.size
    have z1 := HX1.out.size
    have z2 := HX2'.out.size
    have y0 := HZ0.out
    have o0 := ownS_ext (ownS_ext (ownS_ext HO0.out HX1.out) HX2'.out) HX3.out
    have o1 := ownS_ext (ownS_ext HO1.out HX2'.out) HX3.out
    have o2 := ownS_ext HO2.out HX3.out
    have o3 := HO3.out
    have kb : ∀ (t : TypeId) (s lo n c : Nat) (a : Option Addr) (xs : List Value), w.heap.size + 2 ≤ lo → v4.ownsRow lo t s (.slice a n c) n xs → (v4.setRow (w.heap.size + 1) #[.slice a0 M.rows.length c0, .slice a1 M.owners.length c1, .slice a2 M.used.length c2, .slice a3 M.inodes.length c3]).ownsRow w.heap.size t s (.slice a n c) n xs := fun t s lo n c a xs hlo ho =>
      ownS_base (ownS_block ho (fun ad e => by
        have := (ownS_lt ho ad e).1
        exact Go.setRow_other _ _ _ _ (by omega))) (by omega)
    have q0 := ownS_lt HO0.out
    have q1 := ownS_lt HO1.out
    have q2 := ownS_lt HO2.out
    have q3 := ownS_lt HO3.out
    exact ⟨kb _ _ _ _ _ _ _ (by omega) o0, kb _ _ _ _ _ _ _ (by omega) o1, kb _ _ _ _ _ _ _ (by omega) o2, kb _ _ _ _ _ _ _ (by omega) o3, HFW.out.1, HFW.out.2.1, HFW.out.2.2.1, HFW.out.2.2.2,
      ⟨fun x y e e' => by have := (q0 x e).2; have := (q1 y e').1; omega, fun x y e e' => by have := (q0 x e).2; have := (q2 y e').1; omega, fun x y e e' => by have := (q0 x e).2; have := (q3 y e').1; omega⟩,
      ⟨fun x y e e' => by have := (q1 x e).2; have := (q2 y e').1; omega, fun x y e e' => by have := (q1 x e).2; have := (q3 y e').1; omega⟩, fun x y e e' => by have := (q2 x e).2; have := (q3 y e').1; omega⟩)
  refine hK.out _ _ ⟨hHeld.1.setRow (Nat.le_succ _) _, hHeld.2.setRow_other _ (by omega)⟩ (fun hHeld => ?_)
  clear hK
  refine wpAnyH_done (by kernel_rfl) ?_ _
  have HH := Lib.hid hHeld
  clear hHeld
  go_wp2
  refine bodyPost_ret (v := .agg #[.slice a0 M.rows.length c0, .slice a1 M.owners.length c1, .slice a2 M.used.length c2, .slice a3 M.inodes.length c3]) ?_ rfl ?_
  · have hrf := HRf.out
    exact results_cell_row Try.results19 _ _ (w.heap.size + 1) 29 #[.slice a0 M.rows.length c0, .slice a1 M.owners.length c1, .slice a2 M.used.length c2, .slice a3 M.inodes.length c3] (0, 0) _ rfl (by unfold Row at hrf; simpa using hrf) Try.underlying29 rfl infoMeta
  · exact ⟨⟨a0, c0, a1, c1, a2, c2, a3, c3⟩, rfl, HFIN.out, HH.out.1⟩
end Go.Proofs.Ytnodinancnfoeaa.Mt
/- Are both lists of sectors the same? (printed by gen_ss14.py) -/
namespace Go.Proofs.Ytnodinancnfoeaa.Mt
open Go.RowKit Words Mem Plain Ops Agg OwnS Intern Ino
open Go.Proofs.Ytnodinancnfoeaa.Field
set_option linter.ambiguousOpen false
set_option linter.unusedVariables false
set_option linter.unusedSimpArgs false

def sameLs (L K : List (List Int)) : Bool := decide (L = K)
set_option maxHeartbeats 8000000 in
theorem SameS_ok (a : Option Addr) (n ca : Nat) (L : List (List Int)) (b : Option Addr) (m cb : Nat) (K : List (List Int)) (w : World) (hL : LsIn w a n L) (hK : LsIn w b m K) (hn : n ≤ 1000000) :
    Calls Try.prog 18 #[.slice a n ca, .slice b m cb] w fun e w' => e = .returned (.bool (sameLs L K)) ∧ Ext w w' := by
  by_cases hnm : n = m
  case neg =>
    have HV := Lib.hid (show sameLs L K = false by unfold sameLs; simp; intro e; have h1 := hL.1; have h2 := hK.1; rw [e] at h1; omega)
    have hq : ((n : Int) != m) = true := by simp; omega
    have hq2 : ¬ ((n : Int) = m) := by omega
    clear hL hK
    go_enter Try.func18, Try.ntmps18
    go_wp2
    go_ret
    exact ⟨by rw [HV.out]; rfl, Ext.refl _⟩
  subst hnm
  have HL := Lib.hid hL
  have HK := Lib.hid hK
  clear hL hK
  go_enter Try.func18, Try.ntmps18
  go_wp2
  go_loopw [5] (fun v wr => ∃ k : Nat, k ≤ n ∧ v = .int .i64 k ∧ Ext w wr ∧ L.take k = K.take k) (fun v _ => n - (intOf v).toNat)
  case atStart => exact ⟨0, by omega, rfl, Ext.refl _, rfl⟩
  case round =>
    obtain ⟨k, hk, rfl, hX, htk⟩ := hrel
    have HX := Lib.hid hX
    have HTK := Lib.hid htk
    clear hX htk
    by_cases hlt : k < n
    · have hlL : k < L.length := by rw [HL.out.1]; exact hlt
      have hlK : k < K.length := by rw [HK.out.1]; exact hlt
      obtain ⟨b1, o1, rfl, hi1⟩ := (HL.out.ext HX.out).2 (by omega)
      obtain ⟨b2, o2, rfl, hi2⟩ := (HK.out.ext HX.out).2 (by omega)
      obtain ⟨x1, m1, c1, hc1, hl1, _, _, hs1, hb1, _⟩ := hi1 k hlL
      obtain ⟨x2, m2, c2, hc2, hl2, _, _, hs2, hb2, _⟩ := hi2 k hlK
      have hkn : (k : Int) < n := by omega
      have HT1 := Lib.hid (List.take_succ_eq_append_getElem hlL)
      have HT2 := Lib.hid (List.take_succ_eq_append_getElem hlK)
      have HG1 := Lib.hid (List.getElem?_eq_getElem hlL)
      have HG2 := Lib.hid (List.getElem?_eq_getElem hlK)
      generalize L[k] = xs at *
      generalize K[k] = ys at *
      clear hi1 hi2 hlL hlK
      obtain ⟨S1, hS1⟩ : ∃ q, q = strOf xs := ⟨_, rfl⟩
      by_cases hxy : xs = ys
      · have hS2 : S1 = strOf ys := by rw [← hxy]; exact hS1
        have hq1 : (S1.toList == S1.toList) = true := by simp
        have HALL := Lib.hid (show ∀ v : World, Ext wr v → (fun v => Ext wr v ∧ v.cell? ⟨b1, o1 + k, none⟩ = some (.slice x1 m1 c1) ∧ (convert 26 9 (.slice x1 m1 c1)).run Try.prog v = .ok (.string S1) v ∧ v.cell? ⟨b2, o2 + k, none⟩ = some (.slice x2 m2 c2) ∧ (convert 26 9 (.slice x2 m2 c2)).run Try.prog v = .ok (.string S1) v) v from fun v hv => ⟨hv, hv.keep hc1, by rw [hS1]; exact conv8 v c1 (hs1.ext hv) hl1, hv.keep hc2, by rw [hS2]; exact conv8 v c2 (hs2.ext hv) hl2⟩)
        clear hc1 hc2 hs1 hs2 hS1 hS2
        go_wp2_with fail
        refine wp_region_held_drew (S := (fun v => Ext wr v ∧ v.cell? ⟨b1, o1 + k, none⟩ = some (.slice x1 m1 c1) ∧ (convert 26 9 (.slice x1 m1 c1)).run Try.prog v = .ok (.string S1) v ∧ v.cell? ⟨b2, o2 + k, none⟩ = some (.slice x2 m2 c2) ∧ (convert 26 9 (.slice x2 m2 c2)).run Try.prog v = .ok (.string S1) v)) (by kernel_rfl) (HALL.out _ ((Ext.refl _).drew)) (fun hHeld => ?_)
        refine takeD (i := 0) (v := ?_) rfl rfl (by kernel_rfl) (by kernel_rfl) (by kernel_rfl) (fun _ _ _ h => h) (Or.inl ⟨by rfl, ?_⟩) hHeld ?_
        rotate_left
        · (intro v hv; (try obtain ⟨hv0, hv1, hv2, hv3, hv4⟩ := hv); go_simp; try (with_reducible rfl))
        (try simp only [List.setIfInBounds_toArray, List.set_cons_zero, List.set_cons_succ])
        refine takeD (i := 1) (v := ?_) rfl rfl (by kernel_rfl) (by kernel_rfl) (by kernel_rfl) (fun _ _ _ h => h) (Or.inl ⟨by rfl, ?_⟩) hHeld ?_
        rotate_left
        · (intro v hv; (try obtain ⟨hv0, hv1, hv2, hv3, hv4⟩ := hv); go_simp; try (with_reducible rfl))
        (try simp only [List.setIfInBounds_toArray, List.set_cons_zero, List.set_cons_succ])
        refine takeD (i := 2) (v := ?_) rfl rfl (by kernel_rfl) (by kernel_rfl) (by kernel_rfl) (fun _ _ _ h => h) (Or.inl ⟨by rfl, ?_⟩) hHeld ?_
        rotate_left
        · (intro v hv; (try obtain ⟨hv0, hv1, hv2, hv3, hv4⟩ := hv); go_simp; try (with_reducible rfl))
        (try simp only [List.setIfInBounds_toArray, List.set_cons_zero, List.set_cons_succ])
        refine takeD (i := 3) (v := ?_) rfl rfl (by kernel_rfl) (by kernel_rfl) (by kernel_rfl) (fun _ _ _ h => h) (Or.inl ⟨by rfl, ?_⟩) hHeld ?_
        rotate_left
        · (intro v hv; (try obtain ⟨hv0, hv1, hv2, hv3, hv4⟩ := hv); go_simp; try (with_reducible rfl))
        (try simp only [List.setIfInBounds_toArray, List.set_cons_zero, List.set_cons_succ])
        refine takeD (i := 4) (v := (.string S1)) rfl rfl (by kernel_rfl) (by kernel_rfl) (by kernel_rfl) (fun _ _ _ h => h) (Or.inl ⟨by rfl, ?_⟩) hHeld ?_
        · (intro v hv; (try obtain ⟨hv0, hv1, hv2, hv3, hv4⟩ := hv); go_simp; try (with_reducible rfl))
        (try simp only [List.setIfInBounds_toArray, List.set_cons_zero, List.set_cons_succ])
        refine takeD (i := 5) (v := ?_) rfl rfl (by kernel_rfl) (by kernel_rfl) (by kernel_rfl) (fun _ _ _ h => h) (Or.inl ⟨by rfl, ?_⟩) hHeld ?_
        rotate_left
        · (intro v hv; (try obtain ⟨hv0, hv1, hv2, hv3, hv4⟩ := hv); go_simp; try (with_reducible rfl))
        (try simp only [List.setIfInBounds_toArray, List.set_cons_zero, List.set_cons_succ])
        refine takeD (i := 6) (v := ?_) rfl rfl (by kernel_rfl) (by kernel_rfl) (by kernel_rfl) (fun _ _ _ h => h) (Or.inl ⟨by rfl, ?_⟩) hHeld ?_
        rotate_left
        · (intro v hv; (try obtain ⟨hv0, hv1, hv2, hv3, hv4⟩ := hv); go_simp; try (with_reducible rfl))
        (try simp only [List.setIfInBounds_toArray, List.set_cons_zero, List.set_cons_succ])
        refine takeD (i := 7) (v := ?_) rfl rfl (by kernel_rfl) (by kernel_rfl) (by kernel_rfl) (fun _ _ _ h => h) (Or.inl ⟨by rfl, ?_⟩) hHeld ?_
        rotate_left
        · (intro v hv; (try obtain ⟨hv0, hv1, hv2, hv3, hv4⟩ := hv); go_simp; try (with_reducible rfl))
        (try simp only [List.setIfInBounds_toArray, List.set_cons_zero, List.set_cons_succ])
        refine takeD (i := 8) (v := ?_) rfl rfl (by kernel_rfl) (by kernel_rfl) (by kernel_rfl) (fun _ _ _ h => h) (Or.inl ⟨by rfl, ?_⟩) hHeld ?_
        rotate_left
        · (intro v hv; (try obtain ⟨hv0, hv1, hv2, hv3, hv4⟩ := hv); go_simp; try (with_reducible rfl))
        (try simp only [List.setIfInBounds_toArray, List.set_cons_zero, List.set_cons_succ])
        refine takeD (i := 9) (v := (.string S1)) rfl rfl (by kernel_rfl) (by kernel_rfl) (by kernel_rfl) (fun _ _ _ h => h) (Or.inl ⟨by rfl, ?_⟩) hHeld ?_
        · (intro v hv; (try obtain ⟨hv0, hv1, hv2, hv3, hv4⟩ := hv); go_simp; try (with_reducible rfl))
        (try simp only [List.setIfInBounds_toArray, List.set_cons_zero, List.set_cons_succ])
        refine takeD (i := 10) (v := ?_) rfl rfl (by kernel_rfl) (by kernel_rfl) (by kernel_rfl) (fun _ _ _ h => h) (Or.inl ⟨by rfl, ?_⟩) hHeld ?_
        rotate_left
        · (intro v hv; (try obtain ⟨hv0, hv1, hv2, hv3, hv4⟩ := hv); go_simp; try (with_reducible rfl))
        (try simp only [List.setIfInBounds_toArray, List.set_cons_zero, List.set_cons_succ])
        refine wpAnyH_done (by kernel_rfl) ?_ _
        have HH := Lib.hid hHeld
        clear hHeld
        go_wp2
        go_roundw
        case rel => exact ⟨k + 1, hlt, by go_num, HX.out.trans HH.out.1, by rw [HT1.out, HT2.out, HTK.out, hxy]⟩
        case measure => simp [intOf]; omega
      · obtain ⟨S2, hS2⟩ : ∃ q, q = strOf ys := ⟨_, rfl⟩
        have hq1 : (S1.toList == S2.toList) = false := by rw [hS1, hS2, strOf_eq hb1 hb2]; simpa using hxy
        have hq2 : ¬ (S1.toList = S2.toList) := by simpa using hq1
        have HV := Lib.hid (show sameLs L K = false by
          unfold sameLs
          simp
          intro e
          have h1 := HG1.out
          rw [e, HG2.out] at h1
          cases h1
          exact hxy rfl)
        have HALL := Lib.hid (show ∀ v : World, Ext wr v → (fun v => Ext wr v ∧ v.cell? ⟨b1, o1 + k, none⟩ = some (.slice x1 m1 c1) ∧ (convert 26 9 (.slice x1 m1 c1)).run Try.prog v = .ok (.string S1) v ∧ v.cell? ⟨b2, o2 + k, none⟩ = some (.slice x2 m2 c2) ∧ (convert 26 9 (.slice x2 m2 c2)).run Try.prog v = .ok (.string S2) v) v from fun v hv => ⟨hv, hv.keep hc1, by rw [hS1]; exact conv8 v c1 (hs1.ext hv) hl1, hv.keep hc2, by rw [hS2]; exact conv8 v c2 (hs2.ext hv) hl2⟩)
        clear hc1 hc2 hs1 hs2 hS1 hS2
        go_wp2_with fail
        refine wp_region_held_drew (S := (fun v => Ext wr v ∧ v.cell? ⟨b1, o1 + k, none⟩ = some (.slice x1 m1 c1) ∧ (convert 26 9 (.slice x1 m1 c1)).run Try.prog v = .ok (.string S1) v ∧ v.cell? ⟨b2, o2 + k, none⟩ = some (.slice x2 m2 c2) ∧ (convert 26 9 (.slice x2 m2 c2)).run Try.prog v = .ok (.string S2) v)) (by kernel_rfl) (HALL.out _ ((Ext.refl _).drew)) (fun hHeld => ?_)
        refine takeD (i := 0) (v := ?_) rfl rfl (by kernel_rfl) (by kernel_rfl) (by kernel_rfl) (fun _ _ _ h => h) (Or.inl ⟨by rfl, ?_⟩) hHeld ?_
        rotate_left
        · (intro v hv; (try obtain ⟨hv0, hv1, hv2, hv3, hv4⟩ := hv); go_simp; try (with_reducible rfl))
        (try simp only [List.setIfInBounds_toArray, List.set_cons_zero, List.set_cons_succ])
        refine takeD (i := 1) (v := ?_) rfl rfl (by kernel_rfl) (by kernel_rfl) (by kernel_rfl) (fun _ _ _ h => h) (Or.inl ⟨by rfl, ?_⟩) hHeld ?_
        rotate_left
        · (intro v hv; (try obtain ⟨hv0, hv1, hv2, hv3, hv4⟩ := hv); go_simp; try (with_reducible rfl))
        (try simp only [List.setIfInBounds_toArray, List.set_cons_zero, List.set_cons_succ])
        refine takeD (i := 2) (v := ?_) rfl rfl (by kernel_rfl) (by kernel_rfl) (by kernel_rfl) (fun _ _ _ h => h) (Or.inl ⟨by rfl, ?_⟩) hHeld ?_
        rotate_left
        · (intro v hv; (try obtain ⟨hv0, hv1, hv2, hv3, hv4⟩ := hv); go_simp; try (with_reducible rfl))
        (try simp only [List.setIfInBounds_toArray, List.set_cons_zero, List.set_cons_succ])
        refine takeD (i := 3) (v := ?_) rfl rfl (by kernel_rfl) (by kernel_rfl) (by kernel_rfl) (fun _ _ _ h => h) (Or.inl ⟨by rfl, ?_⟩) hHeld ?_
        rotate_left
        · (intro v hv; (try obtain ⟨hv0, hv1, hv2, hv3, hv4⟩ := hv); go_simp; try (with_reducible rfl))
        (try simp only [List.setIfInBounds_toArray, List.set_cons_zero, List.set_cons_succ])
        refine takeD (i := 4) (v := (.string S1)) rfl rfl (by kernel_rfl) (by kernel_rfl) (by kernel_rfl) (fun _ _ _ h => h) (Or.inl ⟨by rfl, ?_⟩) hHeld ?_
        · (intro v hv; (try obtain ⟨hv0, hv1, hv2, hv3, hv4⟩ := hv); go_simp; try (with_reducible rfl))
        (try simp only [List.setIfInBounds_toArray, List.set_cons_zero, List.set_cons_succ])
        refine takeD (i := 5) (v := ?_) rfl rfl (by kernel_rfl) (by kernel_rfl) (by kernel_rfl) (fun _ _ _ h => h) (Or.inl ⟨by rfl, ?_⟩) hHeld ?_
        rotate_left
        · (intro v hv; (try obtain ⟨hv0, hv1, hv2, hv3, hv4⟩ := hv); go_simp; try (with_reducible rfl))
        (try simp only [List.setIfInBounds_toArray, List.set_cons_zero, List.set_cons_succ])
        refine takeD (i := 6) (v := ?_) rfl rfl (by kernel_rfl) (by kernel_rfl) (by kernel_rfl) (fun _ _ _ h => h) (Or.inl ⟨by rfl, ?_⟩) hHeld ?_
        rotate_left
        · (intro v hv; (try obtain ⟨hv0, hv1, hv2, hv3, hv4⟩ := hv); go_simp; try (with_reducible rfl))
        (try simp only [List.setIfInBounds_toArray, List.set_cons_zero, List.set_cons_succ])
        refine takeD (i := 7) (v := ?_) rfl rfl (by kernel_rfl) (by kernel_rfl) (by kernel_rfl) (fun _ _ _ h => h) (Or.inl ⟨by rfl, ?_⟩) hHeld ?_
        rotate_left
        · (intro v hv; (try obtain ⟨hv0, hv1, hv2, hv3, hv4⟩ := hv); go_simp; try (with_reducible rfl))
        (try simp only [List.setIfInBounds_toArray, List.set_cons_zero, List.set_cons_succ])
        refine takeD (i := 8) (v := ?_) rfl rfl (by kernel_rfl) (by kernel_rfl) (by kernel_rfl) (fun _ _ _ h => h) (Or.inl ⟨by rfl, ?_⟩) hHeld ?_
        rotate_left
        · (intro v hv; (try obtain ⟨hv0, hv1, hv2, hv3, hv4⟩ := hv); go_simp; try (with_reducible rfl))
        (try simp only [List.setIfInBounds_toArray, List.set_cons_zero, List.set_cons_succ])
        refine takeD (i := 9) (v := (.string S2)) rfl rfl (by kernel_rfl) (by kernel_rfl) (by kernel_rfl) (fun _ _ _ h => h) (Or.inl ⟨by rfl, ?_⟩) hHeld ?_
        · (intro v hv; (try obtain ⟨hv0, hv1, hv2, hv3, hv4⟩ := hv); go_simp; try (with_reducible rfl))
        (try simp only [List.setIfInBounds_toArray, List.set_cons_zero, List.set_cons_succ])
        refine takeD (i := 10) (v := (.bool true)) rfl rfl (by kernel_rfl) (by kernel_rfl) (by kernel_rfl) (fun _ _ _ h => h) (Or.inl ⟨by rfl, ?_⟩) hHeld ?_
        · (intro v hv; (try obtain ⟨hv0, hv1, hv2, hv3, hv4⟩ := hv); go_simp; try (with_reducible rfl))
        (try simp only [List.setIfInBounds_toArray, List.set_cons_zero, List.set_cons_succ])
        refine wpAnyH_done (by kernel_rfl) ?_ _
        have HH := Lib.hid hHeld
        clear hHeld
        go_wp2
        go_ret
        exact ⟨by rw [HV.out]; rfl, HX.out.trans HH.out.1⟩
    · obtain rfl : k = n := by omega
      have HV := Lib.hid (show sameLs L K = true by
        unfold sameLs
        have := HTK.out
        rw [List.take_of_length_le (by rw [HL.out.1]; exact Nat.le_refl _), List.take_of_length_le (by rw [HK.out.1]; exact Nat.le_refl _)] at this
        simpa using this)
      go_wp2
      go_ret
      exact ⟨by rw [HV.out]; rfl, HX.out⟩
end Go.Proofs.Ytnodinancnfoeaa.Mt
/- The reference's Same; few. -/
namespace Go.Proofs.Ytnodinancnfoeaa.Intern
open Go.RowKit Words Mem Plain Ops Agg
set_option linter.ambiguousOpen false
set_option linter.unusedVariables false
set_option linter.unusedSimpArgs false

theorem eqRow (r s : RowT) (w : World) : (Op.equalIn 10000 45 (.agg #[.int .u16 r.1, .int .i64 r.2]) (.agg #[.int .u16 s.1, .int .i64 s.2])).run Try.prog w = .ok (r.1 == s.1 && r.2 == s.2) w := by
  have hi : ∀ (a b : Int), (Op.equalIn 9999 3 (.int .i64 a) (.int .i64 b)).run Try.prog w = .ok (a == b) w := fun a b => run_equalIn_int w 9998 3 .i64 .i64 a b Try.underlying3
  have hl : ∀ (a b : Int), (Op.equalIn 9999 43 (.int .u16 a) (.int .u16 b)).run Try.prog w = .ok (a == b) w := fun a b => run_equalIn_int w 9998 43 .u16 .u16 a b Try.underlying43
  have ha : (isAgg 3).run Try.prog w = .ok false w := by kernel_rfl
  have hb : (isAgg 43).run Try.prog w = .ok false w := by kernel_rfl
  rw [run_equalIn_agg w 9999 45 _ _ (by kernel_rfl) (by kernel_rfl)]
  simp only [Program.fieldsOf, Try.underlying45]
  simp [Op.eqFields, part, ha, hb, hi, hl]
  by_cases h1 : r.1 = s.1
  case neg => simp [h1]
  by_cases h2 : r.2 = s.2 <;> simp [h1, h2]
theorem neqRow (r s : RowT) (w : World) : (binOp .neq 45 (.agg #[.int .u16 r.1, .int .i64 r.2]) (.agg #[.int .u16 s.1, .int .i64 s.2])).run Try.prog w = .ok (.bool (!(r.1 == s.1 && r.2 == s.2))) w := by
  rw [run_neq_struct, eqRow]; rfl
def sameR (L M : List RowT) : Bool := L == M
theorem sameR_no {L M : List RowT} {k : Nat} (h : rg L k ≠ rg M k) : sameR L M = false := by
  cases e : sameR L M
  · rfl
  · have : L = M := by simpa [sameR] using e
    rw [this] at h
    exact absurd rfl h
theorem sameR_len {L M : List RowT} (h : L.length ≠ M.length) : sameR L M = false := by
  cases e : sameR L M
  · rfl
  · have : L = M := by simpa [sameR] using e
    rw [this] at h
    exact absurd rfl h
theorem sameR_yes {L M : List RowT} (h : L.length = M.length) (hk : ∀ k, k < L.length → rg L k = rg M k) : sameR L M = true := by
  rw [rg_ext h hk]; simp [sameR]

set_option maxHeartbeats 1000000 in
theorem Same_pos (L M : List RowT) (b1 o1 b2 o2 c1 c2 : Nat) (w : World) (hm : L.length ≤ 9223372036854775807) (hl : L.length = M.length) (h1 : RowsAt b1 o1 L w) (h2 : RowsAt b2 o2 M w) :
    Calls Try.prog 31 #[.slice (some ⟨b1, o1, none⟩) L.length c1, .slice (some ⟨b2, o2, none⟩) M.length c2] w fun e w' => e = .returned (.bool (sameR L M)) ∧ Ext w w' := by
  have H1 := Lib.hid h1
  have H2 := Lib.hid h2
  obtain ⟨n, hn⟩ : ∃ n, n = L.length := ⟨_, rfl⟩
  have HN := Lib.hid hn
  have HM := Lib.hid (hn.trans hl)
  rw [← hl, ← hn]
  rw [← hn] at hm
  have hnq : ∀ (r s : RowT) (v : World), (binOp .neq 45 (.agg #[.int .u16 r.1, .int .i64 r.2]) (.agg #[.int .u16 s.1, .int .i64 s.2])).run Try.prog v = .ok (.bool (!(r.1 == s.1 && r.2 == s.2))) v := neqRow
  have HNQ := Lib.hid hnq
  clear h1 h2 hl hn hnq
  go_enter Try.func31, Try.ntmps31
  go_wp2
  go_loopw [5] (fun v wr => ∃ k : Nat, k ≤ n ∧ v = .int .i64 k ∧ (∀ j, j < k → rg L j = rg M j) ∧ Ext w wr) (fun v _ => n - (intOf v).toNat)
  case atStart => exact ⟨0, by omega, rfl, fun j hj => absurd hj (by omega), Ext.refl _⟩
  case round =>
    obtain ⟨k, hk, rfl, heq, hX⟩ := hrel
    by_cases hlt : k < n
    · have hkL : k < L.length := by rw [← HN.out]; exact hlt
      have hkM : k < M.length := by rw [← HM.out]; exact hlt
      obtain ⟨c0, c1⟩ := H1.out.ext hX k hkL
      obtain ⟨d0, d1⟩ := H2.out.ext hX k hkM
      obtain ⟨x, hx⟩ : ∃ x, x = (rg L k).1 := ⟨_, rfl⟩
      obtain ⟨y, hy⟩ : ∃ y, y = (rg L k).2 := ⟨_, rfl⟩
      obtain ⟨u, hu⟩ : ∃ x, x = (rg M k).1 := ⟨_, rfl⟩
      obtain ⟨v, hv⟩ : ∃ y, y = (rg M k).2 := ⟨_, rfl⟩
      have HE1 := Lib.hid (show rg L k = (x, y) by rw [hx, hy])
      have HE2 := Lib.hid (show rg M k = (u, v) by rw [hu, hv])
      rw [← hx] at c0
      rw [← hy] at c1
      rw [← hu] at d0
      rw [← hv] at d1
      have HX := Lib.hid hX
      have HEQ := Lib.hid heq
      have hk0 : (0 : Int) ≤ k := by omega
      have hk1 : (k : Int) < n := by omega
      clear heq hX hx hy hu hv
      have hnq := fun w' => HNQ.out (x, y) (u, v) w'
      dsimp only at hnq
      cases hb : (x == u && y == v)
      · rw [hb] at hnq
        have HV := Lib.hid (show sameR L M = false from sameR_no (k := k) (by
          rw [HE1.out, HE2.out]
          intro e
          cases e
          simp at hb))
        clear hb
        go_wp2
        go_quiet (fail)
        go_wp2
        go_ret
        exact ⟨by rw [HV.out]; rfl, by repeat (first | exact HX.out | apply Ext.drewN)⟩
      · rw [hb] at hnq
        have HE := Lib.hid (show rg L k = rg M k by
          rw [HE1.out, HE2.out]
          have : x = u ∧ y = v := by simpa using hb
          rw [this.1, this.2])
        clear hb
        go_wp2
        go_quiet (fail)
        go_wp2
        go_roundw
        case rel =>
          refine ⟨k + 1, hlt, by go_num, fun j hj => ?_, by repeat (first | exact HX.out | apply Ext.drewN)⟩
          by_cases e : j = k
          · rw [e]; exact HE.out
          · exact HEQ.out j (by omega)
        case measure => simp [intOf]; omega
    · have : k = n := by omega
      subst this
      have HV := Lib.hid (sameR_yes (HN.out.symm.trans HM.out) (by rw [← HN.out]; exact heq))
      have HX := Lib.hid hX
      clear heq hX
      go_wp2
      go_ret
      exact ⟨by rw [HV.out]; rfl, HX.out⟩
theorem Same_ok (L M : List RowT) (a b : Option Addr) (c1 c2 : Nat) (w : World) (hm : L.length ≤ 9223372036854775807) (h1 : Sl w a (rowsC L)) (h2 : Sl w b (rowsC M)) :
    Calls Try.prog 31 #[.slice a L.length c1, .slice b M.length c2] w fun e w' => e = .returned (.bool (sameR L M)) ∧ Ext w w' := by
  by_cases hl : L.length = M.length
  · by_cases h0 : 0 < L.length
    · obtain ⟨b1, o1, rfl, g1⟩ := rows_at h1 h0
      obtain ⟨b2, o2, rfl, g2⟩ := rows_at h2 (by omega)
      exact Same_pos L M b1 o1 b2 o2 c1 c2 w hm hl g1 g2
    · have e1 : L = [] := List.eq_nil_of_length_eq_zero (by omega)
      have e2 : M = [] := List.eq_nil_of_length_eq_zero (by omega)
      subst e1 e2
      have HV := Lib.hid (show sameR [] [] = true from rfl)
      rw [show ([] : List RowT).length = 0 from rfl]
      clear hl h0 h1 h2 hm
      go_enter Try.func31, Try.ntmps31
      go_wp2
      go_loopw [5] (fun v wr => v = .int .i64 0 ∧ wr = w) (fun v _ => 0)
      case atStart => exact ⟨rfl, rfl⟩
      case round =>
        obtain ⟨rfl, rfl⟩ := hrel
        go_wp2
        go_ret
        exact ⟨by rw [HV.out]; rfl, Ext.refl _⟩
  · have HV := Lib.hid (sameR_len hl)
    have hne : ¬ ((L.length : Int) = (M.length : Int)) := by omega
    clear h1 h2
    generalize L.length = n at *
    generalize M.length = m at *
    go_enter Try.func31, Try.ntmps31
    go_wp2
    go_ret
    exact ⟨by rw [HV.out]; rfl, Ext.refl _⟩
end Go.Proofs.Ytnodinancnfoeaa.Intern
/- moatref14.Same of the same (printed by gen_same14.py). -/
namespace Go.Proofs.Ytnodinancnfoeaa.Mt
open Go.RowKit Words Mem Plain Ops Agg OwnS Intern Ino
open Go.Proofs.Ytnodinancnfoeaa.Field
set_option linter.ambiguousOpen false
set_option linter.unusedVariables false
set_option linter.unusedSimpArgs false

def BoxM (w : World) (bm : Nat) (p : Pl) (M : MetaT) : Prop :=
  w.cell? ⟨bm, 0, none⟩ = some (.slice p.ra M.rows.length p.rc) ∧ w.cell? ⟨bm, 1, none⟩ = some (.slice p.oa M.owners.length p.oc) ∧ w.cell? ⟨bm, 2, none⟩ = some (.slice p.ua M.used.length p.uc) ∧ w.cell? ⟨bm, 3, none⟩ = some (.slice p.ia M.inodes.length p.ic)
theorem BoxM.ext {w w' : World} {bm : Nat} {p : Pl} {M : MetaT} (h : BoxM w bm p M) (e : Ext w w') : BoxM w' bm p M := by
  obtain ⟨k0, k1, k2, k3⟩ := h
  exact ⟨e.keep k0, e.keep k1, e.keep k2, e.keep k3⟩
theorem BoxM.new (w : World) (p : Pl) (M : MetaT) : BoxM (w.alloc (.cells #[.slice p.ra M.rows.length p.rc, .slice p.oa M.owners.length p.oc, .slice p.ua M.used.length p.uc, .slice p.ia M.inodes.length p.ic] 29)) w.heap.size p M := by
  have h := Row.new w 29 [.slice p.ra M.rows.length p.rc, .slice p.oa M.owners.length p.oc, .slice p.ua M.used.length p.uc, .slice p.ia M.inodes.length p.ic]
  exact ⟨(h.cell? 0).trans rfl, (h.cell? 1).trans rfl, (h.cell? 2).trans rfl, (h.cell? 3).trans rfl⟩
theorem ino_range {w : World} {a : Option Addr} {L : List Ino} (h : Sl w a (flat inoC L)) {k : Nat} (hk : k < L.length) : ∃ b off, a = some ⟨b, off, none⟩ ∧ w.rangeAt b (off + k * 14) (inoC L[k]) := by
  have hfl : (flat inoC L).length = L.length * 14 := flat_length inoC_len _
  have hle : (k + 1) * 14 ≤ L.length * 14 := Nat.mul_le_mul_right 14 hk
  obtain ⟨b, off, ha, hc⟩ := h.at (by omega)
  refine ⟨b, off, ha, fun q v hv => ?_⟩
  have hq : q < 14 := by have := (List.getElem?_eq_some_iff.1 hv).1; rw [inoC_len] at this; exact this
  have := hc (k * 14 + q) (by omega)
  rw [Nat.add_assoc, this, ← hv, ← flat_at inoC_len L k hk q hq, List.getElem?_eq_getElem]
set_option maxHeartbeats 8000000 in
set_option maxRecDepth 100000 in
theorem Same_yes (p q : Pl) (M : MetaT) (w : World) (h : MetaIn w p M) (h' : MetaIn w q M) :
    Calls Try.prog 15 #[metaV p M, metaV q M] w fun e w' => e = .returned (.bool true) ∧ Ext w w' := by
  have X1 := (Ext.refl w).alloc (.cells #[.slice p.ra M.rows.length p.rc, .slice p.oa M.owners.length p.oc, .slice p.ua M.used.length p.uc, .slice p.ia M.inodes.length p.ic] 29)
  have hb1 := BoxM.new w p M
  have hs1 : (w.alloc (.cells #[.slice p.ra M.rows.length p.rc, .slice p.oa M.owners.length p.oc, .slice p.ua M.used.length p.uc, .slice p.ia M.inodes.length p.ic] 29)).heap.size = w.heap.size + 1 := by simp
  generalize hw1 : w.alloc (.cells #[.slice p.ra M.rows.length p.rc, .slice p.oa M.owners.length p.oc, .slice p.ua M.used.length p.uc, .slice p.ia M.inodes.length p.ic] 29) = w1 at *
  have X2 := (Ext.refl w1).alloc (.cells #[.slice q.ra M.rows.length q.rc, .slice q.oa M.owners.length q.oc, .slice q.ua M.used.length q.uc, .slice q.ia M.inodes.length q.ic] 29)
  have hb2 := BoxM.new w1 q M
  rw [hs1] at hb2
  have HX2 := Lib.hid (X1.trans X2)
  have HB1 := Lib.hid (hb1.ext X2)
  have HB2 := Lib.hid hb2
  have hsame := Intern.Same_ok M.rows M.rows p.ra q.ra p.rc q.rc _ (by have := h.few; omega) (h.rows.ext (X1.trans X2)) (h'.rows.ext (X1.trans X2))
  rw [show sameR M.rows M.rows = true by simp [sameR]] at hsame
  have HP := Lib.hid h
  have HQ := Lib.hid h'
  have hf := h.few
  obtain ⟨m0, m1, m2, m3⟩ := HB1.out
  obtain ⟨n0, n1, n2, n3⟩ := HB2.out
  clear X1 X2 hb1 hb2 hs1 h h'
  subst hw1
  go_enter Try.func15, Try.ntmps15
  go_wp2_with fail
  refine hsame.mono ?_
  rintro e w2 ⟨rfl, h2⟩
  have HX3 := Lib.hid (HX2.out.trans h2)
  have HC1 := Lib.hid (HB1.out.ext h2)
  have HC2 := Lib.hid (HB2.out.ext h2)
  clear hsame h2 m0 m1 m2 m3 n0 n1 n2 n3 HB1 HB2
  obtain ⟨m0, m1, m2, m3⟩ := HC1.out
  obtain ⟨n0, n1, n2, n3⟩ := HC2.out
  have cv1 := conv8 w2 p.uc (HP.out.used.ext HX3.out) (rfl : M.used.length = M.used.length)
  have cv2 := conv8 w2 q.uc (HQ.out.used.ext HX3.out) (rfl : M.used.length = M.used.length)
  generalize strOf M.used = SU at *
  have hq1 : (SU.toList == SU.toList) = true := by simp
  go_wp2
  go_loopw [5] (fun v wr => ∃ k : Nat, k ≤ M.owners.length ∧ v = .int .i64 k ∧ Ext w2 wr) (fun v _ => M.owners.length - (intOf v).toNat)
  case atStart => exact ⟨0, by omega, rfl, Ext.refl _⟩
  case round =>
    obtain ⟨k, hk, rfl, hX⟩ := hrel
    have HX := Lib.hid hX
    clear hX m0 m1 m2 m3 n0 n1 n2 n3 cv1 cv2
    obtain ⟨m0, m1, m2, m3⟩ := HC1.out.ext HX.out
    obtain ⟨n0, n1, n2, n3⟩ := HC2.out.ext HX.out
    by_cases hlt : k < M.owners.length
    · obtain ⟨b1, o1, ha1, hx1⟩ := (HP.out.owners.ext (HX3.out.trans HX.out)).ints (by omega)
      obtain ⟨b2, o2, ha2, hx2⟩ := (HQ.out.owners.ext (HX3.out.trans HX.out)).ints (by omega)
      have hx1 := hx1 k hlt
      have hx2 := hx2 k hlt
      have hkn : (k : Int) < (M.owners.length : Int) := by omega
      have hk0 : (0 : Int) ≤ k := by omega
      rw [ha1] at m1
      rw [ha2] at n1
      generalize M.owners[k] = x at *
      clear m0 m2 m3 n0 n2 n3
      go_wp2_with fail
      refine wp_region_held_drew (S := (fun v => Ext wr v ∧ v.cell? ⟨w.heap.size, 1, none⟩ = some (.slice (some ⟨b1, o1, none⟩) M.owners.length p.oc) ∧ v.cell? ⟨w.heap.size + 1, 1, none⟩ = some (.slice (some ⟨b2, o2, none⟩) M.owners.length q.oc) ∧ v.cell? ⟨b1, o1 + k, none⟩ = some (.int .i64 x) ∧ v.cell? ⟨b2, o2 + k, none⟩ = some (.int .i64 x))) (by kernel_rfl) ⟨(Ext.refl _).drew, (Ext.refl _).drew.keep m1, (Ext.refl _).drew.keep n1, (Ext.refl _).drew.keep hx1, (Ext.refl _).drew.keep hx2⟩ (fun hHeld => ?_)
      refine takeD (i := 0) (v := ?_) rfl rfl (by kernel_rfl) (by kernel_rfl) (by kernel_rfl) (fun _ _ _ h => h) (Or.inl ⟨by rfl, ?_⟩) hHeld ?_
      rotate_left
      · (intro v hv; (try obtain ⟨hv0, hv1, hv2, hv3, hv4⟩ := hv); go_simp; try (with_reducible rfl))
      (try simp only [List.setIfInBounds_toArray, List.set_cons_zero, List.set_cons_succ])
      refine takeD (i := 1) (v := ?_) rfl rfl (by kernel_rfl) (by kernel_rfl) (by kernel_rfl) (fun _ _ _ h => h) (Or.inl ⟨by rfl, ?_⟩) hHeld ?_
      rotate_left
      · (intro v hv; (try obtain ⟨hv0, hv1, hv2, hv3, hv4⟩ := hv); go_simp; try (with_reducible rfl))
      (try simp only [List.setIfInBounds_toArray, List.set_cons_zero, List.set_cons_succ])
      refine takeD (i := 2) (v := ?_) rfl rfl (by kernel_rfl) (by kernel_rfl) (by kernel_rfl) (fun _ _ _ h => h) (Or.inl ⟨by rfl, ?_⟩) hHeld ?_
      rotate_left
      · (intro v hv; (try obtain ⟨hv0, hv1, hv2, hv3, hv4⟩ := hv); go_simp; try (with_reducible rfl))
      (try simp only [List.setIfInBounds_toArray, List.set_cons_zero, List.set_cons_succ])
      refine takeD (i := 3) (v := ?_) rfl rfl (by kernel_rfl) (by kernel_rfl) (by kernel_rfl) (fun _ _ _ h => h) (Or.inl ⟨by rfl, ?_⟩) hHeld ?_
      rotate_left
      · (intro v hv; (try obtain ⟨hv0, hv1, hv2, hv3, hv4⟩ := hv); go_simp; try (with_reducible rfl))
      (try simp only [List.setIfInBounds_toArray, List.set_cons_zero, List.set_cons_succ])
      refine takeD (i := 4) (v := ?_) rfl rfl (by kernel_rfl) (by kernel_rfl) (by kernel_rfl) (fun _ _ _ h => h) (Or.inl ⟨by rfl, ?_⟩) hHeld ?_
      rotate_left
      · (intro v hv; (try obtain ⟨hv0, hv1, hv2, hv3, hv4⟩ := hv); go_simp; try (with_reducible rfl))
      (try simp only [List.setIfInBounds_toArray, List.set_cons_zero, List.set_cons_succ])
      refine takeD (i := 5) (v := ?_) rfl rfl (by kernel_rfl) (by kernel_rfl) (by kernel_rfl) (fun _ _ _ h => h) (Or.inl ⟨by rfl, ?_⟩) hHeld ?_
      rotate_left
      · (intro v hv; (try obtain ⟨hv0, hv1, hv2, hv3, hv4⟩ := hv); go_simp; try (with_reducible rfl))
      (try simp only [List.setIfInBounds_toArray, List.set_cons_zero, List.set_cons_succ])
      refine takeD (i := 6) (v := ?_) rfl rfl (by kernel_rfl) (by kernel_rfl) (by kernel_rfl) (fun _ _ _ h => h) (Or.inl ⟨by rfl, ?_⟩) hHeld ?_
      rotate_left
      · (intro v hv; (try obtain ⟨hv0, hv1, hv2, hv3, hv4⟩ := hv); go_simp; try (with_reducible rfl))
      (try simp only [List.setIfInBounds_toArray, List.set_cons_zero, List.set_cons_succ])
      refine takeD (i := 7) (v := ?_) rfl rfl (by kernel_rfl) (by kernel_rfl) (by kernel_rfl) (fun _ _ _ h => h) (Or.inl ⟨by rfl, ?_⟩) hHeld ?_
      rotate_left
      · (intro v hv; (try obtain ⟨hv0, hv1, hv2, hv3, hv4⟩ := hv); go_simp; try (with_reducible rfl))
      (try simp only [List.setIfInBounds_toArray, List.set_cons_zero, List.set_cons_succ])
      refine takeD (i := 8) (v := ?_) rfl rfl (by kernel_rfl) (by kernel_rfl) (by kernel_rfl) (fun _ _ _ h => h) (Or.inl ⟨by rfl, ?_⟩) hHeld ?_
      rotate_left
      · (intro v hv; (try obtain ⟨hv0, hv1, hv2, hv3, hv4⟩ := hv); go_simp; try (with_reducible rfl))
      (try simp only [List.setIfInBounds_toArray, List.set_cons_zero, List.set_cons_succ])
      refine takeD (i := 9) (v := ?_) rfl rfl (by kernel_rfl) (by kernel_rfl) (by kernel_rfl) (fun _ _ _ h => h) (Or.inl ⟨by rfl, ?_⟩) hHeld ?_
      rotate_left
      · (intro v hv; (try obtain ⟨hv0, hv1, hv2, hv3, hv4⟩ := hv); go_simp; try (with_reducible rfl))
      (try simp only [List.setIfInBounds_toArray, List.set_cons_zero, List.set_cons_succ])
      refine takeD (i := 10) (v := ?_) rfl rfl (by kernel_rfl) (by kernel_rfl) (by kernel_rfl) (fun _ _ _ h => h) (Or.inl ⟨by rfl, ?_⟩) hHeld ?_
      rotate_left
      · (intro v hv; (try obtain ⟨hv0, hv1, hv2, hv3, hv4⟩ := hv); go_simp; try (with_reducible rfl))
      (try simp only [List.setIfInBounds_toArray, List.set_cons_zero, List.set_cons_succ])
      refine wpAnyH_done (by kernel_rfl) ?_ _
      have HH := Lib.hid hHeld
      clear hHeld
      go_wp2
      go_roundw
      case rel => exact ⟨k + 1, hlt, by go_num, HX.out.trans HH.out.1⟩
      case measure => simp [intOf]; omega
    · obtain rfl : k = M.owners.length := by omega
      go_wp2
      go_loopw [6] (fun v wr2 => ∃ k : Nat, k ≤ M.inodes.length ∧ v = .int .i64 k ∧ Ext w2 wr2) (fun v _ => M.inodes.length - (intOf v).toNat)
      case atStart => exact ⟨0, by omega, rfl, HX.out⟩
      case round =>
        obtain ⟨k, hk, rfl, hX4⟩ := hrel
        have HX4 := Lib.hid hX4
        clear hX4 m0 m1 m2 m3 n0 n1 n2 n3
        obtain ⟨m0, m1, m2, m3⟩ := HC1.out.ext HX4.out
        obtain ⟨n0, n1, n2, n3⟩ := HC2.out.ext HX4.out
        by_cases hlt : k < M.inodes.length
        · obtain ⟨b1, o1, ha1, hx1⟩ := ino_range (HP.out.inodes.ext (HX3.out.trans HX4.out)) hlt
          obtain ⟨b2, o2, ha2, hx2⟩ := ino_range (HQ.out.inodes.ext (HX3.out.trans HX4.out)) hlt
          have hkn : (k : Int) < (M.inodes.length : Int) := by omega
          have hk0 : (0 : Int) ≤ k := by omega
          rw [ha1] at m3
          rw [ha2] at n3
          generalize M.inodes[k] = n at *
          have hx1 : wr.rangeAt b1 (o1 + k * 14) [.int .u8 n.k, .int .u8 n.r, .int .i64 n.l, .int .i64 n.s, .int .i64 n.d0, .int .i64 n.d1, .int .i64 n.d2, .int .i64 n.d3, .int .i64 n.d4, .int .i64 n.d5, .int .i64 n.d6, .int .i64 n.d7, .int .i64 n.i, .int .i64 n.j] := hx1
          have hx2 : wr.rangeAt b2 (o2 + k * 14) [.int .u8 n.k, .int .u8 n.r, .int .i64 n.l, .int .i64 n.s, .int .i64 n.d0, .int .i64 n.d1, .int .i64 n.d2, .int .i64 n.d3, .int .i64 n.d4, .int .i64 n.d5, .int .i64 n.d6, .int .i64 n.d7, .int .i64 n.i, .int .i64 n.j] := hx2
          have hneq := fun v : World => neqIno n n v
          simp only [Ino.eqB_self, Bool.not_true] at hneq
          clear m0 m1 m2 n0 n1 n2
          go_wp2_with fail
          refine wp_region_held_drew (S := (fun v => Ext wr v ∧ v.cell? ⟨w.heap.size, 3, none⟩ = some (.slice (some ⟨b1, o1, none⟩) M.inodes.length p.ic) ∧ v.cell? ⟨w.heap.size + 1, 3, none⟩ = some (.slice (some ⟨b2, o2, none⟩) M.inodes.length q.ic) ∧ v.rangeAt b1 (o1 + k * 14) [.int .u8 n.k, .int .u8 n.r, .int .i64 n.l, .int .i64 n.s, .int .i64 n.d0, .int .i64 n.d1, .int .i64 n.d2, .int .i64 n.d3, .int .i64 n.d4, .int .i64 n.d5, .int .i64 n.d6, .int .i64 n.d7, .int .i64 n.i, .int .i64 n.j] ∧ v.rangeAt b2 (o2 + k * 14) [.int .u8 n.k, .int .u8 n.r, .int .i64 n.l, .int .i64 n.s, .int .i64 n.d0, .int .i64 n.d1, .int .i64 n.d2, .int .i64 n.d3, .int .i64 n.d4, .int .i64 n.d5, .int .i64 n.d6, .int .i64 n.d7, .int .i64 n.i, .int .i64 n.j])) (by kernel_rfl) ⟨(Ext.refl _).drew, (Ext.refl _).drew.keep m3, (Ext.refl _).drew.keep n3, fun j v hv => (Ext.refl _).drew.keep (hx1 j v hv), fun j v hv => (Ext.refl _).drew.keep (hx2 j v hv)⟩ (fun hHeld => ?_)
          refine takeD (i := 0) (v := ?_) rfl rfl (by kernel_rfl) (by kernel_rfl) (by kernel_rfl) (fun _ _ _ h => h) (Or.inl ⟨by rfl, ?_⟩) hHeld ?_
          rotate_left
          · (intro v hv; (try obtain ⟨hv0, hv1, hv2, hv3, hv4⟩ := hv); go_simp; try (with_reducible rfl))
          (try simp only [List.setIfInBounds_toArray, List.set_cons_zero, List.set_cons_succ])
          refine takeD (i := 1) (v := ?_) rfl rfl (by kernel_rfl) (by kernel_rfl) (by kernel_rfl) (fun _ _ _ h => h) (Or.inl ⟨by rfl, ?_⟩) hHeld ?_
          rotate_left
          · (intro v hv; (try obtain ⟨hv0, hv1, hv2, hv3, hv4⟩ := hv); go_simp; try (with_reducible rfl))
          (try simp only [List.setIfInBounds_toArray, List.set_cons_zero, List.set_cons_succ])
          refine takeD (i := 2) (v := ?_) rfl rfl (by kernel_rfl) (by kernel_rfl) (by kernel_rfl) (fun _ _ _ h => h) (Or.inl ⟨by rfl, ?_⟩) hHeld ?_
          rotate_left
          · (intro v hv; (try obtain ⟨hv0, hv1, hv2, hv3, hv4⟩ := hv); go_simp; try (with_reducible rfl))
          (try simp only [List.setIfInBounds_toArray, List.set_cons_zero, List.set_cons_succ])
          refine takeD (i := 3) (v := ?_) rfl rfl (by kernel_rfl) (by kernel_rfl) (by kernel_rfl) (fun _ _ _ h => h) (Or.inl ⟨by rfl, ?_⟩) hHeld ?_
          rotate_left
          · (intro v hv; (try obtain ⟨hv0, hv1, hv2, hv3, hv4⟩ := hv); go_simp; try (with_reducible rfl))
          (try simp only [List.setIfInBounds_toArray, List.set_cons_zero, List.set_cons_succ])
          refine takeD (i := 4) (v := (.agg n.cs)) rfl rfl (by kernel_rfl) (by kernel_rfl) (by kernel_rfl) (fun _ _ _ h => h) (yieldsIf_load_mid (by rfl) _ _ rfl b1 (o1 + k * 14) rfl [.int .u8 n.k, .int .u8 n.r, .int .i64 n.l, .int .i64 n.s, .int .i64 n.d0, .int .i64 n.d1, .int .i64 n.d2, .int .i64 n.d3, .int .i64 n.d4, .int .i64 n.d5, .int .i64 n.d6, .int .i64 n.d7, .int .i64 n.i, .int .i64 n.j] _ (fun v hv => hv.2.2.2.1) Try.underlying48 rfl infoIno) hHeld ?_
          (try simp only [List.setIfInBounds_toArray, List.set_cons_zero, List.set_cons_succ])
          refine takeD (i := 5) (v := ?_) rfl rfl (by kernel_rfl) (by kernel_rfl) (by kernel_rfl) (fun _ _ _ h => h) (Or.inl ⟨by rfl, ?_⟩) hHeld ?_
          rotate_left
          · (intro v hv; (try obtain ⟨hv0, hv1, hv2, hv3, hv4⟩ := hv); go_simp; try (with_reducible rfl))
          (try simp only [List.setIfInBounds_toArray, List.set_cons_zero, List.set_cons_succ])
          refine takeD (i := 6) (v := ?_) rfl rfl (by kernel_rfl) (by kernel_rfl) (by kernel_rfl) (fun _ _ _ h => h) (Or.inl ⟨by rfl, ?_⟩) hHeld ?_
          rotate_left
          · (intro v hv; (try obtain ⟨hv0, hv1, hv2, hv3, hv4⟩ := hv); go_simp; try (with_reducible rfl))
          (try simp only [List.setIfInBounds_toArray, List.set_cons_zero, List.set_cons_succ])
          refine takeD (i := 7) (v := ?_) rfl rfl (by kernel_rfl) (by kernel_rfl) (by kernel_rfl) (fun _ _ _ h => h) (Or.inl ⟨by rfl, ?_⟩) hHeld ?_
          rotate_left
          · (intro v hv; (try obtain ⟨hv0, hv1, hv2, hv3, hv4⟩ := hv); go_simp; try (with_reducible rfl))
          (try simp only [List.setIfInBounds_toArray, List.set_cons_zero, List.set_cons_succ])
          refine takeD (i := 8) (v := ?_) rfl rfl (by kernel_rfl) (by kernel_rfl) (by kernel_rfl) (fun _ _ _ h => h) (Or.inl ⟨by rfl, ?_⟩) hHeld ?_
          rotate_left
          · (intro v hv; (try obtain ⟨hv0, hv1, hv2, hv3, hv4⟩ := hv); go_simp; try (with_reducible rfl))
          (try simp only [List.setIfInBounds_toArray, List.set_cons_zero, List.set_cons_succ])
          refine takeD (i := 9) (v := (.agg n.cs)) rfl rfl (by kernel_rfl) (by kernel_rfl) (by kernel_rfl) (fun _ _ _ h => h) (yieldsIf_load_mid (by rfl) _ _ rfl b2 (o2 + k * 14) rfl [.int .u8 n.k, .int .u8 n.r, .int .i64 n.l, .int .i64 n.s, .int .i64 n.d0, .int .i64 n.d1, .int .i64 n.d2, .int .i64 n.d3, .int .i64 n.d4, .int .i64 n.d5, .int .i64 n.d6, .int .i64 n.d7, .int .i64 n.i, .int .i64 n.j] _ (fun v hv => hv.2.2.2.2) Try.underlying48 rfl infoIno) hHeld ?_
          (try simp only [List.setIfInBounds_toArray, List.set_cons_zero, List.set_cons_succ])
          refine takeD (i := 10) (v := (.bool false)) rfl rfl (by kernel_rfl) (by kernel_rfl) (by kernel_rfl) (fun _ _ _ h => h) (Or.inl ⟨by rfl, ?_⟩) hHeld ?_
          · (intro v hv; (try obtain ⟨hv0, hv1, hv2, hv3, hv4⟩ := hv); go_simp; try (with_reducible rfl))
          (try simp only [List.setIfInBounds_toArray, List.set_cons_zero, List.set_cons_succ])
          refine wpAnyH_done (by kernel_rfl) ?_ _
          have HH := Lib.hid hHeld
          clear hHeld
          go_wp2
          go_roundw
          case rel => exact ⟨k + 1, hlt, by go_num, HX4.out.trans HH.out.1⟩
          case measure => simp [intOf]; omega
        · obtain rfl : k = M.inodes.length := by omega
          go_wp2
          go_ret
          exact ⟨rfl, HX3.out.trans HX4.out⟩
end Go.Proofs.Ytnodinancnfoeaa.Mt
/- A parting and what is known, as they come in. -/
namespace Go.Proofs.Ytnodinancnfoeaa.Mt
open Go.RowKit Words Mem Plain Ops Agg OwnS Intern Ino
open Go.Joins Go.ChangeShapes Go.WideShapes Go.Deep
set_option linter.ambiguousOpen false
set_option linter.unusedVariables false
set_option linter.unusedSimpArgs false

theorem bd_u16 {x : Int} (h : (Lit.int .u16 x).wf = true) : 0 ≤ x ∧ x ≤ 65535 := by
  simp [Lit.wf, IntKind.has, IntKind.min, IntKind.max, IntKind.signed, IntKind.bits] at h
  omega
theorem choose_list {α : Type} [Inhabited α] {n : Nat} {Pr : Nat → α → Prop} (h : ∀ i, i < n → ∃ x, Pr i x) : ∃ L : List α, L.length = n ∧ ∀ i (hi : i < L.length), Pr i L[i] := by
  obtain ⟨f, hf⟩ := choose_lt h
  refine ⟨(List.range n).map f, by simp, fun i hi => ?_⟩
  simp only [List.length_map, List.length_range] at hi
  simp only [List.getElem_map, List.getElem_range]
  exact hf i hi
theorem flat_sl {α : Type} {f : α → List Value} {s : Nat} (hs0 : 0 < s) (hs : ∀ x, (f x).length = s) {w : World} {a : Addr} {L : List α} (h : ∀ i (hi : i < L.length), ∀ q, q < s → w.cell? (a.add (i * s + q)) = (f L[i])[q]?) : Sl w (some a) (flat f L) := by
  intro j hj
  have hfl := flat_length (f := f) hs L
  refine ⟨a, rfl, ?_⟩
  have hk : j / s < L.length := Nat.div_lt_of_lt_mul (by rw [Nat.mul_comm]; omega)
  have hq : j % s < s := Nat.mod_lt _ hs0
  have e1 : j / s * s + j % s = j := by rw [Nat.mul_comm]; exact Nat.div_add_mod j s
  have e2 := flat_at (f := f) (s := s) hs L (j / s) hk (j % s) hq
  have h1 := h (j / s) hk (j % s) hq
  rw [e1] at e2 h1
  rw [h1, ← e2, List.getElem?_eq_getElem hj]
instance : Inhabited Ino := ⟨Ino.zero⟩
section
variable {H : Type} {enc : TypeId × Value → H} {w : World} {fuel : Nat} {v : Value} {x : DataW H × List MemPlace}
theorem cellsRow2 : Try.prog.cellsOf 45 = 2 := by kernel_rfl
theorem cellsIno14 : Try.prog.cellsOf 48 = 14 := by kernel_rfl
theorem cellsInt1 : Try.prog.cellsOf 3 = 1 := by kernel_rfl
theorem cellsU81 : Try.prog.cellsOf 5 = 1 := by kernel_rfl
theorem rows_cs (hf : DataW.trod enc Try.prog w 0 (fun _ => true) true fuel 24 [v] = some x) :
    ∃ a c L, v = .slice a (List.length L) c ∧ Sl w a (rowsC L) ∧ wfR L ∧ (a = none → L.length = 0 ∧ c = 0) := by
  rcases open_slice Try.underlying24 hf with ⟨hc, _⟩ | ⟨a, len, cap, m, k, D, Pl, hc, _, hl, hm, hmm, hx, hall⟩
  · simp at hc; subst hc
    exact ⟨none, 0, [], rfl, Sl.nil _ _, fun r hr => (by cases hr), fun _ => ⟨rfl, rfl⟩⟩
  · simp at hc; subst hc
    simp only [if_true] at hmm
    subst hmm
    have hat : ∀ i, i < len → ∃ r : RowT, ((0 ≤ r.1 ∧ r.1 ≤ 65535) ∧ (-9223372036854775808 ≤ r.2 ∧ r.2 ≤ 9223372036854775807)) ∧ ∀ q, q < 2 → w.cell? (a.add (i * 2 + q)) = (rc r)[q]? := by
      intro i hi
      obtain ⟨cs', hc, ht⟩ := hall i (by omega)
      rw [cellsRow2] at hc
      obtain ⟨ys, n', hn', hy, hlen, hyl, hf⟩ := DataW.trod_struct Try.underlying45 ht
      obtain ⟨_, hcl, hcell⟩ := World.cells?_some hc
      obtain ⟨u0, u1, rfl⟩ : ∃ u0 u1, cs' = [u0, u1] := by
        match cs', hcl with
        | [u0, u1], _ => exact ⟨_, _, rfl⟩
      have hyl' : ys.length = 2 := hyl
      obtain ⟨y0, y1, rfl⟩ : ∃ y0 y1, ys = [y0, y1] := by
        match ys, hyl' with
        | [y0, y1], _ => exact ⟨_, _, rfl⟩
      have t0 := hf 0 _ rfl
      have t1 := hf 1 _ rfl
      have one : ∀ t, Try.prog.cellsOf t = 1 → ∀ (l : List Value) , l.take (Try.prog.cellsOf t) = l.take 1 := fun t h l => by rw [h]
      rw [one _ (by kernel_rfl)] at t0 t1
      obtain ⟨a0, e0, _, b0⟩ := DataW.trod_int Try.underlying43 (show DataW.trod enc Try.prog w 0 (fun _ => true) true n' 43 [u0] = some y0 from t0)
      obtain ⟨a1, e1, _, b1⟩ := DataW.trod_int Try.underlying3 (show DataW.trod enc Try.prog w 0 (fun _ => true) true n' 3 [u1] = some y1 from t1)
      simp only [List.cons.injEq, and_true] at e0 e1
      subst e0 e1
      refine ⟨(a0, a1), ⟨bd_u16 b0, bounds_i64 b1⟩, fun j hj => ?_⟩
      have := hcell j hj
      rw [Go.Deep.add_add] at this
      rw [this]
    obtain ⟨L, hL, hp⟩ := choose_list hat
    subst hL
    exact ⟨some a, _, L, rfl, flat_sl (f := rc) (by decide) (fun _ => rfl) (fun i hi q hq => (hp i hi).2 q hq), fun r hr => by
      obtain ⟨i, hi, rfl⟩ := List.getElem_of_mem hr
      exact (hp i hi).1, fun e => by cases e⟩
theorem ints_cs (hf : DataW.trod enc Try.prog w 0 (fun _ => true) true fuel 25 [v] = some x) :
    ∃ a c L, v = .slice a (List.length L) c ∧ Sl w a (ints .i64 L) ∧ (a = none → L.length = 0 ∧ c = 0) := by
  rcases open_slice1 Try.underlying25 cellsInt1 hf with ⟨hc, _⟩ | ⟨a, len, cap, m, k, V, D, Pl, hc, _, hl, hm, hmm, hx, hall⟩
  · simp at hc; subst hc
    exact ⟨none, 0, [], rfl, Sl.nil _ _, fun _ => ⟨rfl, rfl⟩⟩
  · simp at hc; subst hc
    simp only [if_true] at hmm
    subst hmm
    have hat : ∀ i, i < len → ∃ y : Int, w.cell? (a.add i) = some (.int .i64 y) := by
      intro i hi
      obtain ⟨h1, h2⟩ := hall i (by omega)
      obtain ⟨y, e, _, _⟩ := DataW.trod_int Try.underlying3 h2
      simp only [List.cons.injEq, and_true] at e
      exact ⟨y, by rw [h1, e]⟩
    obtain ⟨L, hL, hp⟩ := choose_list hat
    subst hL
    refine ⟨some a, _, L, rfl, fun j hj => ⟨a, rfl, ?_⟩, fun e => by cases e⟩
    rw [ints_length] at hj
    rw [hp j hj, ints_getElem]
theorem bytes_cs (hf : DataW.trod enc Try.prog w 0 (fun _ => true) true fuel 26 [v] = some x) :
    ∃ a c L, v = .slice a (List.length L) c ∧ Sl w a (ints .u8 L) ∧ isBytes L ∧ L.length ≤ c ∧ c ≤ 9223372036854775807 ∧ (a = none → L.length = 0 ∧ c = 0) := by
  rcases open_slice1 Try.underlying26 cellsU81 hf with ⟨hc, _⟩ | ⟨a, len, cap, m, k, V, D, Pl, hc, _, hl, hm, hmm, hx, hall⟩
  · simp at hc; subst hc
    exact ⟨none, 0, [], rfl, Sl.nil _ _, fun x hx => (by cases hx), Nat.le_refl _, by decide, fun _ => ⟨rfl, rfl⟩⟩
  · simp at hc; subst hc
    simp only [if_true] at hmm
    subst hmm
    have hat : ∀ i, i < len → ∃ y : Int, w.cell? (a.add i) = some (.int .u8 y) ∧ 0 ≤ y ∧ y < 256 := by
      intro i hi
      obtain ⟨h1, h2⟩ := hall i (by omega)
      obtain ⟨y, e, _, hb⟩ := DataW.trod_int Try.underlying5 h2
      simp only [List.cons.injEq, and_true] at e
      have := bounds_u8 hb
      exact ⟨y, by rw [h1, e], by omega, by omega⟩
    obtain ⟨L, hL, hp⟩ := choose_list hat
    subst hL
    refine ⟨some a, _, L, rfl, fun j hj => ⟨a, rfl, ?_⟩, fun x hx => ?_, hl, by unfold maxLen at hm; omega, fun e => by cases e⟩
    · rw [ints_length] at hj
      rw [(hp j hj).1, ints_getElem]
    · obtain ⟨i, hi, rfl⟩ := List.getElem_of_mem hx
      exact (hp i hi).2
theorem inos_cs (hf : DataW.trod enc Try.prog w 0 (fun _ => true) true fuel 27 [v] = some x) :
    ∃ a c L, v = .slice a (List.length L) c ∧ Sl w a (flat inoC L) ∧ (∀ n ∈ L, n.wf) ∧ (a = none → L.length = 0 ∧ c = 0) := by
  rcases open_slice Try.underlying27 hf with ⟨hc, _⟩ | ⟨a, len, cap, m, k, D, Pl, hc, _, hl, hm, hmm, hx, hall⟩
  · simp at hc; subst hc
    exact ⟨none, 0, [], rfl, Sl.nil _ _, fun r hr => (by cases hr), fun _ => ⟨rfl, rfl⟩⟩
  · simp at hc; subst hc
    simp only [if_true] at hmm
    subst hmm
    have hat : ∀ i, i < len → ∃ n : Ino, n.wf ∧ ∀ q, q < 14 → w.cell? (a.add (i * 14 + q)) = (inoC n)[q]? := by
      intro i hi
      obtain ⟨cs', hc, ht⟩ := hall i (by omega)
      rw [cellsIno14] at hc
      obtain ⟨ys, n', hn', hy, hlen, hyl, hf⟩ := DataW.trod_struct Try.underlying48 ht
      obtain ⟨_, hcl, hcell⟩ := World.cells?_some hc
      obtain ⟨u0, u1, u2, u3, u4, u5, u6, u7, u8, u9, u10, u11, u12, u13, rfl⟩ : ∃ u0 u1 u2 u3 u4 u5 u6 u7 u8 u9 u10 u11 u12 u13, cs' = [u0, u1, u2, u3, u4, u5, u6, u7, u8, u9, u10, u11, u12, u13] := by
        match cs', hcl with
        | [u0, u1, u2, u3, u4, u5, u6, u7, u8, u9, u10, u11, u12, u13], _ => exact ⟨_, _, _, _, _, _, _, _, _, _, _, _, _, _, rfl⟩
      have hyl' : ys.length = 7 := hyl
      obtain ⟨y0, y1, y2, y3, y4, y5, y6, rfl⟩ : ∃ y0 y1 y2 y3 y4 y5 y6, ys = [y0, y1, y2, y3, y4, y5, y6] := by
        match ys, hyl' with
        | [y0, y1, y2, y3, y4, y5, y6], _ => exact ⟨_, _, _, _, _, _, _, rfl⟩
      have one : ∀ t, Try.prog.cellsOf t = 1 → ∀ (l : List Value) , l.take (Try.prog.cellsOf t) = l.take 1 := fun t h l => by rw [h]
      have t0 := hf 0 _ rfl
      have t1 := hf 1 _ rfl
      have t2 := hf 2 _ rfl
      have t3 := hf 3 _ rfl
      have t4 := hf 4 _ rfl
      have t5 := hf 5 _ rfl
      have t6 := hf 6 _ rfl
      rw [one _ (by kernel_rfl)] at t0 t1 t2 t3 t5 t6
      rw [show Try.prog.cellsOf _ = 8 from (by kernel_rfl)] at t4
      have t4' : DataW.trod enc Try.prog w 0 (fun _ => true) true n' 46 [u4, u5, u6, u7, u8, u9, u10, u11] = some y4 := t4
      obtain ⟨zs, m', _, _, _, hzl, hz⟩ := DataW.trod_array Try.underlying46 t4'
      obtain ⟨x0, e0, _, b0⟩ := DataW.trod_int Try.underlying5 (show DataW.trod enc Try.prog w 0 (fun _ => true) true n' 5 [u0] = some y0 from t0)
      obtain ⟨x1, e1, _, b1⟩ := DataW.trod_int Try.underlying5 (show DataW.trod enc Try.prog w 0 (fun _ => true) true n' 5 [u1] = some y1 from t1)
      obtain ⟨x2, e2, _, b2⟩ := DataW.trod_int Try.underlying3 (show DataW.trod enc Try.prog w 0 (fun _ => true) true n' 3 [u2] = some y2 from t2)
      obtain ⟨x3, e3, _, b3⟩ := DataW.trod_int Try.underlying3 (show DataW.trod enc Try.prog w 0 (fun _ => true) true n' 3 [u3] = some y3 from t3)
      obtain ⟨x12, e12, _, b12⟩ := DataW.trod_int Try.underlying3 (show DataW.trod enc Try.prog w 0 (fun _ => true) true n' 3 [u12] = some y5 from t5)
      obtain ⟨x13, e13, _, b13⟩ := DataW.trod_int Try.underlying3 (show DataW.trod enc Try.prog w 0 (fun _ => true) true n' 3 [u13] = some y6 from t6)
      have hel : ∀ i, i < 8 → ∃ y, [u4, u5, u6, u7, u8, u9, u10, u11][i]? = some (.int .i64 y) := fun i hi => by
        have h1 := hz i hi
        rw [cellsInt1, Nat.mul_one] at h1
        have h2 : ([u4, u5, u6, u7, u8, u9, u10, u11].drop i).take 1 = [[u4, u5, u6, u7, u8, u9, u10, u11][i]'hi] := by
          rw [List.drop_eq_getElem_cons hi]; rfl
        rw [h2, List.getElem?_eq_getElem (by rw [hzl]; exact hi)] at h1
        obtain ⟨y, e, _, _⟩ := DataW.trod_int Try.underlying3 h1
        simp only [List.cons.injEq, and_true] at e
        exact ⟨y, by rw [List.getElem?_eq_getElem hi, e]⟩
      obtain ⟨x4, e4⟩ := hel 0 (by decide)
      obtain ⟨x5, e5⟩ := hel 1 (by decide)
      obtain ⟨x6, e6⟩ := hel 2 (by decide)
      obtain ⟨x7, e7⟩ := hel 3 (by decide)
      obtain ⟨x8, e8⟩ := hel 4 (by decide)
      obtain ⟨x9, e9⟩ := hel 5 (by decide)
      obtain ⟨x10, e10⟩ := hel 6 (by decide)
      obtain ⟨x11, e11⟩ := hel 7 (by decide)
      simp only [List.cons.injEq, and_true, List.getElem?_cons_zero, List.getElem?_cons_succ, Option.some.injEq] at e0 e1 e2 e3 e4 e5 e6 e7 e8 e9 e10 e11 e12 e13
      subst e0 e1 e2 e3 e4 e5 e6 e7 e8 e9 e10 e11 e12 e13
      have c0 := bounds_u8 b0
      have c1 := bounds_u8 b1
      refine ⟨⟨x0, x1, x2, x3, x4, x5, x6, x7, x8, x9, x10, x11, x12, x13⟩, ⟨⟨by dsimp only; omega, by dsimp only; omega⟩, by dsimp only; omega, by dsimp only; omega⟩, fun j hj => ?_⟩
      have := hcell j hj
      rw [Go.Deep.add_add] at this
      rw [this]
      rfl
    obtain ⟨L, hL, hp⟩ := choose_list hat
    subst hL
    exact ⟨some a, _, L, rfl, flat_sl (f := inoC) (by decide) inoC_len (fun i hi q hq => (hp i hi).2 q hq), fun r hr => by
      obtain ⟨i, hi, rfl⟩ := List.getElem_of_mem hr
      exact (hp i hi).1, fun e => by cases e⟩
end
/-- Few enough. -/
def MetaT.small (M : MetaT) : Prop := M.rows.length ≤ 100 ∧ M.owners.length ≤ 100 ∧ M.used.length ≤ 200 ∧ M.inodes.length ≤ 100
theorem cellsMeta : Try.prog.cellsOf 29 = 4 := by kernel_rfl
theorem cellsGeo : Try.prog.cellsOf 23 = 4 := by kernel_rfl
theorem meta_in {H : Type} {enc : TypeId × Value → H} {base : Nat} {d : DataW H} {pl : List MemPlace} {v : Value} {w : World} (ho : Value.okWide Try.prog w .any base 29 v) (h : DataW.Trod enc Try.prog w 0 (fun _ => true) true 29 v d pl) :
    ∃ p M, v = metaV p M ∧ (M.small → MetaIn w p M) := by
  obtain ⟨v0, v1, v2, v3, y0, y1, y2, y3, n, rfl, _, _, h0, h1, h2, h3⟩ := open_agg4 Try.underlying29 rfl cellsMeta ho h
  obtain ⟨a0, c0, L0, rfl, s0, f0, z0⟩ := rows_cs h0
  obtain ⟨a1, c1, L1, rfl, s1, z1⟩ := ints_cs h1
  obtain ⟨a2, c2, L2, rfl, s2, f2, _, _, z2⟩ := bytes_cs h2
  obtain ⟨a3, c3, L3, rfl, s3, f3, z3⟩ := inos_cs h3
  exact ⟨⟨a0, c0, a1, c1, a2, c2, a3, c3⟩, ⟨L0, L1, L2, L3⟩, rfl, fun hs => ⟨s0, s1, s2, s3, f0, f2, f3, by obtain ⟨q0, q1, q2, q3⟩ := hs; dsimp only at *; omega, z0, z1, z2, z3⟩⟩
theorem geo_in {H : Type} {enc : TypeId × Value → H} {base : Nat} {d : DataW H} {pl : List MemPlace} {v : Value} {w : World} (ho : Value.okWide Try.prog w .any base 23 v) (h : DataW.Trod enc Try.prog w 0 (fun _ => true) true 23 v d pl) :
    ∃ J I G P, v = Super.geoV J I G P := by
  obtain ⟨v0, v1, v2, v3, y0, y1, y2, y3, n, rfl, _, _, h0, h1, h2, h3⟩ := open_agg4 Try.underlying23 rfl cellsGeo ho h
  obtain ⟨x0, e0, _, _⟩ := DataW.trod_int Try.underlying3 h0
  obtain ⟨x1, e1, _, _⟩ := DataW.trod_int Try.underlying3 h1
  obtain ⟨x2, e2, _, _⟩ := DataW.trod_int Try.underlying3 h2
  obtain ⟨x3, e3, _, _⟩ := DataW.trod_int Try.underlying3 h3
  simp only [List.cons.injEq, and_true] at e0 e1 e2 e3
  subst e0 e1 e2 e3
  exact ⟨x0, x1, x2, x3, rfl⟩
end Go.Proofs.Ytnodinancnfoeaa.Mt
/- What stays when parts of one's own memory are written over. -/
namespace Go.Proofs.Ytnodinancnfoeaa.Mt
open Go.RowKit Words Mem Plain Ops Agg OwnS Intern Ino
set_option linter.ambiguousOpen false
set_option linter.unusedVariables false
set_option linter.unusedSimpArgs false

/-- Nothing but what F tells of may have turned. -/
structure Chg (F : Nat → Prop) (w w' : World) : Prop where
  os : w'.os = w.os
  tape : w'.tape = w.tape
  output : w'.output = w.output
  size : w.heap.size ≤ w'.heap.size
  block : ∀ k, k < w.heap.size → ¬ F k → w'.heap[k]? = w.heap[k]?
theorem Chg.refl (F : Nat → Prop) (w : World) : Chg F w w := ⟨rfl, rfl, rfl, Nat.le_refl _, fun _ _ _ => rfl⟩
theorem Chg.trans {F : Nat → Prop} {a b c : World} (h : Chg F a b) (k : Chg F b c) : Chg F a c :=
  ⟨k.os.trans h.os, k.tape.trans h.tape, k.output.trans h.output, Nat.le_trans h.size k.size, fun i hi hn => (k.block i (Nat.lt_of_lt_of_le hi h.size) hn).trans (h.block i hi hn)⟩
theorem Chg.mono {F G : Nat → Prop} {a b : World} (h : Chg F a b) (hk : ∀ k, F k → G k) : Chg G a b :=
  ⟨h.os, h.tape, h.output, h.size, fun k hk' hn => h.block k hk' (fun hf => hn (hk k hf))⟩
theorem Chg.ofExt (F : Nat → Prop) {a b : World} (h : Ext a b) : Chg F a b := ⟨h.os, h.tape, h.output, h.size, fun k hk _ => h.block k hk⟩
theorem Chg.ofBy {F : Nat → Prop} {a b : World} {g : Nat} (h : By g a b) (hF : F g) : Chg F a b := ⟨h.os, h.tape, h.output, h.size, fun k hk hn => h.block k hk (fun e => hn (by cases e; exact hF))⟩
theorem Chg.set {F : Nat → Prop} {a w : World} (h : Chg F a w) {b : Nat} (hF : F b) (q : Nat) (v : Value) : Chg F a (w.setCell ⟨b, q, none⟩ v) := h.trans (Chg.ofBy (By.set w b q v) hF)
theorem Chg.ext {F : Nat → Prop} {w0 a b : World} (h : Ext w0 a) (k : Chg F a b) (hF : ∀ i, F i → w0.heap.size ≤ i) : Ext w0 b :=
  Below.trans h ⟨k.os, k.tape, k.output, k.size, fun i hi => k.block i (by have := h.size; omega) (fun hf => by have := hF i hf; omega)⟩
theorem Chg.cell {F : Nat → Prop} {a b : World} (h : Chg F a b) {p : Addr} {v : Value} (hc : a.cell? p = some v) (hn : ¬ F p.block) : b.cell? p = some v := by
  have hl := World.block_lt_of_cell? a p hc
  rw [World.cell?_of_block (w := a) (h.block p.block hl hn)]
  exact hc
theorem MetaAt.via {w w' : World} {lo : Nat} {p : Pl} {M : MetaT} (h : MetaAt w lo p M) (hk : ∀ k, lo ≤ k → k < w.heap.size → w'.heap[k]? = w.heap[k]?) : MetaAt w' lo p M :=
  ⟨ownS_block h.rows (fun ad e => hk _ (ownS_lt h.rows ad e).1 (ownS_lt h.rows ad e).2), ownS_block h.owners (fun ad e => hk _ (ownS_lt h.owners ad e).1 (ownS_lt h.owners ad e).2),
   ownS_block h.used (fun ad e => hk _ (ownS_lt h.used ad e).1 (ownS_lt h.used ad e).2), ownS_block h.inodes (fun ad e => hk _ (ownS_lt h.inodes ad e).1 (ownS_lt h.inodes ad e).2), h.wfr, h.bu, h.wfi, h.few, h.sep⟩
theorem SecsAt.via {w w' : World} {lo : Nat} {a : Option Addr} {n cap : Nat} {L : List (List Int)} (h : SecsAt w lo a n cap L) (hk : ∀ k, lo ≤ k → k < w.heap.size → w'.heap[k]? = w.heap[k]?) : SecsAt w' lo a n cap L := by
  obtain ⟨h1, H, h2, h3, h4⟩ := h
  exact ⟨h1, H, h2, ownS_block h3 (fun ad e => hk _ (ownS_lt h3 ad e).1 (ownS_lt h3 ad e).2), fun i hi hi' => ⟨ownS_block (h4 i hi hi').own (fun ad e => hk _ (ownS_lt (h4 i hi hi').own ad e).1 (ownS_lt (h4 i hi hi').own ad e).2), (h4 i hi hi').len, (h4 i hi hi').ne⟩⟩

theorem Row.same {w w' : World} {b : Nat} {t : TypeId} {L : List Value} (h : Row w b t L) (e : w'.heap[b]? = w.heap[b]?) : Row w' b t L := e.trans h
theorem Row.far {w : World} {b b' : Nat} {t : TypeId} {L : List Value} (h : Row w b t L) (hne : b ≠ b') (q : Nat) (v : Value) : Row (w.setCell ⟨b', q, none⟩ v) b t L :=
  Row.same h ((By.set w b' q v).block b h.lt (by simpa using hne))
theorem Row.type {w : World} {b : Nat} {t t' : TypeId} {L L' : List Value} (h : Row w b t L) (h' : Row w b t' L') : t = t' := by
  unfold Row at h h'
  rw [h] at h'
  injection h' with h1
  injection h1
/-- Some cells are there. -/
def HR (w : World) (lo hi : Nat) (t : TypeId) (a : Option Addr) (m : Nat) : Prop := ∃ b M, a = some ⟨b, 0, none⟩ ∧ (lo ≤ b ∧ b < hi) ∧ Row w b t M ∧ m ≤ M.length
/-- .. and are bytes. -/
def HU (w : World) (lo hi : Nat) (a : Option Addr) (m : Nat) : Prop := ∃ b M, a = some ⟨b, 0, none⟩ ∧ (lo ≤ b ∧ b < hi) ∧ Row w b 5 M ∧ ∀ q, q < m → ∃ y, M[q]? = some (.int .u8 y)
theorem HR.set {w : World} {lo hi : Nat} {t : TypeId} {a : Option Addr} {m : Nat} (h : HR w lo hi t a m) (b' q : Nat) (v : Value) : HR (w.setCell ⟨b', q, none⟩ v) lo hi t a m := by
  obtain ⟨b, M, h1, h2, h3, h4⟩ := h
  by_cases e : b = b'
  · subst e
    exact ⟨b, _, h1, h2, Row.set h3 q v, by rw [List.length_set]; exact h4⟩
  · exact ⟨b, M, h1, h2, Row.far h3 e q v, h4⟩
theorem HR.ext {w w' : World} {lo hi : Nat} {t : TypeId} {a : Option Addr} {m : Nat} (h : HR w lo hi t a m) (e : Ext w w') : HR w' lo hi t a m := by
  obtain ⟨b, M, h1, h2, h3, h4⟩ := h
  exact ⟨b, M, h1, h2, h3.ext e, h4⟩
theorem HU.ext {w w' : World} {lo hi : Nat} {a : Option Addr} {m : Nat} (h : HU w lo hi a m) (e : Ext w w') : HU w' lo hi a m := by
  obtain ⟨b, M, h1, h2, h3, h4⟩ := h
  exact ⟨b, M, h1, h2, h3.ext e, h4⟩
theorem HU.far {w : World} {lo hi : Nat} {a : Option Addr} {m : Nat} (h : HU w lo hi a m) {b' : Nat} {t : TypeId} {M' : List Value} (hr : Row w b' t M') (ht : t ≠ 5) (q : Nat) (v : Value) : HU (w.setCell ⟨b', q, none⟩ v) lo hi a m := by
  obtain ⟨b, M, h1, h2, h3, h4⟩ := h
  have e : b ≠ b' := fun e => by subst e; exact ht (Row.type hr h3)
  exact ⟨b, M, h1, h2, Row.far h3 e q v, h4⟩
theorem HU.set {w : World} {lo hi : Nat} {a : Option Addr} {m : Nat} (h : HU w lo hi a m) (b' q : Nat) (y : Int) : HU (w.setCell ⟨b', q, none⟩ (.int .u8 y)) lo hi a m := by
  obtain ⟨b, M, h1, h2, h3, h4⟩ := h
  by_cases e : b = b'
  · subst e
    refine ⟨b, _, h1, h2, Row.set h3 q _, fun j hj => ?_⟩
    rw [List.getElem?_set]
    obtain ⟨z, hz⟩ := h4 j hj
    have hl := (List.getElem?_eq_some_iff.1 hz).1
    by_cases e : q = j
    · subst e; rw [if_pos rfl, if_pos hl]; exact ⟨y, rfl⟩
    · rw [if_neg e]; exact ⟨z, hz⟩
  · exact ⟨b, M, h1, h2, Row.far h3 e q _, h4⟩
theorem ownS_HR {w : World} {base n s cap : Nat} {t : TypeId} {a : Option Addr} {xs : List Value} (h : w.ownsRow base t s (.slice a n cap) n xs) (h0 : 0 < n) : HR w base w.heap.size t a (n * s) := by
  rcases ownS_cases h with ⟨_, e, _⟩ | ⟨g, M, e1, h2, h3, h4, h5, h6, h7⟩
  · omega
  · exact ⟨g, M, e1, ⟨h2, h3.lt⟩, h3, by rw [h6]; exact Nat.mul_le_mul_right s h4⟩
theorem ownS_HU {w : World} {base n cap : Nat} {a : Option Addr} {xs : List Int} (h : w.ownsRow base 5 1 (.slice a n cap) n (ints .u8 xs)) (h0 : 0 < n) : HU w base w.heap.size a n := by
  have hl := h.1
  rcases ownS_cases h with ⟨_, e, _⟩ | ⟨g, M, e1, h2, h3, h4, h5, h6, h7⟩
  · omega
  · refine ⟨g, M, e1, ⟨h2, h3.lt⟩, h3, fun q hq => ?_⟩
    have : (M.take (n * 1))[q]? = (ints .u8 xs)[q]? := by rw [h7]
    rw [List.getElem?_take, if_pos (by omega), List.getElem?_eq_getElem (l := ints .u8 xs) (by omega), ints_getElem] at this
    exact ⟨_, this⟩
/-- Sectors that may be written over. -/
def WL (w : World) (lo hi : Nat) (a : Option Addr) (n : Nat) : Prop := ∀ i, i < n → ∃ ao b c, a = some ⟨ao, 0, none⟩ ∧ w.cell? ⟨ao, i, none⟩ = some (.slice (some ⟨b, 0, none⟩) 64 c) ∧ b ≠ ao ∧ HU w lo hi (some ⟨b, 0, none⟩) 64
theorem WL.ext {w w' : World} {lo hi : Nat} {a : Option Addr} {n : Nat} (h : WL w lo hi a n) (e : Ext w w') : WL w' lo hi a n := fun i hi' => by
  obtain ⟨ao, b, c, h1, h2, h3, h4⟩ := h i hi'
  exact ⟨ao, b, c, h1, e.keep h2, h3, h4.ext e⟩
theorem WL.set {w : World} {lo hi : Nat} {a : Option Addr} {n : Nat} (h : WL w lo hi a n) {b' : Nat} (hne : ∀ ao, a = some ⟨ao, 0, none⟩ → b' ≠ ao) (q : Nat) (y : Int) : WL (w.setCell ⟨b', q, none⟩ (.int .u8 y)) lo hi a n := fun i hi' => by
  obtain ⟨ao, b, c, h1, h2, h3, h4⟩ := h i hi'
  refine ⟨ao, b, c, h1, ?_, h3, h4.set b' q y⟩
  have hl := World.block_lt_of_cell? w _ h2
  rw [World.cell?_of_block (w := w) ((By.set w b' q (.int .u8 y)).block ao hl (by simpa using (hne ao h1).symm))]
  exact h2
theorem SecsAt.wl {w : World} {lo : Nat} {a : Option Addr} {n cap : Nat} {L : List (List Int)} (h : SecsAt w lo a n cap L) : WL w lo w.heap.size a n := fun i hi => by
  obtain ⟨h1, H, h2, h3, h4⟩ := h
  have hHl : (slVs H).length = n := by simp [slVs, h2]
  rcases ownS_cases h3 with ⟨_, e, _⟩ | ⟨g, M, e1, g2, g3, g4, g5, g6, g7⟩
  · omega
  · have hin := h4 i (by omega) (by omega)
    refine ⟨g, H[i].1, H[i].2, e1, ?_, hin.ne _ e1, ownS_HU hin.own (by decide)⟩
    have hc := ownsRow_sl h3
    obtain ⟨b, off, ha, hcc⟩ := hc.at (by omega)
    rw [e1] at ha
    cases ha
    have hc1 := hcc i (by omega)
    have e : (slVs H)[i]'(by omega) = slV H[i] := by simp [slVs]
    rw [e, Nat.zero_add] at hc1
    exact hc1
/-- What is known that may be written over. -/
structure CW (w : World) (lo hi : Nat) (p : Pl) (M : MetaT) : Prop where
  rows : 0 < M.rows.length → HR w lo hi 45 p.ra (M.rows.length * 2)
  owners : 0 < M.owners.length → HR w lo hi 3 p.oa (M.owners.length * 1)
  used : 0 < M.used.length → HU w lo hi p.ua M.used.length
  inodes : 0 < M.inodes.length → HR w lo hi 48 p.ia (M.inodes.length * 14)
theorem MetaAt.cw {w : World} {lo : Nat} {p : Pl} {M : MetaT} (h : MetaAt w lo p M) : CW w lo w.heap.size p M :=
  ⟨fun h0 => ownS_HR h.rows h0, fun h0 => ownS_HR h.owners h0, fun h0 => ownS_HU h.used h0, fun h0 => ownS_HR h.inodes h0⟩
theorem CW.ext {w w' : World} {lo hi : Nat} {p : Pl} {M : MetaT} (h : CW w lo hi p M) (e : Ext w w') : CW w' lo hi p M :=
  ⟨fun h0 => (h.rows h0).ext e, fun h0 => (h.owners h0).ext e, fun h0 => (h.used h0).ext e, fun h0 => (h.inodes h0).ext e⟩
theorem CW.far {w : World} {lo hi : Nat} {p : Pl} {M : MetaT} (h : CW w lo hi p M) {b' : Nat} {t : TypeId} {M' : List Value} (hr : Row w b' t M') (ht : t ≠ 5) (q : Nat) (v : Value) : CW (w.setCell ⟨b', q, none⟩ v) lo hi p M :=
  ⟨fun h0 => (h.rows h0).set b' q v, fun h0 => (h.owners h0).set b' q v, fun h0 => (h.used h0).far hr ht q v, fun h0 => (h.inodes h0).set b' q v⟩
theorem CW.set8 {w : World} {lo hi : Nat} {p : Pl} {M : MetaT} (h : CW w lo hi p M) (b' q : Nat) (y : Int) : CW (w.setCell ⟨b', q, none⟩ (.int .u8 y)) lo hi p M :=
  ⟨fun h0 => (h.rows h0).set b' q _, fun h0 => (h.owners h0).set b' q _, fun h0 => (h.used h0).set b' q y, fun h0 => (h.inodes h0).set b' q _⟩
theorem CW.chg {w w' : World} {lo hi : Nat} {p : Pl} {M : MetaT} (h : CW w lo hi p M) (e : ∀ k, lo ≤ k → k < hi → w'.heap[k]? = w.heap[k]?) : CW w' lo hi p M := by
  refine ⟨fun h0 => ?_, fun h0 => ?_, fun h0 => ?_, fun h0 => ?_⟩
  · obtain ⟨b, M', h1, h2, h3, h4⟩ := h.rows h0
    exact ⟨b, M', h1, h2, Row.same h3 (e b h2.1 h2.2), h4⟩
  · obtain ⟨b, M', h1, h2, h3, h4⟩ := h.owners h0
    exact ⟨b, M', h1, h2, Row.same h3 (e b h2.1 h2.2), h4⟩
  · obtain ⟨b, M', h1, h2, h3, h4⟩ := h.used h0
    exact ⟨b, M', h1, h2, Row.same h3 (e b h2.1 h2.2), h4⟩
  · obtain ⟨b, M', h1, h2, h3, h4⟩ := h.inodes h0
    exact ⟨b, M', h1, h2, Row.same h3 (e b h2.1 h2.2), h4⟩
end Go.Proofs.Ytnodinancnfoeaa.Mt
