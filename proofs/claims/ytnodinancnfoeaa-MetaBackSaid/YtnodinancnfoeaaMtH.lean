/- What is known of a new disk, plain; lists of lists of bytes; small and shown. -/
import Derived.Test.YtnodinancnfoeaaMtN
namespace Go.Proofs.Ytnodinancnfoeaa.Mt
open Go.RowKit Words Mem Plain Ops Agg OwnS Intern Ino
open Go.Proofs.Ytnodinancnfoeaa.Field
set_option linter.ambiguousOpen false
set_option linter.unusedVariables false
set_option linter.unusedSimpArgs false

theorem rows0 : Intern.rightB (List.replicate 16 (0, 0)) = true := by
  refine right_yes (by simp) (fun k hk => ?_)
  have e : ∀ j, rg (List.replicate 16 ((0 : Int), (0 : Int))) j = (0, 0) := fun j => by
    unfold rg
    rw [List.getD_eq_getElem?_getD, List.getElem?_replicate]
    split <;> rfl
  unfold goodAt
  rw [e k]
  exact ⟨by decide, by decide, fun _ => rfl, fun h => absurd h (by decide)⟩
theorem count0 (n : Nat) (x y : Int) : Bit.countN (List.replicate n 0) x y = 0 := by
  unfold Bit.countN Bit.countTo
  rw [List.length_eq_zero_iff, List.filter_eq_nil_iff]
  intro k _
  have : Bit.bitN (List.replicate n 0) k = false := by
    unfold Bit.bitN
    rw [List.getD_eq_getElem?_getD, List.getElem?_replicate]
    split <;> simp
  simp [Bit.inR, this]
theorem right0 {J P : Int} {G I : Nat} (h : Super.rightB J I G P = true) : rightM J I G P (newM G I) = true := by
  rw [rightM_of h rows0 (by simp [newM]) (by simp [newM]) (by simp [newM])]
  have e : (newM G I).used = List.replicate 64 0 := rfl
  rw [e, count0]
  simp [newM, ownB]
  exact Or.inr (by decide +kernel)
theorem pairs0 : ∀ q : Nat, pairsI (List.replicate (2 * q) Ino.zero) = List.replicate q (List.replicate 64 0)
  | 0 => rfl
  | q + 1 => by
    rw [show 2 * (q + 1) = 2 * q + 1 + 1 by omega, List.replicate_succ, List.replicate_succ]
    show (Ino.zero.bytes ++ Ino.zero.bytes) :: pairsI _ = _
    rw [pairs0 q, List.replicate_succ]
    congr 1
theorem sect0 {G q : Nat} (hg : G ≤ 64) : sectM (newM G (2 * q)) = List.replicate (3 + q) (List.replicate 64 0) := by
  unfold sectM ownersB
  have e1 : layed 2 (numsR (newM G (2 * q)).rows) = List.replicate 64 0 := by
    have : numsR (List.replicate 16 ((0 : Int), (0 : Int))) = List.replicate 32 0 := by decide +kernel
    show layed 2 (numsR (List.replicate 16 (0, 0))) = _
    rw [this, layed_zeros]
  have e2 : (newM G (2 * q)).owners ++ List.replicate (64 - (newM G (2 * q)).owners.length) 0 = List.replicate 64 (0 : Int) := by
    show List.replicate G (0 : Int) ++ List.replicate (64 - (List.replicate G (0 : Int)).length) 0 = _
    rw [List.length_replicate, List.replicate_append_replicate, show G + (64 - G) = 64 by omega]
  rw [e1, e2]
  show _ :: _ :: _ :: pairsI (List.replicate (2 * q) Ino.zero) = _
  rw [pairs0, show 3 + q = q + 1 + 1 + 1 by omega, List.replicate_succ, List.replicate_succ, List.replicate_succ]
  rfl
theorem lay0 {J P : Int} {G q : Nat} (h : Super.rightB J (2 * q : Nat) G P = true) : layM J (2 * q : Nat) G P (newM G (2 * q)) = (List.replicate (3 + q) (List.replicate 64 0), 0) := by
  unfold layM
  rw [if_pos (right0 h), sect0 (by have := Super.right_bd h; omega)]

/-- Lists of bytes that lie somewhere. -/
def LsIn (w : World) (a : Option Addr) (n : Nat) (L : List (List Int)) : Prop :=
  L.length = n ∧ (0 < n → ∃ b off, a = some ⟨b, off, none⟩ ∧ ∀ i (h : i < L.length), ∃ x m c, w.cell? ⟨b, off + i, none⟩ = some (.slice x m c) ∧ L[i].length = m ∧ m ≤ c ∧ c ≤ 9223372036854775807 ∧ Sl w x (ints .u8 L[i]) ∧ isBytes L[i] ∧ (x = none → m = 0 ∧ c = 0))
theorem LsIn.ext {w w' : World} {a : Option Addr} {n : Nat} {L : List (List Int)} (h : LsIn w a n L) (e : Ext w w') : LsIn w' a n L := by
  refine ⟨h.1, fun h0 => ?_⟩
  obtain ⟨b, off, ha, hi⟩ := h.2 h0
  refine ⟨b, off, ha, fun i hl => ?_⟩
  obtain ⟨x, m, c, h1, h2, h3, h3', h4, h5, h6⟩ := hi i hl
  exact ⟨x, m, c, e.keep h1, h2, h3, h3', h4.ext e, h5, h6⟩
theorem SecsAt.ls {w : World} {lo : Nat} {a : Option Addr} {n cap : Nat} {L : List (List Int)} (h : SecsAt w lo a n cap L) (hb : ∀ xs ∈ L, isBytes xs) : LsIn w a n L := by
  refine ⟨h.len, fun h0 => ?_⟩
  obtain ⟨h1, H, h2, h3, h4⟩ := h
  have hsl := ownsRow_sl h3
  have hHl : (slVs H).length = n := by simp [slVs, h2]
  obtain ⟨b, off, ha, hc⟩ := hsl.at (by omega)
  refine ⟨b, off, ha, fun i hl => ?_⟩
  have hi : i < H.length := by omega
  have hin := h4 i hi hl
  have hc1 := hc i (by omega)
  have e : (slVs H)[i]'(by omega) = slV H[i] := by simp [slVs]
  rw [e] at hc1
  have hcap := ownS_cap hin.own
  exact ⟨_, 64, _, hc1, hin.len, hcap.1, hcap.2, ownsRow_sl hin.own, hb _ (List.getElem_mem hl), fun e => by cases e⟩

theorem New_no (J I G P : Int) (w : World) (hr : Super.rightB J I G P = false) :
    Calls Try.prog 11 #[Super.geoV J I G P] w fun e w' => e = .returned (.tuple #[metaV nilP nilM, .int .i64 1]) ∧ Ext w w' := by
  have X1 := (Ext.refl w).alloc (.cells #[.int .i64 J, .int .i64 I, .int .i64 G, .int .i64 P] 23)
  have X2 := X1.alloc (.cells #[.slice none 0 0, .slice none 0 0, .slice none 0 0, .slice none 0 0] 29)
  have hrow2 := Row.new (w.alloc (.cells #[.int .i64 J, .int .i64 I, .int .i64 G, .int .i64 P] 23)) 29 [.slice none 0 0, .slice none 0 0, .slice none 0 0, .slice none 0 0]
  have hs1 : (w.alloc (.cells #[.int .i64 J, .int .i64 I, .int .i64 G, .int .i64 P] 23)).heap.size = w.heap.size + 1 := by simp
  rw [hs1] at hrow2
  have hgr := Super.Right_ok J I G P ((w.alloc (.cells #[.int .i64 J, .int .i64 I, .int .i64 G, .int .i64 P] 23)).alloc (.cells #[.slice none 0 0, .slice none 0 0, .slice none 0 0, .slice none 0 0] 29))
  rw [hr] at hgr
  have HX2 := Lib.hid X2
  have HROW2 := Lib.hid hrow2
  have hz := zeroMeta
  clear X1 X2 hrow2 hs1 hr
  go_enter Try.func11, Try.ntmps11
  go_wp2_with fail
  refine hgr.mono ?_
  rintro e w2 ⟨rfl, h2⟩
  have HX3 := Lib.hid (HX2.out.trans h2)
  have HR2 := Lib.hid (HROW2.out.ext h2)
  have k0 := (HR2.out.cell? 0).trans rfl
  have k1 := (HR2.out.cell? 1).trans rfl
  have k2 := (HR2.out.cell? 2).trans rfl
  have k3 := (HR2.out.cell? 3).trans rfl
  clear hgr h2 HROW2
  go_wp2_with (refine wpList_store_row rfl _ _ _ rfl (w.heap.size + 1) #[.slice none 0 0, .slice none 0 0, .slice none 0 0, .slice none 0 0] rfl rfl 29 _ HR2.out infoMeta rfl (by simp [Value.oneCell']) ?_)
  refine post_meta rfl (by rfl) (by rfl) (HR2.out.setRow #[.slice none 0 0, .slice none 0 0, .slice none 0 0, .slice none 0 0]) rfl ?_
  exact ⟨rfl, HX3.out.setRow (Nat.le_succ _) _⟩
theorem small_ok (p : Pl) (M : MetaT) (w : World) : Calls Try.prog 10 #[metaV p M] w fun e w' => e = .returned (.bool (decide (M.rows.length ≤ 100 ∧ M.owners.length ≤ 100 ∧ M.used.length ≤ 200 ∧ M.inodes.length ≤ 100))) ∧ Ext w w' := by
  have HX := Lib.hid ((Ext.refl w).alloc (.cells #[.slice p.ra M.rows.length p.rc, .slice p.oa M.owners.length p.oc, .slice p.ua M.used.length p.uc, .slice p.ia M.inodes.length p.ic] 29))
  obtain ⟨sb, hsb⟩ : ∃ q, q = decide (M.rows.length ≤ 100 ∧ M.owners.length ≤ 100 ∧ M.used.length ≤ 200 ∧ M.inodes.length ≤ 100) := ⟨_, rfl⟩
  rw [← hsb]
  have HSB := Lib.hid hsb
  clear hsb
  by_cases h1 : M.rows.length ≤ 100
  · by_cases h2 : M.owners.length ≤ 100
    · by_cases h3 : M.used.length ≤ 200
      · by_cases h4 : M.inodes.length ≤ 100
        · have HV := Lib.hid (show sb = true by rw [HSB.out]; simp; omega)
          have k1 : (M.rows.length : Int) ≤ 100 := by omega
          have k2 : (M.owners.length : Int) ≤ 100 := by omega
          have k3 : (M.used.length : Int) ≤ 200 := by omega
          have k4 : (M.inodes.length : Int) ≤ 100 := by omega
          go_enter Try.func10, Try.ntmps10
          go_wp2
          go_ret
          exact ⟨by rw [HV.out]; first | rfl | (show Ending.returned (.bool (decide ((M.inodes.length : Int) ≤ 100))) = _; simp only [k4, decide_true, decide_false]), HX.out⟩
        · have HV := Lib.hid (show sb = false by rw [HSB.out]; simp; omega)
          have k1 : (M.rows.length : Int) ≤ 100 := by omega
          have k2 : (M.owners.length : Int) ≤ 100 := by omega
          have k3 : (M.used.length : Int) ≤ 200 := by omega
          have k4 : ¬ (M.inodes.length : Int) ≤ 100 := by omega
          go_enter Try.func10, Try.ntmps10
          go_wp2
          go_ret
          exact ⟨by rw [HV.out]; first | rfl | (show Ending.returned (.bool (decide ((M.inodes.length : Int) ≤ 100))) = _; simp only [k4, decide_true, decide_false]), HX.out⟩
      · have HV := Lib.hid (show sb = false by rw [HSB.out]; simp; omega)
        have k1 : (M.rows.length : Int) ≤ 100 := by omega
        have k2 : (M.owners.length : Int) ≤ 100 := by omega
        have k3 : ¬ (M.used.length : Int) ≤ 200 := by omega
        go_enter Try.func10, Try.ntmps10
        go_wp2
        go_ret
        exact ⟨by rw [HV.out]; first | rfl | (show Ending.returned (.bool (decide ((M.inodes.length : Int) ≤ 100))) = _; simp only [k4, decide_true, decide_false]), HX.out⟩
    · have HV := Lib.hid (show sb = false by rw [HSB.out]; simp; omega)
      have k1 : (M.rows.length : Int) ≤ 100 := by omega
      have k2 : ¬ (M.owners.length : Int) ≤ 100 := by omega
      go_enter Try.func10, Try.ntmps10
      go_wp2
      go_ret
      exact ⟨by rw [HV.out]; first | rfl | (show Ending.returned (.bool (decide ((M.inodes.length : Int) ≤ 100))) = _; simp only [k4, decide_true, decide_false]), HX.out⟩
  · have HV := Lib.hid (show sb = false by rw [HSB.out]; simp; omega)
    have k1 : ¬ (M.rows.length : Int) ≤ 100 := by omega
    go_enter Try.func10, Try.ntmps10
    go_wp2
    go_ret
    exact ⟨by rw [HV.out]; first | rfl | (show Ending.returned (.bool (decide ((M.inodes.length : Int) ≤ 100))) = _; simp only [k4, decide_true, decide_false]), HX.out⟩
end Go.Proofs.Ytnodinancnfoeaa.Mt
