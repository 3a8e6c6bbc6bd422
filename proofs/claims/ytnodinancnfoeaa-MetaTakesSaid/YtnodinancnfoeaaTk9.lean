/- MtRT; MtF; MtBackP -/
import Derived.Test.YtnodinancnfoeaaTk6
import Derived.Test.YtnodinancnfoeaaTk7
import Derived.Test.YtnodinancnfoeaaTk8
import Derived.Test.YtnodinancnfoeaaTk4
/- moatref14.Take (printed by gen_rtake14.py from rtake14.txt). -/
namespace Go.Proofs.Ytnodinancnfoeaa.Mt
open Go.RowKit Words Mem Plain Ops Agg OwnS Intern Ino
open Go.Proofs.Ytnodinancnfoeaa.Field
set_option linter.ambiguousOpen false
set_option linter.unusedVariables false
set_option linter.unusedSimpArgs false

theorem rMeta_ok (J I G P : Int) (w : World) : Calls Try.prog 45 #[Super.geoV J I G P] w fun e w' => e = .returned (.int .i64 (Super.metaN J I G P)) ∧ Ext w w' := by
  unfold Super.metaN
  cases h : Super.rightB J I G P
  · go_enter Try.func45, Try.ntmps45
    go_wp2_with (go_at_call 24; refine (Super.rRight_ok _ _ _ _ _).mono ?_; rintro e w' ⟨rfl, hg⟩; have hX := Ext.trans ((Ext.refl w).alloc _) hg)
    go_ret
    exact ⟨rfl, hX⟩
  · obtain ⟨⟨j0, j1⟩, ⟨i0, i1⟩, _⟩ := Super.right_bd h
    go_enter Try.func45, Try.ntmps45
    go_wp2_with (go_at_call 24; refine (Super.rRight_ok _ _ _ _ _).mono ?_; rintro e w' ⟨rfl, hg⟩; have hX := Ext.trans ((Ext.refl w).alloc _) hg; have hcs := hg.cells)
    go_ret
    exact ⟨rfl, hX⟩
/-- The owners, some of them taken. -/
theorem own_step {X : List Int} {k G : Nat} (hk : k < G) (hX : k < X.length) : (ints .i64 (X.take k ++ List.replicate (G - k) 0)).set k (.int .i64 X[k]) = ints .i64 (X.take (k + 1) ++ List.replicate (G - (k + 1)) 0) := by
  apply List.ext_getElem?
  intro i
  have hl : (ints .i64 (X.take k ++ List.replicate (G - k) 0)).length = G := by rw [ints_length, List.length_append, List.length_take, List.length_replicate]; omega
  rw [List.getElem?_set, ints_getElem?, ints_getElem?]
  by_cases h : k = i
  · subst h
    rw [if_pos rfl, if_pos (by rw [hl]; omega), List.getElem?_append_left (by simp; omega), List.getElem?_take, if_pos (by omega), List.getElem?_eq_getElem hX]
    rfl
  · rw [if_neg h]
    congr 1
    simp only [List.getElem?_append, List.length_take, List.getElem?_replicate, List.getElem?_take]
    repeat' split
    all_goals first | rfl | omega
theorem inos_step {L : List (List Int)} {k I : Nat} (hk : k < I) : (inosN L k ++ List.replicate (I - k) Ino.zero).set k (inoAt L k).1 = inosN L (k + 1) ++ List.replicate (I - (k + 1)) Ino.zero := by
  have e : List.replicate (I - k) Ino.zero = Ino.zero :: List.replicate (I - (k + 1)) Ino.zero := by rw [show I - k = I - (k + 1) + 1 by omega, List.replicate_succ]
  rw [inosN_succ, List.append_assoc, e, List.set_append_right _ _ (by rw [inosN_len]; exact Nat.le_refl _), inosN_len, Nat.sub_self]
  rfl
theorem there_of {w : World} {g : Nat} {t : TypeId} {V : List Value} (h : Row w g t V) {o n : Nat} (ho : o + n ≤ V.length) : World.there w g o n := fun j hj => by
  refine ⟨?_, h.frozen _⟩
  rw [h.cell?, List.getElem?_eq_getElem (by omega)]
  rfl

set_option maxHeartbeats 16000000 in
set_option maxRecDepth 100000 in
theorem rTake_ok (J I G P : Int) (a : Option Addr) (n cap : Nat) (L : List (List Int)) (w : World) (hL : LsIn w a n L) (hn : n ≤ 100) (hcap : n ≤ cap) (hcm : cap ≤ 9223372036854775807) :
    Calls Try.prog 22 #[Super.geoV J I G P, .slice a n cap] w (GaveT w (takeM J I G P L)) := by
  have X1 := (Ext.refl w).alloc (.cells #[.int .i64 J, .int .i64 I, .int .i64 G, .int .i64 P] 23)
  have hrow1 := Row.new w 23 [.int .i64 J, .int .i64 I, .int .i64 G, .int .i64 P]
  have hs1 : (w.alloc (.cells #[.int .i64 J, .int .i64 I, .int .i64 G, .int .i64 P] 23)).heap.size = w.heap.size + 1 := by simp
  obtain ⟨w1, hw1⟩ : ∃ z, z = w.alloc (.cells #[.int .i64 J, .int .i64 I, .int .i64 G, .int .i64 P] 23) := ⟨_, rfl⟩
  rw [← hw1] at X1 hrow1 hs1
  have X2 := (Ext.refl w1).alloc (.cells #[.slice none 0 0, .slice none 0 0, .slice none 0 0, .slice none 0 0] 29)
  have hrow2 := Row.new w1 29 [.slice none 0 0, .slice none 0 0, .slice none 0 0, .slice none 0 0]
  have hs2 : (w1.alloc (.cells #[.slice none 0 0, .slice none 0 0, .slice none 0 0, .slice none 0 0] 29)).heap.size = w.heap.size + 2 := by simp [hs1]
  rw [hs1] at hrow2
  obtain ⟨w2, hw2⟩ : ∃ z, z = w1.alloc (.cells #[.slice none 0 0, .slice none 0 0, .slice none 0 0, .slice none 0 0] 29) := ⟨_, rfl⟩
  rw [← hw2] at X2 hrow2 hs2
  have hg2 := hrow1.ext X2
  have HGE := Lib.hid hg2
  have HX2 := Lib.hid (X1.trans X2)
  have HR2 := Lib.hid hrow2
  have HS2 := Lib.hid hs2
  have HL := Lib.hid hL
  have hgr := Super.rRight_ok J I G P w2
  have hz := zeroMeta
  have HW1 := Lib.hid hw1
  have HW2 := Lib.hid hw2
  clear X1 hrow1 X2 hrow2 hs1 hs2 hg2 hL hw1 hw2
  go_enter Try.func22, Try.ntmps22
  go_wp2_with fail
  rw [← HW1.out, ← HW2.out]
  refine hgr.mono ?_
  rintro e w3 ⟨rfl, h3⟩
  have HX3 := Lib.hid (HX2.out.trans h3)
  have HR3 := Lib.hid (HR2.out.ext h3)
  have HG3 := Lib.hid (HGE.out.ext h3)
  have HS3 := Lib.hid (HS2.out ▸ h3.size)
  clear hgr h3 HR2 HGE HS2 HW1 HW2 HX2
  have k0 := (HG3.out.cell? 0).trans rfl
  have k1 := (HG3.out.cell? 1).trans rfl
  have k2 := (HG3.out.cell? 2).trans rfl
  have k3 := (HG3.out.cell? 3).trans rfl
  cases hr : Super.rightB J I G P
  · have HBAD := Lib.hid (takeM_no (J := J) (I := I) (G := G) (P := P) (L := L) (fun h => by have := h.right; rw [hr] at this; cases this))
    clear hr
    go_wp2_with (refine wpList_store_row rfl _ _ _ rfl (w.heap.size + 1) #[.slice none 0 0, .slice none 0 0, .slice none 0 0, .slice none 0 0] rfl rfl 29 _ HR3.out infoMeta rfl (by simp [Value.oneCell']) ?_)
    refine post_meta rfl (by rfl) (by rfl) (HR3.out.setRow #[.slice none 0 0, .slice none 0 0, .slice none 0 0, .slice none 0 0]) rfl ?_
    rw [HBAD.out]
    exact ⟨nilP, rfl, nil_in _, HX3.out.setRow (Nat.le_succ _) _⟩
  have HRT := Lib.hid hr
  have HBD := Lib.hid (Super.right_bd hr)
  have hmt := rMeta_ok J I G P w3
  rw [show Super.metaN J I G P = 3 + I / 2 by unfold Super.metaN; rw [hr]; rfl] at hmt
  clear hr
  go_wp2_with fail
  refine hmt.mono ?_
  rintro e w4 ⟨rfl, h4⟩
  have HX4 := Lib.hid (HX3.out.trans h4)
  have HR4 := Lib.hid (HR3.out.ext h4)
  have HG4 := Lib.hid (HG3.out.ext h4)
  have HS4 := Lib.hid (Nat.le_trans HS3.out h4.size)
  clear hmt h4 HR3 HG3 HS3 HX3 k0 k1 k2 k3
  by_cases hlen : (n : Int) = 3 + I / 2
  case neg =>
    have HBAD := Lib.hid (takeM_no (J := J) (I := I) (G := G) (P := P) (L := L) (fun h => hlen (by rw [← HL.out.1]; exact h.len)))
    have hne : ((n : Int) != 3 + I / 2) = true := by simp; omega
    clear hlen
    go_wp2_with (refine wpList_store_row rfl _ _ _ rfl (w.heap.size + 1) #[.slice none 0 0, .slice none 0 0, .slice none 0 0, .slice none 0 0] rfl rfl 29 _ HR4.out infoMeta rfl (by simp [Value.oneCell']) ?_)
    refine post_meta rfl (by rfl) (by rfl) (HR4.out.setRow #[.slice none 0 0, .slice none 0 0, .slice none 0 0, .slice none 0 0]) rfl ?_
    rw [HBAD.out]
    exact ⟨nilP, rfl, nil_in _, HX4.out.setRow (Nat.le_succ _) _⟩
  have hne : ((n : Int) != 3 + I / 2) = false := by simp [hlen]
  have HLEN := Lib.hid hlen
  clear hlen
  go_wp2_with fail
  clear hne
  go_loopw [6] (fun v wr => ∃ k : Nat, k ≤ n ∧ v = .int .i64 k ∧ w4 = wr ∧ ∀ q, q < k → (L.getD q []).length = 64) (fun v _ => n - (intOf v).toNat)
  case atStart => exact ⟨0, by omega, rfl, rfl, fun q hq => absurd hq (by omega)⟩
  case round =>
    obtain ⟨k, hk, rfl, rfl, h64⟩ := hrel
    have H64 := Lib.hid h64
    clear h64
    by_cases hlt : k < n
    · have hkL : k < L.length := by rw [HL.out.1]; exact hlt
      obtain ⟨b, off, rfl, hi⟩ := HL.out.2 (by omega)
      obtain ⟨x, mm, cx, hc, hl, _⟩ := hi k hkL
      have hcell := HX4.out.keep hc
      have hkn : (k : Int) < n := by omega
      have hgd : L.getD k [] = L[k] := by simp [hkL]
      rw [← hgd] at hl
      have HHL := Lib.hid hl
      clear hi hc hl hgd
      by_cases h6 : mm = 64
      · have hne : ((mm : Int) != 64) = false := by simp [h6]
        have H6 := Lib.hid h6
        clear h6
        go_wp2
        go_roundw
        case rel => exact ⟨k + 1, hlt, by go_num, (by first | rfl | trivial), fun q hq => by
          by_cases hqk : q < k
          · exact H64.out q hqk
          · rw [show q = k by omega, HHL.out, H6.out]⟩
        case measure => simp [intOf]; omega
      · have hne : ((mm : Int) != 64) = true := by simp; omega
        have HBAD := Lib.hid (takeM_no (J := J) (I := I) (G := G) (P := P) (L := L) (fun h => by
          have := h.s64 (L.getD k []) (by rw [List.getD_eq_getElem?_getD, List.getElem?_eq_getElem hkL]; exact List.getElem_mem hkL)
          rw [HHL.out] at this; exact h6 this))
        clear h6
        go_wp2_with (refine wpList_store_row rfl _ _ _ rfl (w.heap.size + 1) #[.slice none 0 0, .slice none 0 0, .slice none 0 0, .slice none 0 0] rfl rfl 29 _ HR4.out infoMeta rfl (by simp [Value.oneCell']) ?_)
        refine post_meta rfl (by rfl) (by rfl) (HR4.out.setRow #[.slice none 0 0, .slice none 0 0, .slice none 0 0, .slice none 0 0]) rfl ?_
        rw [HBAD.out]
        exact ⟨nilP, rfl, nil_in _, HX4.out.setRow (Nat.le_succ _) _⟩
    · have hkn : k = n := by omega
      have HKN := Lib.hid hkn
      clear hkn
      have H64A := Lib.hid (show ∀ xs ∈ L, xs.length = 64 from fun xs hx => by
        obtain ⟨i, hi, rfl⟩ := List.getElem_of_mem hx
        have := H64.out i (by rw [HKN.out, ← HL.out.1]; exact hi)
        rw [List.getD_eq_getElem?_getD, List.getElem?_eq_getElem hi] at this
        exact this)
      have hn4 : 4 ≤ n := by have := HLEN.out; have := HBD.out; omega
      obtain ⟨b, off, rfl, hi⟩ := HL.out.2 (by omega)
      have hat : ∀ q, q < n → ∃ x c, w4.cell? ⟨b, off + q, none⟩ = some (.slice x 64 c) ∧ (L.getD q []).length = 64 ∧ 64 ≤ c ∧ c ≤ 9223372036854775807 ∧ Sl w4 x (ints .u8 (L.getD q [])) ∧ isBytes (L.getD q []) ∧ (x = none → 64 = 0 ∧ c = 0) := fun q hq => by
        obtain ⟨x, m, c, h1, h2, h3, h4, h5, h6, h7⟩ := hi q (by rw [HL.out.1]; exact hq)
        have e : L.getD q [] = L[q]'(by rw [HL.out.1]; exact hq) := by simp [HL.out.1, hq]
        have e6 := H64.out q (by rw [HKN.out]; exact hq)
        rw [e] at e6 ⊢
        obtain rfl : m = 64 := by omega
        exact ⟨x, c, HX4.out.keep h1, e6, h3, h4, h5.ext HX4.out, h6, h7⟩
      obtain ⟨x0, c0, hc0, hl0, hle0, hm0, hsl0, hb0, _⟩ := hat 0 (by omega)
      obtain ⟨x1, c1, hc1, hl1, hle1, hm1, hsl1, hb1, _⟩ := hat 1 (by omega)
      obtain ⟨x2, c2, hc2, hl2, hle2, hm2, hsl2, hb2, hn2⟩ := hat 2 (by omega)
      have HAT := Lib.hid hat
      have HC0 := Lib.hid hc0
      have HC1 := Lib.hid hc1
      have HC2 := Lib.hid hc2
      have HC := Lib.hid (And.intro hl0 (And.intro hle0 (And.intro hm0 (And.intro hsl0 hb0))))
      have HD := Lib.hid (And.intro hl1 (And.intro hle1 (And.intro hm1 (And.intro hsl1 hb1))))
      have HE := Lib.hid (And.intro hl2 (And.intro hle2 (And.intro hm2 (And.intro hsl2 (And.intro hb2 hn2)))))
      clear hat hi hl0 hle0 hm0 hsl0 hb0 hl1 hle1 hm1 hsl1 hb1 hl2 hle2 hm2 hsl2 hb2 hn2 hc0 hc1 hc2 H64
      have hbd := HBD.out
      obtain ⟨go, hgo⟩ : ∃ q : Nat, G = q := ⟨G.toNat, by omega⟩
      subst hgo
      obtain ⟨ni, hni⟩ : ∃ q : Nat, I = q := ⟨I.toNat, by omega⟩
      subst hni
      have hgo : go ≤ 64 := by omega
      have hnib : ni ≤ 64 := by omega
      have HNI := Lib.hid (show ni = 2 * (n - 3) ∧ ni % 2 = 0 by have := HLEN.out; omega)
      have k0 := (HG4.out.cell? 0).trans rfl
      have k1 := (HG4.out.cell? 1).trans rfl
      have k2 := (HG4.out.cell? 2).trans rfl
      have k3 := (HG4.out.cell? 3).trans rfl
      have hnew := rNew_own J P go ni w4 HRT.out
      clear hbd
      go_wp2_with fail
      refine hnew.mono ?_
      rintro e w5 ⟨b0, b1, b2, b3, rfl, hna, h5⟩
      have X6 := (Ext.refl w5).alloc (.cells #[.slice (some ⟨b0, 0, none⟩) 16 16, .slice (some ⟨b1, 0, none⟩) go go, .slice (some ⟨b2, 0, none⟩) 64 64, .slice (some ⟨b3, 0, none⟩) ni ni] 29)
      have hrow6 := Row.new w5 29 [.slice (some ⟨b0, 0, none⟩) 16 16, .slice (some ⟨b1, 0, none⟩) go go, .slice (some ⟨b2, 0, none⟩) 64 64, .slice (some ⟨b3, 0, none⟩) ni ni]
      obtain ⟨g7, hg7⟩ : ∃ z, z = w5.heap.size := ⟨_, rfl⟩
      obtain ⟨w6, hw6⟩ : ∃ z, z = w5.alloc (.cells #[.slice (some ⟨b0, 0, none⟩) 16 16, .slice (some ⟨b1, 0, none⟩) go go, .slice (some ⟨b2, 0, none⟩) 64 64, .slice (some ⟨b3, 0, none⟩) ni ni] 29) := ⟨_, rfl⟩
      have hrow6 : Row w6 g7 29 [.slice (some ⟨b0, 0, none⟩) 16 16, .slice (some ⟨b1, 0, none⟩) go go, .slice (some ⟨b2, 0, none⟩) 64 64, .slice (some ⟨b3, 0, none⟩) ni ni] := by rw [hw6, hg7]; exact hrow6
      rw [← hw6] at X6
      have HB := Lib.hid (show w4.heap.size ≤ b1 ∧ b1 < g7 ∧ w4.heap.size ≤ b3 ∧ b3 < g7 ∧ b1 ≠ b3 ∧ w4.heap.size ≤ g7 ∧ g7 < w6.heap.size from by
        have h1 := hna.bd; have h2 := hna.r1.lt; have h3 := hna.r3.lt; have h4 := h5.size; have h6 := hrow6.lt
        omega)
      have HX46 := Lib.hid (h5.trans X6)
      have HR1 := Lib.hid (hna.r1.ext X6)
      have HRI := Lib.hid (hna.r3.ext X6)
      have HR7 := Lib.hid hrow6
      have HW6 := Lib.hid hw6
      have HG7 := Lib.hid hg7
      have hcc0 : w6.cell? ⟨b, off, none⟩ = some (.slice x0 64 c0) := HX46.out.keep (show w4.cell? ⟨b, off, none⟩ = some (.slice x0 64 c0) from HC0.out)
      have hn0' : (0 : Int) < n := by omega
      have hrt := rRTake_ok (L.getD 0 []) x0 64 c0 w6 HC.out.1 (by decide) HC.out.2.2.2.2 (HC.out.2.2.2.1.ext HX46.out)
      clear hnew hna h5 X6 hrow6 hg7 hw6 k0 k1 k2 k3
      go_upto_region 9 with fail
      rw [← HW6.out, ← HG7.out]
      go_wp2_with fail
      refine hrt.mono ?_
      rintro e w7 ⟨v7, rfl, a5, c5, rfl, ho7, h7⟩
      obtain ⟨R, cR, hR⟩ : ∃ R c, rowsTake (L.getD 0 []) = (R, c) := ⟨_, _, rfl⟩
      rw [hR] at ho7 ⊢
      dsimp only at ho7 ⊢
      have HROWS := Lib.hid hR
      have HO7 := Lib.hid ho7
      have HX47 := Lib.hid (HX46.out.trans h7)
      have HXW := Lib.hid (HX4.out.trans HX47.out)
      have HRT7 := Lib.hid (HR4.out.ext HX47.out)
      have HR1 := Lib.hid (HR1.out.ext h7)
      have HRI := Lib.hid (HRI.out.ext h7)
      have HR7 := Lib.hid (HR7.out.ext h7)
      have HS67 := Lib.hid h7.size
      clear hrt ho7 h7 hR hcc0
      by_cases hcR : cR = 0
      case neg =>
        have hne : (cR != 0) = true := by simp [hcR]
        have HBAD := Lib.hid (takeM_no (J := J) (I := ni) (G := go) (P := P) (L := L) (fun h => hcR (by have := h.rows; rw [HROWS.out] at this; exact this)))
        clear hcR
        go_wp2_with (refine wpList_store_row rfl _ _ _ rfl (w.heap.size + 1) #[.slice none 0 0, .slice none 0 0, .slice none 0 0, .slice none 0 0] rfl rfl 29 _ HRT7.out infoMeta rfl (by simp [Value.oneCell']) ?_)
        refine post_meta rfl (by rfl) (by rfl) (HRT7.out.setRow #[.slice none 0 0, .slice none 0 0, .slice none 0 0, .slice none 0 0]) rfl ?_
        rw [HBAD.out]
        exact ⟨nilP, rfl, nil_in _, HXW.out.setRow (Nat.le_succ _) _⟩
      subst hcR
      have q0 := (HR7.out.cell? 0).trans rfl
      have qf := HR7.out.frozen 0
      have HN := Lib.hid (show Row (w7.setCell ⟨g7, 0, none⟩ (.slice a5 R.length c5)) g7 29 [.slice a5 R.length c5, .slice (some ⟨b1, 0, none⟩) go go, .slice (some ⟨b2, 0, none⟩) 64 64, .slice (some ⟨b3, 0, none⟩) ni ni] from Row.set HR7.out 0 _)
      have hne1 : b1 ≠ g7 := by have := HB.out; omega
      have hne3 : b3 ≠ g7 := by have := HB.out; omega
      have HN1 := Lib.hid (Row.far HR1.out hne1 0 (.slice a5 R.length c5))
      have HN3 := Lib.hid (Row.far HRI.out hne3 0 (.slice a5 R.length c5))
      have HNO := Lib.hid (ownS_block (w' := w7.setCell ⟨g7, 0, none⟩ (.slice a5 R.length c5)) HO7.out (fun ad e => (By.set w7 g7 0 _).block _ (ownS_lt HO7.out ad e).2 (fun e2 => by
        have h1 := (ownS_lt HO7.out ad e).1
        have h2 : ad.block = g7 := by simpa using e2
        have := HB.out
        omega)))
      have HSZ7 := Lib.hid HS67.out
      have HNX := Lib.hid (Ext.setCell HX47.out (p := ⟨g7, 0, none⟩) HB.out.2.2.2.2.2.1 (.slice a5 R.length c5))
      obtain ⟨bx, ox, rfl, hcx⟩ := HD.out.2.2.2.1.ints (by rw [HD.out.1]; decide)
      have HCX := Lib.hid hcx
      clear hne1 hne3 hcx
      go_wp2_with fail
      go_loopw [11] (fun v wr => ∃ k : Nat, k ≤ go ∧ v = .int .i64 k ∧ Row wr b1 3 (ints .i64 ((L.getD 1 []).take k ++ List.replicate (go - k) 0)) ∧ Row wr g7 29 [.slice a5 R.length c5, .slice (some ⟨b1, 0, none⟩) go go, .slice (some ⟨b2, 0, none⟩) 64 64, .slice (some ⟨b3, 0, none⟩) ni ni] ∧ Row wr b3 48 (flat inoC (List.replicate ni Ino.zero)) ∧ wr.ownsRow w6.heap.size 45 2 (.slice a5 R.length c5) R.length (rowsC R) ∧ Ext w4 wr ∧ w6.heap.size ≤ wr.heap.size) (fun v _ => go - (intOf v).toNat)
      case atStart => exact ⟨0, by omega, rfl, by simpa using HN1.out, HN.out, HN3.out, HNO.out, HNX.out, by simp; exact HS67.out⟩
      case round =>
        obtain ⟨k2, hk2, rfl, hr1, hr7, hr3, hown, hX, hsz⟩ := hrel
        have HX := Lib.hid hX
        have HSZ := Lib.hid hsz
        have HA1 := Lib.hid hr1
        have HA7 := Lib.hid hr7
        have HA3 := Lib.hid hr3
        have HAO := Lib.hid hown
        have gG := ((HG4.out.ext hX).cell? 2).trans rfl
        clear hX hr1 hr7 hr3 hown hsz q0 qf
        by_cases hlt : k2 < go
        · have hkL : k2 < (L.getD 1 []).length := by rw [HD.out.1]; omega
          have hx : 0 ≤ (L.getD 1 [])[k2] ∧ (L.getD 1 [])[k2] < 256 := HD.out.2.2.2.2 _ (List.getElem_mem hkL)
          have HXC := Lib.hid (HCX.out k2 hkL)
          have HST := Lib.hid (own_step hlt hkL)
          generalize (L.getD 1 [])[k2] = x at *
          have hk64 : (k2 : Int) < 64 := by omega
          have hkg : (k2 : Int) < go := by omega
          have hn1' : (1 : Int) < n := by omega
          have hconv : IntKind.i64.wrap x = x := IntWalk.i64_in _ (by omega)
          have HXD := Lib.hid (HX.out.trans (Ext.refl wr).drew)
          have HSD := Lib.hid (show w6.heap.size ≤ wr.drew.heap.size from HSZ.out)
          have HA1 := Lib.hid (HA1.out.drew)
          have HA7 := Lib.hid (HA7.out.drew)
          have HA3 := Lib.hid (HA3.out.drew)
          have HAO := Lib.hid (ownS_ext HAO.out (Ext.refl wr).drew)
          clear hkL
          go_wp2_with fail
          refine wp_region_held_drew (S := (fun v => Row v g7 29 [.slice a5 R.length c5, .slice (some ⟨b1, 0, none⟩) go go, .slice (some ⟨b2, 0, none⟩) 64 64, .slice (some ⟨b3, 0, none⟩) ni ni] ∧ Ext w4 v)) (by kernel_rfl) ⟨HA7.out, HXD.out⟩ (fun hHeld => ?_)
          generalize wr.drew = v0 at *
          refine takeD (i := 0) (v := ?_) rfl rfl (by kernel_rfl) (by kernel_rfl) (by kernel_rfl) (fun _ _ _ h => h) (Or.inl ⟨by rfl, ?_⟩) hHeld ?_
          rotate_left
          · (intro v hv; (obtain ⟨hv0, hv1⟩ := hv; have c1 := (hv0.cell? 1).trans rfl; have c2 := hv1.keep HC1.out; have c3 := hv1.keep HXC.out); go_simp; try (with_reducible rfl))
          (try simp only [List.setIfInBounds_toArray, List.set_cons_zero, List.set_cons_succ])
          refine takeD (i := 1) (v := ?_) rfl rfl (by kernel_rfl) (by kernel_rfl) (by kernel_rfl) (fun _ _ _ h => h) (Or.inl ⟨by rfl, ?_⟩) hHeld ?_
          rotate_left
          · (intro v hv; (obtain ⟨hv0, hv1⟩ := hv; have c1 := (hv0.cell? 1).trans rfl; have c2 := hv1.keep HC1.out; have c3 := hv1.keep HXC.out); go_simp; try (with_reducible rfl))
          (try simp only [List.setIfInBounds_toArray, List.set_cons_zero, List.set_cons_succ])
          refine takeD (i := 2) (v := ?_) rfl rfl (by kernel_rfl) (by kernel_rfl) (by kernel_rfl) (fun _ _ _ h => h) (Or.inl ⟨by rfl, ?_⟩) hHeld ?_
          rotate_left
          · (intro v hv; (obtain ⟨hv0, hv1⟩ := hv; have c1 := (hv0.cell? 1).trans rfl; have c2 := hv1.keep HC1.out; have c3 := hv1.keep HXC.out); go_simp; try (with_reducible rfl))
          (try simp only [List.setIfInBounds_toArray, List.set_cons_zero, List.set_cons_succ])
          refine takeD (i := 3) (v := ?_) rfl rfl (by kernel_rfl) (by kernel_rfl) (by kernel_rfl) (fun _ _ _ h => h) (Or.inl ⟨by rfl, ?_⟩) hHeld ?_
          rotate_left
          · (intro v hv; (obtain ⟨hv0, hv1⟩ := hv; have c1 := (hv0.cell? 1).trans rfl; have c2 := hv1.keep HC1.out; have c3 := hv1.keep HXC.out); go_simp; try (with_reducible rfl))
          (try simp only [List.setIfInBounds_toArray, List.set_cons_zero, List.set_cons_succ])
          refine takeD (i := 4) (v := ?_) rfl rfl (by kernel_rfl) (by kernel_rfl) (by kernel_rfl) (fun _ _ _ h => h) (Or.inl ⟨by rfl, ?_⟩) hHeld ?_
          rotate_left
          · (intro v hv; (obtain ⟨hv0, hv1⟩ := hv; have c1 := (hv0.cell? 1).trans rfl; have c2 := hv1.keep HC1.out; have c3 := hv1.keep HXC.out); go_simp; try (with_reducible rfl))
          (try simp only [List.setIfInBounds_toArray, List.set_cons_zero, List.set_cons_succ])
          refine takeD (i := 5) (v := ?_) rfl rfl (by kernel_rfl) (by kernel_rfl) (by kernel_rfl) (fun _ _ _ h => h) (Or.inl ⟨by rfl, ?_⟩) hHeld ?_
          rotate_left
          · (intro v hv; (obtain ⟨hv0, hv1⟩ := hv; have c1 := (hv0.cell? 1).trans rfl; have c2 := hv1.keep HC1.out; have c3 := hv1.keep HXC.out); go_simp; try (with_reducible rfl))
          (try simp only [List.setIfInBounds_toArray, List.set_cons_zero, List.set_cons_succ])
          refine takeD (i := 6) (v := ?_) rfl rfl (by kernel_rfl) (by kernel_rfl) (by kernel_rfl) (fun _ _ _ h => h) (Or.inl ⟨by rfl, ?_⟩) hHeld ?_
          rotate_left
          · (intro v hv; (obtain ⟨hv0, hv1⟩ := hv; have c1 := (hv0.cell? 1).trans rfl; have c2 := hv1.keep HC1.out; have c3 := hv1.keep HXC.out); go_simp; try (with_reducible rfl))
          (try simp only [List.setIfInBounds_toArray, List.set_cons_zero, List.set_cons_succ])
          refine takeD (i := 7) (v := ?_) rfl rfl (by kernel_rfl) (by kernel_rfl) (by kernel_rfl) (fun _ _ _ h => h) (Or.inl ⟨by rfl, ?_⟩) hHeld ?_
          rotate_left
          · (intro v hv; (obtain ⟨hv0, hv1⟩ := hv; have c1 := (hv0.cell? 1).trans rfl; have c2 := hv1.keep HC1.out; have c3 := hv1.keep HXC.out); go_simp; try (with_reducible rfl))
          (try simp only [List.setIfInBounds_toArray, List.set_cons_zero, List.set_cons_succ])
          refine takeD (i := 8) (v := ?_) rfl rfl (by kernel_rfl) (by kernel_rfl) (by kernel_rfl) (fun _ _ _ h => h) (Or.inl ⟨by rfl, ?_⟩) hHeld ?_
          rotate_left
          · (intro v hv; (obtain ⟨hv0, hv1⟩ := hv; have c1 := (hv0.cell? 1).trans rfl; have c2 := hv1.keep HC1.out; have c3 := hv1.keep HXC.out); go_simp; try (with_reducible rfl))
          (try simp only [List.setIfInBounds_toArray, List.set_cons_zero, List.set_cons_succ])
          refine takeD (i := 9) (v := ?_) rfl rfl (by kernel_rfl) (by kernel_rfl) (by kernel_rfl) (fun _ _ _ h => h) (Or.inl ⟨by rfl, ?_⟩) hHeld ?_
          rotate_left
          · (intro v hv; (obtain ⟨hv0, hv1⟩ := hv; have c1 := (hv0.cell? 1).trans rfl; have c2 := hv1.keep HC1.out; have c3 := hv1.keep HXC.out); go_simp; try (with_reducible rfl))
          (try simp only [List.setIfInBounds_toArray, List.set_cons_zero, List.set_cons_succ])
          refine takeD (i := 10) (v := ?_) rfl rfl (by kernel_rfl) (by kernel_rfl) (by kernel_rfl) (fun _ _ _ h => h) (Or.inl ⟨by rfl, ?_⟩) hHeld ?_
          rotate_left
          · (intro v hv; (obtain ⟨hv0, hv1⟩ := hv; have c1 := (hv0.cell? 1).trans rfl; have c2 := hv1.keep HC1.out; have c3 := hv1.keep HXC.out); go_simp; try (with_reducible rfl))
          (try simp only [List.setIfInBounds_toArray, List.set_cons_zero, List.set_cons_succ])
          obtain ⟨old, hold⟩ : ∃ v, v0.cell? ⟨b1, k2, none⟩ = some v := ⟨_, HA1.out.cell (by rw [ints_length, List.length_append, List.length_take, List.length_replicate]; have := HD.out.1; omega)⟩
          have hfz := HA1.out.frozen k2
          have HT1 := Lib.hid (show Row (v0.setCell ⟨b1, k2, none⟩ (.int .i64 x)) b1 3 (ints .i64 ((L.getD 1 []).take (k2 + 1) ++ List.replicate (go - (k2 + 1)) 0)) from by rw [← HST.out]; exact Row.set HA1.out k2 _)
          have HT7 := Lib.hid (Row.far HA7.out (show g7 ≠ b1 by have := HB.out; omega) k2 (.int .i64 x))
          have HT3 := Lib.hid (Row.far HA3.out (show b3 ≠ b1 by have := HB.out; omega) k2 (.int .i64 x))
          have HTX := Lib.hid (Ext.setCell HXD.out (p := ⟨b1, k2, none⟩) HB.out.1 (.int .i64 x))
          have HTO := Lib.hid (ownS_block (w' := v0.setCell ⟨b1, k2, none⟩ (.int .i64 x)) HAO.out (fun ad e => (By.set v0 b1 k2 _).block _ (ownS_lt HAO.out ad e).2 (fun e2 => by
            have h1 := (ownS_lt HAO.out ad e).1
            have h2 : ad.block = b1 := by simpa using e2
            have := HB.out
            omega)))
          refine wpAnyH_ready (rs := [11]) (by kernel_rfl) (by simp) ?_
          refine AllReadyH.cons rfl (fun K hK => ?_) AllReadyH.nil
          go_simp
          refine hK.out _ _ ⟨HT7.out, HTX.out⟩ (fun hHeld => ?_)
          clear hK hold hfz
          refine wpAnyH_done (by kernel_rfl) ?_ _
          clear hHeld
          go_wp2
          go_roundw
          case rel => exact ⟨k2 + 1, hlt, by go_num, HT1.out, HT7.out, HT3.out, HTO.out, HTX.out, by simp; exact HSD.out⟩
          case measure => simp [intOf]; omega
        · obtain rfl : go = k2 := by omega
          have HA1 := Lib.hid (show Row wr b1 3 (ints .i64 ((L.getD 1 []).take go)) from by
            have := HA1.out
            rw [Nat.sub_self, List.replicate_zero, List.append_nil] at this
            exact this)
          have c2m := HX.out.keep HC2.out
          have c2m' := ((Ext.refl wr).alloc (.cells #[] 5)).keep c2m
          obtain ⟨a8, c8, w9, hap, ho9, h9⟩ := run_clone_s (P := Try.prog) wr 1 (by decide) 26 26 5 _ 1 Try.underlying26 infoBC rfl c2 (m := 64) (news := ints .u8 (L.getD 2 [])) (by rw [ints_length, HE.out.1]) (HE.out.2.2.2.1.ext HX.out) HE.out.2.2.2.2.2 (ints_oneCell' _ _) (by decide) (by decide)
          have HX9 := Lib.hid (HX.out.trans h9)
          have HA1 := Lib.hid (HA1.out.ext h9)
          have HA3 := Lib.hid (HA3.out.ext h9)
          have HA7 := Lib.hid (HA7.out.ext h9)
          have HAO := Lib.hid (ownS_ext HAO.out h9)
          have hsz : w6.heap.size ≤ wr.heap.size := HSZ.out
          have HO9 := Lib.hid (ownS_base ho9 hsz)
          have q2 := (HA7.out.cell? 2).trans rfl
          have qf := HA7.out.frozen 2
          have hn2' : (2 : Int) < n := by omega
          have hne1 : b1 ≠ g7 := by have := HB.out; omega
          have hne3 : b3 ≠ g7 := by have := HB.out; omega
          have HM7 := Lib.hid (show Row (w9.setCell ⟨g7, 2, none⟩ (.slice a8 64 c8)) g7 29 [.slice a5 R.length c5, .slice (some ⟨b1, 0, none⟩) go go, .slice a8 64 c8, .slice (some ⟨b3, 0, none⟩) ni ni] from Row.set HA7.out 2 _)
          have HM1 := Lib.hid (Row.far HA1.out hne1 2 (.slice a8 64 c8))
          have HM3 := Lib.hid (Row.far HA3.out hne3 2 (.slice a8 64 c8))
          have hfar : ∀ {t : TypeId} {s m c : Nat} {a : Option Addr} {xs : List Value}, w9.ownsRow w6.heap.size t s (.slice a m c) m xs → (w9.setCell ⟨g7, 2, none⟩ (.slice a8 64 c8)).ownsRow w6.heap.size t s (.slice a m c) m xs := fun h => ownS_block h (fun ad e => (By.set w9 g7 2 _).block _ (ownS_lt h ad e).2 (fun e2 => by
            have h1 := (ownS_lt h ad e).1
            have h2 : ad.block = g7 := by simpa using e2
            have := HB.out
            omega))
          have HMO := Lib.hid (hfar HAO.out)
          have HMU := Lib.hid (hfar HO9.out)
          have HMX := Lib.hid (Ext.setCell HX9.out (p := ⟨g7, 2, none⟩) HB.out.2.2.2.2.2.1 (.slice a8 64 c8))
          clear hne1 hne3 hfar hsz ho9 h9 c2m
          go_wp2_with (at_builtin; refine Guard.wpList_append_want _ rfl _ _ _ _ rfl _ _ rfl rfl _ _ hap ?_)
          go_loopw [12] (fun v wr => ∃ k : Nat, k ≤ ni ∧ v = .int .i64 k ∧ Row wr b3 48 (flat inoC (inosN (L.drop 3) k ++ List.replicate (ni - k) Ino.zero)) ∧ Row wr g7 29 [.slice a5 R.length c5, .slice (some ⟨b1, 0, none⟩) go go, .slice a8 64 c8, .slice (some ⟨b3, 0, none⟩) ni ni] ∧ Row wr b1 3 (ints .i64 ((L.getD 1 []).take go)) ∧ wr.ownsRow w6.heap.size 45 2 (.slice a5 R.length c5) R.length (rowsC R) ∧ wr.ownsRow w6.heap.size 5 1 (.slice a8 64 c8) 64 (ints .u8 (L.getD 2 [])) ∧ Ext w4 wr ∧ ∀ q, q < k → (inoAt (L.drop 3) q).2 = 0) (fun v _ => ni - (intOf v).toNat)
          case atStart => exact ⟨0, by omega, rfl, by simpa [inosN] using HM3.out, HM7.out, HM1.out, HMO.out, HMU.out, HMX.out, fun q hq => absurd hq (by omega)⟩
          case round =>
            obtain ⟨k3, hk3, rfl, hr3, hr7, hr1, hown, hused, hX, hok⟩ := hrel
            have HX := Lib.hid hX
            have HA1 := Lib.hid hr1
            have HA7 := Lib.hid hr7
            have HA3 := Lib.hid hr3
            have HAO := Lib.hid hown
            have HAU := Lib.hid hused
            have HOK := Lib.hid hok
            have gI := ((HG4.out.ext hX).cell? 1).trans rfl
            clear hX hr1 hr7 hr3 hown hused hok q2 qf c2m' hap hn2' hlt hk2 gG
            by_cases hlt : k3 < ni
            · have hkg : (k3 : Int) < ni := by omega
              obtain ⟨xs, cs, hcs, hls, hles, hms, hsls, hbs, _⟩ := HAT.out (3 + k3 / 2) (by have := HNI.out; omega)
              have hcell := HX.out.keep hcs
              have hlo : 32 * (k3 % 2) + 32 ≤ 64 := by omega
              obtain ⟨lo, hloe⟩ : ∃ z, z = 32 * (k3 % 2) := ⟨_, rfl⟩
              have hch : chunk (L.drop 3) k3 = ((L.getD (3 + k3 / 2) []).drop lo).take 32 := by
                unfold chunk
                rw [hloe]
                congr 2
                simp [List.getD_eq_getElem?_getD, List.getElem?_drop]
              rw [← hloe] at hlo
              have hsn : (3 : Int) + (k3 : Int) / 2 < n := by have := HNI.out; omega
              have hs0 : (0 : Int) ≤ 3 + (k3 : Int) / 2 := by omega
              have hslc := fun v : World => run_slice_mid (P := Try.prog) v 26 5 Try.underlying26 (by kernel_rfl) xs 64 cs lo (lo + 32) .i64 .i64 (32 * ((k3 : Int) % 2)) (32 * ((k3 : Int) % 2) + 32) (by omega) (by omega) (by omega) (by omega)
              rw [show lo + 32 - lo = 32 by omega] at hslc
              have htk := rTake_ino (cutA xs cs lo) 32 (cs - lo) (((L.getD (3 + k3 / 2) []).drop lo).take 32) wr (by rw [List.length_take, List.length_drop]; omega) (fun y hy => hbs y (List.mem_of_mem_drop (List.mem_of_mem_take hy))) ((hsls.ext HX.out).mid cs lo 32 (fun e => by omega))
              rw [← hch] at htk
              have HIA := Lib.hid (show inoAt (L.drop 3) k3 = Ino.takeR (chunk (L.drop 3) k3) from rfl)
              have HSTEP := Lib.hid (inos_step (L := L.drop 3) hlt)
              rw [← HIA.out] at htk
              have HQ := Lib.hid hloe
              clear hch hcs hls hles hms hsls hbs hloe
              have hzI := zeroIno
              generalize inoAt (L.drop 3) k3 = RR at *
              obtain ⟨n1, code⟩ := RR
              dsimp only at *
              generalize cutA xs cs lo = xc at *
              generalize cs - lo = cc at *
              go_wp2_with fail
              refine htk.mono ?_
              rintro e wa ⟨rfl, h5⟩
              obtain ⟨NC, hNC⟩ : ∃ z, z = n1.cs := ⟨_, rfl⟩
              have hns : NC.size = 14 := by rw [hNC]; rfl
              have h1c : NC.all (·.oneCell') = true := by rw [hNC]; exact oneIno _ _ _ _ _ _ _ _ _ _ _ _ _ _
              have hns2 : (Try.prog.info? 48).map (·.size) = some NC.size := by rw [hns]; exact Mt.infoIno
              have HI := Lib.hid (And.intro hns (And.intro h1c hns2))
              have r0 : Row (wa.alloc (.cells Ino.zero.cs 48)) wa.heap.size 48 (Ino.zero.cs).toList := Row.new wa 48 (Ino.zero.cs).toList
              have h6 : Ext wr ((wa.alloc (.cells Ino.zero.cs 48)).setRow wa.heap.size NC) := ((h5.alloc _).setRow h5.size NC)
              have r6 : Row ((wa.alloc (.cells Ino.zero.cs 48)).setRow wa.heap.size NC) wa.heap.size 48 NC.toList := r0.setRow NC
              obtain ⟨ga, hga⟩ : ∃ z, z = wa.heap.size := ⟨_, rfl⟩
              have HR0 := Lib.hid r0
              dsimp only
              rw [show n1.v = .agg NC by rw [hNC]]
              have HNC := Lib.hid (show NC.toList = inoC n1 by rw [hNC]; rfl)
              clear hNC hns h1c hns2 r0
              obtain ⟨wb, hwb⟩ : ∃ z, z = (wa.alloc (.cells Ino.zero.cs 48)).setRow wa.heap.size NC := ⟨_, rfl⟩
              rw [← hwb] at h6 r6
              have HX6 := Lib.hid h6
              have HRN := Lib.hid (show wb.heap[wa.heap.size]? = some (.cells NC 48 (0, 0)) from r6)
              have HWB := Lib.hid hwb
              have HXB := Lib.hid (HX.out.trans h6)
              have HBB := Lib.hid (And.intro hgo hnib)
              clear h6 r6 h5 htk hslc hwb hga hlo hsn hs0 hcell
              by_cases hcd : code = 0
              · subst hcd
                have hl3 : (inosN (L.drop 3) k3 ++ List.replicate (ni - k3) Ino.zero).length = ni := by rw [List.length_append, inosN_len, List.length_replicate]; omega
                have hrb3 := HA3.out.ext HX6.out
                have hTH : World.there wb b3 (k3 * 14) NC.size := there_of hrb3 (by rw [HI.out.1, flat_length inoC_len, hl3]; omega)
                have hrb3' := Row.setCells (w := wb) (inoC n1) _ wb (k3 * 14) hrb3
                rw [setL_flat inoC_len _ k3 (by rw [hl3]; exact hlt) n1, HSTEP.out] at hrb3'
                have hBy := gb_setCells b3 (inoC n1) wb (k3 * 14)
                have hne7 : g7 ≠ b3 := by have := HB.out; omega
                have hne1 : b1 ≠ b3 := HB.out.2.2.2.2.1
                have hr7b := HA7.out.ext HX6.out
                have hr1b := HA1.out.ext HX6.out
                have hfar : ∀ {t : TypeId} {s m c : Nat} {a : Option Addr} {xs : List Value}, wr.ownsRow w6.heap.size t s (.slice a m c) m xs → (wb.setCells b3 (k3 * 14) (inoC n1)).ownsRow w6.heap.size t s (.slice a m c) m xs := fun h => ownS_block (ownS_ext h HX6.out) (fun ad e => hBy.block _ (ownS_lt (ownS_ext h HX6.out) ad e).2 (fun e2 => by
                  have h1 := (ownS_lt h ad e).1
                  have h2 : ad.block = b3 := by simpa using e2
                  have := HB.out
                  omega))
                obtain ⟨wz, hwz⟩ : ∃ z, z = wb.setCells b3 (k3 * 14) (inoC n1) := ⟨_, rfl⟩
                have HY3 := Lib.hid (show Row wz b3 48 (flat inoC (inosN (L.drop 3) (k3 + 1) ++ List.replicate (ni - (k3 + 1)) Ino.zero)) by rw [hwz]; exact hrb3')
                have HY7 := Lib.hid (show Row wz g7 29 [.slice a5 R.length c5, .slice (some ⟨b1, 0, none⟩) go go, .slice a8 64 c8, .slice (some ⟨b3, 0, none⟩) ni ni] by rw [hwz]; exact Row.same hr7b (hBy.block g7 hr7b.lt (by simpa using hne7)))
                have HY1 := Lib.hid (show Row wz b1 3 (ints .i64 ((L.getD 1 []).take go)) by rw [hwz]; exact Row.same hr1b (hBy.block b1 hr1b.lt (by simpa using hne1)))
                have HYO := Lib.hid (hfar HAO.out)
                have HYU := Lib.hid (hfar HAU.out)
                have HYX := Lib.hid (show Ext w4 wz by rw [hwz]; exact Ext.setCells HB.out.2.2.1 (inoC n1) wb (k3 * 14) HXB.out)
                rw [← hwz] at HYO HYU
                have HWZ := Lib.hid hwz
                clear hwz
                have HYK := Lib.hid (show ∀ q, q < k3 + 1 → (inoAt (L.drop 3) q).2 = 0 from fun q hq => by
                  by_cases hqm : q < k3
                  · exact HOK.out q hqm
                  · rw [show q = k3 by omega]
                    show (Ino.takeR (chunk (L.drop 3) k3)).2 = 0
                    rw [← HIA.out])
                have HTH := Lib.hid hTH
                have q3 := (hr7b.cell? 3).trans rfl
                clear hl3 hrb3 hTH hrb3' hBy hne7 hne1 hr7b hr1b hfar
                go_wp2_with (first
                  | (refine wpList_store_row rfl _ _ _ rfl wa.heap.size NC rfl rfl 48 Ino.zero.cs HR0.out HI.out.2.2 HI.out.1.symm HI.out.2.1 ?_; rw [← HWB.out])
                  | (refine wpList_load_row rfl 48 _ rfl wa.heap.size rfl 48 NC (0, 0) _ HRN.out Try.underlying48 rfl HI.out.2.2 ?_)
                  | (refine wpList_store_mid rfl 48 _ _ rfl b3 (k3 * 14) NC rfl rfl HTH.out HI.out.2.2 HI.out.2.1 ?_; rw [HNC.out, ← HWZ.out]))
                go_roundw
                case rel => exact ⟨k3 + 1, hlt, by go_num, HY3.out, HY7.out, HY1.out, HYO.out, HYU.out, HYX.out, HYK.out⟩
                case measure => simp [intOf]; omega
              · have hcd' : (code != 0) = true := by simp [hcd]
                have HBAD := Lib.hid (takeM_no (J := J) (I := ni) (G := go) (P := P) (L := L) (fun h => hcd (by
                  have := h.inos k3 (by have := HNI.out; have := HL.out.1; omega)
                  have h2 : inoAt (L.drop 3) k3 = (n1, code) := HIA.out.symm ▸ rfl
                  rw [h2] at this
                  exact this)))
                have HRE := Lib.hid ((HR4.out.ext HX.out).ext HX6.out)
                have HXE := Lib.hid (HX4.out.trans HXB.out)
                clear hcd
                go_wp2_with (first
                  | (refine wpList_store_row rfl _ _ _ rfl wa.heap.size NC rfl rfl 48 Ino.zero.cs HR0.out HI.out.2.2 HI.out.1.symm HI.out.2.1 ?_; rw [← HWB.out])
                  | (refine wpList_store_row rfl _ _ _ rfl (w.heap.size + 1) #[.slice none 0 0, .slice none 0 0, .slice none 0 0, .slice none 0 0] rfl rfl 29 _ HRE.out infoMeta rfl (by simp [Value.oneCell']) ?_))
                refine post_meta rfl (by rfl) (by rfl) (HRE.out.setRow #[.slice none 0 0, .slice none 0 0, .slice none 0 0, .slice none 0 0]) rfl ?_
                rw [HBAD.out]
                exact ⟨nilP, rfl, nil_in _, HXE.out.setRow (Nat.le_succ _) _⟩
            · obtain rfl : ni = k3 := by omega
              have HA3 := Lib.hid (show Row wr b3 48 (flat inoC (inosN (L.drop 3) ni)) from by
                have := HA3.out
                rw [Nat.sub_self, List.replicate_zero, List.append_nil] at this
                exact this)
              obtain ⟨M, hM⟩ : ∃ z, z = gotM (go : Int).toNat (2 * (L.length - 3)) L := ⟨_, rfl⟩
              have hI2 : 2 * (L.length - 3) = ni := by have := HL.out.1; have := HNI.out; omega
              have e1 : M.rows = R := by rw [hM]; show (rowsTake (L.getD 0 [])).1 = R; rw [HROWS.out]
              have e2 : M.owners = (L.getD 1 []).take go := by rw [hM]; rfl
              have e3 : M.used = L.getD 2 [] := by rw [hM]; rfl
              have e4 : M.inodes = inosN (L.drop 3) ni := by rw [hM, hI2]; rfl
              have l1 : M.rows.length = R.length := by rw [e1]
              have l2 : M.owners.length = go := by rw [e2, List.length_take, HD.out.1]; omega
              have l3 : M.used.length = 64 := by rw [e3, HE.out.1]
              have l4 : M.inodes.length = ni := by rw [e4, inosN_len]
              have hR16 : R.length ≤ 16 := by have := rowsTake_few (L.getD 0 []); rw [HROWS.out] at this; exact this
              have hgot : Got wr w4.heap.size ⟨a5, c5, some ⟨b1, 0, none⟩, go, a8, c8, some ⟨b3, 0, none⟩, ni⟩ M := by
                have hs6 := HX46.out.size
                refine ⟨?_, ?_, ?_, ?_, ?_, ?_, ?_, ?_⟩
                · show wr.ownsRow _ _ 2 (.slice a5 M.rows.length c5) M.rows.length (rowsC M.rows)
                  rw [e1]
                  exact ownS_base HAO.out hs6
                · show wr.ownsRow _ _ 1 (.slice (some ⟨b1, 0, none⟩) M.owners.length go) M.owners.length (ints .i64 M.owners)
                  rw [l2, e2]
                  exact ownS_of HA1.out HB.out.1 (by rw [ints_length, List.length_take, HD.out.1]; omega) (by unfold maxLen; omega)
                · show wr.ownsRow _ _ 1 (.slice a8 M.used.length c8) M.used.length (ints .u8 M.used)
                  rw [l3, e3]
                  exact ownS_base HAU.out hs6
                · show wr.ownsRow _ _ 14 (.slice (some ⟨b3, 0, none⟩) M.inodes.length ni) M.inodes.length (flat inoC M.inodes)
                  rw [l4, e4]
                  exact ownS_of HA3.out HB.out.2.2.1 (by rw [flat_length inoC_len, inosN_len]) (by unfold maxLen; omega)
                · rw [hM]; exact rowsTake_wf HC.out.2.2.2.2
                · rw [e3]; exact HE.out.2.2.2.2.1
                · rw [e4]; exact inosN_wf (fun xs hx => HL.out.bytes xs (List.mem_of_mem_drop hx)) _
                · omega
              have hlay := rLay_ok J ni go P ⟨a5, c5, some ⟨b1, 0, none⟩, go, a8, c8, some ⟨b3, 0, none⟩, ni⟩ M wr hgot.in_
              have hv : metaV ⟨a5, c5, some ⟨b1, 0, none⟩, go, a8, c8, some ⟨b3, 0, none⟩, ni⟩ M = .agg #[.slice a5 R.length c5, .slice (some ⟨b1, 0, none⟩) go go, .slice a8 64 c8, .slice (some ⟨b3, 0, none⟩) ni ni] := by
                show Value.agg #[.slice a5 M.rows.length c5, .slice (some ⟨b1, 0, none⟩) M.owners.length go, .slice a8 M.used.length c8, .slice (some ⟨b3, 0, none⟩) M.inodes.length ni] = _
                rw [l1, l2, l3, l4]
              rw [hv] at hlay
              have HV := Lib.hid hv
              have HGOT := Lib.hid hgot
              have HMM := Lib.hid hM
              have HXE := Lib.hid (HX4.out.trans HX.out)
              have HRE := Lib.hid (HR4.out.ext HX.out)
              have HGr := Lib.hid (HG4.out.ext HX.out)
              have q0 := (HA7.out.cell? 0).trans rfl
              have q1 := (HA7.out.cell? 1).trans rfl
              have q2 := (HA7.out.cell? 2).trans rfl
              have q3 := (HA7.out.cell? 3).trans rfl
              have k0 := (HGr.out.cell? 0).trans rfl
              have k1 := (HGr.out.cell? 1).trans rfl
              have k2 := (HGr.out.cell? 2).trans rfl
              have k3 := (HGr.out.cell? 3).trans rfl
              have hpre : preT J ni go P L := ⟨HRT.out, by rw [HL.out.1]; exact HLEN.out, H64A.out, by rw [HROWS.out], fun m hm => HOK.out m (by omega)⟩
              have HPRE := Lib.hid (okT_iff HL.out.bytes hpre)
              rw [← hM] at HPRE
              have HBU := Lib.hid hgot.bu
              clear e1 e2 e3 e4 l1 l2 l3 l4 hR16 hgot hv hM gI hpre hI2
              cases hra : rightM J ni go P M
              · rw [show layM J ni go P M = ([], 1) by unfold layM; rw [hra]; rfl] at hlay
                have HBAD := Lib.hid (takeM_no (J := J) (I := ni) (G := go) (P := P) (L := L) (fun h => by
                  have := h.all
                  rw [← HMM.out, hra] at this
                  cases this))
                clear hra
                go_wp2_with fail
                refine hlay.mono ?_
                rintro e w10 ⟨a2, c2', rfl, _, h10⟩
                dsimp only
                rw [show (List.length ([] : List (List Int))) = 0 from rfl]
                have HR10 := Lib.hid (HRE.out.ext h10)
                have HX10 := Lib.hid (HXE.out.trans h10)
                clear hlay h10 q0 q1 q2 q3 k0 k1 k2 k3
                go_wp2_with (refine wpList_store_row rfl _ _ _ rfl (w.heap.size + 1) #[.slice none 0 0, .slice none 0 0, .slice none 0 0, .slice none 0 0] rfl rfl 29 _ HR10.out infoMeta rfl (by simp [Value.oneCell']) ?_)
                refine post_meta rfl (by rfl) (by rfl) (HR10.out.setRow #[.slice none 0 0, .slice none 0 0, .slice none 0 0, .slice none 0 0]) rfl ?_
                rw [HBAD.out]
                exact ⟨nilP, rfl, nil_in _, HX10.out.setRow (Nat.le_succ _) _⟩
              · have HBY := Lib.hid (bytes_sect hra HBU.out)
                have hl35 : (sectM M).length ≤ 1000000 := by
                  have h1 := rightM_out hra
                  have h2 := Super.right_bd h1.1
                  have h3 := pairsI_len (M.inodes.length / 2) M.inodes (by omega)
                  show (pairsI M.inodes).length + 1 + 1 + 1 ≤ 1000000
                  omega
                rw [show layM J ni go P M = (sectM M, 0) by unfold layM; rw [if_pos hra]] at hlay
                have HRA := Lib.hid hra
                obtain ⟨K, hK⟩ : ∃ z, z = sectM M := ⟨_, rfl⟩
                rw [← hK] at hlay HBY hl35 HPRE
                have HKK := Lib.hid hK
                clear hra hK
                go_wp2_with fail
                refine hlay.mono ?_
                rintro e w10 ⟨a2, c2', rfl, hS, h10⟩
                dsimp only at hS ⊢
                have HR10 := Lib.hid (HRE.out.ext h10)
                have HX10 := Lib.hid (HXE.out.trans h10)
                have hss := SameS_ok a2 K.length c2' K (some ⟨b, off, none⟩) n cap L w10 (hS.ls HBY.out) (HL.out.ext HX10.out) hl35
                have HA10 := Lib.hid (HA7.out.ext h10)
                have HG10 := Lib.hid (HGOT.out.ext h10)
                clear hlay h10 q0 q1 q2 q3 k0 k1 k2 k3 hS
                by_cases heq : K = L
                · rw [show sameLs K L = true by unfold sameLs; simp [heq]] at hss
                  have HYES := Lib.hid (takeM_yes (HPRE.out.2 ⟨HRA.out, heq⟩))
                  clear heq
                  go_wp2_with fail
                  refine hss.mono ?_
                  rintro e w11 ⟨rfl, h11⟩
                  have HR11 := Lib.hid (HR10.out.ext h11)
                  have HX11 := Lib.hid (HX10.out.trans h11)
                  have HA11 := Lib.hid (HA10.out.ext h11)
                  have HG11 := Lib.hid (HG10.out.ext h11)
                  have q0 := (HA11.out.cell? 0).trans rfl
                  have q1 := (HA11.out.cell? 1).trans rfl
                  have q2 := (HA11.out.cell? 2).trans rfl
                  have q3 := (HA11.out.cell? 3).trans rfl
                  clear hss h11
                  go_wp2_with (refine wpList_store_row rfl _ _ _ rfl (w.heap.size + 1) #[.slice a5 R.length c5, .slice (some ⟨b1, 0, none⟩) go go, .slice a8 64 c8, .slice (some ⟨b3, 0, none⟩) ni ni] rfl rfl 29 _ HR11.out infoMeta rfl (by simp [Value.oneCell']) ?_)
                  refine post_meta rfl (by rfl) (by rfl) (HR11.out.setRow #[.slice a5 R.length c5, .slice (some ⟨b1, 0, none⟩) go go, .slice a8 64 c8, .slice (some ⟨b3, 0, none⟩) ni ni]) rfl ?_
                  rw [HYES.out, ← HMM.out]
                  exact ⟨⟨a5, c5, some ⟨b1, 0, none⟩, go, a8, c8, some ⟨b3, 0, none⟩, ni⟩, by rw [HV.out]; rfl, (HG11.out.setRow (by have := HS4.out; omega) _).in_, HX11.out.setRow (Nat.le_succ _) _⟩
                · rw [show sameLs K L = false by unfold sameLs; simp [heq]] at hss
                  have HBAD := Lib.hid (takeM_no (fun h => heq ((HPRE.out.1 h).2)))
                  clear heq
                  go_wp2_with fail
                  refine hss.mono ?_
                  rintro e w11 ⟨rfl, h11⟩
                  have HR11 := Lib.hid (HR10.out.ext h11)
                  have HX11 := Lib.hid (HX10.out.trans h11)
                  clear hss h11
                  go_wp2_with (refine wpList_store_row rfl _ _ _ rfl (w.heap.size + 1) #[.slice none 0 0, .slice none 0 0, .slice none 0 0, .slice none 0 0] rfl rfl 29 _ HR11.out infoMeta rfl (by simp [Value.oneCell']) ?_)
                  refine post_meta rfl (by rfl) (by rfl) (HR11.out.setRow #[.slice none 0 0, .slice none 0 0, .slice none 0 0, .slice none 0 0]) rfl ?_
                  rw [HBAD.out]
                  exact ⟨nilP, rfl, nil_in _, HX11.out.setRow (Nat.le_succ _) _⟩
end Go.Proofs.Ytnodinancnfoeaa.Mt
/- moatlaw14's few; lists of bytes as they come in. -/
namespace Go.Proofs.Ytnodinancnfoeaa.Mt
open Go.RowKit Words Mem Plain Ops Agg OwnS Intern Ino
open Go.Joins Go.ChangeShapes Go.WideShapes Go.Deep
set_option linter.ambiguousOpen false
set_option linter.unusedVariables false
set_option linter.unusedSimpArgs false

def fewL (L : List (List Int)) : List (List Int) := (L.take 50).takeWhile fun xs => decide (xs.length ≤ 100)
theorem few_eq {L : List (List Int)} {k : Nat} (h : ∀ q, q < k → (L.getD q []).length ≤ 100) (h50 : k ≤ 50) (hl : k ≤ L.length) (he : k = L.length ∨ k = 50 ∨ 100 < (L.getD k []).length) : fewL L = L.take k := by
  have e : L.take 50 = L.take k ++ (L.take 50).drop k := by
    rw [← List.take_append_drop k (L.take 50), List.take_take, Nat.min_eq_left h50, List.drop_left' (by simp; omega)]
  unfold fewL
  rw [e, List.takeWhile_append_of_pos (fun xs hx => by
    obtain ⟨i, hi, rfl⟩ := List.getElem_of_mem hx
    rw [List.length_take] at hi
    have := h i (by omega)
    rw [List.getD_eq_getElem?_getD, List.getElem?_eq_getElem (by omega)] at this
    simpa using this)]
  have e2 : ((L.take 50).drop k).takeWhile (fun xs => decide (xs.length ≤ 100)) = [] := by
    by_cases hk : k < (L.take 50).length
    · rw [List.drop_eq_getElem_cons hk]
      have hk2 : k < L.length := by rw [List.length_take] at hk; omega
      have hk3 : k < 50 := by rw [List.length_take] at hk; omega
      have h3 : 100 < (L.getD k []).length := by
        rcases he with he | he | he
        · omega
        · omega
        · exact he
      rw [List.getD_eq_getElem?_getD, List.getElem?_eq_getElem hk2] at h3
      have h4 : 100 < ((L.take 50)[k]).length := by simpa using h3
      rw [List.takeWhile_cons_of_neg (by simp; simpa using h4)]
    · rw [List.drop_of_length_le (by omega)]; rfl
  rw [e2, List.append_nil]
theorem LsIn.take {w : World} {a : Option Addr} {n : Nat} {L : List (List Int)} (h : LsIn w a n L) {k : Nat} (hk : k ≤ n) : LsIn w a k (L.take k) := by
  refine ⟨by rw [List.length_take, h.1]; omega, fun h0 => ?_⟩
  obtain ⟨b, off, e, hc⟩ := h.2 (by omega)
  refine ⟨b, off, e, fun i hi => ?_⟩
  have hi2 : i < L.length := by rw [List.length_take] at hi; omega
  obtain ⟨x, m, c, h1, h2⟩ := hc i hi2
  have e : (L.take k)[i] = L[i] := by simp
  rw [e]
  exact ⟨x, m, c, h1, h2⟩
theorem cellsSl1 : Try.prog.cellsOf 26 = 1 := by kernel_rfl
set_option maxHeartbeats 1000000 in
theorem secs_in {H : Type} {enc : TypeId × Value → H} {base : Nat} {d : DataW H} {p : List MemPlace} {v : Value} {w : World} (ho : Value.okWide Try.prog w .any base 35 v) (h : DataW.Trod enc Try.prog w 0 (fun _ => true) true 35 v d p) :
    ∃ a n cap L, v = .slice a n cap ∧ n ≤ cap ∧ cap ≤ 9223372036854775807 ∧ LsIn w a n L := by
  obtain ⟨a, n, cap, rfl⟩ := okWide_slice Try.underlying35 ho
  obtain ⟨fuel, hf⟩ := h
  rcases open_slice1 Try.underlying35 cellsSl1 hf with ⟨hc, _⟩ | ⟨a, len, cap, m, k, V, D, Pl, hc, _, hl, hm, hmm, hx, hall⟩
  · simp [Value.cells] at hc
    obtain ⟨rfl, rfl, rfl⟩ := hc
    exact ⟨none, 0, 0, [], rfl, Nat.le_refl _, by omega, rfl, fun h => absurd h (by omega)⟩
  · simp [Value.cells] at hc
    obtain ⟨rfl, rfl, rfl⟩ := hc
    simp only [if_true] at hmm
    subst hmm
    have hat : ∀ i, i < n → ∃ xs : List Int, ∃ x c, w.cell? (a.add i) = some (.slice x xs.length c) ∧ xs.length ≤ c ∧ c ≤ 9223372036854775807 ∧ Sl w x (ints .u8 xs) ∧ isBytes xs ∧ (x = none → xs.length = 0 ∧ c = 0) := by
      intro i hi
      obtain ⟨h1, h2⟩ := hall i (by omega)
      obtain ⟨x, c, xs, e, h3, h4, h5, h6, h7⟩ := bytes_cs h2
      exact ⟨xs, x, c, by rw [h1, e], h5, h6, h3, h4, h7⟩
    obtain ⟨L, hL, hp⟩ := choose_list hat
    subst hL
    refine ⟨some a, _, m, L, rfl, hl, by unfold maxLen at hm; omega, rfl, fun h0 => ?_⟩
    obtain ⟨b, off, sp⟩ := a
    have hsp : sp = none := by
      cases sp with
      | none => rfl
      | some s =>
        obtain ⟨x, c, hx, _⟩ := hp 0 h0
        simp [Addr.add, World.cell?] at hx
        split at hx <;> simp at hx
    subst hsp
    refine ⟨b, off, rfl, fun i hi => ?_⟩
    obtain ⟨x, c, h1, h2, h3, h4, h5, h6⟩ := hp i hi
    exact ⟨x, _, c, (by rw [← Addr.add_lit]; exact h1), rfl, h2, h3, h4, h5, h6⟩
set_option maxHeartbeats 1000000 in
theorem few_ok (a : Option Addr) (n cap : Nat) (L : List (List Int)) (w : World) (hn : n ≤ cap) (hm : cap ≤ 9223372036854775807) (hs : LsIn w a n L) :
    Calls Try.prog 21 #[.slice a n cap] w fun e w' => w' = w ∧ ∃ m : Nat, e = .returned (.slice a m cap) ∧ m ≤ n ∧ m ≤ 50 ∧ fewL L = L.take m := by
  by_cases h0 : 0 < n
  · obtain ⟨b, off, rfl, hk⟩ := hs.2 h0
    have HK := Lib.hid hk
    have HL := Lib.hid hs.1
    clear hk hs
    go_enter Try.func21, Try.ntmps21
    go_wp2
    go_loopw [6] (fun v wr => ∃ k : Nat, k ≤ n ∧ k ≤ 50 ∧ v = .int .i64 k ∧ w = wr ∧ ∀ q, q < k → (L.getD q []).length ≤ 100) (fun v _ => n - (intOf v).toNat)
    case atStart => exact ⟨0, by omega, by omega, rfl, rfl, fun q hq => absurd hq (by omega)⟩
    case round =>
      obtain ⟨k, hkn, hk50, rfl, rfl, hfew⟩ := hrel
      have HF := Lib.hid hfew
      clear hfew
      by_cases hlt : k < n
      · have hkL : k < L.length := by rw [HL.out]; exact hlt
        obtain ⟨x, bl, bc, hc, hlen, -⟩ := HK.out k hkL
        have HGD := Lib.hid (show (L.getD k []).length = bl by rw [List.getD_eq_getElem?_getD, List.getElem?_eq_getElem hkL]; exact hlen)
        clear hlen hkL
        by_cases h50 : k = 50
        · subst h50
          have HE := Lib.hid (few_eq HF.out (Nat.le_refl _) (by rw [HL.out]; exact hkn) (.inr (.inl rfl)))
          go_wp2
          go_ret
          exact ⟨rfl, 50, rfl, by omega, by omega, HE.out⟩
        · have hk2 : ¬ (50 : Int) ≤ k := by omega
          by_cases hb : 100 < bl
          · have hb2 : (100 : Int) < bl := by omega
            have HE := Lib.hid (few_eq HF.out hk50 (by rw [HL.out]; exact hkn) (.inr (.inr (by rw [HGD.out]; exact hb))))
            clear hb
            go_wp2
            go_ret
            exact ⟨rfl, k, rfl, by omega, by omega, HE.out⟩
          · have hb2 : ¬ (100 : Int) < bl := by omega
            have HN := Lib.hid (show ∀ q, q < k + 1 → (L.getD q []).length ≤ 100 from fun q hq => by
              by_cases h : q < k
              · exact HF.out q h
              · rw [show q = k by omega, HGD.out]; omega)
            clear hb
            go_wp2
            go_roundw
            case rel => exact ⟨k + 1, by omega, by omega, by go_num, (by first | rfl | trivial), HN.out⟩
            case measure => simp [intOf]; omega
      · obtain rfl : k = n := by omega
        have HE := Lib.hid (few_eq HF.out hk50 (by rw [HL.out]; exact hkn) (.inl (by rw [HL.out])))
        go_wp2
        go_ret
        exact ⟨rfl, k, rfl, by omega, by omega, HE.out⟩
  · obtain rfl : n = 0 := by omega
    have HE := Lib.hid (few_eq (L := L) (k := 0) (fun q hq => absurd hq (by omega)) (by omega) (by omega) (.inl (by rw [hs.1])))
    clear hs
    go_enter Try.func21, Try.ntmps21
    go_wp2
    go_loopw [6] (fun v wr => v = .int .i64 0 ∧ w = wr) (fun v _ => 0)
    case atStart => exact ⟨rfl, rfl⟩
    case round =>
      obtain ⟨rfl, rfl⟩ := hrel
      go_wp2
      go_ret
      exact ⟨rfl, 0, rfl, by omega, by omega, HE.out⟩
/-- few, as it is used. -/
theorem few_use (a : Option Addr) (n cap : Nat) (L : List (List Int)) (w : World) (hn : n ≤ cap) (hm : cap ≤ 9223372036854775807) (hs : LsIn w a n L) :
    ∃ m : Nat, m ≤ 50 ∧ m ≤ cap ∧ LsIn w a m (fewL L) ∧ ∀ v, Ext w v → Calls Try.prog 21 #[.slice a n cap] v fun e w' => v = w' ∧ e = .returned (.slice a m cap) := by
  have key : ∀ v, Ext w v → Calls Try.prog 21 #[.slice a n cap] v fun e w' => v = w' ∧ e = .returned (.slice a (fewL L).length cap) := fun v hv => (few_ok a n cap L v hn hm (hs.ext hv)).mono fun e w' ⟨h1, m, h2, h3, h4, h5⟩ => by
    refine ⟨h1.symm, ?_⟩
    rw [h5, List.length_take, hs.1, Nat.min_eq_left h3]
    exact h2
  have hle : (fewL L).length ≤ 50 := by
    unfold fewL
    exact Nat.le_trans ((List.takeWhile_prefix _).length_le) (by rw [List.length_take]; omega)
  have hle2 : (fewL L).length ≤ n := by
    unfold fewL
    exact Nat.le_trans ((List.takeWhile_prefix _).length_le) (by rw [List.length_take, hs.1]; omega)
  have he : fewL L = L.take (fewL L).length := by
    have h1 : fewL L <+: L.take 50 := List.takeWhile_prefix _
    have h2 : fewL L <+: L := h1.trans (List.take_prefix _ _)
    exact List.prefix_iff_eq_take.1 h2
  refine ⟨(fewL L).length, hle, by omega, ?_, key⟩
  have := hs.take (k := (fewL L).length) hle2
  rw [← he] at this
  exact this
end Go.Proofs.Ytnodinancnfoeaa.Mt
/- A Meta read stays when another box is written (cut out of MtBackL by gen_takes14.py). -/
namespace Go.Proofs.Ytnodinancnfoeaa.Mt
open Go.RowKit Words Mem Plain Ops Agg OwnS Intern Ino
set_option linter.ambiguousOpen false
set_option linter.unusedVariables false
set_option linter.unusedSimpArgs false

theorem sl_keep {w : World} {a : Option Addr} {xs V : List Value} {g : Nat} {t : TypeId} (h : Sl w a xs) (hx : ∀ x ∈ xs, ∃ k y, x = .int k y) (hr : Row w g t V) (hV : ∀ v ∈ V, ∀ k y, v ≠ .int k y) (c : Array Value) : Sl (w.setRow g c) a xs := fun j hj => by
  obtain ⟨ad, e, hc⟩ := h j hj
  refine ⟨ad, e, ?_⟩
  obtain ⟨b, off, sp⟩ := ad
  have hsp : sp = none := by
    cases sp with
    | none => rfl
    | some s =>
      obtain ⟨ad0, e0, hc0⟩ := h 0 (by omega)
      rw [e] at e0
      cases e0
      simp [Addr.add, World.cell?] at hc0
      split at hc0 <;> simp at hc0
  subst hsp
  rw [Addr.add_lit] at hc ⊢
  have hne : b ≠ g := fun e2 => by
    subst e2
    obtain ⟨k, y, hk⟩ := hx _ (List.getElem_mem hj)
    rw [hk, hr.cell?] at hc
    exact hV _ (List.mem_of_getElem? hc) k y rfl
  rw [World.cell?_of_block (w' := w.setRow g c) (w := w) (a := ⟨b, off + j, none⟩) (Go.setRow_other w g b c hne)]
  exact hc
theorem ints_int (k : IntKind) (L : List Int) : ∀ x ∈ ints k L, ∃ k y, x = .int k y := fun x hx => by
  obtain ⟨y, _, rfl⟩ := List.mem_map.1 hx
  exact ⟨k, y, rfl⟩
theorem MetaIn.setRow4 {w : World} {p : Pl} {M : MetaT} {g : Nat} {a0 a1 a2 a3 : Option Addr} {n0 n1 n2 n3 c0 c1 c2 c3 : Nat} (h : MetaIn w p M) (hr : Row w g 29 [.slice a0 n0 c0, .slice a1 n1 c1, .slice a2 n2 c2, .slice a3 n3 c3]) (c : Array Value) : MetaIn (w.setRow g c) p M := by
  have hV : ∀ v ∈ [Value.slice a0 n0 c0, .slice a1 n1 c1, .slice a2 n2 c2, .slice a3 n3 c3], ∀ k y, v ≠ .int k y := by
    intro v hv k y
    simp at hv
    rcases hv with rfl | rfl | rfl | rfl <;> exact fun e => by cases e
  refine ⟨sl_keep h.rows (fun x hx => ?_) hr hV c, sl_keep h.owners (ints_int _ _) hr hV c, sl_keep h.used (ints_int _ _) hr hV c, sl_keep h.inodes (fun x hx => ?_) hr hV c, h.wfr, h.bu, h.wfi, h.few, h.nil⟩
  · obtain ⟨r, _, hr2⟩ := List.mem_flatMap.1 hx
    simp at hr2
    rcases hr2 with rfl | rfl <;> exact ⟨_, _, rfl⟩
  · obtain ⟨n, _, hn⟩ := List.mem_flatMap.1 hx
    simp [inoC] at hn
    rcases hn with rfl | rfl | rfl | rfl | rfl | rfl | rfl | rfl | rfl | rfl | rfl | rfl | rfl | rfl <;> exact ⟨_, _, rfl⟩
end Go.Proofs.Ytnodinancnfoeaa.Mt
