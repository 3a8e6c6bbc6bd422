/- MtT; MtQ; RGeo -/
import Derived.Test.YtnodinancnfoeaaTk5
import Derived.Test.YtnodinancnfoeaaTk4
import Derived.Test.YtnodinancnfoeaaTk1
/- meta.Take. Printed by gen_take14.py. -/
namespace Go.Proofs.Ytnodinancnfoeaa.Mt
open Go.RowKit Words Mem Plain Ops Agg OwnS Intern Ino
open Go.Proofs.Ytnodinancnfoeaa.Field
set_option linter.ambiguousOpen false
set_option linter.unusedVariables false
set_option linter.unusedSimpArgs false

noncomputable def gotM (G I : Nat) (L : List (List Int)) : MetaT := ⟨(rowsTake (L.getD 0 [])).1, (L.getD 1 []).take G, L.getD 2 [], inosN (L.drop 3) I⟩
structure okT (J I G P : Int) (L : List (List Int)) : Prop where
  right : Super.rightB J I G P = true
  len : (L.length : Int) = 3 + I / 2
  s64 : ∀ xs ∈ L, xs.length = 64
  rows : (rowsTake (L.getD 0 [])).2 = 0
  inos : ∀ m, m < 2 * (L.length - 3) → (inoAt (L.drop 3) m).2 = 0
  tail : ∀ k, G.toNat ≤ k → k < 64 → (L.getD 1 []).getD k 0 = 0
  all : rightM J I G P (gotM G.toNat (2 * (L.length - 3)) L) = true
open Classical in
noncomputable def takeM (J I G P : Int) (L : List (List Int)) : MetaT × Int := if okT J I G P L then (gotM G.toNat (2 * (L.length - 3)) L, 0) else (nilM, 140)
theorem takeM_no {J I G P : Int} {L : List (List Int)} (h : ¬ okT J I G P L) : takeM J I G P L = (nilM, 140) := by unfold takeM; rw [if_neg h]
theorem takeM_yes {J I G P : Int} {L : List (List Int)} (h : okT J I G P L) : takeM J I G P L = (gotM G.toNat (2 * (L.length - 3)) L, 0) := by unfold takeM; rw [if_pos h]
def GaveT (w : World) (r : MetaT × Int) (e : Ending) (w' : World) : Prop := ∃ p, e = .returned (.tuple #[metaV p r.1, .int .i64 r.2]) ∧ MetaIn w' p r.1 ∧ Ext w w'
theorem LsIn.drop {w : World} {b off n cap : Nat} {L : List (List Int)} (h : LsIn w (some ⟨b, off, none⟩) n L) (k : Nat) (hk : k < n) : LsIn w (some ⟨b, off + k, none⟩) (n - k) (L.drop k) := by
  refine ⟨by rw [List.length_drop, h.1], fun _ => ⟨b, off + k, rfl, fun i hi => ?_⟩⟩
  obtain ⟨b', off', e, hc⟩ := h.2 (by omega)
  cases e
  rw [List.length_drop] at hi
  obtain ⟨x, m, c, h1, h2⟩ := hc (k + i) (by omega)
  have e : (L.drop k)[i]'(by rw [List.length_drop]; exact hi) = L[k + i] := by simp
  rw [e, Nat.add_assoc]
  exact ⟨x, m, c, h1, h2⟩
theorem take1 (xs : List Int) (h : xs.length = 64) (hb : isBytes xs) : takeR 1 xs = (xs, 0) := by
  unfold takeR
  rw [h]
  rw [if_neg (by decide), if_neg (by decide)]
  congr 1
  unfold takenL
  refine List.ext_getElem (by simp [h]) (fun i h1 h2 => ?_)
  simp
  have hi : i < xs.length := by simpa using h2
  rw [List.drop_eq_getElem_cons hi, List.take_succ_cons, List.take_zero]
  simp [numOf]
/-- What Take has made: rows of its own, above lo. -/
structure Got (w : World) (lo : Nat) (p : Pl) (M : MetaT) : Prop where
  rows : w.ownsRow lo 45 2 (.slice p.ra M.rows.length p.rc) M.rows.length (rowsC M.rows)
  owners : w.ownsRow lo 3 1 (.slice p.oa M.owners.length p.oc) M.owners.length (ints .i64 M.owners)
  used : w.ownsRow lo 5 1 (.slice p.ua M.used.length p.uc) M.used.length (ints .u8 M.used)
  inodes : w.ownsRow lo 48 14 (.slice p.ia M.inodes.length p.ic) M.inodes.length (flat inoC M.inodes)
  wfr : wfR M.rows
  bu : isBytes M.used
  wfi : ∀ n ∈ M.inodes, n.wf
  few : M.rows.length ≤ 1000 ∧ M.owners.length ≤ 1000 ∧ M.used.length ≤ 1000 ∧ M.inodes.length ≤ 1000
theorem Got.in_ {w : World} {lo : Nat} {p : Pl} {M : MetaT} (h : Got w lo p M) : MetaIn w p M :=
  ⟨Mt.ownS_sl h.rows, Mt.ownS_sl h.owners, Mt.ownS_sl h.used, Mt.ownS_sl h.inodes, h.wfr, h.bu, h.wfi, h.few, ownS_nilcap h.rows, ownS_nilcap h.owners, ownS_nilcap h.used, ownS_nilcap h.inodes⟩
theorem Got.ext {w w' : World} {lo : Nat} {p : Pl} {M : MetaT} (h : Got w lo p M) (e : Ext w w') : Got w' lo p M :=
  ⟨ownS_ext h.rows e, ownS_ext h.owners e, ownS_ext h.used e, ownS_ext h.inodes e, h.wfr, h.bu, h.wfi, h.few⟩
theorem Got.setRow {w : World} {lo : Nat} {p : Pl} {M : MetaT} (h : Got w lo p M) {g : Nat} (hg : g < lo) (c : Array Value) : Got (w.setRow g c) lo p M :=
  have key : ∀ {n s cap : Nat} {t : TypeId} {a : Option Addr} {xs : List Value}, w.ownsRow lo t s (.slice a n cap) n xs → (w.setRow g c).ownsRow lo t s (.slice a n cap) n xs := fun h => ownS_block h (fun ad e => Go.setRow_other w g ad.block c (by have := (ownS_lt h ad e).1; omega))
  ⟨key h.rows, key h.owners, key h.used, key h.inodes, h.wfr, h.bu, h.wfi, h.few⟩
theorem rowsTake_wf {xs : List Int} (hb : isBytes xs) : wfR (rowsTake xs).1 := by
  by_cases h : xs.length = 64
  · cases hr : rightB (rowsQ xs 16)
    · rw [rowsTake_no hr]; exact fun r hr => by cases hr
    · rw [rowsTake_yes h hr]; exact rowsQ_wf hb 16
  · rw [rowsTake_len h]; exact fun r hr => by cases hr
theorem rowsTake_few (xs : List Int) : (rowsTake xs).1.length ≤ 16 := by
  by_cases h : xs.length = 64
  · cases hr : rightB (rowsQ xs 16)
    · rw [rowsTake_no hr]; exact Nat.zero_le _
    · rw [rowsTake_yes h hr]
      show (rowsQ xs 16).length ≤ 16
      rw [rowsQ_length]; exact Nat.le_refl _
  · rw [rowsTake_len h]; exact Nat.zero_le _
theorem chunk_bytes {L : List (List Int)} (h : ∀ xs ∈ L, isBytes xs) (m : Nat) : isBytes (chunk L m) := fun y hy => by
  have hy := List.mem_of_mem_drop (List.mem_of_mem_take hy)
  by_cases hm : m / 2 < L.length
  · rw [List.getD_eq_getElem?_getD, List.getElem?_eq_getElem hm] at hy
    exact h _ (List.getElem_mem hm) y hy
  · rw [List.getD_eq_getElem?_getD, List.getElem?_eq_none (by omega)] at hy
    cases hy
theorem inoAt_wf {L : List (List Int)} (h : ∀ xs ∈ L, isBytes xs) (m : Nat) : (inoAt L m).1.wf := by
  unfold inoAt
  by_cases hp : Ino.takeP (chunk L m)
  · rw [takeR_yes hp]; exact Ino.ofNums_wf (chunk_bytes h m) hp.1
  · rw [takeR_no hp]; unfold Ino.wf Ino.zero; dsimp only; omega
theorem inosN_wf {L : List (List Int)} (h : ∀ xs ∈ L, isBytes xs) (m : Nat) : ∀ n ∈ inosN L m, n.wf := fun n hn => by
  obtain ⟨i, _, rfl⟩ := List.mem_map.1 hn
  exact inoAt_wf h i
theorem LsIn.bytes {w : World} {a : Option Addr} {n : Nat} {L : List (List Int)} (h : LsIn w a n L) : ∀ xs ∈ L, isBytes xs := fun xs hx => by
  obtain ⟨i, hi, rfl⟩ := List.getElem_of_mem hx
  obtain ⟨b, off, _, hc⟩ := h.2 (by have := h.1; omega)
  obtain ⟨x, m, c, _, _, _, _, _, h6, _⟩ := hc i hi
  exact h6

set_option maxHeartbeats 8000000 in
set_option maxRecDepth 100000 in
theorem Take_ok (J I G P : Int) (a : Option Addr) (n cap : Nat) (L : List (List Int)) (w : World) (hL : LsIn w a n L) (hn : n ≤ 100) (hcap : n ≤ cap) (hcm : cap ≤ 9223372036854775807) :
    Calls Try.prog 20 #[Super.geoV J I G P, .slice a n cap] w (GaveT w (takeM J I G P L)) := by
  have X1 := (Ext.refl w).alloc (.cells #[.int .i64 J, .int .i64 I, .int .i64 G, .int .i64 P] 23)
  have hrow1 := Row.new w 23 [.int .i64 J, .int .i64 I, .int .i64 G, .int .i64 P]
  have hs1 : (w.alloc (.cells #[.int .i64 J, .int .i64 I, .int .i64 G, .int .i64 P] 23)).heap.size = w.heap.size + 1 := by simp
  obtain ⟨w1, hw1⟩ : ∃ z, z = w.alloc (.cells #[.int .i64 J, .int .i64 I, .int .i64 G, .int .i64 P] 23) := ⟨_, rfl⟩
  rw [← hw1] at X1 hrow1 hs1
  have X2 := (Ext.refl w1).alloc (.cells #[.slice none 0 0, .slice none 0 0, .slice none 0 0, .slice none 0 0] 29)
  have hrow2 := Row.new w1 29 [.slice none 0 0, .slice none 0 0, .slice none 0 0, .slice none 0 0]
  have hs2 : (w1.alloc (.cells #[.slice none 0 0, .slice none 0 0, .slice none 0 0, .slice none 0 0] 29)).heap.size = w.heap.size + 2 := by simp [hs1]
  rw [hs1] at hrow2
  obtain ⟨w2, hw2⟩ : ∃ z, z = w1.alloc (.cells #[.slice none 0 0, .slice none 0 0, .slice none 0 0, .slice none 0 0] 29) := ⟨_, rfl⟩
  rw [← hw2] at X2 hrow2 hs2
  have hg2 := hrow1.ext X2
  have HGE := Lib.hid hg2
  have HX2 := Lib.hid (X1.trans X2)
  have HR2 := Lib.hid hrow2
  have HS2 := Lib.hid hs2
  have HL := Lib.hid hL
  have hgr := Super.Right_ok J I G P w2
  have hz := zeroMeta
  have HW1 := Lib.hid hw1
  have HW2 := Lib.hid hw2
  clear X1 hrow1 X2 hrow2 hs1 hs2 hg2 hL hw1 hw2
  go_enter Try.func20, Try.ntmps20
  go_wp2_with fail
  rw [← HW1.out, ← HW2.out]
  refine hgr.mono ?_
  rintro e w3 ⟨rfl, h3⟩
  have HX3 := Lib.hid (HX2.out.trans h3)
  have HR3 := Lib.hid (HR2.out.ext h3)
  have HG3 := Lib.hid (HGE.out.ext h3)
  have HS3 := Lib.hid (HS2.out ▸ h3.size)
  clear hgr h3 HR2 HGE HS2 HW1 HW2 HX2
  have k0 := (HG3.out.cell? 0).trans rfl
  have k1 := (HG3.out.cell? 1).trans rfl
  have k2 := (HG3.out.cell? 2).trans rfl
  have k3 := (HG3.out.cell? 3).trans rfl
  cases hr : Super.rightB J I G P
  · have HBAD := Lib.hid (takeM_no (J := J) (I := I) (G := G) (P := P) (L := L) (fun h => by have := h.right; rw [hr] at this; cases this))
    clear hr
    go_wp2_with (refine wpList_store_row rfl _ _ _ rfl (w.heap.size + 1) #[.slice none 0 0, .slice none 0 0, .slice none 0 0, .slice none 0 0] rfl rfl 29 _ HR3.out infoMeta rfl (by simp [Value.oneCell']) ?_)
    refine post_meta rfl (by rfl) (by rfl) (HR3.out.setRow #[.slice none 0 0, .slice none 0 0, .slice none 0 0, .slice none 0 0]) rfl ?_
    rw [HBAD.out]
    exact ⟨nilP, rfl, nil_in _, HX3.out.setRow (Nat.le_succ _) _⟩
  have HRT := Lib.hid hr
  have HBD := Lib.hid (Super.right_bd hr)
  have hmt := Super.Meta_ok J I G P w3
  rw [show Super.metaN J I G P = 3 + I / 2 by unfold Super.metaN; rw [hr]; rfl] at hmt
  clear hr
  go_wp2_with fail
  refine hmt.mono ?_
  rintro e w4 ⟨rfl, h4⟩
  have HX4 := Lib.hid (HX3.out.trans h4)
  have HR4 := Lib.hid (HR3.out.ext h4)
  have HG4 := Lib.hid (HG3.out.ext h4)
  have HS4 := Lib.hid (Nat.le_trans HS3.out h4.size)
  clear hmt h4 HR3 HG3 HS3 HX3 k0 k1 k2 k3
  by_cases hlen : (n : Int) = 3 + I / 2
  case neg =>
    have HBAD := Lib.hid (takeM_no (J := J) (I := I) (G := G) (P := P) (L := L) (fun h => hlen (by rw [← HL.out.1]; exact h.len)))
    have hne : ((n : Int) != 3 + I / 2) = true := by simp; omega
    clear hlen
    go_wp2_with (refine wpList_store_row rfl _ _ _ rfl (w.heap.size + 1) #[.slice none 0 0, .slice none 0 0, .slice none 0 0, .slice none 0 0] rfl rfl 29 _ HR4.out infoMeta rfl (by simp [Value.oneCell']) ?_)
    refine post_meta rfl (by rfl) (by rfl) (HR4.out.setRow #[.slice none 0 0, .slice none 0 0, .slice none 0 0, .slice none 0 0]) rfl ?_
    rw [HBAD.out]
    exact ⟨nilP, rfl, nil_in _, HX4.out.setRow (Nat.le_succ _) _⟩
  have hne : ((n : Int) != 3 + I / 2) = false := by simp [hlen]
  have HLEN := Lib.hid hlen
  clear hlen
  go_wp2_with fail
  clear hne
  have HR5 := HR4
  go_loopw [30] (fun v wr => ∃ k : Nat, k ≤ n ∧ v = .int .i64 k ∧ w4 = wr ∧ ∀ q, q < k → (L.getD q []).length = 64) (fun v _ => n - (intOf v).toNat)
  case atStart => exact ⟨0, by omega, rfl, rfl, fun q hq => absurd hq (by omega)⟩
  case round =>
    obtain ⟨k, hk, rfl, rfl, h64⟩ := hrel
    have H64 := Lib.hid h64
    clear h64
    by_cases hlt : k < n
    · have hkL : k < L.length := by rw [HL.out.1]; exact hlt
      obtain ⟨b, off, rfl, hi⟩ := HL.out.2 (by omega)
      obtain ⟨x, mm, cx, hc, hl, _⟩ := hi k hkL
      have hcell := HX4.out.keep hc
      have hkn : (k : Int) < n := by omega
      have hgd : L.getD k [] = L[k] := by simp [hkL]
      rw [← hgd] at hl
      have HHL := Lib.hid hl
      clear hi hc hl hgd
      by_cases h6 : mm = 64
      · have hne : ((mm : Int) != 64) = false := by simp [h6]
        have H6 := Lib.hid h6
        clear h6
        go_wp2
        go_roundw
        case rel => exact ⟨k + 1, hlt, by go_num, (by first | rfl | trivial), fun q hq => by
          by_cases hqk : q < k
          · exact H64.out q hqk
          · rw [show q = k by omega, HHL.out, H6.out]⟩
        case measure => simp [intOf]; omega
      · have hne : ((mm : Int) != 64) = true := by simp; omega
        have HBAD := Lib.hid (takeM_no (J := J) (I := I) (G := G) (P := P) (L := L) (fun h => by
          have := h.s64 (L.getD k []) (by rw [List.getD_eq_getElem?_getD, List.getElem?_eq_getElem hkL]; exact List.getElem_mem hkL)
          rw [HHL.out] at this; exact h6 this))
        clear h6
        go_wp2_with (refine wpList_store_row rfl _ _ _ rfl (w.heap.size + 1) #[.slice none 0 0, .slice none 0 0, .slice none 0 0, .slice none 0 0] rfl rfl 29 _ HR4.out infoMeta rfl (by simp [Value.oneCell']) ?_)
        refine post_meta rfl (by rfl) (by rfl) (HR4.out.setRow #[.slice none 0 0, .slice none 0 0, .slice none 0 0, .slice none 0 0]) rfl ?_
        rw [HBAD.out]
        exact ⟨nilP, rfl, nil_in _, HX4.out.setRow (Nat.le_succ _) _⟩
    · have hkn : k = n := by omega
      have HKN := Lib.hid hkn
      clear hkn
      have H64A := Lib.hid (show ∀ xs ∈ L, xs.length = 64 from fun xs hx => by
        obtain ⟨i, hi, rfl⟩ := List.getElem_of_mem hx
        have := H64.out i (by rw [HKN.out, ← HL.out.1]; exact hi)
        rw [List.getD_eq_getElem?_getD, List.getElem?_eq_getElem hi] at this
        exact this)
      have hn4 : 4 ≤ n := by have := HLEN.out; have := HBD.out; omega
      obtain ⟨b, off, rfl, hi⟩ := HL.out.2 (by omega)
      have hat : ∀ q, q < n → ∃ x c, w4.cell? ⟨b, off + q, none⟩ = some (.slice x 64 c) ∧ (L.getD q []).length = 64 ∧ 64 ≤ c ∧ c ≤ 9223372036854775807 ∧ Sl w4 x (ints .u8 (L.getD q [])) ∧ isBytes (L.getD q []) ∧ (x = none → 64 = 0 ∧ c = 0) := fun q hq => by
        obtain ⟨x, m, c, h1, h2, h3, h4, h5, h6, h7⟩ := hi q (by rw [HL.out.1]; exact hq)
        have e : L.getD q [] = L[q]'(by rw [HL.out.1]; exact hq) := by simp [HL.out.1, hq]
        have e6 := H64.out q (by rw [HKN.out]; exact hq)
        rw [e] at e6 ⊢
        obtain rfl : m = 64 := by omega
        exact ⟨x, c, HX4.out.keep h1, e6, h3, h4, h5.ext HX4.out, h6, h7⟩
      obtain ⟨x0, c0, hc0, hl0, hle0, hm0, hsl0, hb0, _⟩ := hat 0 (by omega)
      obtain ⟨x1, c1, hc1, hl1, hle1, hm1, hsl1, hb1, _⟩ := hat 1 (by omega)
      obtain ⟨x2, c2, hc2, hl2, hle2, hm2, hsl2, hb2, hn2⟩ := hat 2 (by omega)
      have HLD := Lib.hid ((HL.out.ext HX4.out).drop (cap := cap) 3 (by omega))
      have hslc := fun v : World => run_slice_from (P := Try.prog) v 35 26 Try.underlying35 (by kernel_rfl) (some ⟨b, off, none⟩) n cap 3 .i64 3 rfl (by omega)
      rw [show cutA (some ⟨b, off, none⟩) cap 3 = some ⟨b, off + 3, none⟩ by unfold cutA; rw [if_neg (by omega)]; rfl] at hslc
      have HC0 := Lib.hid hc0
      have HC1 := Lib.hid hc1
      have HC2 := Lib.hid hc2
      have HC := Lib.hid (And.intro hl0 (And.intro hle0 (And.intro hm0 (And.intro hsl0 hb0))))
      have HD := Lib.hid (And.intro hl1 (And.intro hle1 (And.intro hm1 (And.intro hsl1 hb1))))
      have HE := Lib.hid (And.intro hl2 (And.intro hle2 (And.intro hm2 (And.intro hsl2 (And.intro hb2 hn2)))))
      have hcc0 : w4.cell? ⟨b, off, none⟩ = some (.slice x0 64 c0) := hc0
      have hn1' : (1 : Int) < n := by omega
      have hn2' : (2 : Int) < n := by omega
      have hn0' : (0 : Int) < n := by omega
      clear hat hi hl0 hle0 hm0 hsl0 hb0 hl1 hle1 hm1 hsl1 hb1 hl2 hle2 hm2 hsl2 hb2 hn2 hc0 hc1 hc2 H64
      have hrt := RTake_ok (L.getD 0 []) x0 64 c0 w4 HC.out.1 HC.out.2.2.2.2 HC.out.2.2.2.1 HC.out.2.1 HC.out.2.2.1
      go_wp2_with fail
      refine hrt.mono ?_
      rintro e w5 ⟨v5, rfl, a5, c5, rfl, ho5, h5⟩
      obtain ⟨R, cR, hR⟩ : ∃ R c, rowsTake (L.getD 0 []) = (R, c) := ⟨_, _, rfl⟩
      rw [hR] at ho5 ⊢
      dsimp only at ho5 ⊢
      have HROWS := Lib.hid hR
      have HO5 := Lib.hid ho5
      have HX5 := Lib.hid h5
      clear hrt ho5 h5 hR
      have hino := inodes_ok (some ⟨b, off + 3, none⟩) (n - 3) (cap - 3) (L.drop 3) w5 (HLD.out.ext HX5.out) (fun xs hx => H64A.out xs (List.mem_of_mem_drop hx)) (by omega)
      go_wp2_with fail
      refine hino.mono ?_
      rintro e w6 ⟨h6, hres⟩
      obtain ⟨v6, ok, rfl, hyes, hno⟩ : ∃ v6 ok, e = .returned (.tuple #[v6, .bool ok]) ∧ (ok = true → ∃ ao c, v6 = .slice ao (2 * (n - 3)) c ∧ w6.ownsRow w5.heap.size 48 14 (.slice ao (2 * (n - 3)) c) (2 * (n - 3)) (flat inoC (inosN (L.drop 3) (2 * (n - 3)))) ∧ ∀ m, m < 2 * (n - 3) → (inoAt (L.drop 3) m).2 = 0) ∧ (ok = false → ∃ m, m < 2 * (n - 3) ∧ (inoAt (L.drop 3) m).2 ≠ 0) := by
        rcases hres with ⟨ao, c, e1, e2, e3⟩ | ⟨e1, e2⟩
        · exact ⟨_, true, e1, fun _ => ⟨ao, c, rfl, e2, e3⟩, fun h => by cases h⟩
        · exact ⟨_, false, e1, (fun h => by cases h), fun _ => e2⟩
      have HYES := Lib.hid hyes
      have HNO := Lib.hid hno
      have HX6 := Lib.hid h6
      have HX46 := Lib.hid (HX4.out.trans (HX5.out.trans h6))
      have HR6 := Lib.hid ((HR4.out.ext HX5.out).ext h6)
      clear hino h6 hres hyes hno hslc
      by_cases hcR : cR = 0
      case neg =>
        have hne : (cR != 0) = true := by simp [hcR]
        have HBAD := Lib.hid (takeM_no (J := J) (I := I) (G := G) (P := P) (L := L) (fun h => hcR (by have := h.rows; rw [HROWS.out] at this; exact this)))
        clear hcR
        go_wp2_with (refine wpList_store_row rfl _ _ _ rfl (w.heap.size + 1) #[.slice none 0 0, .slice none 0 0, .slice none 0 0, .slice none 0 0] rfl rfl 29 _ HR6.out infoMeta rfl (by simp [Value.oneCell']) ?_)
        refine post_meta rfl (by rfl) (by rfl) (HR6.out.setRow #[.slice none 0 0, .slice none 0 0, .slice none 0 0, .slice none 0 0]) rfl ?_
        rw [HBAD.out]
        exact ⟨nilP, rfl, nil_in _, HX46.out.setRow (Nat.le_succ _) _⟩
      subst hcR
      cases ok
      · have HBAD := Lib.hid (takeM_no (J := J) (I := I) (G := G) (P := P) (L := L) (fun h => by
          obtain ⟨m, hm, hb⟩ := HNO.out rfl
          exact hb (h.inos m (by rw [HL.out.1]; exact hm))))
        go_wp2_with (refine wpList_store_row rfl _ _ _ rfl (w.heap.size + 1) #[.slice none 0 0, .slice none 0 0, .slice none 0 0, .slice none 0 0] rfl rfl 29 _ HR6.out infoMeta rfl (by simp [Value.oneCell']) ?_)
        refine post_meta rfl (by rfl) (by rfl) (HR6.out.setRow #[.slice none 0 0, .slice none 0 0, .slice none 0 0, .slice none 0 0]) rfl ?_
        rw [HBAD.out]
        exact ⟨nilP, rfl, nil_in _, HX46.out.setRow (Nat.le_succ _) _⟩
      obtain ⟨a6, c6, rfl, ho6, hcod⟩ := HYES.out rfl
      have HO6 := Lib.hid ho6
      have HCOD := Lib.hid hcod
      clear ho6 hcod HNO HYES
      have X46 := HX5.out.trans HX6.out
      have c16 := X46.keep HC1.out
      have c26 := X46.keep HC2.out
      have htg := Take_gave x1 64 c1 (L.getD 1 []) w6 1 HD.out.1 (by decide) HD.out.2.2.2.2 (HD.out.2.2.2.1.ext X46) HD.out.2.1 HD.out.2.2.1
      rw [take1 _ HD.out.1 HD.out.2.2.2.2] at htg
      clear X46
      go_wp2_with fail
      refine htg.mono ?_
      rintro e w7 ⟨a7, c7, rfl, ho7, h7⟩
      have HO7 := Lib.hid ho7
      have HX7 := Lib.hid h7
      have hc27 := h7.keep c26
      have hcl := CloneB_ok x2 64 c2 (ints .u8 (L.getD 2 [])) w7 (by rw [ints_length, HE.out.1]) (((HE.out.2.2.2.1.ext HX5.out).ext HX6.out).ext h7) (ints_oneCell' _ _) HE.out.2.2.2.2.2 (by decide)
      clear htg ho7 h7 c26 c16
      dsimp only
      rw [HD.out.1]
      go_wp2_with fail
      refine hcl.mono ?_
      rintro e w8 ⟨a8, c8, rfl, ho8, h8⟩
      have HO8 := Lib.hid ho8
      have HX8 := Lib.hid h8
      clear hcl ho8 h8 hc27
      go_wp2_with fail
      have HR8 := Lib.hid ((HR6.out.ext HX7.out).ext HX8.out)
      have HX48 := Lib.hid ((HX46.out.trans HX7.out).trans HX8.out)
      have HG8 := Lib.hid (((HG4.out.ext (HX5.out.trans HX6.out)).ext HX7.out).ext HX8.out)
      obtain ⟨b7, o7, rfl, hc7⟩ := (ownS_sl HO7.out).ints (by rw [HD.out.1]; decide)
      have HC7 := Lib.hid hc7
      obtain ⟨g14, hg14⟩ : ∃ z, z = w8.heap.size := ⟨_, rfl⟩
      have X9 := (Ext.refl w8).alloc (.cells #[.slice a5 R.length c5, .slice none 0 0, .slice a8 64 c8, .slice a6 (2 * (n - 3)) c6] 29)
      have hrow9 := Row.new w8 29 [.slice a5 R.length c5, .slice none 0 0, .slice a8 64 c8, .slice a6 (2 * (n - 3)) c6]
      have hs9 : (w8.alloc (.cells #[.slice a5 R.length c5, .slice none 0 0, .slice a8 64 c8, .slice a6 (2 * (n - 3)) c6] 29)).heap.size = w8.heap.size + 1 := by simp
      rw [← hg14] at hrow9 hs9
      obtain ⟨w9, hw9⟩ : ∃ z, z = w8.alloc (.cells #[.slice a5 R.length c5, .slice none 0 0, .slice a8 64 c8, .slice a6 (2 * (n - 3)) c6] 29) := ⟨_, rfl⟩
      rw [← hw9] at X9 hs9
      have hrow9 : Row w9 g14 29 [.slice a5 R.length c5, .slice none 0 0, .slice a8 64 c8, .slice a6 (2 * (n - 3)) c6] := by rw [hw9]; exact hrow9
      have HW9 := Lib.hid hw9
      have HG14 := Lib.hid hg14
      have HX9 := Lib.hid X9
      have HROW9 := Lib.hid hrow9
      clear hc7 hg14 X9 hrow9 hs9 hw9
      rw [← HW9.out, ← HG14.out]
      go_loopw [75] (fun v wr => ∃ (k m c : Nat) (ao : Option Addr), k ≤ 64 ∧ v = .int .i64 k ∧ m = min k G.toNat ∧ Row wr g14 29 [.slice a5 R.length c5, .slice ao m c, .slice a8 64 c8, .slice a6 (2 * (n - 3)) c6] ∧ wr.ownsRow (g14 + 1) 3 1 (.slice ao m c) m (ints .i64 ((L.getD 1 []).take m)) ∧ Ext w8 wr ∧ ∀ q, G.toNat ≤ q → q < k → (L.getD 1 []).getD q 0 = 0) (fun v _ => 64 - (intOf v).toNat)
      case atStart => exact ⟨0, 0, 0, none, by omega, rfl, by simp, HROW9.out, ownS_nil _ _ _ _, HX9.out, fun q h1 h2 => absurd h2 (by omega)⟩
      case round =>
        obtain ⟨k2, m, c, ao, hk2, rfl, hm, hrow, hown, hX, htail⟩ := hrel
        have HX := Lib.hid hX
        have HOWN := Lib.hid hown
        have HTL := Lib.hid htail
        have HM := Lib.hid hm
        have HROW := Lib.hid hrow
        have HXE := Lib.hid (HX48.out.trans hX)
        have HRE := Lib.hid (HR8.out.ext hX)
        have gG := ((HG8.out.ext hX).cell? 2).trans rfl
        have hG64 : 1 ≤ G ∧ G ≤ 64 := HBD.out.2.2.2.1
        clear hX hown htail hm hrow
        by_cases hlt : k2 < 64
        · have hkL : k2 < (L.getD 1 []).length := by rw [HD.out.1]; exact hlt
          have hcell := (HX8.out.trans HX.out).keep (HC7.out k2 hkL)
          have hx : 0 ≤ (L.getD 1 [])[k2] ∧ (L.getD 1 [])[k2] < 256 := HD.out.2.2.2.2 _ (List.getElem_mem hkL)
          have HTS := Lib.hid (show (L.getD 1 []).take k2 ++ [(L.getD 1 [])[k2]] = (L.getD 1 []).take (k2 + 1) from by simp [List.take_add_one, List.getElem?_eq_getElem hkL])
          have HGD := Lib.hid (show (L.getD 1 []).getD k2 0 = (L.getD 1 [])[k2] by rw [List.getD_eq_getElem?_getD, List.getElem?_eq_getElem hkL]; rfl)
          have hk64 : (k2 : Int) < 64 := by omega
          generalize (L.getD 1 [])[k2] = x at *
          clear hkL
          by_cases hkG : (k2 : Int) < G
          · obtain rfl : m = k2 := by have := HM.out; omega
            have hconv : IntKind.i64.wrap x = x := IntWalk.i64_in _ (by omega)
            have hXA := (HX.out.alloc (.cells #[.int .i64 x] 3))
            have hownA := ownS_ext HOWN.out ((Ext.refl wr).alloc (.cells #[.int .i64 x] 3))
            have hslA : Sl (wr.alloc (.cells #[.int .i64 x] 3)) (some ⟨wr.heap.size, 0, none⟩) (ints .i64 [x]) := (Row.new wr 3 [.int .i64 x]).sl0
            have hlt14 := HROW.out.lt
            have hbs : g14 + 1 ≤ (wr.alloc (.cells #[.int .i64 x] 3)).heap.size := by simp; omega
            have hrowA := HROW.out.alloc (.cells #[.int .i64 x] 3)
            obtain ⟨a9, c9, w10, hap, ho10, hg10, _⟩ := run_append_s (P := Try.prog) (wr.alloc (.cells #[.int .i64 x] 3)) (g14 + 1) 1 (by decide) 25 25 3 _ 8 Try.underlying25 infoIC rfl hownA (a := some ⟨wr.heap.size, 0, none⟩) (m := 1) 1 (news := ints .i64 [x]) rfl hslA (fun e => by cases e) (ints_oneCell' _ _) (by omega) (by omega) hbs
            have hnb : ∀ z, Value.ownBlock (.slice ao m c) = some z → g14 + 1 ≤ z := fun z hz => by
              cases ao with
              | none => simp [Value.ownBlock] at hz
              | some a0 =>
                simp [Value.ownBlock] at hz
                subst hz
                exact (ownS_lt hownA a0 rfl).1
            have hX10 : Ext w8 w10 := Ext_grown hXA (Nat.le_refl _) hXA.size hg10 (fun z hz => by have := hnb z hz; have := HG14.out; omega)
            have hrow10 : Row w10 g14 29 [.slice a5 R.length c5, .slice ao m c, .slice a8 64 c8, .slice a6 (2 * (n - 3)) c6] := (hg10.block g14 hrowA.lt (fun e => by have := hnb g14 e.symm; omega)).trans hrowA
            have hrow11 := Row.set hrow10 1 (.slice a9 (m + 1) c9)
            have hX11 := Ext.setCell hX10 (p := ⟨g14, 1, none⟩) (by rw [HG14.out]; exact Nat.le_refl _) (.slice a9 (m + 1) c9)
            have hown11 := ownS_block (w' := w10.setCell ⟨g14, 1, none⟩ (.slice a9 (m + 1) c9)) ho10 (fun ad e => (By.set w10 g14 1 _).block _ (ownS_lt ho10 ad e).2 (fun e2 => by
              have h1 := (ownS_lt ho10 ad e).1
              have h2 : ad.block = g14 := by simpa using e2
              omega))
            rw [← ints_append, HTS.out] at hown11
            have HN := Lib.hid (And.intro hrow11 (And.intro hX11 hown11))
            have qcell := (hrow10.cell? 1).trans rfl
            have qfr := hrow10.frozen 1
            have q1 := (HROW.out.cell? 1).trans rfl
            clear hXA hownA hslA hlt14 hbs hrowA ho10 hg10 hnb hX10 hrow10 hrow11 hX11 hown11
            go_wp2_with (at_builtin; refine Guard.wpList_append_want _ rfl _ _ _ _ rfl _ _ rfl rfl _ _ hap ?_)
            go_roundw
            case rel => exact ⟨m + 1, m + 1, c9, a9, hlt, by go_num, by omega, HN.out.1, HN.out.2.2, HN.out.2.1, fun q h1 h2 => by omega⟩
            case measure => simp [intOf]; omega
          · by_cases hx0 : x = 0
            · have HZ := Lib.hid (show ∀ q, G.toNat ≤ q → q < k2 + 1 → (L.getD 1 []).getD q 0 = 0 from fun q h1 h2 => by
                by_cases hq : q < k2
                · exact HTL.out q h1 hq
                · rw [show q = k2 by omega, HGD.out]; exact hx0)
              have hne : (x != 0) = false := by simp [hx0]
              have hm2 : m = min (k2 + 1) G.toNat := by have := HM.out; omega
              have HM2 := Lib.hid hm2
              clear hx0 hm2
              go_wp2
              go_roundw
              case rel => exact ⟨k2 + 1, m, c, ao, hlt, by go_num, HM2.out, HROW.out, HOWN.out, HX.out, HZ.out⟩
              case measure => simp [intOf]; omega
            · have hne : (x != 0) = true := by simp [hx0]
              have HBAD := Lib.hid (takeM_no (J := J) (I := I) (G := G) (P := P) (L := L) (fun h => hx0 (by
                have := h.tail k2 (by omega) hlt
                rw [HGD.out] at this; exact this)))
              clear hx0
              go_wp2_with (refine wpList_store_row rfl _ _ _ rfl (w.heap.size + 1) #[.slice none 0 0, .slice none 0 0, .slice none 0 0, .slice none 0 0] rfl rfl 29 _ HRE.out infoMeta rfl (by simp [Value.oneCell']) ?_)
              refine post_meta rfl (by rfl) (by rfl) (HRE.out.setRow #[.slice none 0 0, .slice none 0 0, .slice none 0 0, .slice none 0 0]) rfl ?_
              rw [HBAD.out]
              exact ⟨nilP, rfl, nil_in _, HXE.out.setRow (Nat.le_succ _) _⟩
        · obtain rfl : k2 = 64 := by omega
          obtain ⟨M, hM⟩ : ∃ z, z = gotM G.toNat (2 * (L.length - 3)) L := ⟨_, rfl⟩
          have hm64 : m = G.toNat := by have := HM.out; omega
          have e1 : M.rows = R := by rw [hM]; show (rowsTake (L.getD 0 [])).1 = R; rw [HROWS.out]
          have e2 : M.owners = (L.getD 1 []).take m := by rw [hM, hm64]; rfl
          have e3 : M.used = L.getD 2 [] := by rw [hM]; rfl
          have e4 : M.inodes = inosN (L.drop 3) (2 * (n - 3)) := by rw [hM, ← HL.out.1]; rfl
          have l1 : M.rows.length = R.length := by rw [e1]
          have l2 : M.owners.length = m := by rw [e2, List.length_take, HD.out.1]; omega
          have l3 : M.used.length = 64 := by rw [e3, HE.out.1]
          have l4 : M.inodes.length = 2 * (n - 3) := by rw [e4, inosN_len]
          have hR16 : R.length ≤ 16 := by have := rowsTake_few (L.getD 0 []); rw [HROWS.out] at this; exact this
          have hX8r := HX.out
          have hgot : Got wr (w.heap.size + 2) ⟨a5, c5, ao, c, a8, c8, a6, c6⟩ M := by
            have hs5 := HX5.out.size; have hs6 := HX6.out.size; have hs7 := HX7.out.size; have hs8 := HX8.out.size; have hs4 := HS4.out; have h14 := HG14.out
            refine ⟨?_, ?_, ?_, ?_, ?_, ?_, ?_, ?_⟩
            · show wr.ownsRow _ _ 2 (.slice a5 M.rows.length c5) M.rows.length (rowsC M.rows)
              rw [e1]
              exact ownS_base (ownS_ext HO5.out (((HX6.out.trans HX7.out).trans HX8.out).trans HX.out)) hs4
            · show wr.ownsRow _ _ 1 (.slice ao M.owners.length c) M.owners.length (ints .i64 M.owners)
              rw [l2, e2]
              exact ownS_base HOWN.out (by omega)
            · show wr.ownsRow _ _ 1 (.slice a8 M.used.length c8) M.used.length (ints .u8 M.used)
              rw [l3, e3]
              exact ownS_base (ownS_ext HO8.out HX.out) (by omega)
            · show wr.ownsRow _ _ 14 (.slice a6 M.inodes.length c6) M.inodes.length (flat inoC M.inodes)
              rw [l4, e4]
              exact ownS_base (ownS_ext HO6.out ((HX7.out.trans HX8.out).trans HX.out)) (by omega)
            · rw [hM]; exact rowsTake_wf HC.out.2.2.2.2
            · rw [e3]; exact HE.out.2.2.2.2.1
            · rw [e4]; exact inosN_wf (fun xs hx => HL.out.bytes xs (List.mem_of_mem_drop hx)) _
            · omega
          have hright := Right_ok J I G P ⟨a5, c5, ao, c, a8, c8, a6, c6⟩ M wr hgot.in_
          have hv : metaV ⟨a5, c5, ao, c, a8, c8, a6, c6⟩ M = .agg #[.slice a5 R.length c5, .slice ao m c, .slice a8 64 c8, .slice a6 (2 * (n - 3)) c6] := by
            show Value.agg #[.slice a5 M.rows.length c5, .slice ao M.owners.length c, .slice a8 M.used.length c8, .slice a6 M.inodes.length c6] = _
            rw [l1, l2, l3, l4]
          rw [hv] at hright
          have HV := Lib.hid hv
          have HGOT := Lib.hid hgot
          have HMM := Lib.hid hM
          have q0 := (HROW.out.cell? 0).trans rfl
          have q1 := (HROW.out.cell? 1).trans rfl
          have q2 := (HROW.out.cell? 2).trans rfl
          have q3 := (HROW.out.cell? 3).trans rfl
          have HGr := Lib.hid (HG8.out.ext HX.out)
          have k0 := (HGr.out.cell? 0).trans rfl
          have k1 := (HGr.out.cell? 1).trans rfl
          have k2 := (HGr.out.cell? 2).trans rfl
          have k3 := (HGr.out.cell? 3).trans rfl
          clear hm64 e1 e2 e3 e4 l1 l2 l3 l4 hR16 hX8r hgot hv hM gG
          go_wp2_with fail
          refine hright.mono ?_
          rintro e w10 ⟨rfl, h10⟩
          have HR10 := Lib.hid (HRE.out.ext h10)
          have HX10 := Lib.hid (HXE.out.trans h10)
          have HROWT := Lib.hid (HROW.out.ext h10)
          have HGOT2 := Lib.hid (HGOT.out.ext h10)
          clear q0 q1 q2 q3 k0 k1 k2 k3 hright h10
          cases hra : rightM J I G P M
          · have HBAD := Lib.hid (takeM_no (J := J) (I := I) (G := G) (P := P) (L := L) (fun h => by
              have := h.all
              rw [← HMM.out, hra] at this
              cases this))
            clear hra
            go_wp2_with (refine wpList_store_row rfl _ _ _ rfl (w.heap.size + 1) #[.slice none 0 0, .slice none 0 0, .slice none 0 0, .slice none 0 0] rfl rfl 29 _ HR10.out infoMeta rfl (by simp [Value.oneCell']) ?_)
            refine post_meta rfl (by rfl) (by rfl) (HR10.out.setRow #[.slice none 0 0, .slice none 0 0, .slice none 0 0, .slice none 0 0]) rfl ?_
            rw [HBAD.out]
            exact ⟨nilP, rfl, nil_in _, HX10.out.setRow (Nat.le_succ _) _⟩
          · have HYES := Lib.hid (takeM_yes (J := J) (I := I) (G := G) (P := P) (L := L) ⟨HRT.out, by rw [HL.out.1]; exact HLEN.out, H64A.out, by rw [HROWS.out], fun m hm => HCOD.out m (by rw [← HL.out.1]; exact hm), HTL.out, by rw [← HMM.out]; exact hra⟩)
            clear hra
            have q0 := (HROWT.out.cell? 0).trans rfl
            have q1 := (HROWT.out.cell? 1).trans rfl
            have q2 := (HROWT.out.cell? 2).trans rfl
            have q3 := (HROWT.out.cell? 3).trans rfl
            go_wp2_with (refine wpList_store_row rfl _ _ _ rfl (w.heap.size + 1) #[.slice a5 R.length c5, .slice ao m c, .slice a8 64 c8, .slice a6 (2 * (n - 3)) c6] rfl rfl 29 _ HR10.out infoMeta rfl (by simp [Value.oneCell']) ?_)
            refine post_meta rfl (by rfl) (by rfl) (HR10.out.setRow #[.slice a5 R.length c5, .slice ao m c, .slice a8 64 c8, .slice a6 (2 * (n - 3)) c6]) rfl ?_
            rw [HYES.out, ← HMM.out]
            exact ⟨⟨a5, c5, ao, c, a8, c8, a6, c6⟩, by rw [HV.out]; rfl, (HGOT2.out.setRow (Nat.lt_succ_self _) _).in_, HX10.out.setRow (Nat.le_succ _) _⟩
end Go.Proofs.Ytnodinancnfoeaa.Mt
/- Rows: what was laid is taken, and what is taken is laid so (a cut copy of RwBack's head); inodes; all of a disk. -/
namespace Go.Proofs.Ytnodinancnfoeaa.Mt
open Go.RowKit Words Mem Plain Ops Agg OwnS Intern Ino
open Go.Proofs.Ytnodinancnfoeaa.Field
set_option linter.ambiguousOpen false
set_option linter.unusedVariables false
set_option linter.unusedSimpArgs false

theorem layed_takenL (s q : Nat) (xs : List Int) (hb : isBytes xs) (h : xs.length = s * q) : layed s (takenL s xs q) = xs := by
  have key : ∀ m, m ≤ q → layed s (takenL s xs m) = xs.take (s * m) := by
    intro m
    induction m with
    | zero => intro _; simp [takenL, layed]
    | succ m ih =>
      intro hm
      have hle : s * m + s ≤ s * q := by rw [← Nat.mul_succ]; exact Nat.mul_le_mul_left s hm
      rw [takenL_succ, layed_snoc, ih (by omega), Nat.mul_succ, List.take_add]
      congr 1
      have hl : ((xs.drop (s * m)).take s).length = s := by rw [List.length_take, List.length_drop]; omega
      have := bytesOf_numOf ((xs.drop (s * m)).take s) (isBytes_take (isBytes_drop hb _) _)
      rwa [hl] at this
  rw [key q (Nat.le_refl _), ← h, List.take_length]
theorem nums_rowsQ (xs : List Int) (k : Nat) : numsR (rowsQ xs k) = takenL 2 xs (2 * k) := by
  induction k with
  | zero => rfl
  | succ k ih =>
    rw [rowsQ_succ, numsR_snoc, ih, show 2 * (k + 1) = 2 * k + 1 + 1 by omega, takenL_succ, takenL_succ, List.append_assoc]
    rfl
theorem rowsQ_rg (xs : List Int) {n k : Nat} (h : k < n) : rg (rowsQ xs n) k = (numAt xs (2 * k), numAt xs (2 * k + 1)) := by
  unfold rg rowsQ
  simp [h]
theorem numsR_at : ∀ (L : List RowT) (k : Nat), k < L.length → (numsR L)[2 * k]? = some (rg L k).1 ∧ (numsR L)[2 * k + 1]? = some (rg L k).2
  | [], k, h => by simp at h
  | r :: L, 0, h => ⟨rfl, rfl⟩
  | r :: L, k + 1, h => by
    have := numsR_at L k (by simpa using h)
    have e : numsR (r :: L) = r.1 :: r.2 :: numsR L := rfl
    rw [e, show 2 * (k + 1) = 2 * k + 1 + 1 by omega]
    simpa [rg] using this
theorem rows_take_lay {X : List RowT} (hr : rightB X = true) (hw : wfR X) : rowsTake (layed 2 (numsR X)) = (X, 0) := by
  have hok := (right_iff X).1 hr
  have hl : (layed 2 (numsR X)).length = 64 := by rw [length_layed, numsR_length, hok.1]
  have hat : ∀ j (hj : j < (numsR X).length), numAt (layed 2 (numsR X)) j = (numsR X)[j] := fun j hj => by
    unfold numAt
    rw [drop_layed 2 _ j hj]
    have := numsR_bd hok hw _ (List.getElem_mem hj)
    exact numOf_bytesOf_of 2 _ this.1 (by have e : (256 : Int) ^ 2 = 65536 := by decide
                                          rw [e]; exact this.2)
  have hnl : (numsR X).length = 32 := by rw [numsR_length, hok.1]
  have hX : rowsQ (layed 2 (numsR X)) 16 = X := by
    apply rg_ext (by rw [rowsQ_length, hok.1])
    intro k hk
    rw [rowsQ_length] at hk
    rw [rowsQ_rg _ hk, hat _ (by omega), hat _ (by omega)]
    obtain ⟨h1, h2⟩ := numsR_at X k (by rw [hok.1]; exact hk)
    rw [List.getElem?_eq_getElem (by omega)] at h1 h2
    injection h1 with h1
    injection h2 with h2
    rw [h1, h2]
  rw [rowsTake_yes hl (by rw [hX]; exact hr), hX]
theorem rows_lay_take {xs : List Int} (hb : isBytes xs) (h : (rowsTake xs).2 = 0) : xs.length = 64 ∧ Intern.rightB (rowsTake xs).1 = true ∧ layed 2 (numsR (rowsTake xs).1) = xs := by
  by_cases hl : xs.length = 64
  · cases hr : Intern.rightB (rowsQ xs 16)
    · rw [rowsTake_no hr] at h; cases h
    · rw [rowsTake_yes hl hr]
      exact ⟨hl, hr, by rw [nums_rowsQ, layed_takenL 2 32 xs hb hl]⟩
  · rw [rowsTake_len hl] at h; cases h
theorem ino_lay_take {xs : List Int} (hb : isBytes xs) (h : (Ino.takeR xs).2 = 0) : (Ino.takeR xs).1.bytes = xs ∧ (Ino.takeR xs).1.rightB = true := by
  by_cases hp : Ino.takeP xs
  · rw [takeR_yes hp]; exact ⟨Ino.bytes_take hb hp, Ino.rightB_yes hp.2.1⟩
  · rw [takeR_no hp] at h; cases h
theorem chunk_pairs {q : Nat} {N : List Ino} (hN : N.length = 2 * q) {m : Nat} (hm : m < N.length) : chunk (pairsI N) m = N[m].bytes := by
  have hq : m / 2 < (pairsI N).length := by rw [pairsI_len q N hN]; omega
  unfold chunk
  rw [List.getD_eq_getElem?_getD, List.getElem?_eq_getElem hq]
  show (((pairsI N)[m / 2]).drop _).take 32 = _
  rw [pairsI_at (m / 2) N (by omega) hq]
  rcases Nat.mod_two_eq_zero_or_one m with h | h
  · have e : N[2 * (m / 2)]'(by omega) = N[m] := by congr 1; omega
    rw [h, e, Nat.mul_zero, List.drop_zero, List.take_left' (Ino.bytes_len _)]
  · have e : N[2 * (m / 2) + 1]'(by omega) = N[m] := by congr 1; omega
    rw [h, e, Nat.mul_one, List.drop_left' (Ino.bytes_len _), List.take_of_length_le (Nat.le_of_eq (Ino.bytes_len _))]
theorem inoAt_pairs {q : Nat} {N : List Ino} (hN : N.length = 2 * q) (hw : ∀ n ∈ N, n.wf) (hr : ∀ n ∈ N, n.rightB = true) {m : Nat} (hm : m < N.length) : inoAt (pairsI N) m = (N[m], 0) := by
  unfold inoAt
  rw [chunk_pairs hN hm]
  exact Ino.take_bytes (hw _ (List.getElem_mem hm)) (Ino.right_of (hr _ (List.getElem_mem hm)))
theorem inosN_pairs {q : Nat} {N : List Ino} (hN : N.length = 2 * q) (hw : ∀ n ∈ N, n.wf) (hr : ∀ n ∈ N, n.rightB = true) : inosN (pairsI N) (2 * q) = N := by
  refine List.ext_getElem (by rw [inosN_len, hN]) (fun i h1 h2 => ?_)
  have e : (inosN (pairsI N) (2 * q))[i] = (inoAt (pairsI N) i).1 := by simp [inosN]
  rw [e, inoAt_pairs hN hw hr h2]
theorem ownersB_len (M : MetaT) (h : M.owners.length ≤ 64) : (ownersB M).length = 64 := by unfold ownersB; simp; omega
theorem bytes_sect {J I G P : Int} {M : MetaT} (hr : rightM J I G P M = true) (hb : isBytes M.used) : ∀ xs ∈ sectM M, isBytes xs := by
  obtain ⟨h1, h2, h3, h4, h5, h6, h7, h8⟩ := rightM_out hr
  intro xs hx
  simp only [sectM, List.mem_cons] at hx
  rcases hx with rfl | rfl | rfl | hx
  · exact isBytes_layed _ _
  · intro x hx
    rcases List.mem_append.1 hx with hx | hx
    · have := h6 x hx; omega
    · obtain rfl := List.eq_of_mem_replicate hx; decide
  · exact hb
  · have key : ∀ (N : List Ino), xs ∈ pairsI N → isBytes xs := fun N => by
      induction N using pairsI.induct with
      | case1 a b L ih =>
        intro h
        rcases List.mem_cons.1 h with rfl | h
        · intro y hy
          rcases List.mem_append.1 hy with hy | hy
          · exact a.bytes_isBytes y hy
          · exact b.bytes_isBytes y hy
        · exact ih h
      | case2 L h0 =>
        intro h
        unfold pairsI at h
        split at h
        · exact absurd rfl (h0 _ _ _)
        · cases h
    exact key _ hx
theorem s64_sect {J I G P : Int} {M : MetaT} (hr : rightM J I G P M = true) : ∀ xs ∈ sectM M, xs.length = 64 := by
  obtain ⟨h1, h2, h3, h4, h5, h6, h7, h8⟩ := rightM_out hr
  have hbd := Super.right_bd h1
  intro xs hx
  simp only [sectM, List.mem_cons] at hx
  rcases hx with rfl | rfl | rfl | hx
  · rw [length_layed, numsR_length, ((right_iff M.rows).1 h2).1]
  · exact ownersB_len M (by omega)
  · exact h4
  · obtain ⟨i, hi, rfl⟩ := List.getElem_of_mem hx
    have hq := pairsI_len (M.inodes.length / 2) M.inodes (by omega)
    rw [pairsI_at i M.inodes (by omega) hi, List.length_append, Ino.bytes_len, Ino.bytes_len]
theorem take_sect {J I G P : Int} {M : MetaT} (hr : rightM J I G P M = true) (hw : wfR M.rows) (hwi : ∀ n ∈ M.inodes, n.wf) : takeM J I G P (sectM M) = (M, 0) := by
  obtain ⟨h1, h2, h3, h4, h5, h6, h7, h8⟩ := rightM_out hr
  have hbd := Super.right_bd h1
  obtain ⟨q, hq⟩ : ∃ q, M.inodes.length = 2 * q := ⟨M.inodes.length / 2, by omega⟩
  have hpl := pairsI_len q M.inodes hq
  have hl : (sectM M).length = 3 + q := by show (pairsI M.inodes).length + 1 + 1 + 1 = _; rw [hpl]; omega
  have hG : G.toNat = M.owners.length := by omega
  have hrt := rows_take_lay h2 hw
  have hgot : gotM G.toNat (2 * ((sectM M).length - 3)) (sectM M) = M := by
    unfold gotM
    rw [hl, show 3 + q - 3 = q by omega]
    show MetaT.mk (rowsTake (layed 2 (numsR M.rows))).1 ((ownersB M).take G.toNat) M.used (inosN (pairsI M.inodes) (2 * q)) = M
    rw [hrt, inosN_pairs hq hwi h7, hG]
    unfold ownersB
    rw [List.take_left' rfl]
  have hok : okT J I G P (sectM M) := ⟨h1, by rw [hl]; omega, s64_sect hr, by
    show (rowsTake (layed 2 (numsR M.rows))).2 = 0
    rw [hrt], fun m hm => by
    rw [hl] at hm
    show (inoAt (pairsI M.inodes) m).2 = 0
    rw [inoAt_pairs hq hwi h7 (by omega)], fun k h1 h2 => by
    show (ownersB M).getD k 0 = 0
    unfold ownersB
    rw [List.getD_eq_getElem?_getD, List.getElem?_append_right (by omega), List.getElem?_replicate]
    split <;> rfl, by rw [hgot]; exact hr⟩
  rw [takeM_yes hok, hgot]
theorem three {α : Type} (d : α) : ∀ (L : List α), 3 ≤ L.length → L = L.getD 0 d :: L.getD 1 d :: L.getD 2 d :: L.drop 3
  | a :: b :: c :: L, _ => rfl
theorem half2 {xs : List Int} (h : xs.length = 64) : (xs.drop (32 * 0)).take 32 ++ (xs.drop (32 * 1)).take 32 = xs := by
  rw [Nat.mul_zero, List.drop_zero, Nat.mul_one]
  rw [List.take_of_length_le (l := xs.drop 32) (by simp [h]), List.take_append_drop]
theorem pairs_inos {D : List (List Int)} (h64 : ∀ xs ∈ D, xs.length = 64) (hb : ∀ xs ∈ D, isBytes xs) (hok : ∀ m, m < 2 * D.length → (inoAt D m).2 = 0) : pairsI (inosN D (2 * D.length)) = D := by
  have hl := pairsI_len D.length (inosN D (2 * D.length)) (inosN_len _ _)
  refine List.ext_getElem hl (fun i h1 h2 => ?_)
  rw [pairsI_at i _ (by rw [inosN_len]; omega) h1]
  have e : ∀ j (hj : j < (inosN D (2 * D.length)).length), (inosN D (2 * D.length))[j].bytes = chunk D j := fun j hj => by
    rw [inosN_len] at hj
    have e : (inosN D (2 * D.length))[j]'(by rw [inosN_len]; exact hj) = (inoAt D j).1 := by simp [inosN]
    rw [e]
    exact (ino_lay_take (chunk_bytes hb j) (hok j hj)).1
  rw [e, e]
  unfold chunk
  rw [show 2 * i / 2 = i by omega, show (2 * i + 1) / 2 = i by omega, show 2 * i % 2 = 0 by omega, show (2 * i + 1) % 2 = 1 by omega]
  have e2 : D.getD i [] = D[i] := by simp [h2]
  rw [e2]
  exact half2 (h64 _ (List.getElem_mem h2))
theorem owners_back {xs : List Int} {g : Nat} (hl : xs.length = 64) (hg : g ≤ 64) (ht : ∀ k, g ≤ k → k < 64 → xs.getD k 0 = 0) : xs.take g ++ List.replicate (64 - (xs.take g).length) 0 = xs := by
  refine List.ext_getElem (by simp; omega) (fun i h1 h2 => ?_)
  rw [List.getElem_append]
  split
  · simp
  · rename_i hh
    rw [List.length_take] at hh
    have := ht i (by omega) (by omega)
    rw [List.getD_eq_getElem?_getD, List.getElem?_eq_getElem h2] at this
    rw [List.getElem_replicate]
    exact this.symm
/-- What must be right before the inodes and rows count. -/
structure preT (J I G P : Int) (L : List (List Int)) : Prop where
  right : Super.rightB J I G P = true
  len : (L.length : Int) = 3 + I / 2
  s64 : ∀ xs ∈ L, xs.length = 64
  rows : (rowsTake (L.getD 0 [])).2 = 0
  inos : ∀ m, m < 2 * (L.length - 3) → (inoAt (L.drop 3) m).2 = 0
theorem sect_got {J I G P : Int} {L : List (List Int)} (hb : ∀ xs ∈ L, isBytes xs) (h : preT J I G P L) (ht : ∀ k, G.toNat ≤ k → k < 64 → (L.getD 1 []).getD k 0 = 0) : sectM (gotM G.toNat (2 * (L.length - 3)) L) = L := by
  have hbd := Super.right_bd h.right
  have h3 := three [] L (by have := h.len; omega)
  have hm : ∀ i, i < L.length → L.getD i [] ∈ L := fun i hi => by rw [List.getD_eq_getElem?_getD, List.getElem?_eq_getElem hi]; exact List.getElem_mem hi
  have hm1 := hm 1 (by have := h.len; omega)
  have e0 := (rows_lay_take (hb _ (hm 0 (by have := h.len; omega))) h.rows).2.2
  have e1 := owners_back (h.s64 _ hm1) (by omega : G.toNat ≤ 64) ht
  have e3 : pairsI (inosN (L.drop 3) (2 * (L.length - 3))) = L.drop 3 := by
    have hld : (L.drop 3).length = L.length - 3 := by simp
    have := pairs_inos (D := L.drop 3) (fun xs hx => h.s64 xs (List.mem_of_mem_drop hx)) (fun xs hx => hb xs (List.mem_of_mem_drop hx)) (by rw [hld]; exact h.inos)
    rw [hld] at this
    exact this
  unfold sectM gotM ownersB
  dsimp only
  rw [e0, e1, e3]
  exact h3.symm
theorem okT.pre {J I G P : Int} {L : List (List Int)} (h : okT J I G P L) : preT J I G P L := ⟨h.right, h.len, h.s64, h.rows, h.inos⟩
theorem okT.sect {J I G P : Int} {L : List (List Int)} (hb : ∀ xs ∈ L, isBytes xs) (h : okT J I G P L) : sectM (gotM G.toNat (2 * (L.length - 3)) L) = L := sect_got hb h.pre h.tail
/-- What is taken: what is laid so. -/
theorem okT_iff {J I G P : Int} {L : List (List Int)} (hb : ∀ xs ∈ L, isBytes xs) (h : preT J I G P L) : okT J I G P L ↔ rightM J I G P (gotM G.toNat (2 * (L.length - 3)) L) = true ∧ sectM (gotM G.toNat (2 * (L.length - 3)) L) = L := by
  refine ⟨fun k => ⟨k.all, k.sect hb⟩, fun ⟨k1, k2⟩ => ⟨h.right, h.len, h.s64, h.rows, h.inos, fun k hk1 hk2 => ?_, k1⟩⟩
  obtain ⟨h1, h2, h3, h4, h5, h6, h7, h8⟩ := rightM_out k1
  have e : L.getD 1 [] = ownersB (gotM G.toNat (2 * (L.length - 3)) L) := by
    have := congrArg (fun z => z.getD 1 []) k2
    exact this.symm
  rw [e]
  unfold ownersB
  rw [List.getD_eq_getElem?_getD, List.getElem?_append_right (by omega), List.getElem?_replicate]
  split <;> rfl
theorem got_lay {J I G P : Int} {L : List (List Int)} (hb : ∀ xs ∈ L, isBytes xs) (h : okT J I G P L) : layM J I G P (gotM G.toNat (2 * (L.length - 3)) L) = (L, 0) := by
  unfold layM
  rw [if_pos h.all, h.sect hb]
end Go.Proofs.Ytnodinancnfoeaa.Mt
/- The reference's Right of a parting (cut from set 09). -/
namespace Go.Proofs.Ytnodinancnfoeaa.Super
open Go.RowKit Words Mem
set_option linter.unusedVariables false
set_option linter.unusedSimpArgs false

theorem rightB_no (J I G P : Int) (h : ¬ (3 ≤ J ∧ J ≤ 1000 ∧ 2 ≤ I ∧ I ≤ 64 ∧ I % 2 = 0 ∧ 1 ≤ G ∧ G ≤ 64 ∧ 1 ≤ P ∧ P ≤ 512 ∧ G * P ≤ 512)) : rightB J I G P = false := by
  cases e : rightB J I G P
  · rfl
  · obtain ⟨⟨j0, j1⟩, ⟨i0, i1⟩, i2, ⟨g0, g1⟩, p0, p1, gp0, gp1⟩ := right_bd e
    exact absurd ⟨j0, j1, i0, i1, i2, g0, g1, p0, p1, gp1⟩ h
theorem rightB_yes (J I G P : Int) (h : 3 ≤ J ∧ J ≤ 1000 ∧ 2 ≤ I ∧ I ≤ 64 ∧ I % 2 = 0 ∧ 1 ≤ G ∧ G ≤ 64 ∧ 1 ≤ P ∧ P ≤ 512 ∧ G * P ≤ 512) : rightB J I G P = true := by
  obtain ⟨j0, j1, i0, i1, i2, g0, g1, p0, p1, gp1⟩ := h
  simp only [rightB, inB, Bool.and_eq_true, decide_eq_true_eq, beq_iff_eq]
  refine ⟨⟨j0, j1⟩, ⟨i0, i1⟩, i2, ⟨g0, g1⟩, p0, ?_⟩
  rw [Int.le_ediv_iff_mul_le (by omega), Int.mul_comm]
  exact gp1

set_option maxHeartbeats 2000000 in
theorem rRight_ok (J I G P : Int) (w : World) : Calls Try.prog 24 #[geoV J I G P] w fun e w' => e = .returned (.bool (rightB J I G P)) ∧ Ext w w' := by
  by_cases hj0 : J < 3
  · rw [rightB_no J I G P (by omega)]
    go_enter Try.func24, Try.ntmps24
    go_wp2
    go_ret
    exact ⟨rfl, (Ext.refl _).alloc _⟩
  · skip
    by_cases hj1 : 1000 < J
    · rw [rightB_no J I G P (by omega)]
      go_enter Try.func24, Try.ntmps24
      go_wp2
      go_ret
      exact ⟨rfl, (Ext.refl _).alloc _⟩
    · skip
      by_cases hi0 : I < 2
      · rw [rightB_no J I G P (by omega)]
        go_enter Try.func24, Try.ntmps24
        go_wp2
        go_ret
        exact ⟨rfl, (Ext.refl _).alloc _⟩
      · skip
        by_cases hi1 : 64 < I
        · rw [rightB_no J I G P (by omega)]
          go_enter Try.func24, Try.ntmps24
          go_wp2
          go_ret
          exact ⟨rfl, (Ext.refl _).alloc _⟩
        · skip
          by_cases hi2 : ¬ I % 2 = 0
          · rw [rightB_no J I G P (by omega)]
            have hb : (I % 2 == 0) = false := by simp; omega
            go_enter Try.func24, Try.ntmps24
            go_wp2
            go_ret
            exact ⟨rfl, (Ext.refl _).alloc _⟩
          · skip
            by_cases hg0 : G < 1
            · rw [rightB_no J I G P (by omega)]
              have hb : (I % 2 == 0) = true := by simp; omega
              go_enter Try.func24, Try.ntmps24
              go_wp2
              go_ret
              exact ⟨rfl, (Ext.refl _).alloc _⟩
            · skip
              by_cases hg1 : 64 < G
              · rw [rightB_no J I G P (by omega)]
                have hb : (I % 2 == 0) = true := by simp; omega
                go_enter Try.func24, Try.ntmps24
                go_wp2
                go_ret
                exact ⟨rfl, (Ext.refl _).alloc _⟩
              · skip
                by_cases hp0 : P < 1
                · rw [rightB_no J I G P (by omega)]
                  have hb : (I % 2 == 0) = true := by simp; omega
                  go_enter Try.func24, Try.ntmps24
                  go_wp2
                  go_ret
                  exact ⟨rfl, (Ext.refl _).alloc _⟩
                · skip
                  by_cases hp1 : 512 < P
                  · rw [rightB_no J I G P (by omega)]
                    have hb : (I % 2 == 0) = true := by simp; omega
                    go_enter Try.func24, Try.ntmps24
                    go_wp2
                    go_ret
                    exact ⟨rfl, (Ext.refl _).alloc _⟩
                  · skip
                    by_cases hgp : 512 < G * P
                    · rw [rightB_no J I G P (by omega)]
                      have hb : (I % 2 == 0) = true := by simp; omega
                      have hm0 : G * P ≤ 64 * 512 := by have := Int.mul_le_mul (show G ≤ 64 by omega) (show P ≤ 512 by omega) (by omega) (by decide); omega
                      have hq : decide (G * P ≤ 512) = false := by simp; omega
                      go_enter Try.func24, Try.ntmps24
                      go_wp2
                      go_ret
                      exact ⟨rfl, (Ext.refl _).alloc _⟩
                    · skip
                      have hb : (I % 2 == 0) = true := by simp; omega
                      have hm0 : 1 ≤ G * P := by have := Int.mul_le_mul (show 1 ≤ G by omega) (show 1 ≤ P by omega) (by decide) (by omega); omega
                      have hq : decide (G * P ≤ 512) = true := by simp; omega
                      rw [rightB_yes J I G P (by omega)]
                      go_enter Try.func24, Try.ntmps24
                      go_wp2
                      go_ret
                      exact ⟨rfl, (Ext.refl _).alloc _⟩
end Go.Proofs.Ytnodinancnfoeaa.Super
