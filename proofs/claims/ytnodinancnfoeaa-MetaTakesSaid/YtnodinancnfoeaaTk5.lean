/- MtOwn; ITake; MtI; RwTake; RwM; RwTakeW -/
import Derived.Test.YtnodinancnfoeaaTk4
import Derived.Test.YtnodinancnfoeaaTk1
import Derived.BigQuiet
import Derived.Deep.QuietTactic
import Derived.Deep.RegionHeld3
import Derived.RegionTactic
import Derived.BigRegion
import Derived.Great.BuildSlice
import Derived.Test.YtnodinancnfoeaaTk0
import Derived.Deep.AppendLies
import Derived.Laws.CopyRow
import Derived.Laws.IdiomCopy
/- The walk of the law MetaOwn (printed by gen_own14.py). -/
namespace Go.Proofs.Ytnodinancnfoeaa.Mt
open Go.RowKit Words Mem Plain Ops Agg OwnS Intern Ino
set_option linter.ambiguousOpen false
set_option linter.unusedVariables false
set_option linter.unusedSimpArgs false

theorem layM_bytes {J I G P : Int} {M : MetaT} (hu : isBytes M.used) : ∀ xs ∈ (layM J I G P M).1, isBytes xs := by
  intro xs hx
  cases hr : rightM J I G P M
  · rw [show layM J I G P M = ([], 1) by unfold layM; rw [hr]; rfl] at hx
    cases hx
  · rw [show layM J I G P M = (sectM M, 0) by unfold layM; rw [if_pos hr]] at hx
    obtain ⟨_, r2, _, r4, _, r6, r7, _⟩ := rightM_out hr
    unfold sectM at hx
    simp only [List.mem_cons] at hx
    rcases hx with rfl | rfl | rfl | hx
    · exact Field.isBytes_layed _ _
    · intro x hx
      unfold ownersB at hx
      rcases List.mem_append.1 hx with hx | hx
      · have := r6 x hx; omega
      · obtain rfl := List.eq_of_mem_replicate hx; decide
    · exact hu
    · have : ∀ (L : List Ino), ∀ ys ∈ pairsI L, isBytes ys := by
        intro L
        induction L using pairsI.induct with
        | case1 a b L ih =>
          intro ys hy
          simp only [pairsI, List.mem_cons] at hy
          rcases hy with rfl | hy
          · exact isBytes_append.2 ⟨Ino.bytes_isBytes _, Ino.bytes_isBytes _⟩
          · exact ih ys hy
        | case2 L h =>
          intro ys hy
          match L, h with
          | [], _ => cases hy
          | [a], _ => cases hy
          | a :: b :: L, h => exact absurd rfl (h a b L)
      exact this _ xs hx
theorem pairsI_le : ∀ L : List Ino, (pairsI L).length ≤ L.length
  | [] => Nat.zero_le _
  | [a] => Nat.zero_le _
  | a :: b :: L => by
    have := pairsI_le L
    simp [pairsI]; omega
theorem lay_len {J I G P : Int} {M : MetaT} (h : M.inodes.length ≤ 1000) : (layM J I G P M).1.length ≤ 1003 := by
  have := pairsI_le M.inodes
  unfold layM
  split
  · simp [sectM]; omega
  · simp
set_option maxHeartbeats 16000000 in
set_option maxRecDepth 100000 in
theorem own_walk (J I G P : Int) (p : Pl) (M : MetaT) (w : World) (hin : M.small → MetaIn w p M) :
    Calls Try.prog 4 #[Super.geoV J I G P, metaV p M] w fun e w' => e = .returned (.bool true) ∧ Ext w w' := by
  obtain ⟨hbox, hbx⟩ := BoxAt.new w J I G P p M
  have hsh := shown_ok (boxW w J I G P p M)
  have hsb : (boxW w J I G P p M).heap.size = w.heap.size + 2 := by simp [boxW]
  have HBX := Lib.hid hbx
  have HBOX := Lib.hid hbox
  have HSB := Lib.hid hsb
  have HIN := Lib.hid hin
  clear hbox hbx hin hsb
  go_enter Try.func4, Try.ntmps4
  go_wp2_with fail
  refine hsh.mono ?_
  rintro e w1 ⟨rfl, h1⟩
  have HX1 := Lib.hid (HBX.out.trans h1)
  have HZ1 := Lib.hid (HSB.out ▸ h1.size)
  have HB1 := Lib.hid (HBOX.out.ext h1)
  obtain ⟨⟨g0, g1, g2, g3⟩, m0, m1, m2, m3⟩ := HB1.out
  clear h1 hsh HBOX HSB
  have hsm := small_ok p M w1
  obtain ⟨sb, hsb⟩ : ∃ q, q = decide (M.rows.length ≤ 100 ∧ M.owners.length ≤ 100 ∧ M.used.length ≤ 200 ∧ M.inodes.length ≤ 100) := ⟨_, rfl⟩
  rw [← hsb] at hsm
  have HSB := Lib.hid hsb
  clear hsb
  go_wp2_with fail
  refine hsm.mono ?_
  rintro e w2 ⟨rfl, h2⟩
  have HX2 := Lib.hid (HX1.out.trans h2)
  have HZ2 := Lib.hid (Nat.le_trans HZ1.out h2.size)
  have HB2 := Lib.hid (HB1.out.ext h2)
  clear h2 hsm g0 g1 g2 g3 m0 m1 m2 m3 HB1
  obtain ⟨⟨g0, g1, g2, g3⟩, m0, m1, m2, m3⟩ := HB2.out
  cases sb
  · go_wp2
    go_ret
    exact ⟨rfl, HX2.out⟩
  have hsmall : M.small := by simpa [MetaT.small] using HSB.out.symm
  have HM := Lib.hid (HIN.out hsmall)
  have hf := HM.out.few
  have hz := zeroMeta
  clear hsmall HIN HSB
  -- c
  have hcp := Copy_ok p M w2 (HM.out.ext HX2.out)
  go_wp2_with fail
  refine hcp.mono ?_
  rintro e w3 ⟨c, rfl, hc3, h3⟩
  have HC3 := Lib.hid hc3
  have HE3 := Lib.hid h3
  have hX3 := (Ext.refl w3).alloc (.cells #[.slice c.ra M.rows.length c.rc, .slice c.oa M.owners.length c.oc, .slice c.ua M.used.length c.uc, .slice c.ia M.inodes.length c.ic] 29)
  have HBC := Lib.hid (BoxM.new w3 c M)
  have HX3 := Lib.hid (HX2.out.trans (h3.trans hX3))
  have HB3 := Lib.hid (HB2.out.ext (h3.trans hX3))
  have HZ3 := Lib.hid (show (w3.alloc (.cells #[.slice c.ra M.rows.length c.rc, .slice c.oa M.owners.length c.oc, .slice c.ua M.used.length c.uc, .slice c.ia M.inodes.length c.ic] 29)).heap.size = w3.heap.size + 1 by simp)
  obtain ⟨bc, hbc⟩ : ∃ q, q = w3.heap.size := ⟨_, rfl⟩
  have HBCE := Lib.hid hbc
  have HXC := Lib.hid hX3
  clear hc3 h3 hX3 hcp g0 g1 g2 g3 m0 m1 m2 m3
  obtain ⟨⟨g0, g1, g2, g3⟩, m0, m1, m2, m3⟩ := HB3.out
  have hcp := Copy_ok p M _ (HM.out.ext HX3.out)
  go_wp2_with fail
  generalize hw4 : w3.alloc (.cells #[.slice c.ra M.rows.length c.rc, .slice c.oa M.owners.length c.oc, .slice c.ua M.used.length c.uc, .slice c.ia M.inodes.length c.ic] 29) = w4 at *
  clear hw4
  rw [← hbc] at HBC ⊢
  clear hbc
  refine hcp.mono ?_
  rintro e w5 ⟨d, rfl, hd5, h5⟩
  have HD5 := Lib.hid hd5
  have hX5 := (Ext.refl w5).alloc (.cells #[.slice d.ra M.rows.length d.rc, .slice d.oa M.owners.length d.oc, .slice d.ua M.used.length d.uc, .slice d.ia M.inodes.length d.ic] 29)
  have HBD := Lib.hid (BoxM.new w5 d M)
  have HE5 := Lib.hid h5
  have HX5 := Lib.hid (HX3.out.trans (h5.trans hX5))
  have HB5 := Lib.hid (HB3.out.ext (h5.trans hX5))
  have HBC5 := Lib.hid (HBC.out.ext (h5.trans hX5))
  have HXD := Lib.hid hX5
  have HZ5 := Lib.hid (show (w5.alloc (.cells #[.slice d.ra M.rows.length d.rc, .slice d.oa M.owners.length d.oc, .slice d.ua M.used.length d.uc, .slice d.ia M.inodes.length d.ic] 29)).heap.size = w5.heap.size + 1 by simp)
  obtain ⟨bd, hbd⟩ : ∃ q, q = w5.heap.size := ⟨_, rfl⟩
  have HBDE := Lib.hid hbd
  have hsame := Same_yes c p M _ ((HC3.out.ext (HXC.out.trans (h5.trans hX5))).in_) (HM.out.ext HX5.out)
  clear hd5 h5 hX5 hcp g0 g1 g2 g3 m0 m1 m2 m3
  obtain ⟨⟨g0, g1, g2, g3⟩, m0, m1, m2, m3⟩ := HB5.out
  obtain ⟨q0, q1, q2, q3⟩ := HBC5.out
  go_wp2_with fail
  generalize hw6 : w5.alloc (.cells #[.slice d.ra M.rows.length d.rc, .slice d.oa M.owners.length d.oc, .slice d.ua M.used.length d.uc, .slice d.ia M.inodes.length d.ic] 29) = w6 at *
  clear hw6
  rw [← hbd] at HBD ⊢
  clear hbd
  refine hsame.mono ?_
  rintro e w7 ⟨rfl, h7⟩
  have HX7 := Lib.hid (HX5.out.trans h7)
  have HB7 := Lib.hid (HB5.out.ext h7)
  have HX67 := Lib.hid h7
  clear hsame h7 g0 g1 g2 g3 m0 m1 m2 m3 q0 q1 q2 q3
  obtain ⟨⟨g0, g1, g2, g3⟩, m0, m1, m2, m3⟩ := HB7.out
  have hlay := Lay_ok J I G P p M w7 (HM.out.ext HX7.out)
  have HLB := Lib.hid (layM_bytes (J := J) (I := I) (G := G) (P := P) HM.out.bu)
  have HLAY := Lib.hid (fun (v : World) (e : Ext w v) => Lay_ok J I G P p M v (HM.out.ext e))
  have hll := Lib.hid (show (layM J I G P M).1.length ≤ 1003 from lay_len (by have := HM.out.few; omega))
  generalize layM J I G P M = LM at *
  obtain ⟨L, code⟩ := LM
  dsimp only at *
  obtain ⟨nl, hnl⟩ : ∃ q, q = L.length := ⟨_, rfl⟩
  rw [← hnl] at hlay HLAY hll
  clear hnl
  have hl1000 := hll.out
  go_wp2_with fail
  refine hlay.mono ?_
  rintro e w8 ⟨al, cl, rfl, hS8, h8⟩
  have HS8 := Lib.hid hS8
  have HX8 := Lib.hid (HX7.out.trans h8)
  have HE8 := Lib.hid h8
  have HB8 := Lib.hid (HB7.out.ext h8)
  have hlay := HLAY.out w8 HX8.out
  clear hS8 h8 g0 g1 g2 g3 m0 m1 m2 m3
  obtain ⟨⟨g0, g1, g2, g3⟩, m0, m1, m2, m3⟩ := HB8.out
  go_wp2_with fail
  refine hlay.mono ?_
  rintro e w9 ⟨ak, ck, rfl, hS9, h9⟩
  have HS9 := Lib.hid hS9
  have HX9 := Lib.hid (HX8.out.trans h9)
  have HE9 := Lib.hid h9
  have HB9 := Lib.hid (HB8.out.ext h9)
  clear hlay hS9 h9 g0 g1 g2 g3 m0 m1 m2 m3
  -- who may turn
  obtain ⟨F, hF⟩ : ∃ F : Nat → Prop, F = fun q => (w7.heap.size ≤ q ∧ q < w8.heap.size) ∨ (w2.heap.size ≤ q ∧ q < w3.heap.size) := ⟨_, rfl⟩
  have HF := Lib.hid (show ∀ q, F q ↔ ((w7.heap.size ≤ q ∧ q < w8.heap.size) ∨ (w2.heap.size ≤ q ∧ q < w3.heap.size)) from fun q => by rw [hF])
  clear hF
  obtain ⟨F1, hF1⟩ : ∃ F : Nat → Prop, F = fun q => (w7.heap.size ≤ q ∧ q < w8.heap.size) := ⟨_, rfl⟩
  have HF1 := Lib.hid (show ∀ q, F1 q ↔ (w7.heap.size ≤ q ∧ q < w8.heap.size) from fun q => by rw [hF1])
  clear hF1
  have HSZ := Lib.hid (show w.heap.size + 2 ≤ w2.heap.size ∧ w2.heap.size ≤ w3.heap.size ∧ w4.heap.size = w3.heap.size + 1 ∧ w4.heap.size ≤ w5.heap.size ∧ w6.heap.size = w5.heap.size + 1 ∧ w6.heap.size ≤ w7.heap.size ∧ w7.heap.size ≤ w8.heap.size ∧ w8.heap.size ≤ w9.heap.size from ⟨HZ2.out, HE3.out.size, HZ3.out, HE5.out.size, HZ5.out, HX67.out.size, HE8.out.size, HE9.out.size⟩)
  have HBC9 := Lib.hid (HBC5.out.ext (HX67.out.trans (HE8.out.trans HE9.out)))
  have HWL := Lib.hid (HS8.out.wl.ext HE9.out)
  have HCW := Lib.hid (HC3.out.cw.ext (HXC.out.trans (HE5.out.trans (HXD.out.trans (HX67.out.trans (HE8.out.trans HE9.out))))))
  clear HZ2 HZ3 HZ5
  go_wp2_with fail
  go_loopw [47] (fun v wr => ∃ k : Nat, k ≤ nl ∧ v = .int .i64 k ∧ WL wr w7.heap.size w8.heap.size al nl ∧ Chg F1 w9 wr) (fun v _ => nl - (intOf v).toNat)
  case atStart => exact ⟨0, by omega, rfl, HWL.out, Chg.refl _ _⟩
  case round =>
    obtain ⟨k, hk, rfl, hwl, hchg⟩ := hrel
    have HWK := Lib.hid hwl
    have HCK := Lib.hid hchg
    clear hwl hchg
    by_cases hlt : k < nl
    · obtain ⟨ao, b, c', hal, hco, hbo, hHU⟩ := HWK.out k hlt
      have HUB := Lib.hid hHU
      have hkn : (k : Int) < nl := by omega
      have hk0 : (0 : Int) ≤ k := by omega
      have HAL := Lib.hid hal
      rw [hal]
      go_wp2
      go_loopw [55] (fun v wi => ∃ j : Nat, j ≤ 64 ∧ v = .int .i64 j ∧ WL wi w7.heap.size w8.heap.size al nl ∧ Chg F1 w9 wi ∧ wi.cell? ⟨ao, k, none⟩ = some (.slice (some ⟨b, 0, none⟩) 64 c') ∧ HU wi w7.heap.size w8.heap.size (some ⟨b, 0, none⟩) 64) (fun v _ => 64 - (intOf v).toNat)
      case atStart => exact ⟨0, by omega, rfl, HWK.out, HCK.out, hco, HUB.out⟩
      case round =>
        obtain ⟨j, hj, rfl, hwl, hchg, hco2, hHU2⟩ := hrel
        have HWJ := Lib.hid hwl
        have HCJ := Lib.hid hchg
        have HUJ := Lib.hid hHU2
        clear hwl hchg hHU2 hHU hco
        by_cases hlj : j < 64
        · obtain ⟨b', M', hb', hbd, hrow, hM⟩ := HUJ.out
          cases hb'
          obtain ⟨y, hy⟩ := hM j hlj
          have hcell := (hrow.cell? j).trans hy
          have hfz := hrow.frozen j
          have hjn : (j : Int) < 64 := by omega
          have hj0 : (0 : Int) ≤ j := by omega
          have HFB := Lib.hid ((HF1.out b).2 hbd)
          have HNE := Lib.hid (show ∀ ao', al = some ⟨ao', 0, none⟩ → b ≠ ao' from fun ao' e => by rw [HAL.out] at e; cases e; exact hbo)
          have HCO := Lib.hid hco2
          have HBO := Lib.hid hbo
          have hlb := World.block_lt_of_cell? wr _ hco2
          have HKC := Lib.hid (show ∀ z : Value, (wr.setCell ⟨b, j, none⟩ z).cell? ⟨ao, k, none⟩ = some (.slice (some ⟨b, 0, none⟩) 64 c') from fun z => by
            rw [World.cell?_of_block (w := wr) ((By.set wr b j z).block ao hlb (by simpa using hbo.symm))]
            exact hco2)
          clear hM hy hlb hrow
          go_wp2
          go_roundw
          case rel => exact ⟨j + 1, hlj, by go_num, HWJ.out.set HNE.out j _, HCJ.out.set HFB.out j _, HKC.out _, HUJ.out.set b j _⟩
          case measure => simp [intOf]; omega
        · obtain rfl : j = 64 := by omega
          clear hco2
          go_wp2
          go_roundw
          case rel => exact ⟨k + 1, hlt, by go_num, by rw [← HAL.out]; exact HWJ.out, HCJ.out⟩
          case measure => simp [intOf]; omega
    · obtain rfl : k = nl := by omega
      clear hk hlt
      have HCW1 := Lib.hid (show CW wr w2.heap.size w3.heap.size c M from HCW.out.chg (fun q h1 h2 => HCK.out.block q (by have := HSZ.out; omega) (fun hf => by have := (HF1.out q).1 hf; have := HSZ.out; omega)))
      have HCK := Lib.hid (HCK.out.mono (fun q hq => (HF.out q).2 (.inl ((HF1.out q).1 hq))))
      have hbcq := fun (v : World) (h : Chg F w9 v) => (show BoxM v bc c M from by
        obtain ⟨x0, x1, x2, x3⟩ := HBC9.out
        have hn : ¬ F bc := fun hf => by have := (HF.out bc).1 hf; have := HSZ.out; have := HBCE.out; omega
        exact ⟨h.cell x0 hn, h.cell x1 hn, h.cell x2 hn, h.cell x3 hn⟩)
      have HBQ := Lib.hid hbcq
      clear hbcq
      obtain ⟨q0, q1, q2, q3⟩ := HBQ.out _ HCK.out
      go_wp2
      go_loopw [72] (fun v w1' => ∃ i : Nat, i ≤ M.rows.length ∧ v = .int .i64 i ∧ CW w1' w2.heap.size w3.heap.size c M ∧ Chg F w9 w1') (fun v _ => M.rows.length - (intOf v).toNat)
      case atStart => exact ⟨0, by omega, rfl, HCW1.out, HCK.out⟩
      case round =>
        obtain ⟨i, hi, rfl, hcw, hchg⟩ := hrel
        have HCWi := Lib.hid hcw
        have HCi := Lib.hid hchg
        clear hcw hchg q0 q1 q2 q3
        obtain ⟨q0, q1, q2, q3⟩ := HBQ.out _ HCi.out
        by_cases hlt : i < M.rows.length
        · obtain ⟨b, M', hra, hbd, hrow, hlen⟩ := HCWi.out.rows (by omega)
          obtain ⟨cc, hcell⟩ : ∃ v, wr.cell? ⟨b, i * 2 + 1, none⟩ = some v := ⟨_, hrow.cell (by omega)⟩
          have hfz := hrow.frozen (i * 2 + 1)
          have hin : (i : Int) < (M.rows.length : Int) := by omega
          have hi0 : (0 : Int) ≤ i := by omega
          have HFB := Lib.hid ((HF.out b).2 (.inr hbd))
          have HRW := Lib.hid hrow
          rw [hra] at q0
          have hra2 := Lib.hid hra
          clear hra hrow q1 q2 q3 hlen
          go_wp2
          go_roundw
          case rel => exact ⟨i + 1, hlt, by go_num, HCWi.out.far HRW.out (by decide) _ _, HCi.out.set HFB.out _ _⟩
          case measure => simp [intOf]; omega
        · obtain rfl : i = M.rows.length := by omega
          go_wp2
          go_loopw [84] (fun v w1' => ∃ i : Nat, i ≤ M.owners.length ∧ v = .int .i64 i ∧ CW w1' w2.heap.size w3.heap.size c M ∧ Chg F w9 w1') (fun v _ => M.owners.length - (intOf v).toNat)
          case atStart => exact ⟨0, by omega, rfl, HCWi.out, HCi.out⟩
          case round =>
            obtain ⟨i, hi, rfl, hcw, hchg⟩ := hrel
            have HCWi := Lib.hid hcw
            have HCi := Lib.hid hchg
            clear hcw hchg q0 q1 q2 q3
            obtain ⟨q0, q1, q2, q3⟩ := HBQ.out _ HCi.out
            by_cases hlt : i < M.owners.length
            · obtain ⟨b, M', hra, hbd, hrow, hlen⟩ := HCWi.out.owners (by omega)
              obtain ⟨cc, hcell⟩ : ∃ v, wr.cell? ⟨b, i, none⟩ = some v := ⟨_, hrow.cell (by omega)⟩
              have hfz := hrow.frozen i
              have hin : (i : Int) < (M.owners.length : Int) := by omega
              have hi0 : (0 : Int) ≤ i := by omega
              have HFB := Lib.hid ((HF.out b).2 (.inr hbd))
              have HRW := Lib.hid hrow
              rw [hra] at q1
              clear hra hrow q0 q2 q3 hlen
              go_wp2
              go_roundw
              case rel => exact ⟨i + 1, hlt, by go_num, HCWi.out.far HRW.out (by decide) _ _, HCi.out.set HFB.out _ _⟩
              case measure => simp [intOf]; omega
            · obtain rfl : i = M.owners.length := by omega
              go_wp2
              go_loopw [95] (fun v w1' => ∃ i : Nat, i ≤ M.used.length ∧ v = .int .i64 i ∧ CW w1' w2.heap.size w3.heap.size c M ∧ Chg F w9 w1') (fun v _ => M.used.length - (intOf v).toNat)
              case atStart => exact ⟨0, by omega, rfl, HCWi.out, HCi.out⟩
              case round =>
                obtain ⟨i, hi, rfl, hcw, hchg⟩ := hrel
                have HCWi := Lib.hid hcw
                have HCi := Lib.hid hchg
                clear hcw hchg q0 q1 q2 q3
                obtain ⟨q0, q1, q2, q3⟩ := HBQ.out _ HCi.out
                by_cases hlt : i < M.used.length
                · obtain ⟨b, M', hra, hbd, hrow, hM⟩ := HCWi.out.used (by omega)
                  obtain ⟨y, hy⟩ := hM i hlt
                  have hcell := (hrow.cell? i).trans hy
                  have hfz := hrow.frozen i
                  have hin : (i : Int) < (M.used.length : Int) := by omega
                  have hi0 : (0 : Int) ≤ i := by omega
                  have HFB := Lib.hid ((HF.out b).2 (.inr hbd))
                  rw [hra] at q2
                  clear hra hrow q0 q1 q3 hM hy
                  go_wp2
                  go_roundw
                  case rel => exact ⟨i + 1, hlt, by go_num, HCWi.out.set8 _ _ _, HCi.out.set HFB.out _ _⟩
                  case measure => simp [intOf]; omega
                · obtain rfl : i = M.used.length := by omega
                  go_wp2
                  go_loopw [109] (fun v w1' => ∃ i : Nat, i ≤ M.inodes.length ∧ v = .int .i64 i ∧ CW w1' w2.heap.size w3.heap.size c M ∧ Chg F w9 w1') (fun v _ => M.inodes.length - (intOf v).toNat)
                  case atStart => exact ⟨0, by omega, rfl, HCWi.out, HCi.out⟩
                  case round =>
                    obtain ⟨i, hi, rfl, hcw, hchg⟩ := hrel
                    have HCWi := Lib.hid hcw
                    have HCi := Lib.hid hchg
                    clear hcw hchg q0 q1 q2 q3
                    obtain ⟨q0, q1, q2, q3⟩ := HBQ.out _ HCi.out
                    by_cases hlt : i < M.inodes.length
                    · obtain ⟨b, M', hra, hbd, hrow, hlen⟩ := HCWi.out.inodes (by omega)
                      obtain ⟨cc, hcell⟩ : ∃ v, wr.cell? ⟨b, i * 14 + 3, none⟩ = some v := ⟨_, hrow.cell (by omega)⟩
                      have hfz := hrow.frozen (i * 14 + 3)
                      have hin : (i : Int) < (M.inodes.length : Int) := by omega
                      have hi0 : (0 : Int) ≤ i := by omega
                      have HFB := Lib.hid ((HF.out b).2 (.inr hbd))
                      have HRW := Lib.hid hrow
                      rw [hra] at q3
                      clear hra hrow q0 q1 q2 hlen
                      go_wp2
                      go_roundw
                      case rel => exact ⟨i + 1, hlt, by go_num, HCWi.out.far HRW.out (by decide) _ _, HCi.out.set HFB.out _ _⟩
                      case measure => simp [intOf]; omega
                    · obtain rfl : i = M.inodes.length := by omega
                      clear q0 q1 q2 q3
                      have HXE := Lib.hid (Chg.ext HX9.out HCi.out (fun q hq => by have := (HF.out q).1 hq; have := HSZ.out; omega))
                      have HBE := Lib.hid (show BoxAt wr w.heap.size (w.heap.size + 1) J I G P p M from by
                        obtain ⟨⟨x0, x1, x2, x3⟩, y0, y1, y2, y3⟩ := HB9.out
                        have n0 : ¬ F w.heap.size := fun hf => by have := (HF.out _).1 hf; have := HSZ.out; omega
                        have n1 : ¬ F (w.heap.size + 1) := fun hf => by have := (HF.out _).1 hf; have := HSZ.out; omega
                        have hc := HCi.out
                        exact ⟨⟨hc.cell x0 n0, hc.cell x1 n0, hc.cell x2 n0, hc.cell x3 n0⟩, hc.cell y0 n1, hc.cell y1 n1, hc.cell y2 n1, hc.cell y3 n1⟩)
                      have HBDE2 := Lib.hid (show BoxM wr bd d M from by
                        obtain ⟨x0, x1, x2, x3⟩ := HBD.out.ext (HX67.out.trans (HE8.out.trans HE9.out))
                        have n0 : ¬ F bd := fun hf => by have := (HF.out _).1 hf; have := HSZ.out; have := HBDE.out; omega
                        have hc := HCi.out
                        exact ⟨hc.cell x0 n0, hc.cell x1 n0, hc.cell x2 n0, hc.cell x3 n0⟩)
                      have HDE := Lib.hid (show MetaAt wr w4.heap.size d M from HD5.out.via (fun q h1 h2 => by
                        have e1 := (HXD.out.trans (HX67.out.trans (HE8.out.trans HE9.out))).block q h2
                        have e2 := HCi.out.block q (by have := HSZ.out; omega) (fun hf => by have := (HF.out q).1 hf; have := HSZ.out; omega)
                        exact e2.trans e1))
                      have HKE := Lib.hid (show LsIn wr ak _ L from (HS9.out.via (fun q h1 h2 => HCi.out.block q h2 (fun hf => by have := (HF.out q).1 hf; have := HSZ.out; omega))).ls HLB.out)
                      obtain ⟨⟨g0, g1, g2, g3⟩, m0, m1, m2, m3⟩ := HBE.out
                      have hlay := HLAY.out wr HXE.out
                      go_wp2_with fail
                      refine hlay.mono ?_
                      rintro e v1 ⟨aa, ca, rfl, hSa, hxa⟩
                      have HSA := Lib.hid (hSa.ls HLB.out)
                      have HXA := Lib.hid (HXE.out.trans hxa)
                      have HMA := Lib.hid (show MetaIn v1 d M from (HDE.out.ext hxa).in_)
                      have HKA := Lib.hid (HKE.out.ext hxa)
                      obtain ⟨d0, d1, d2, d3⟩ := HBDE2.out.ext hxa
                      clear hlay hSa g0 g1 g2 g3 m0 m1 m2 m3
                      obtain ⟨⟨g0, g1, g2, g3⟩, m0, m1, m2, m3⟩ := HBE.out.ext hxa
                      have hsame := Same_yes d p M v1 HMA.out (HM.out.ext HXA.out)
                      have hq1 : (code == code) = true := by simp
                      clear hxa
                      go_wp2_with fail
                      refine hsame.mono ?_
                      rintro e v2 ⟨rfl, hx2⟩
                      have hss := SameS_ok aa _ ca L ak _ ck L v2 (HSA.out.ext hx2) (HKA.out.ext hx2) (by omega)
                      rw [show sameLs L L = true by simp [sameLs]] at hss
                      have HX2' := Lib.hid (HXA.out.trans hx2)
                      clear hsame hx2
                      go_wp2_with fail
                      refine hss.mono ?_
                      rintro e v3 ⟨rfl, hx3⟩
                      have HX3' := Lib.hid (HX2'.out.trans hx3)
                      clear hss hx3
                      go_wp2
                      go_ret
                      exact ⟨rfl, HX3'.out⟩
end Go.Proofs.Ytnodinancnfoeaa.Mt
/- Contracts: slices.ContainsFunc of what is not 0, inode.Take, moatref11.Take. -/
namespace Go.Proofs.Ytnodinancnfoeaa.Ino
open Go.RowKit Words Mem Plain Ops
open Go.Proofs.Ytnodinancnfoeaa.Field Agg
set_option linter.ambiguousOpen false
set_option linter.unusedVariables false
set_option linter.unusedSimpArgs false

theorem nz_ok (x : Int) (w : World) : Calls Try.prog 63 #[.int .u64 x] w fun e w' => e = .returned (.bool (x != 0)) ∧ w = w' := by
  go_enter Try.func63, Try.ntmps63
  go_wp2
  go_ret
  exact ⟨rfl, rfl⟩

/-- Is any of them not 0? -/
def anyNz (l : List Int) : Bool := l.any (· != 0)
/-- Where the first one is that is not 0; -1: nowhere. -/
def idxNz : List Int → Int
  | [] => -1
  | x :: l => if x != 0 then 0 else if idxNz l < 0 then -1 else idxNz l + 1
theorem idxNz_ge (l : List Int) : -1 ≤ idxNz l := by
  induction l with
  | nil => simp [idxNz]
  | cons x l ih => simp only [idxNz]; split <;> (try split) <;> omega
theorem idxNz_iff (l : List Int) : decide (0 ≤ idxNz l) = anyNz l := by
  induction l with
  | nil => rfl
  | cons x l ih =>
    simp only [idxNz, anyNz, List.any_cons]
    by_cases h : (x != 0) = true
    · simp [h]
    · have hf : (x != 0) = false := by simpa using h
      simp only [hf, Bool.false_or, Bool.false_eq_true, if_false]
      unfold anyNz at ih
      rw [← ih, Bool.eq_iff_iff, decide_eq_true_iff, decide_eq_true_iff]
      split <;> omega
theorem idx_before {l : List Int} {k : Nat} (hk : k ≤ l.length) (h : anyNz (l.take k) = false) : idxNz l = if idxNz (l.drop k) < 0 then -1 else k + idxNz (l.drop k) := by
  induction k generalizing l with
  | zero => simp only [List.drop_zero]; have := idxNz_ge l; split <;> omega
  | succ k ih =>
    cases l with
    | nil => simp at hk
    | cons x l =>
      simp only [List.take_succ_cons, anyNz, List.any_cons, Bool.or_eq_false_iff] at h
      have h2 := ih (l := l) (by simpa using hk) h.2
      simp only [idxNz, h.1, List.drop_succ_cons, Bool.false_eq_true, if_false]
      rw [h2]
      have := idxNz_ge (l.drop k)
      split <;> (try split) <;> omega

theorem anyNz_snoc (l : List Int) (x : Int) : anyNz (l ++ [x]) = (anyNz l || x != 0) := by simp [anyNz]
theorem idx_at {l : List Int} {k : Nat} {x : Int} (hx : l[k]? = some x) (h : anyNz (l.take k) = false) (hn : (x != 0) = true) : idxNz l = k := by
  obtain ⟨h1, h2⟩ := List.getElem?_eq_some_iff.1 hx
  have := idx_before (l := l) (k := k) (by omega) h
  rw [this, List.drop_eq_getElem_cons h1, h2]
  simp [idxNz, hn]
theorem idx_none {l : List Int} (h : anyNz l = false) : idxNz l = -1 := by
  have h1 := idxNz_iff l
  rw [h] at h1
  have := idxNz_ge l
  simp at h1
  omega

set_option maxHeartbeats 400000 in
theorem IndexNz (a : Option Addr) (n cap : Nat) (l : List Int) (w : World) (hl : l.length = n) (hn : n ≤ 1000000) (hs : Sl w a (ints .u64 l)) :
    Calls Try.prog 64 #[.slice a n cap, .func (.func 63) #[] #[]] w fun e w' => e = .returned (.int .i64 (idxNz l)) ∧ w = w' := by
  have HS := Lib.hid hs; have HL := Lib.hid hl
  clear hs hl
  go_enter Try.func64, Try.ntmps64
  go_wp2_with fail
  go_loop [8] (fun v => ∃ (k : Nat), k ≤ n ∧ v = .int .i64 k ∧ Hid (anyNz (l.take k) = false)) (fun v => n - (intOf v).toNat)
  case atStart => exact ⟨0, by omega, rfl, rfl⟩
  case round =>
    obtain ⟨k, hk, rfl, hno⟩ := hrel
    by_cases hlt : k < n
    · have hlk : k < l.length := by rw [HL.out]; exact hlt
      obtain ⟨bb, oo, rfl, hc⟩ := HS.out.ints (by omega)
      have hcell := hc k hlk
      have hts : Hid (l.take (k + 1) = l.take k ++ [l[k]]) := List.take_succ_eq_append_getElem hlk
      have hget : Hid (l[k]? = some l[k]) := List.getElem?_eq_getElem hlk
      generalize l[k] = x at *
      clear hlk hc
      cases hp : (x != 0)
      · have HP := Lib.hid hp
        clear hp
        go_wp2_with fail
        refine (nz_ok x _).mono ?_
        rintro e w' ⟨rfl, rfl⟩
        rw [HP.out]
        go_wp2_with fail
        go_round
        case rel => exact ⟨k + 1, hlt, by go_num, by show anyNz _ = false; rw [hts.out, anyNz_snoc, hno.out, HP.out]; rfl⟩
        case measure => simp [intOf]; omega
      · have HI := Lib.hid (idx_at hget.out hno.out hp)
        have HP := Lib.hid hp
        clear hp
        go_wp2_with fail
        refine (nz_ok x _).mono ?_
        rintro e w' ⟨rfl, rfl⟩
        rw [HP.out]
        go_wp2_with fail
        go_ret
        exact ⟨by rw [HI.out]; rfl, rfl⟩
    · have : k = n := by omega
      subst this
      have hno' : Hid (anyNz l = false) := by have := hno.out; rw [List.take_of_length_le (by rw [HL.out]; exact Nat.le_refl _)] at this; exact this
      clear hno
      go_wp2_with fail
      go_ret
      exact ⟨by rw [idx_none hno'.out]; rfl, rfl⟩
theorem ContainsNz (a : Option Addr) (n cap : Nat) (l : List Int) (w : World) (hl : l.length = n) (hn : n ≤ 1000000) (hs : Sl w a (ints .u64 l)) :
    Calls Try.prog 62 #[.slice a n cap, .func (.func 63) #[] #[]] w fun e w' => e = .returned (.bool (anyNz l)) ∧ w = w' := by
  rw [← idxNz_iff l]
  go_enter Try.func62, Try.ntmps62
  go_wp2_with fail
  refine (IndexNz a n cap l w hl hn hs).mono ?_
  rintro e w' ⟨rfl, rfl⟩
  go_wp2_with fail
  go_ret
  exact ⟨rfl, rfl⟩

/-- An inode and a code, in new memory. -/
def GaveI (w : World) (r : Ino × Int) (e : Ending) (w' : World) : Prop := e = .returned (.tuple #[r.1.v, .int .i64 r.2]) ∧ Ext w w'
theorem takeR_no {xs : List Int} (h : ¬ Ino.takeP xs) : Ino.takeR xs = (Ino.zero, 110) := by unfold Ino.takeR; rw [if_neg h]
theorem takeR_yes {xs : List Int} (h : Ino.takeP xs) : Ino.takeR xs = (Ino.ofNums (takenL 2 xs 16), 0) := by unfold Ino.takeR; rw [if_pos h]

theorem infoIno : (Try.prog.info? 48).map (·.size) = some 14 := by kernel_rfl
theorem oneZZ : (#[.int .u8 0, .int .u8 0, .int .i64 0, .int .i64 0, .int .i64 0, .int .i64 0, .int .i64 0, .int .i64 0, .int .i64 0, .int .i64 0, .int .i64 0, .int .i64 0, .int .i64 0, .int .i64 0] : Array Value).all (·.oneCell') = true := by simp [Value.oneCell']
theorem oneIno (k r l s d0 d1 d2 d3 d4 d5 d6 d7 i j : Int) : (#[.int .u8 k, .int .u8 r, .int .i64 l, .int .i64 s, .int .i64 d0, .int .i64 d1, .int .i64 d2, .int .i64 d3, .int .i64 d4, .int .i64 d5, .int .i64 d6, .int .i64 d7, .int .i64 i, .int .i64 j] : Array Value).all (·.oneCell') = true := by simp [Value.oneCell']
theorem Take_len (a : Option Addr) (n cap : Nat) (xs : List Int) (w : World) (hl : xs.length = n) (hn : n ≤ 9223372036854775807) (hb : isBytes xs) (hs : Sl w a (ints .u8 xs)) (hcap : n ≤ cap) (hcm : cap ≤ 9223372036854775807) (h : n ≠ 32) :
    Calls Try.prog 57 #[.slice a n cap] w (GaveI w (Ino.takeR xs)) := by
  rw [takeR_no (fun e => h (by rw [← hl]; exact e.1))]
  have hd : ((n : Int) == 32) = false := by simp; omega
  have hd' : ((n : Int) != 32) = true := by simp; omega
  go_enter Try.func57, Try.ntmps57
  go_wp2_with fail
  refine (Take_gave a n cap xs _ 2 hl hn hb (hs.ext ((Ext.refl w).alloc _)) hcap hcm).mono ?_
  rintro e w2 ⟨a4, c4, rfl, ho4, hX2⟩
  have X2 := ((Ext.refl w).alloc _).trans hX2
  have hrow : Row w2 w.heap.size 48 (#[.int .u8 0, .int .u8 0, .int .i64 0, .int .i64 0, .int .i64 0, .int .i64 0, .int .i64 0, .int .i64 0, .int .i64 0, .int .i64 0, .int .i64 0, .int .i64 0, .int .i64 0, .int .i64 0] : Array Value).toList := (Row.new w 48 (#[.int .u8 0, .int .u8 0, .int .i64 0, .int .i64 0, .int .i64 0, .int .i64 0, .int .i64 0, .int .i64 0, .int .i64 0, .int .i64 0, .int .i64 0, .int .i64 0, .int .i64 0, .int .i64 0] : Array Value).toList).ext hX2
  generalize Field.takeR 2 xs = R at *
  clear hX2 ho4
  have HX := Lib.hid X2; have HR := Lib.hid hrow
  clear X2 hrow
  by_cases h0 : R.2 = 0
  · have h0' : (R.2 != 0) = false := by simp [h0]
    clear h0
    go_wp2_with (refine wpList_store_row rfl _ _ _ rfl w.heap.size #[.int .u8 0, .int .u8 0, .int .i64 0, .int .i64 0, .int .i64 0, .int .i64 0, .int .i64 0, .int .i64 0, .int .i64 0, .int .i64 0, .int .i64 0, .int .i64 0, .int .i64 0, .int .i64 0] rfl rfl 48 #[.int .u8 0, .int .u8 0, .int .i64 0, .int .i64 0, .int .i64 0, .int .i64 0, .int .i64 0, .int .i64 0, .int .i64 0, .int .i64 0, .int .i64 0, .int .i64 0, .int .i64 0, .int .i64 0] HR.out infoIno rfl oneZZ ?_)
    have hrow := HR.out.setRow #[.int .u8 0, .int .u8 0, .int .i64 0, .int .i64 0, .int .i64 0, .int .i64 0, .int .i64 0, .int .i64 0, .int .i64 0, .int .i64 0, .int .i64 0, .int .i64 0, .int .i64 0, .int .i64 0]
    have X3 := HX.out.setRow (Nat.le_refl _) #[.int .u8 0, .int .u8 0, .int .i64 0, .int .i64 0, .int .i64 0, .int .i64 0, .int .i64 0, .int .i64 0, .int .i64 0, .int .i64 0, .int .i64 0, .int .i64 0, .int .i64 0, .int .i64 0]
    exact post_cell Try.results57 rfl rfl hrow Try.underlying48 rfl infoIno rfl ⟨rfl, X3⟩
  · have h0' : (R.2 != 0) = true := by simp [h0]
    clear h0
    go_wp2_with (refine wpList_store_row rfl _ _ _ rfl w.heap.size #[.int .u8 0, .int .u8 0, .int .i64 0, .int .i64 0, .int .i64 0, .int .i64 0, .int .i64 0, .int .i64 0, .int .i64 0, .int .i64 0, .int .i64 0, .int .i64 0, .int .i64 0, .int .i64 0] rfl rfl 48 #[.int .u8 0, .int .u8 0, .int .i64 0, .int .i64 0, .int .i64 0, .int .i64 0, .int .i64 0, .int .i64 0, .int .i64 0, .int .i64 0, .int .i64 0, .int .i64 0, .int .i64 0, .int .i64 0] HR.out infoIno rfl oneZZ ?_)
    have hrow := HR.out.setRow #[.int .u8 0, .int .u8 0, .int .i64 0, .int .i64 0, .int .i64 0, .int .i64 0, .int .i64 0, .int .i64 0, .int .i64 0, .int .i64 0, .int .i64 0, .int .i64 0, .int .i64 0, .int .i64 0]
    have X3 := HX.out.setRow (Nat.le_refl _) #[.int .u8 0, .int .u8 0, .int .i64 0, .int .i64 0, .int .i64 0, .int .i64 0, .int .i64 0, .int .i64 0, .int .i64 0, .int .i64 0, .int .i64 0, .int .i64 0, .int .i64 0, .int .i64 0]
    exact post_cell Try.results57 rfl rfl hrow Try.underlying48 rfl infoIno rfl ⟨rfl, X3⟩

/-- The cells of an inode, its direct pointers as a list. -/
def inoL (k r l s : Int) (D : List Int) (i j : Int) : List Value := [.int .u8 k, .int .u8 r, .int .i64 l, .int .i64 s] ++ ints .i64 D ++ [.int .i64 i, .int .i64 j]
theorem inoL_len (k r l s : Int) (D : List Int) (i j : Int) (h : D.length = 8) : (inoL k r l s D i j).length = 14 := by simp [inoL, ints_length, h]
theorem inoL_set (k r l s : Int) (A B : List Int) (y x i j : Int) (m : Nat) (hm : A.length = m) : (inoL k r l s (A ++ y :: B) i j).set (4 + m) (.int .i64 x) = inoL k r l s (A ++ x :: B) i j := by
  subst hm
  rw [Nat.add_comm]
  simp [inoL, ints, List.set_append]
theorem inoL_step (k r l s : Int) (M : List Int) (x i j : Int) (m : Nat) (hm : m < 8) (h8 : M.length = 8) (hx : M[m]? = some x) :
    (inoL k r l s (M.take m ++ List.replicate (8 - m) 0) i j).set (4 + m) (.int .i64 x) = inoL k r l s (M.take (m + 1) ++ List.replicate (8 - (m + 1)) 0) i j := by
  rw [show 8 - m = (8 - (m + 1)) + 1 by omega, List.replicate_succ, inoL_set _ _ _ _ _ _ _ _ _ _ m (by rw [List.length_take]; omega)]
  obtain ⟨h1, h2⟩ := List.getElem?_eq_some_iff.1 hx
  rw [List.take_succ_eq_append_getElem h1, h2]
  simp
theorem inoL_12 (k r l s : Int) (D : List Int) (i j x : Int) (h : D.length = 8) : (inoL k r l s D i j).set 12 (.int .i64 x) = inoL k r l s D x j := by
  have hl : ([.int .u8 k, .int .u8 r, .int .i64 l, .int .i64 s] ++ ints .i64 D : List Value).length = 12 := by simp [ints_length, h]
  unfold inoL
  rw [List.set_append_right _ _ (by omega), hl]
  rfl
theorem inoL_13 (k r l s : Int) (D : List Int) (i j x : Int) (h : D.length = 8) : (inoL k r l s D i j).set 13 (.int .i64 x) = inoL k r l s D i x := by
  have hl : ([.int .u8 k, .int .u8 r, .int .i64 l, .int .i64 s] ++ ints .i64 D : List Value).length = 12 := by simp [ints_length, h]
  unfold inoL
  rw [List.set_append_right _ _ (by omega), hl]
  rfl
theorem inoL_ofNums (N : List Int) (h : N.length = 16) : inoL (N.getD 0 0 % 256) (N.getD 0 0 / 256) (N.getD 1 0) (N.getD 2 0) ((N.drop 3).take 8) (N.getD 11 0) (N.getD 12 0) = (Ino.ofNums N).cs.toList := by
  rw [sixteen N h]
  rfl
theorem getD_of {N : List Int} {i : Nat} {x : Int} (h : N[i]? = some x) : x = N.getD i 0 := by simp [List.getD, h]
/-- The cells of a block that holds an inode. -/
theorem Ino.rowCells {w : World} {g : Nat} {n : Ino} (h : Row w g 48 n.cs.toList) : w.cell? ⟨g, 0, none⟩ = some (.int .u8 n.k) ∧ w.cell? ⟨g, 1, none⟩ = some (.int .u8 n.r) ∧ w.cell? ⟨g, 2, none⟩ = some (.int .i64 n.l) ∧ w.cell? ⟨g, 3, none⟩ = some (.int .i64 n.s) ∧ w.cell? ⟨g, 4, none⟩ = some (.int .i64 n.d0) ∧ w.cell? ⟨g, 5, none⟩ = some (.int .i64 n.d1) ∧ w.cell? ⟨g, 6, none⟩ = some (.int .i64 n.d2) ∧ w.cell? ⟨g, 7, none⟩ = some (.int .i64 n.d3) ∧ w.cell? ⟨g, 8, none⟩ = some (.int .i64 n.d4) ∧ w.cell? ⟨g, 9, none⟩ = some (.int .i64 n.d5) ∧ w.cell? ⟨g, 10, none⟩ = some (.int .i64 n.d6) ∧ w.cell? ⟨g, 11, none⟩ = some (.int .i64 n.d7) ∧ w.cell? ⟨g, 12, none⟩ = some (.int .i64 n.i) ∧ w.cell? ⟨g, 13, none⟩ = some (.int .i64 n.j) := by
  refine ⟨(h.cell? 0).trans rfl, (h.cell? 1).trans rfl, (h.cell? 2).trans rfl, (h.cell? 3).trans rfl, (h.cell? 4).trans rfl, (h.cell? 5).trans rfl, (h.cell? 6).trans rfl, (h.cell? 7).trans rfl, (h.cell? 8).trans rfl, (h.cell? 9).trans rfl, (h.cell? 10).trans rfl, (h.cell? 11).trans rfl, (h.cell? 12).trans rfl, (h.cell? 13).trans rfl⟩
theorem anyNz_false {l : List Int} (h : anyNz l = false) : ∀ x ∈ l, x = 0 := by
  intro x hx
  simp only [anyNz, List.any_eq_false] at h
  simpa using h x hx
theorem anyNz_true {l : List Int} (h : anyNz l = true) : ¬ ∀ x ∈ l, x = 0 := by
  intro hh
  simp only [anyNz, List.any_eq_true] at h
  obtain ⟨x, hx, hn⟩ := h
  rw [hh x hx] at hn
  simp at hn

set_option maxHeartbeats 2000000 in
theorem Take_32 (a : Option Addr) (cap : Nat) (xs : List Int) (w : World) (hl : xs.length = 32) (hb : isBytes xs) (hs : Sl w a (ints .u8 xs)) (hcap : 32 ≤ cap) (hcm : cap ≤ 9223372036854775807) :
    Calls Try.prog 57 #[.slice a 32 cap] w (GaveI w (Ino.takeR xs)) := by
  have htr : Field.takeR 2 xs = (takenL 2 xs 16, 0) := by unfold Field.takeR; rw [hl, if_neg (by decide), if_neg (by decide)]; rfl
  have hlN := length_takenL 2 xs 16
  have hbd := takenL_bd 2 xs 16 hb (by decide)
  rw [p2] at hbd
  have k0 : ∀ v, Ext w v → Calls Try.prog 44 #[.int .i64 2, .slice a 32 cap] v (Gave .u64 76 v (takenL 2 xs 16, 0)) := fun v hv => by
    have := Take_gave a 32 cap xs v 2 hl (by decide) hb (hs.ext hv) hcap hcm
    rw [htr] at this; exact this
  have hno := fun (h : ¬ Ino.takeP xs) => takeR_no h
  have hyes := fun (h : Ino.takeP xs) => takeR_yes h
  have hP : Ino.takeP xs ↔ ((Ino.ofNums (takenL 2 xs 16)).RightP ∧ (∀ x ∈ (takenL 2 xs 16).drop 13, x = 0)) := ⟨fun h => h.2, fun h => ⟨hl, h⟩⟩
  generalize takenL 2 xs 16 = N at *
  generalize Ino.takeR xs = R at *
  have H0 := Lib.hid hno; have HYES := Lib.hid hyes; have HLN := Lib.hid hlN; have HBD := Lib.hid hbd; have HK := Lib.hid k0; have HP := Lib.hid hP
  clear hno hyes hlN hbd hb htr hl k0 hP hs
  go_enter Try.func57, Try.ntmps57
  go_wp2_with fail
  refine (HK.out _ ((Ext.refl w).alloc _)).mono ?_
  rintro e w2 ⟨a4, c4, rfl, ho4, hX2⟩
  dsimp only at ho4 ⊢
  rw [HLN.out] at ho4 ⊢
  have k4 := own_cap ho4
  obtain ⟨b, off, rfl, hc⟩ := (ownsRow_sl ho4).ints (by rw [HLN.out]; decide)
  have HC := Lib.hid hc
  have X2 := ((Ext.refl w).alloc _).trans hX2
  obtain ⟨N0, e0⟩ : ∃ x, N[0]? = some x := ⟨N[0]'(by rw [HLN.out]; decide), by simp [HLN.out]⟩
  obtain ⟨N1, e1⟩ : ∃ x, N[1]? = some x := ⟨N[1]'(by rw [HLN.out]; decide), by simp [HLN.out]⟩
  obtain ⟨N2, e2⟩ : ∃ x, N[2]? = some x := ⟨N[2]'(by rw [HLN.out]; decide), by simp [HLN.out]⟩
  have c0 : w2.cell? ⟨b, off, none⟩ = some (.int .u64 N0) := by have := hc 0 (by rw [HLN.out]; decide); rw [List.getElem?_eq_getElem (by rw [HLN.out]; decide)] at e0; cases e0; simpa using this
  have c1 : w2.cell? ⟨b, off + 1, none⟩ = some (.int .u64 N1) := by have := hc 1 (by rw [HLN.out]; decide); rw [List.getElem?_eq_getElem (by rw [HLN.out]; decide)] at e1; cases e1; simpa using this
  have c2 : w2.cell? ⟨b, off + 2, none⟩ = some (.int .u64 N2) := by have := hc 2 (by rw [HLN.out]; decide); rw [List.getElem?_eq_getElem (by rw [HLN.out]; decide)] at e2; cases e2; simpa using this
  obtain ⟨n00, n01⟩ := HBD.out N0 (List.mem_of_getElem? e0)
  obtain ⟨n10, n11⟩ := HBD.out N1 (List.mem_of_getElem? e1)
  obtain ⟨n20, n21⟩ := HBD.out N2 (List.mem_of_getElem? e2)
  have E0 := Lib.hid e0; have E1 := Lib.hid e1; have E2 := Lib.hid e2
  have HX2 := Lib.hid hX2; have HX := Lib.hid X2
  clear hc ho4 e0 e1 e2 hX2 X2
  go_wp2_with fail
  obtain ⟨kk, hkk⟩ : ∃ k, k = N0 % 256 := ⟨_, rfl⟩
  obtain ⟨rr, hrr⟩ : ∃ k, k = N0 / 256 := ⟨_, rfl⟩
  have kw : IntKind.u8.wrap N0 = kk := by rw [IntKind.wrap_u8, hkk]
  have rw0 : IntKind.u8.wrap rr = rr := by rw [IntKind.wrap_u8, Int.emod_eq_of_lt (by omega) (by omega)]
  have nw1 : IntKind.i64.wrap N1 = N1 := IntWalk.i64_in _ (by omega)
  have nw2 : IntKind.i64.wrap N2 = N2 := IntWalk.i64_in _ (by omega)
  have hrr' := hrr.symm
  have HKK := Lib.hid hkk; have HRR := Lib.hid hrr
  clear hkk hrr
  go_region_held3 (fun v => v.cell? ⟨b, off, none⟩ = some (.int .u64 N0) ∧ v.cell? ⟨b, off + 1, none⟩ = some (.int .u64 N1) ∧ v.cell? ⟨b, off + 2, none⟩ = some (.int .u64 N2)) (go_keep) (fail)
  have hslc : ∀ v : World, (Instr.slice 73 (.slice (some ⟨b, off, none⟩) 16 c4) (some (.int .i64 3)) none none).run Try.prog v = .ok (.slice (some ⟨b, off + 3, none⟩) 13 (c4 - 3)) v := fun v => by
    have := run_slice_from (P := Try.prog) v _ _ Try.underlying73 (by kernel_rfl) (some ⟨b, off, none⟩) 16 c4 3 .i64 3 rfl (by decide)
    rw [this]; unfold cutA; rw [if_neg (by omega)]; rfl
  rename_i hHeld
  clear hHeld
  have r0 : Row (w2.alloc (.cells #[.int .u8 kk, .int .u8 rr, .int .i64 N1, .int .i64 N2, .int .i64 0, .int .i64 0, .int .i64 0, .int .i64 0, .int .i64 0, .int .i64 0, .int .i64 0, .int .i64 0, .int .i64 0, .int .i64 0] 48)).drew w2.heap.size 48 (inoL kk rr N1 N2 ([] ++ List.replicate 8 0) 0 0) := (Row.new w2 48 [.int .u8 kk, .int .u8 rr, .int .i64 N1, .int .i64 N2, .int .i64 0, .int .i64 0, .int .i64 0, .int .i64 0, .int .i64 0, .int .i64 0, .int .i64 0, .int .i64 0, .int .i64 0, .int .i64 0]).drew
  have X0 : Ext w2 (w2.alloc (.cells #[.int .u8 kk, .int .u8 rr, .int .i64 N1, .int .i64 N2, .int .i64 0, .int .i64 0, .int .i64 0, .int .i64 0, .int .i64 0, .int .i64 0, .int .i64 0, .int .i64 0, .int .i64 0, .int .i64 0] 48)).drew := ((Ext.refl w2).alloc _).drew
  have hbw : b < w2.heap.size := World.block_lt_of_cell? w2 _ c0
  generalize (w2.alloc (.cells #[.int .u8 kk, .int .u8 rr, .int .i64 N1, .int .i64 N2, .int .i64 0, .int .i64 0, .int .i64 0, .int .i64 0, .int .i64 0, .int .i64 0, .int .i64 0, .int .i64 0, .int .i64 0, .int .i64 0] 48)).drew = w4 at *
  obtain ⟨M, hM⟩ : ∃ M, M = (N.drop 3).take 8 := ⟨_, rfl⟩
  have hM8 : M.length = 8 := by rw [hM, List.length_take, List.length_drop, HLN.out]; decide
  have hMget : ∀ k, k < 8 → M[k]? = N[3 + k]? := fun k hk => by rw [hM, List.getElem?_take, if_pos hk, List.getElem?_drop]
  have HM := Lib.hid hM; have HM8 := Lib.hid hM8; have HMG := Lib.hid hMget
  clear hM hM8 hMget kw rw0 nw1 nw2 hrr' c0 c1 c2 n00 n01
  go_wp2_with fail
  clear hslc
  obtain ⟨g, hg⟩ : ∃ g, g = w2.heap.size := ⟨_, rfl⟩
  rw [← hg] at r0 hbw ⊢
  have HG := Lib.hid hg
  clear hg
  go_loopw [8, 42] (fun _ v wr => ∃ k : Nat, k ≤ 8 ∧ v = .int .i64 k ∧ Row wr g 48 (inoL kk rr N1 N2 (M.take k ++ List.replicate (8 - k) 0) 0 0) ∧ Ext w2 wr) (fun _ v _ => 8 - (intOf v).toNat)
  case atStart => exact ⟨0, by omega, rfl, r0, X0⟩
  case round =>
    obtain ⟨k, hk, rfl, hr, hX⟩ := hrel
    by_cases hlt : k < 8
    · obtain ⟨x, hx⟩ : ∃ x, M[k]? = some x := ⟨M[k]'(by rw [HM8.out]; exact hlt), List.getElem?_eq_getElem (by rw [HM8.out]; exact hlt)⟩
      have hx2 : N[3 + k]? = some x := by rw [← HMG.out k hlt]; exact hx
      obtain ⟨x0, x1⟩ := HBD.out x (List.mem_of_getElem? hx2)
      have hcell : wr.cell? ⟨b, off + 3 + k, none⟩ = some (.int .u64 x) := by
        have h3 := HC.out (3 + k) (by rw [HLN.out]; omega)
        rw [List.getElem?_eq_getElem (by rw [HLN.out]; omega)] at hx2
        injection hx2 with hx3
        rw [hx3] at h3
        exact hX.keep (by rw [Nat.add_assoc]; exact h3)
      have hcg := hr.cell? (4 + k)
      have hfg := hr.frozen (4 + k)
      have hst := hr.set (4 + k) (.int .i64 x)
      have hmid := inoL_step kk rr N1 N2 M x 0 0 k hlt HM8.out hx
      rw [hmid] at hst
      obtain ⟨old, hold⟩ : ∃ old, wr.cell? ⟨g, 4 + k, none⟩ = some old := by
        rw [hcg]
        exact ⟨_, List.getElem?_eq_getElem (by rw [inoL_len _ _ _ _ _ _ _ (by rw [List.length_append, List.length_take, List.length_replicate, HM8.out]; omega)]; omega)⟩
      have hXn := hX.setCell (p := ⟨g, 4 + k, none⟩) (by rw [HG.out]; exact Nat.le_refl _) (.int .i64 x)
      have HST := Lib.hid hst; have HXN := Lib.hid hXn
      clear hmid hcg hst hXn hr hX hx hx2
      go_wp2_with fail
      go_roundw
      case rel => exact ⟨k + 1, hlt, by go_num, HST.out, HXN.out⟩
      case measure => simp [intOf]; omega
    · have : k = 8 := by omega
      subst this
      rw [Nat.sub_self, List.take_of_length_le (by rw [HM8.out]; exact Nat.le_refl _)] at hr
      rw [List.replicate_zero, List.append_nil] at hr
      obtain ⟨N11, e11⟩ : ∃ x, N[11]? = some x := ⟨N[11]'(by rw [HLN.out]; decide), by simp [HLN.out]⟩
      obtain ⟨N12, e12⟩ : ∃ x, N[12]? = some x := ⟨N[12]'(by rw [HLN.out]; decide), by simp [HLN.out]⟩
      have c11 : wr.cell? ⟨b, off + 3 + 8, none⟩ = some (.int .u64 N11) := by have h3 := HC.out 11 (by rw [HLN.out]; decide); rw [List.getElem?_eq_getElem (by rw [HLN.out]; decide)] at e11; injection e11 with h4; rw [h4] at h3; exact hX.keep h3
      have c12 : wr.cell? ⟨b, off + 3 + 9, none⟩ = some (.int .u64 N12) := by have h3 := HC.out 12 (by rw [HLN.out]; decide); rw [List.getElem?_eq_getElem (by rw [HLN.out]; decide)] at e12; injection e12 with h4; rw [h4] at h3; exact hX.keep h3
      have c11' : wr.cell? ⟨b, off + 11, none⟩ = some (.int .u64 N11) := c11
      have c12' : wr.cell? ⟨b, off + 12, none⟩ = some (.int .u64 N12) := c12
      obtain ⟨n110, n111⟩ := HBD.out N11 (List.mem_of_getElem? e11)
      obtain ⟨n120, n121⟩ := HBD.out N12 (List.mem_of_getElem? e12)
      have E11 := Lib.hid e11; have E12 := Lib.hid e12
      have nw11 : IntKind.i64.wrap N11 = N11 := IntWalk.i64_in _ (by omega)
      have nw12 : IntKind.i64.wrap N12 = N12 := IntWalk.i64_in _ (by omega)
      have g12 : wr.cell? ⟨g, 12, none⟩ = some (.int .i64 0) := by rw [hr.cell?]; simp [inoL, ints_length, List.getElem?_append, HM8.out]
      have g13 : wr.cell? ⟨g, 13, none⟩ = some (.int .i64 0) := by rw [hr.cell?]; simp [inoL, ints_length, List.getElem?_append, HM8.out]
      have f12 := hr.frozen 12
      have f13 := hr.frozen 13
      have hne : ¬ (g = b) := by omega
      have hne' : ¬ (b = g) := by omega
      have hr2 := (hr.set 12 (.int .i64 N11)).set 13 (.int .i64 N12)
      rw [inoL_12 _ _ _ _ _ _ _ _ HM8.out, inoL_13 _ _ _ _ _ _ _ _ HM8.out] at hr2
      have X2' := ((hX.setCell (p := ⟨g, 12, none⟩) (by rw [HG.out]; exact Nat.le_refl _) (.int .i64 N11)).setCell (p := ⟨g, 13, none⟩) (by rw [HG.out]; exact Nat.le_refl _) (.int .i64 N12))
      have HR2 := Lib.hid hr2.drew; have HX3 := Lib.hid X2'.drew
      clear hr hX hr2 X2' r0 X0 e11 e12
      go_wp2_with fail
      go_region
      generalize ((wr.setCell ⟨g, 12, none⟩ (.int .i64 N11)).setCell ⟨g, 13, none⟩ (.int .i64 N12)).drew = w5 at *
      have hI : inoL kk rr N1 N2 M N11 N12 = (Ino.ofNums N).cs.toList := by
        rw [← inoL_ofNums N HLN.out, HKK.out, HRR.out, HM.out, getD_of E0.out, getD_of E1.out, getD_of E2.out, getD_of E11.out, getD_of E12.out]
      rw [hI] at HR2
      have hT : Sl w5 (some ⟨b, off + 13, none⟩) (ints .u64 (N.drop 13)) := Sl.mk fun q hq => by
        rw [ints_length, List.length_drop, HLN.out] at hq
        have h3 := HC.out (13 + q) (by rw [HLN.out]; omega)
        rw [ints_getElem, List.getElem_drop]
        exact HX3.out.keep (by rw [Nat.add_assoc]; exact h3)
      have hTl : (N.drop 13).length = 3 := by rw [List.length_drop, HLN.out]
      have hslc : ∀ v : World, (Instr.slice 73 (.slice (some ⟨b, off + 3, none⟩) 13 (c4 - 3)) (some (.int .i64 10)) none none).run Try.prog v = .ok (.slice (some ⟨b, off + 13, none⟩) 3 (c4 - 3 - 10)) v := fun v => by
        have := run_slice_from (P := Try.prog) v _ _ Try.underlying73 (by kernel_rfl) (some ⟨b, off + 3, none⟩) 13 (c4 - 3) 10 .i64 10 rfl (by decide)
        rw [this]; unfold cutA; rw [if_neg (by omega)]; rfl
      obtain ⟨nI, hnI⟩ : ∃ n, n = Ino.ofNums N := ⟨_, rfl⟩
      rw [← hnI] at HR2
      have hRP : Ino.takeP xs ↔ (nI.RightP ∧ (∀ x ∈ N.drop 13, x = 0)) := by rw [hnI]; exact HP.out
      have hyes : Ino.takeP xs → R = (nI, 0) := by rw [hnI]; exact HYES.out
      generalize N.drop 13 = T at *
      obtain ⟨p0, p1, p2, p3, p4, p5, p6, p7, p8, p9, p10, p11, p12, p13⟩ := Ino.rowCells HR2.out
      have hrow : Row w5 w.heap.size 48 (#[.int .u8 0, .int .u8 0, .int .i64 0, .int .i64 0, .int .i64 0, .int .i64 0, .int .i64 0, .int .i64 0, .int .i64 0, .int .i64 0, .int .i64 0, .int .i64 0, .int .i64 0, .int .i64 0] : Array Value).toList := ((Row.new w 48 (#[.int .u8 0, .int .u8 0, .int .i64 0, .int .i64 0, .int .i64 0, .int .i64 0, .int .i64 0, .int .i64 0, .int .i64 0, .int .i64 0, .int .i64 0, .int .i64 0, .int .i64 0, .int .i64 0] : Array Value).toList).ext HX2.out).ext HX3.out
      have XX5 := HX.out.trans HX3.out
      have HROW := Lib.hid hrow; have HXX5 := Lib.hid XX5; have HRP := Lib.hid hRP; have HY2 := Lib.hid hyes; have HT := Lib.hid hT; have HTL := Lib.hid hTl
      have hRR := Right_ok nI
      clear hrow XX5 hRP hyes hT hTl hI hnI HYES HP E0 E1 E2 E11 E12 HKK HRR HM HMG HM8 c11 c12 c11' c12' g12 g13 f12 f13 nw11 nw12 HC HX2 HX HX3 HG HK
      have HRO := Lib.hid HR2.out
      have HN := Lib.hid (rfl : nI.cs = nI.cs)
      cases hz : anyNz T
      · cases hr : nI.rightB
        · rw [hr] at hRR
          have hR : R = (Ino.zero, 110) := H0.out (fun e => Ino.right_not hr (HRP.out.1 e).1)
          have HRQ := Lib.hid hR
          have HRT := Lib.hid hRR
          obtain ⟨k, r, l, s, d0, d1, d2, d3, d4, d5, d6, d7, i, j⟩ := nI
          dsimp only [Ino.v, Ino.cs] at *
          clear hRR hR hr HR2 HRP HY2 H0 HN
          go_wp2_with fail
          refine (ContainsNz _ 3 _ T w5 HTL.out (by decide) HT.out).mono ?_
          rintro e w' ⟨rfl, rfl⟩
          rw [hz]
          go_wp2_with fail
          refine (HRT.out _).mono ?_
          rintro e w6 ⟨rfl, hX6⟩
          have HR6 := Lib.hid (HROW.out.ext hX6)
          clear p0 p1 p2 p3 p4 p5 p6 p7 p8 p9 p10 p11 p12 p13
          go_wp2_with (refine wpList_store_row rfl _ _ _ rfl w.heap.size #[.int .u8 0, .int .u8 0, .int .i64 0, .int .i64 0, .int .i64 0, .int .i64 0, .int .i64 0, .int .i64 0, .int .i64 0, .int .i64 0, .int .i64 0, .int .i64 0, .int .i64 0, .int .i64 0] rfl rfl 48 #[.int .u8 0, .int .u8 0, .int .i64 0, .int .i64 0, .int .i64 0, .int .i64 0, .int .i64 0, .int .i64 0, .int .i64 0, .int .i64 0, .int .i64 0, .int .i64 0, .int .i64 0, .int .i64 0] HR6.out infoIno rfl oneZZ ?_)
          rw [HRQ.out]
          exact post_cell Try.results57 rfl rfl (HR6.out.setRow #[.int .u8 0, .int .u8 0, .int .i64 0, .int .i64 0, .int .i64 0, .int .i64 0, .int .i64 0, .int .i64 0, .int .i64 0, .int .i64 0, .int .i64 0, .int .i64 0, .int .i64 0, .int .i64 0]) Try.underlying48 rfl infoIno rfl ⟨rfl, (HXX5.out.trans hX6).setRow (Nat.le_refl _) #[.int .u8 0, .int .u8 0, .int .i64 0, .int .i64 0, .int .i64 0, .int .i64 0, .int .i64 0, .int .i64 0, .int .i64 0, .int .i64 0, .int .i64 0, .int .i64 0, .int .i64 0, .int .i64 0]⟩
        · rw [hr] at hRR
          have hR : R = (nI, 0) := HY2.out (HRP.out.2 ⟨Ino.right_of hr, anyNz_false hz⟩)
          have HRQ := Lib.hid hR
          have HRT := Lib.hid hRR
          obtain ⟨k, r, l, s, d0, d1, d2, d3, d4, d5, d6, d7, i, j⟩ := nI
          dsimp only [Ino.v, Ino.cs] at *
          clear hRR hR hr HR2 HRP HY2 H0 HN
          go_wp2_with fail
          refine (ContainsNz _ 3 _ T w5 HTL.out (by decide) HT.out).mono ?_
          rintro e w' ⟨rfl, rfl⟩
          rw [hz]
          go_wp2_with fail
          refine (HRT.out _).mono ?_
          rintro e w6 ⟨rfl, hX6⟩
          have HR6 := Lib.hid (HROW.out.ext hX6)
          obtain ⟨p0, p1, p2, p3, p4, p5, p6, p7, p8, p9, p10, p11, p12, p13⟩ := Ino.rowCells (n := ⟨k, r, l, s, d0, d1, d2, d3, d4, d5, d6, d7, i, j⟩) (HRO.out.ext hX6)
          dsimp only at p0 p1 p2 p3 p4 p5 p6 p7 p8 p9 p10 p11 p12 p13
          go_wp2_with (refine wpList_store_row rfl _ _ _ rfl w.heap.size #[.int .u8 k, .int .u8 r, .int .i64 l, .int .i64 s, .int .i64 d0, .int .i64 d1, .int .i64 d2, .int .i64 d3, .int .i64 d4, .int .i64 d5, .int .i64 d6, .int .i64 d7, .int .i64 i, .int .i64 j] rfl rfl 48 #[.int .u8 0, .int .u8 0, .int .i64 0, .int .i64 0, .int .i64 0, .int .i64 0, .int .i64 0, .int .i64 0, .int .i64 0, .int .i64 0, .int .i64 0, .int .i64 0, .int .i64 0, .int .i64 0] HR6.out infoIno rfl (oneIno _ _ _ _ _ _ _ _ _ _ _ _ _ _) ?_)
          rw [HRQ.out]
          exact post_cell Try.results57 rfl rfl (HR6.out.setRow #[.int .u8 k, .int .u8 r, .int .i64 l, .int .i64 s, .int .i64 d0, .int .i64 d1, .int .i64 d2, .int .i64 d3, .int .i64 d4, .int .i64 d5, .int .i64 d6, .int .i64 d7, .int .i64 i, .int .i64 j]) Try.underlying48 rfl infoIno rfl ⟨rfl, (HXX5.out.trans hX6).setRow (Nat.le_refl _) #[.int .u8 k, .int .u8 r, .int .i64 l, .int .i64 s, .int .i64 d0, .int .i64 d1, .int .i64 d2, .int .i64 d3, .int .i64 d4, .int .i64 d5, .int .i64 d6, .int .i64 d7, .int .i64 i, .int .i64 j]⟩
      · have hR : R = (Ino.zero, 110) := H0.out (fun e => anyNz_true hz (HRP.out.1 e).2)
        have HRQ := Lib.hid hR
        clear hRR hR HR2 HRP HY2 H0 HN HRO
        go_wp2_with fail
        refine (ContainsNz _ 3 _ T w5 HTL.out (by decide) HT.out).mono ?_
        rintro e w' ⟨rfl, rfl⟩
        rw [hz]
        clear p0 p1 p2 p3 p4 p5 p6 p7 p8 p9 p10 p11 p12 p13
        go_wp2_with (refine wpList_store_row rfl _ _ _ rfl w.heap.size #[.int .u8 0, .int .u8 0, .int .i64 0, .int .i64 0, .int .i64 0, .int .i64 0, .int .i64 0, .int .i64 0, .int .i64 0, .int .i64 0, .int .i64 0, .int .i64 0, .int .i64 0, .int .i64 0] rfl rfl 48 #[.int .u8 0, .int .u8 0, .int .i64 0, .int .i64 0, .int .i64 0, .int .i64 0, .int .i64 0, .int .i64 0, .int .i64 0, .int .i64 0, .int .i64 0, .int .i64 0, .int .i64 0, .int .i64 0] HROW.out infoIno rfl oneZZ ?_)
        rw [HRQ.out]
        exact post_cell Try.results57 rfl rfl (HROW.out.setRow #[.int .u8 0, .int .u8 0, .int .i64 0, .int .i64 0, .int .i64 0, .int .i64 0, .int .i64 0, .int .i64 0, .int .i64 0, .int .i64 0, .int .i64 0, .int .i64 0, .int .i64 0, .int .i64 0]) Try.underlying48 rfl infoIno rfl ⟨rfl, HXX5.out.setRow (Nat.le_refl _) #[.int .u8 0, .int .u8 0, .int .i64 0, .int .i64 0, .int .i64 0, .int .i64 0, .int .i64 0, .int .i64 0, .int .i64 0, .int .i64 0, .int .i64 0, .int .i64 0, .int .i64 0, .int .i64 0]⟩

theorem Take_ino (a : Option Addr) (n cap : Nat) (xs : List Int) (w : World) (hl : xs.length = n) (hn : n ≤ 9223372036854775807) (hb : isBytes xs) (hs : Sl w a (ints .u8 xs)) (hcap : n ≤ cap) (hcm : cap ≤ 9223372036854775807) :
    Calls Try.prog 57 #[.slice a n cap] w (GaveI w (Ino.takeR xs)) := by
  by_cases h : n = 32
  · subst h
    exact Take_32 a cap xs w hl hb hs hcap hcm
  · exact Take_len a n cap xs w hl hn hb hs hcap hcm h
end Go.Proofs.Ytnodinancnfoeaa.Ino
/- meta.inodes. -/
namespace Go.Proofs.Ytnodinancnfoeaa.Mt
open Go.RowKit Words Mem Plain Ops Agg OwnS Intern Ino
open Go.Proofs.Ytnodinancnfoeaa.Field
set_option linter.ambiguousOpen false
set_option linter.unusedVariables false
set_option linter.unusedSimpArgs false

/-- The halves of sectors, one behind the other. -/
def chunk (L : List (List Int)) (m : Nat) : List Int := ((L.getD (m / 2) []).drop (32 * (m % 2))).take 32
noncomputable def inoAt (L : List (List Int)) (m : Nat) : Ino × Int := Ino.takeR (chunk L m)
noncomputable def inosN (L : List (List Int)) (m : Nat) : List Ino := (List.range m).map fun i => (inoAt L i).1
theorem inosN_succ (L : List (List Int)) (m : Nat) : inosN L (m + 1) = inosN L m ++ [(inoAt L m).1] := by
  unfold inosN; rw [List.range_succ, List.map_append]; rfl
theorem inosN_len (L : List (List Int)) (m : Nat) : (inosN L m).length = m := by simp [inosN]

theorem fill_oneIno (n : Ino) : Instr.fill (fun i => some (i * 14, 14)) ((Array.range (1 * 14)).map ((Value.agg Ino.zero.cs).cells[· % (Value.agg Ino.zero.cs).cells.size]!)) [(0, .agg n.cs)] = some n.cs := by
  kernel_rfl
theorem wpList_oneIno {ops : Array Oper} {rest : List Oper} {o : Oper} {a : Act} {w : World} {Q : Exit → Act → World → Prop} (hg : o.guard = none) (u : Operand) (ho : o.op = .buildSlice 27 1 #[(0, u)]) (n : Ino) (hx : a.eval u = .agg n.cs)
    (h : wpList Try.prog ops Q rest (a.put o.dst (.slice (some ⟨w.heap.size, 0, none⟩) 1 1)) (w.alloc (.cells n.cs 48))) : wpList Try.prog ops Q (o :: rest) a w := by
  obtain ⟨i, h2, h3, h4, h5⟩ := info_parts infoNC
  refine wpList_buildSlice hg 27 48 1 #[(0, u)] ho n.cs i _ Try.underlying27 h2 h3 (by rw [h4]; decide) (by rw [h4]; decide) ?_ h
  rw [h4]
  have e : ((#[(0, u)] : Array (Nat × Operand)).map fun (i, x) => (i, a.eval x)).toList = [(0, .agg n.cs)] := by simp [hx]
  rw [e]
  exact fill_oneIno n
set_option maxHeartbeats 8000000 in
set_option maxRecDepth 100000 in
theorem inodes_ok (a : Option Addr) (n cap : Nat) (L : List (List Int)) (w : World) (hL : LsIn w a n L) (h64 : ∀ xs ∈ L, xs.length = 64) (hn : n ≤ 100) :
    Calls Try.prog 43 #[.slice a n cap] w fun e w' => Ext w w' ∧ ((∃ ao c, e = .returned (.tuple #[.slice ao (2 * n) c, .bool true]) ∧ w'.ownsRow w.heap.size 48 14 (.slice ao (2 * n) c) (2 * n) (flat inoC (inosN L (2 * n))) ∧ ∀ m, m < 2 * n → (inoAt L m).2 = 0) ∨
      (e = .returned (.tuple #[.slice none 0 0, .bool false]) ∧ ∃ m, m < 2 * n ∧ (inoAt L m).2 ≠ 0)) := by
  have HL := Lib.hid hL
  have H64 := Lib.hid h64
  clear hL h64
  go_enter Try.func43, Try.ntmps43
  go_wp2
  go_loopw [12, 4] (fun v u wr => ∃ (k m c : Nat) (ao : Option Addr), k ≤ n ∧ m = 2 * k ∧ v = .int .i64 k ∧ u = .slice ao m c ∧ wr.ownsRow w.heap.size 48 14 (.slice ao m c) m (flat inoC (inosN L m)) ∧ Ext w wr ∧ ∀ q, q < m → (inoAt L q).2 = 0) (fun v _ _ => n - (intOf v).toNat)
  case atStart => exact ⟨0, 0, 0, none, by omega, rfl, rfl, rfl, ownS_nil _ _ _ _, Ext.refl _, fun q hq => absurd hq (by omega)⟩
  case round =>
    obtain ⟨k, m, c, ao, hk, hm, rfl, rfl, hown, hX, hok⟩ := hrel
    have HX := Lib.hid hX
    have HOWN := Lib.hid hown
    have HOK := Lib.hid hok
    have HM := Lib.hid hm
    clear hX hown hok hm
    by_cases hlt : k < n
    · have hkL : k < L.length := by rw [HL.out.1]; exact hlt
      obtain ⟨b, off, rfl, hi⟩ := HL.out.2 (by omega)
      obtain ⟨x, mm, cx, hc, hl, hle, hcm, hsx, hbx, _⟩ := hi k hkL
      have hl64 := H64.out _ (List.getElem_mem hkL)
      have hcell := HX.out.keep hc
      have HSX := Lib.hid hsx
      have HGD := Lib.hid (show L.getD k [] = L[k] by simp [hkL])
      generalize L[k] = xs at *
      obtain rfl : mm = 64 := by omega
      have HBX := Lib.hid (And.intro hl64 (And.intro hbx (And.intro hle hcm)))
      have hkn : (k : Int) < n := by omega
      clear hi hc hl hle hcm hsx hbx hl64 hkL
      go_wp2
      go_loopw [7, 4] (fun v u wi => ∃ (j at' m' c : Nat) (ao : Option Addr), j ≤ 2 ∧ at' = 32 * j ∧ m' = 2 * k + j ∧ v = .int .i64 at' ∧ u = .slice ao m' c ∧ wi.ownsRow w.heap.size 48 14 (.slice ao m' c) m' (flat inoC (inosN L m')) ∧ Ext w wi ∧ ∀ q, q < m' → (inoAt L q).2 = 0) (fun v _ _ => 64 - (intOf v).toNat)
      case atStart => exact ⟨0, 0, m, c, ao, by omega, by omega, by have := HM.out; omega, rfl, rfl, HOWN.out, HX.out, HOK.out⟩
      case round =>
        obtain ⟨j, at', m', c', ao', hj, hat, hm', rfl, rfl, hown, hX2, hok⟩ := hrel
        have HX2 := Lib.hid hX2
        have HOWN2 := Lib.hid hown
        have HOK2 := Lib.hid hok
        have HA := Lib.hid hat
        have HM2 := Lib.hid hm'
        have hat64 : at' ≤ 64 := by omega
        clear hX2 hown hok hat hm'
        by_cases hlj : at' < 64
        · have hch : chunk L m' = (xs.drop at').take 32 := by
            unfold chunk
            have e1 : m' / 2 = k := by have := HM2.out; have := HA.out; omega
            have e2 : 32 * (m' % 2) = at' := by have := HM2.out; have := HA.out; omega
            rw [e1, e2, HGD.out]
          have hslc := fun v : World => run_slice_mid (P := Try.prog) v 26 5 Try.underlying26 (by kernel_rfl) x 64 cx at' (at' + 32) .i64 .i64 at' ((at' : Int) + 32) rfl (by omega) (by omega) (by have := HBX.out; have := HA.out; omega)
          rw [show at' + 32 - at' = 32 by omega] at hslc
          have hwa : IntKind.i64.wrap ((at' : Int) + 32) = (at' : Int) + 32 := IntWalk.i64_in _ (by omega)
          have htk := Take_ino (cutA x cx at') 32 (cx - at') ((xs.drop at').take 32) wr (by rw [List.length_take, List.length_drop]; have := HBX.out.1; have := HA.out; omega) (by decide) (fun y hy => HBX.out.2.1 y (List.mem_of_mem_drop (List.mem_of_mem_take hy))) ((HSX.out.ext HX2.out).mid cx at' 32 (fun e => by have := HBX.out; omega)) (by have := HBX.out; have := HA.out; omega) (by have := HBX.out; omega)
          rw [← hch] at htk
          have HIA := Lib.hid (show inoAt L m' = Ino.takeR (chunk L m') from rfl)
          have HSUC := Lib.hid (inosN_succ L m')
          rw [← HIA.out] at htk
          have hal : (at' : Int) < 64 := by omega
          have hz := zeroIno
          generalize inoAt L m' = R at *
          obtain ⟨n1, code⟩ := R
          dsimp only at *
          clear hch
          generalize cutA x cx at' = xc at *
          generalize cx - at' = cc at *
          go_wp2_with fail
          refine htk.mono ?_
          rintro e w5 ⟨rfl, h5⟩
          obtain ⟨NC, hNC⟩ : ∃ z, z = n1.cs := ⟨_, rfl⟩
          have hns : NC.size = 14 := by rw [hNC]; rfl
          have h1c : NC.all (·.oneCell') = true := by rw [hNC]; exact oneIno _ _ _ _ _ _ _ _ _ _ _ _ _ _
          have hns2 : (Try.prog.info? 48).map (·.size) = some NC.size := by rw [hns]; exact Mt.infoIno
          have HI := Lib.hid (And.intro hns (And.intro h1c hns2))
          have r0 : Row (w5.alloc (.cells Ino.zero.cs 48)) w5.heap.size 48 (Ino.zero.cs).toList := Row.new w5 48 (Ino.zero.cs).toList
          have h6 : Ext wr ((w5.alloc (.cells Ino.zero.cs 48)).setRow w5.heap.size NC) := ((h5.alloc _).setRow h5.size NC)
          have r6 : Row ((w5.alloc (.cells Ino.zero.cs 48)).setRow w5.heap.size NC) w5.heap.size 48 NC.toList := r0.setRow NC
          obtain ⟨g5, hg5⟩ : ∃ z, z = w5.heap.size := ⟨_, rfl⟩
          have HR0 := Lib.hid r0
          dsimp only
          rw [show n1.v = .agg NC by rw [hNC]]
          have HNC := Lib.hid hNC
          clear hNC hns h1c hns2 r0
          obtain ⟨w6, hw6⟩ : ∃ z, z = (w5.alloc (.cells Ino.zero.cs 48)).setRow w5.heap.size NC := ⟨_, rfl⟩
          rw [← hw6] at h6 r6
          have HX6 := Lib.hid h6; have HR6 := Lib.hid r6
          have HW6 := Lib.hid hw6
          clear h6 r6 h5 htk hslc hw6 hg5 g5
          by_cases hcd : code = 0
          · subst hcd
            have hL6 := HR6.out
            obtain ⟨g5, hg5⟩ : ∃ z, z = w5.heap.size := ⟨_, rfl⟩
            have HG5 := Lib.hid hg5
            have hg6 : w6.heap[w5.heap.size]? = some (.cells NC 48 (0, 0)) := HR6.out
            have HG6 := Lib.hid hg6
            clear hg5 hL6 hg6
            have HX7 := Lib.hid (HX6.out.alloc (.cells n1.cs 48))
            have HO7 := Lib.hid (ownS_ext HOWN2.out HX7.out)
            have hrow7 : Row (w6.alloc (.cells n1.cs 48)) w6.heap.size 48 n1.cs.toList := Row.new w6 48 n1.cs.toList
            have hSl7 : Sl (w6.alloc (.cells n1.cs 48)) (some ⟨w6.heap.size, 0, none⟩) (inoC n1) := hrow7.sl0
            have hm' : m' < 2 * n := by have := HM2.out; have := HA.out; omega
            have hbs : w.heap.size ≤ (w6.alloc (.cells n1.cs 48)).heap.size := (HX2.out.trans HX7.out).size
            obtain ⟨a8, c8, w8, hap, ho8, hg8, _⟩ := run_append_s (P := Try.prog) (w6.alloc (.cells n1.cs 48)) w.heap.size 14 (by decide) 27 27 48 _ 104 Try.underlying27 infoNC rfl HO7.out (a := some ⟨w6.heap.size, 0, none⟩) (m := 1) 1 (news := inoC n1) rfl hSl7 (fun e => by cases e) (inoC_one _) (by omega) (by omega) hbs
            have hX8 : Ext w w8 := Ext_grown (HX2.out.trans HX7.out) (Nat.le_refl _) (HX2.out.trans HX7.out).size hg8 (fun z hz => by
              cases ao' with
              | none => simp [Value.ownBlock] at hz
              | some a0 =>
                simp [Value.ownBlock] at hz
                subst hz
                exact (ownS_lt HO7.out a0 rfl).1)
            rw [show flat inoC (inosN L m') ++ inoC n1 = flat inoC (inosN L (m' + 1)) by rw [HSUC.out, flat_append]; rw [show flat inoC [n1] = inoC n1 ++ [] from rfl, List.append_nil]] at ho8
            have HO8 := Lib.hid ho8
            have HX8 := Lib.hid hX8
            have HK8 := Lib.hid (show ∀ q, q < m' + 1 → (inoAt L q).2 = 0 from fun q hq => by
              by_cases hqm : q < m'
              · exact HOK2.out q hqm
              · rw [show q = m' by omega]
                show (Ino.takeR (chunk L m')).2 = 0
                rw [← HIA.out])
            rw [show (Value.slice (some ⟨w6.heap.size, 0, none⟩) 1 1) = (Value.slice (some ⟨w6.heap.size, 0, none⟩) 1 1) from rfl] at hap
            have hwq : IntKind.i64.wrap ((at' : Int) + 32) = (at' : Int) + 32 := hwa
            clear ho8 hX8 hg8 hbs hSl7 hrow7 hm'
            go_wp2_with (first
              | (refine wpList_store_row rfl _ _ _ rfl w5.heap.size NC rfl rfl 48 Ino.zero.cs HR0.out HI.out.2.2 HI.out.1.symm HI.out.2.1 ?_; rw [← HW6.out])
              | (refine wpList_load_row rfl 48 _ rfl w5.heap.size rfl 48 NC (0, 0) _ HG6.out Try.underlying48 rfl HI.out.2.2 ?_)
              | (refine wpList_oneIno rfl _ rfl n1 (congrArg Value.agg HNC.out) ?_)
              | (at_builtin; refine Guard.wpList_append_want _ rfl _ _ _ _ rfl _ _ rfl rfl _ _ hap ?_))
            go_roundw
            case rel => exact ⟨j + 1, at' + 32, m' + 1, c8, a8, by have := HA.out; omega, by have := HA.out; omega, by have := HM2.out; omega, by go_num, rfl, HO8.out, HX8.out, HK8.out⟩
            case measure => simp [intOf]; omega
          · have hcd' : (code != 0) = true := by simp [hcd]
            have HH := Lib.hid (show inoAt L m' = Ino.takeR (chunk L m') from rfl)
            have hm' : m' < 2 * n := by have := HM2.out; have := HA.out; omega
            have HBAD := Lib.hid (show ∃ m, m < 2 * n ∧ (inoAt L m).2 ≠ 0 from ⟨m', hm', by rw [HH.out, ← HIA.out]; exact hcd⟩)
            have HXE := Lib.hid (HX2.out.trans HX6.out)
            clear hm' hcd
            go_wp2_with (refine wpList_store_row rfl _ _ _ rfl w5.heap.size NC rfl rfl 48 Ino.zero.cs HR0.out HI.out.2.2 HI.out.1.symm HI.out.2.1 ?_; rw [← HW6.out])
            go_ret2
            exact ⟨HXE.out, .inr ⟨rfl, HBAD.out⟩⟩
        · have hj2 : j = 2 := by have := HA.out; omega
          have hm2 : m' = 2 * (k + 1) := by have := HM2.out; omega
          have HM4 := Lib.hid hm2
          have HXE := HX2
          have hat2 : at' = 64 := by omega
          clear hj2 hm2
          go_wp2
          go_roundw
          case rel => exact ⟨k + 1, m', c', ao', by omega, HM4.out, by go_num, rfl, HOWN2.out, HXE.out, HOK2.out⟩
          case measure => simp [intOf]; omega
    · have hkn : k = n := by omega
      have HM4 := Lib.hid (show m = 2 * n by have := HM.out; omega)
      clear hkn
      go_wp2
      go_ret2
      rw [← HM4.out]
      exact ⟨HX.out, .inl ⟨ao, c, rfl, HOWN.out, HOK.out⟩⟩
end Go.Proofs.Ytnodinancnfoeaa.Mt
/- intern.Take. -/
namespace Go.Proofs.Ytnodinancnfoeaa.Intern
open Go.RowKit Words Mem Plain Ops Agg
open Go.Proofs.Ytnodinancnfoeaa.Field
set_option linter.ambiguousOpen false
set_option linter.unusedVariables false
set_option linter.unusedSimpArgs false

def numAt (xs : List Int) (j : Nat) : Int := numOf ((xs.drop (2 * j)).take 2)
def rowsQ (xs : List Int) (k : Nat) : List RowT := (List.range k).map fun i => (numAt xs (2 * i), numAt xs (2 * i + 1))
theorem rowsQ_succ (xs : List Int) (k : Nat) : rowsQ xs (k + 1) = rowsQ xs k ++ [(numAt xs (2 * k), numAt xs (2 * k + 1))] := by simp [rowsQ, List.range_succ]
theorem rowsQ_length (xs : List Int) (k : Nat) : (rowsQ xs k).length = k := by simp [rowsQ]
theorem numAt_bd {xs : List Int} (hb : isBytes xs) (j : Nat) : 0 ≤ numAt xs j ∧ numAt xs j ≤ 65535 := by
  have := takenL_bd 2 xs (j + 1) hb (by decide) (numAt xs j) (by
    rw [takenL_succ]; exact List.mem_append_right _ (by simp [numAt]))
  have e : (256 : Int) ^ 2 = 65536 := by decide
  rw [e] at this
  omega
theorem rowsQ_wf {xs : List Int} (hb : isBytes xs) (k : Nat) : wfR (rowsQ xs k) := by
  intro r hr
  obtain ⟨i, _, rfl⟩ := List.mem_map.1 hr
  have h1 := numAt_bd hb (2 * i)
  have h2 := numAt_bd hb (2 * i + 1)
  dsimp only
  omega
/-- Take. -/
def rowsTake (xs : List Int) : List RowT × Int := if xs.length = 64 ∧ rightB (rowsQ xs 16) = true then (rowsQ xs 16, 0) else ([], 100)
theorem rowsTake_yes {xs : List Int} (h : xs.length = 64) (hr : rightB (rowsQ xs 16) = true) : rowsTake xs = (rowsQ xs 16, 0) := by unfold rowsTake; rw [if_pos ⟨h, hr⟩]
theorem rowsTake_len {xs : List Int} (h : xs.length ≠ 64) : rowsTake xs = ([], 100) := by unfold rowsTake; rw [if_neg (fun e => h e.1)]
theorem rowsTake_no {xs : List Int} (hr : rightB (rowsQ xs 16) = false) : rowsTake xs = ([], 100) := by unfold rowsTake; rw [if_neg (fun e => by rw [hr] at e; cases e.2)]
theorem takeR_64 {xs : List Int} (h : xs.length = 64) : takeR 2 xs = (takenL 2 xs 32, 0) := by
  unfold takeR
  rw [h]
  rfl
theorem takeR_other {xs : List Int} (h : xs.length ≠ 64) : (takeR 2 xs).2 ≠ 0 ∨ ((takeR 2 xs).2 = 0 ∧ (takeR 2 xs).1.length ≠ 32) := by
  unfold takeR
  by_cases h1 : (2 : Int) < 1 ∨ 8 < (2 : Int) ∨ (xs.length : Int) % 2 ≠ 0
  · rw [if_pos h1]; exact .inl (by decide)
  · rw [if_neg h1]
    by_cases h2 : 4096 < xs.length
    · simp [h2]
    · simp [h2, length_takenL]
      omega
end Go.Proofs.Ytnodinancnfoeaa.Intern
/- Rows in memory of the call's own: slices of two cells an element. No program named. -/
namespace Go.Proofs.Ytnodinancnfoeaa.Intern
open Go.RowKit Words Mem Plain Ops Agg
set_option linter.unusedVariables false
set_option linter.unusedSimpArgs false

section
variable {w w' : World} {base n cap : Nat} {t : TypeId} {a : Option Addr} {xs : List Value}
theorem own2_cases (h : w.ownsRow base t 2 (.slice a n cap) n xs) : (a = none ∧ n = 0 ∧ cap = 0 ∧ xs = []) ∨ ∃ g M, a = some ⟨g, 0, none⟩ ∧ base ≤ g ∧ Row w g t M ∧ n ≤ cap ∧ cap ≤ maxLen ∧ M.length = cap * 2 ∧ M.take (n * 2) = xs := by
  rcases h.2 with ⟨hv, hn⟩ | ⟨g, cap', cur, hv, hb, hg, hle, hm, hcs, htk⟩
  · cases hv
    exact .inl ⟨rfl, rfl, rfl, List.eq_nil_of_length_eq_zero (by simpa using h.1)⟩
  · cases hv
    exact .inr ⟨g, cur.toList, rfl, hb, by unfold Row; simpa using hg, hle, hm, by simpa using hcs, htk⟩
theorem own2_sl (h : w.ownsRow base t 2 (.slice a n cap) n xs) : Sl w a xs := by
  rcases own2_cases h with ⟨_, _, _, rfl⟩ | ⟨g, M, rfl, _, hr, _, _, _, rfl⟩
  · exact Sl.nil _ _
  · exact hr.slTake _
theorem own2_ext (h : w.ownsRow base t 2 (.slice a n cap) n xs) (e : Ext w w') : w'.ownsRow base t 2 (.slice a n cap) n xs := by
  refine h.kept (row := none) ⟨e.os, e.tape, e.output, e.size, fun k hk _ => e.block k hk⟩ ?_
  cases hb : Value.ownBlock (.slice a n cap) <;> simp
theorem own2_base {base' : Nat} (h : w.ownsRow base t 2 (.slice a n cap) n xs) (hb : base' ≤ base) : w.ownsRow base' t 2 (.slice a n cap) n xs := by
  refine ⟨h.1, ?_⟩
  rcases h.2 with hv | ⟨g, cap', cur, hv, hg, r⟩
  · exact .inl hv
  · exact .inr ⟨g, cap', cur, hv, Nat.le_trans hb hg, r⟩
theorem own2_of {g : Nat} {M : List Value} (hr : Row w g t M) (hb : base ≤ g) (hl : M.length = n * 2) (hm : n ≤ maxLen) : w.ownsRow base t 2 (.slice (some ⟨g, 0, none⟩) n n) n M :=
  ⟨hl, .inr ⟨g, n, M.toArray, rfl, hb, hr, Nat.le_refl _, hm, by simpa using hl, by simp [← hl]⟩⟩
theorem own2_nil (w : World) (base : Nat) (t : TypeId) : w.ownsRow base t 2 (.slice none 0 0) 0 [] := World.ownsRow_nil w base t 2
theorem own2_cap (h : w.ownsRow base t 2 (.slice a n cap) n xs) : n ≤ cap ∧ cap ≤ 9223372036854775807 := by
  rcases own2_cases h with ⟨_, h2, h3, _⟩ | ⟨g, M, _, _, _, h4, h5, _⟩
  · omega
  · unfold maxLen at h5; omega
theorem own2_lt (h : w.ownsRow base t 2 (.slice a n cap) n xs) : ∀ ad, a = some ad → base ≤ ad.block := by
  rcases own2_cases h with ⟨h1, _⟩ | ⟨g, M, h1, h2, _⟩
  · intro ad e; rw [h1] at e; cases e
  · intro ad e; rw [h1] at e; cases e; exact h2
end

/-- Rows that the call made. -/
def OwnR (t : TypeId) (w : World) (R : List RowT) (v : Value) (w' : World) : Prop := ∃ a cap, v = .slice a R.length cap ∧ w'.ownsRow w.heap.size t 2 (.slice a R.length cap) R.length (rowsC R) ∧ Ext w w'
theorem OwnR.nil {t : TypeId} {w w' : World} (h : Ext w w') : OwnR t w [] (.slice none 0 0) w' := ⟨none, 0, rfl, own2_nil _ _ _, h⟩
theorem OwnR.of {t : TypeId} {w w' : World} {R : List RowT} {n g : Nat} (hn : R.length = n) (hr : Row w' g t (rowsC R)) (hg : w.heap.size ≤ g) (hm : n ≤ maxLen) (h : Ext w w') : OwnR t w R (.slice (some ⟨g, 0, none⟩) n n) w' := by
  subst hn
  exact ⟨_, _, rfl, own2_of hr hg (by rw [rowsC_length, Nat.mul_comm]) hm, h⟩
theorem OwnR.up {t : TypeId} {w0 w w' : World} {R : List RowT} {v : Value} (h0 : Ext w0 w) (h : OwnR t w R v w') : OwnR t w0 R v w' := by
  obtain ⟨a, cap, e, ho, hx⟩ := h
  exact ⟨a, cap, e, own2_base ho h0.size, h0.trans hx⟩

variable {P : Program}
theorem run_copy_rows (w : World) (dT sT ty elem : TypeId) (g n dCap : Nat) (a : Addr) (sCap : Nat) (cur : Array Value) (t : TypeId) (cs : List Value)
    (hu : P.underlying dT = some (.slice elem)) (hs : (P.info? elem).map (·.size) = some 2)
    (hg : w.heap[g]? = some (.cells cur t (0, 0))) (hn : cs.length = n * 2)
    (hsrc : ∀ j v, cs[j]? = some v → w.cell? (a.add j) = some v) (hfit : cs.length ≤ cur.size) (h1 : ∀ v ∈ cs, v.oneCell' = true) :
    (Builtin.copy_ #[dT, sT] ty #[.slice (some ⟨g, 0, none⟩) n dCap, .slice (some a) n sCap]).run P w =
      .ok (goInt n) (w.setRow g (cs ++ cur.toList.drop cs.length).toArray) := by
  have hl := run_loadCells_list (P := P) w a cs hsrc
  have hst := run_storeCells_at P g 0 t cs 0 cur w hg (by simpa using hfit) h1
  simp only [Nat.add_zero, Nat.zero_add, List.take_zero, List.nil_append] at hst
  cases hq : P.info? elem with
  | none => simp [hq] at hs
  | some i =>
    have hi : i.size = 2 := by simpa [hq] using hs
    simp [Builtin.copy_, run_underlying hu, Builtin.lenOf, Builtin.firstCells, sizeOf, typeInfo, hq, hi, ← hn, hl, hst]

theorem Row.setCells2 {w : World} {g : Nat} {t : TypeId} {M : List Value} (h : Row w g t M) (o : Nat) (x y : Value) : Row (w.setCells g o [x, y]) g t ((M.set o x).set (o + 1) y) := by
  simp only [World.setCells]
  exact (Row.set (Row.set h o x) (o + 1) y)
theorem Ext.setCells2 {a w : World} (h : Ext a w) {g : Nat} (hg : a.heap.size ≤ g) (o : Nat) (x y : Value) : Ext a (w.setCells g o [x, y]) := by
  simp only [World.setCells]
  exact Ext.setCell (Ext.setCell h hg _) hg _
theorem rowsC_set (L : List RowT) (k : Nat) (x y : Int) : ((rowsC L).set (k * 2) (.int .u16 x)).set (k * 2 + 1) (.int .i64 y) = rowsC (L.set k (x, y)) := by
  rw [Nat.mul_comm, rowsC_set0, rowsC_set1]
  by_cases hk : k < L.length
  · rw [List.set_set, rg_set _ _ _ _ hk, if_pos rfl]
  · rw [List.set_eq_of_length_le (by simp; omega), List.set_eq_of_length_le (by omega), List.set_eq_of_length_le (by omega)]
theorem there_row {w : World} {g : Nat} {t : TypeId} {M : List Value} (h : Row w g t M) (o : Nat) (ho : o + 2 ≤ M.length) : w.there g o 2 := fun j hj => by
  refine ⟨?_, h.frozen _⟩
  rw [h.cell (by omega)]; rfl

theorem own2_set {w : World} {base n cap g : Nat} {t : TypeId} {xs : List Value} (h : w.ownsRow base t 2 (.slice (some ⟨g, 0, none⟩) n cap) n xs) (j : Nat) (v : Value) : (w.setCell ⟨g, j, none⟩ v).ownsRow base t 2 (.slice (some ⟨g, 0, none⟩) n cap) n (xs.set j v) := by
  rcases own2_cases h with ⟨e, _⟩ | ⟨g', M, e, hb, hr, hle, hm, hl, htk⟩
  · cases e
  · cases e
    have hr2 := Row.set hr j v
    refine ⟨by rw [List.length_set]; exact h.1, .inr ⟨g, cap, (M.set j v).toArray, rfl, hb, hr2, hle, hm, by simpa using hl, ?_⟩⟩
    rw [← htk]
    simp [List.take_set]
/-- append of rows to rows. -/
theorem run_append_rows (w : World) (base : Nat) (t ty e : TypeId) (z : Value) (bts : Nat) (ht : P.underlying t = some (.slice e)) (hi : (P.info? e).map (fun i => (i.zero, i.size, i.bytes)) = some (some z, 2, bts)) (hz2 : z.cells.size = 2)
    {a0 : Option Addr} {n cap0 : Nat} {xs : List Value} (hown : w.ownsRow base e 2 (.slice a0 n cap0) n xs) {a : Option Addr} {m : Nat} (c : Nat) {news : List Value} (hl : news.length = m * 2) (hx : Sl w a news) (hnil : a = none → m = 0 ∧ c = 0) (h1 : ∀ u ∈ news, u.oneCell' = true)
    (hb : (n + m) * bts ≤ 140737488355328) (h63 : n + m ≤ 9223372036854775807) (hbase : base ≤ w.heap.size) :
    ∃ a' cap' w', (Builtin.append_ #[t, t] ty #[.slice a0 n cap0, .slice a m c]).run P w = .ok (.slice a' (n + m) cap') w' ∧ w'.ownsRow base e 2 (.slice a' (n + m) cap') (n + m) (xs ++ news) ∧ ∀ w0, Ext w0 w → w0.heap.size ≤ base → Ext w0 w' := by
  obtain ⟨i, h2, h3, h4, h5⟩ := info_parts hi
  cases a with
  | none =>
    obtain ⟨rfl, rfl⟩ := hnil rfl
    have : news = [] := List.eq_nil_of_length_eq_zero (by simpa using hl)
    subst this
    exact ⟨a0, cap0, w, run_append_owned_none (P := P) (w := w) base t ty e i 2 ht h2 _ n xs hown, by simpa using hown, fun w0 h _ => h⟩
  | some ad =>
    obtain ⟨v', w', hrun, hown', hg, _⟩ := run_append_own (P := P) w base t ty e i z 2 bts ht h2 h3 h4 h5 hz2 (by decide) _ n xs hown ad m c news hl (fun j u hu => by
      obtain ⟨hj, e⟩ := List.getElem?_eq_some_iff.1 hu
      obtain ⟨ad', had, hc⟩ := hx j hj
      cases had; rw [hc, e]) h1 (by unfold maxLen; omega) hb hbase
    have hlt := hown.lt
    have hv : ∃ a' cap', v' = .slice a' (n + m) cap' := by
      rcases hown'.2 with ⟨rfl, hn⟩ | ⟨g, cap', cur, rfl, _⟩
      · exact ⟨none, 0, by rw [hn]⟩
      · exact ⟨_, cap', rfl⟩
    obtain ⟨a', cap', rfl⟩ := hv
    exact ⟨a', cap', w', hrun, hown', fun w0 h hb0 => Ext_grown h hb0 hbase hg (fun k hk => (hlt k hk).1)⟩
/-- 'append([]T{}, l...)'. -/
theorem run_copy_out (w : World) (t ty e : TypeId) (z : Value) (bts : Nat) (ht : P.underlying t = some (.slice e)) (hi : (P.info? e).map (fun i => (i.zero, i.size, i.bytes)) = some (some z, 2, bts)) (hz2 : z.cells.size = 2)
    {a : Option Addr} {m : Nat} (c : Nat) {news : List Value} (hl : news.length = m * 2) (hx : Sl w a news) (hnil : a = none → m = 0 ∧ c = 0) (h1 : ∀ u ∈ news, u.oneCell' = true)
    (hb : m * bts ≤ 140737488355328) (h63 : m ≤ 9223372036854775807) :
    ∃ a' cap' w', (Builtin.append_ #[t, t] ty #[.slice (some ⟨w.heap.size, 0, none⟩) 0 0, .slice a m c]).run P (w.alloc (.cells #[] e)) = .ok (.slice a' m cap') w' ∧ w'.ownsRow w.heap.size e 2 (.slice a' m cap') m news ∧ ∀ w0, Ext w0 w → Ext w0 w' := by
  have h0 : (w.alloc (.cells #[] e)).ownsRow w.heap.size e 2 (.slice (some ⟨w.heap.size, 0, none⟩) 0 0) 0 [] := own2_of (Row.new w e []) (Nat.le_refl _) rfl (by decide)
  obtain ⟨a', cap', w', r1, r2, r3⟩ := run_append_rows (P := P) (w.alloc (.cells #[] e)) w.heap.size t ty e z bts ht hi hz2 h0 c hl (hx.ext ((Ext.refl w).alloc _)) hnil h1 (by rw [Nat.zero_add]; exact hb) (by omega) (by simp)
  rw [Nat.zero_add] at r1 r2
  exact ⟨a', cap', w', r1, r2, fun w0 h => r3 w0 (h.alloc _) h.size⟩
end Go.Proofs.Ytnodinancnfoeaa.Intern
/- intern.Take: the walk. -/
namespace Go.Proofs.Ytnodinancnfoeaa.Intern
open Go.RowKit Words Mem Plain Ops Agg
open Go.Proofs.Ytnodinancnfoeaa.Field
set_option linter.ambiguousOpen false
set_option linter.unusedVariables false
set_option linter.unusedSimpArgs false

theorem infoRowZ : (Try.prog.info? 45).map (fun i => (i.zero, i.size, i.bytes)) = some (some (.agg #[.int .u16 0, .int .i64 0]), 2, 16) := by kernel_rfl

theorem infoRowE : ∃ i, Try.prog.info? 45 = some i ∧ i.zero = some (.agg #[.int .u16 0, .int .i64 0]) ∧ i.size = 2 ∧ i.bytes = 16 := by
  obtain ⟨i, h1, h2, h3, h4⟩ := info_parts infoRowZ
  exact ⟨i, h1, h2, h3, h4⟩

/-- append(out, Row{x, y}) at a step of a region that draws. -/
theorem step_app {ops : Array Oper} {o : Oper} {a : Act} {K : Act → World → Prop} {Q : Exit → Act → World → Prop} {E : Prop} {V w2 : World} {g k c : Nat} {ao : Option Addr} {M : List RowT} {x y : Int} (hgd : o.guard = none) (s xx : Operand)
    (ho : o.op = .call { callee := .builtin .append, args := #[s, xx], argTypes := #[24, 24] }) (hs : a.eval s = .slice ao k c) (hx : a.eval xx = .slice (some ⟨g, 0, none⟩) 1 1) (hV : V.heap[g]? = some (.cells #[.int .u16 x, .int .i64 y] 45 (0, 0))) (HX : Ext w2 V)
    (hown : V.ownsRow w2.heap.size 45 2 (.slice ao k c) k (rowsC M)) (hk : k ≤ 1000)
    (h : ∀ a' c' w', w'.ownsRow w2.heap.size 45 2 (.slice a' (k + 1) c') (k + 1) (rowsC (M ++ [(x, y)])) → Ext w2 w' → K (a.put o.dst (.slice a' (k + 1) c')) w') :
    if Region.wanted o (yielded ops a.tmps) = true then Oper.wp Try.prog o a V K Q else E := by
  obtain ⟨ii, hi1, hi2, hi3, hi4⟩ := infoRowE
  refine step_append_lies _ hgd s xx _ ho w2.heap.size 45 ii _ 2 16 Try.underlying24 hi1 hi2 hi3 hi4 rfl (by decide) _ k (rowsC M) hs hown _ 1 1 [.int .u16 x, .int .i64 y] hx rfl (World.news_of_block hV) (by simp [Value.oneCell']) (by decide) (by unfold maxLen; omega) (by omega) HX.size _ rfl ?_
  intro g cap w' h1 h2 h3 h4
  refine h _ _ _ ?_ (Ext_grown HX (Nat.le_refl _) HX.size h2 (fun j hj => (hown.lt j hj).1))
  rw [rowsC_append]
  exact h1

set_option maxRecDepth 100000 in
set_option maxHeartbeats 4000000 in
theorem RTake_64 (xs : List Int) (a : Option Addr) (cap : Nat) (w : World) (h64 : xs.length = 64) (hb : isBytes xs) (hs : Sl w a (ints .u8 xs)) (hcap : 64 ≤ cap) (hcm : cap ≤ 9223372036854775807) :
    Calls Try.prog 42 #[.slice a 64 cap] w fun e w' => ∃ v, e = .returned (.tuple #[v, .int .i64 (rowsTake xs).2]) ∧ OwnR 45 w (rowsTake xs).1 v w' := by
  have htake := Take_gave a 64 cap xs w 2 h64 (by decide) hb hs hcap hcm
  rw [takeR_64 h64] at htake
  have hnl : (takenL 2 xs 32).length = 32 := length_takenL _ _ _
  have hat : ∀ j (hj : j < 32), (takenL 2 xs 32)[j]? = some (numAt xs j) := fun j hj => getElem_takenL 2 xs 32 j hj
  have HAT := Lib.hid hat
  have HB := Lib.hid hb
  have H64 := Lib.hid h64
  obtain ⟨ii, hi1, hi2, hi3, hi4⟩ := infoRowE
  clear hat hb hs h64
  go_enter Try.func42, Try.ntmps42
  go_wp2_with fail
  refine htake.mono ?_
  rintro e w2 ⟨an, cn, rfl, hn, h2⟩
  dsimp only at hn
  rw [hnl] at hn
  have H2 := Lib.hid h2
  obtain ⟨b, off, rfl, hcells⟩ := (ownsRow_sl hn).ints (by rw [hnl]; decide)
  have HCN := Lib.hid (show ∀ j, j < 32 → w2.cell? ⟨b, off + j, none⟩ = some (.int .u64 (numAt xs j)) from fun j hj => by
    rw [hcells j (by rw [hnl]; exact hj)]
    have := HAT.out j hj
    rw [List.getElem?_eq_getElem (by rw [hnl]; exact hj)] at this
    injection this with this
    rw [this])
  clear htake h2 hcells hn
  dsimp only
  rw [hnl]
  clear hnl HAT
  go_wp2
  go_loopw [7, 6] (fun v u wr => ∃ (k c : Nat) (ao : Option Addr), k ≤ 16 ∧ v = .int .i64 (2 * k : Nat) ∧ u = .slice ao k c ∧ wr.ownsRow w2.heap.size 45 2 (.slice ao k c) k (rowsC (rowsQ xs k)) ∧ Ext w2 wr) (fun v _ _ => 32 - (intOf v).toNat)
  case atStart => exact ⟨0, 0, none, by omega, rfl, rfl, own2_nil _ _ _, Ext.refl _⟩
  case round =>
    obtain ⟨k, c, ao, hk, rfl, rfl, hown, hX⟩ := hrel
    have HX := Lib.hid hX
    have HOWN := Lib.hid hown
    by_cases hlt : k < 16
    · have c0 := hX.keep (HCN.out (2 * k) (by omega))
      have c1 := hX.keep (HCN.out (2 * k + 1) (by omega))
      obtain ⟨x0, x1⟩ := numAt_bd HB.out (2 * k)
      obtain ⟨y0, y1⟩ := numAt_bd HB.out (2 * k + 1)
      have hsucc := rowsQ_succ xs k
      generalize numAt xs (2 * k) = x at *
      generalize numAt xs (2 * k + 1) = y at *
      have HS := Lib.hid hsucc
      obtain ⟨q, hq⟩ : ∃ q, q = 2 * k := ⟨_, rfl⟩
      have HQ := Lib.hid hq
      rw [← hq] at c0 c1 ⊢
      have hq1 : q + 1 < 32 := by omega
      have hqi : (q : Int) + 1 < 32 := by omega
      have hqj : (q : Int) < 32 := by omega
      have hq0 : (0 : Int) ≤ q := by omega
      have hadd : IntKind.i64.wrap ((q : Int) + 1) = (q : Int) + 1 := IntWalk.i64_in _ (by omega)
      have hnn : (0 : Int) ≤ (q : Int) + 1 := by omega
      have hnat : ((q : Int) + 1).toNat = q + 1 := by omega
      have hwx : IntKind.u16.wrap x = x := IntWalk.u16_in _ (by omega)
      have hwy : IntKind.i64.wrap y = y := IntWalk.i64_in _ (by omega)
      clear hq hsucc hown hX
      have hall : ∀ v : World, Ext w2 v → (Ext w2 v ∧ v.cell? ⟨b, off + q, none⟩ = some (.int .u64 x) ∧ v.cell? ⟨b, off + (q + 1), none⟩ = some (.int .u64 y)) := fun v hv => by
        have d0 := hv.keep (HCN.out q (by omega))
        have d1 := hv.keep (HCN.out (q + 1) (by omega))
        have e0 := HX.out.keep (HCN.out q (by omega))
        have e1 := HX.out.keep (HCN.out (q + 1) (by omega))
        rw [c0] at e0
        rw [c1] at e1
        rw [← e0] at d0
        rw [← e1] at d1
        exact ⟨hv, d0, d1⟩
      have HALL := Lib.hid hall
      clear hall
      go_wp2_with fail
      go_region_held3 (fun v => Ext w2 v ∧ v.cell? ⟨b, off + q, none⟩ = some (.int .u64 x) ∧ v.cell? ⟨b, off + (q + 1), none⟩ = some (.int .u64 y)) (exact HALL.out _ (by first | assumption | (repeat (first | exact HX.out | apply Ext.drew | apply Ext.drewN | apply Ext.alloc)))) (
        (refine step_app (w2 := w2) (M := rowsQ xs k) (by rfl) _ _ (by rfl) (by rfl) (by rfl) (heap_alloc_new _ _) (by repeat (first | exact HX.out | apply Ext.drew | apply Ext.drewN | apply Ext.alloc)) (own2_ext HOWN.out (by repeat (first | exact Ext.refl _ | apply Ext.drew | apply Ext.drewN | apply Ext.alloc))) (by omega) ?_; intro a5 c5 w5 hown5 X5))
      rename_i hH
      rw [← HS.out] at hown5
      have HO5 := Lib.hid hown5
      have H5 := Lib.hid X5
      have hadd2 : IntKind.i64.wrap ((q : Int) + 2) = (q : Int) + 2 := IntWalk.i64_in _ (by omega)
      clear hown5 X5 hH HALL HOWN c0 c1
      go_wp2_with fail
      go_roundw
      case rel => exact ⟨k + 1, c5, a5, hlt, congrArg (Value.int .i64) (by have := HQ.out; omega), rfl, HO5.out, H5.out⟩
      case measure => simp [intOf]; have := HQ.out; omega
    · have : k = 16 := by omega
      subst this
      have hright := Right_ok (rowsQ xs 16) ao c wr (own2_sl hown) (rowsQ_wf HB.out 16) (by rw [rowsQ_length]; decide)
      rw [rowsQ_length] at hright
      cases hr : rightB (rowsQ xs 16)
      · rw [hr] at hright
        have HV := Lib.hid (rowsTake_no hr)
        clear hr hown hX HOWN
        go_wp2_with fail
        refine hright.mono ?_
        rintro e w3 ⟨rfl, h3⟩
        have H3 := Lib.hid ((H2.out.trans HX.out).trans h3)
        clear h3 hright
        go_wp2
        go_ret2
        rw [HV.out]
        exact ⟨_, rfl, OwnR.nil H3.out⟩
      · rw [hr] at hright
        have HV := Lib.hid (rowsTake_yes H64.out hr)
        clear hr hown hX
        go_wp2_with fail
        refine hright.mono ?_
        rintro e w3 ⟨rfl, h3⟩
        have H3 := Lib.hid ((H2.out.trans HX.out).trans h3)
        have HO3 := Lib.hid (own2_base (own2_ext HOWN.out h3) H2.out.size)
        clear h3 hright HOWN
        go_wp2
        go_ret2
        rw [HV.out]
        refine ⟨_, rfl, ao, c, by rw [rowsQ_length]; rfl, ?_, H3.out⟩
        rw [rowsQ_length]
        exact HO3.out

set_option maxHeartbeats 2000000 in
theorem RTake_ok (xs : List Int) (a : Option Addr) (n cap : Nat) (w : World) (hl : xs.length = n) (hb : isBytes xs) (hs : Sl w a (ints .u8 xs)) (hcap : n ≤ cap) (hcm : cap ≤ 9223372036854775807) :
    Calls Try.prog 42 #[.slice a n cap] w fun e w' => ∃ v, e = .returned (.tuple #[v, .int .i64 (rowsTake xs).2]) ∧ OwnR 45 w (rowsTake xs).1 v w' := by
  by_cases h : xs.length = 64
  · obtain rfl : n = 64 := by omega
    exact RTake_64 xs a cap w h hb hs hcap hcm
  · have htake := Take_gave a n cap xs w 2 hl (by omega) hb hs hcap hcm
    rw [rowsTake_len h]
    have hoth := takeR_other h
    generalize takeR 2 xs = R at *
    obtain ⟨N, c⟩ := R
    dsimp only at hoth
    clear hb hs hl h
    rcases hoth with h1 | ⟨h1, h2⟩
    · go_enter Try.func42, Try.ntmps42
      go_wp2_with fail
      refine htake.mono ?_
      rintro e w2 ⟨an, cn, rfl, hn, h2⟩
      have H2 := Lib.hid h2
      clear hn h2 htake
      dsimp only
      go_wp2
      go_ret2
      exact ⟨_, rfl, OwnR.nil H2.out⟩
    · subst h1
      have h2' : ¬ ((N.length : Int) = 32) := by omega
      go_enter Try.func42, Try.ntmps42
      go_wp2_with fail
      refine htake.mono ?_
      rintro e w2 ⟨an, cn, rfl, hn, h3⟩
      have H2 := Lib.hid h3
      clear hn h3 htake
      dsimp only
      generalize N.length = m at *
      go_wp2
      go_ret2
      exact ⟨_, rfl, OwnR.nil H2.out⟩
end Go.Proofs.Ytnodinancnfoeaa.Intern
