/- The walk of the law MetaOwn (printed by gen_own14.py). -/
import Derived.Test.YtnodinancnfoeaaMtW
namespace Go.Proofs.Ytnodinancnfoeaa.Mt
open Go.RowKit Words Mem Plain Ops Agg OwnS Intern Ino
set_option linter.ambiguousOpen false
set_option linter.unusedVariables false
set_option linter.unusedSimpArgs false

theorem layM_bytes {J I G P : Int} {M : MetaT} (hu : isBytes M.used) : ∀ xs ∈ (layM J I G P M).1, isBytes xs := by
  intro xs hx
  cases hr : rightM J I G P M
  · rw [show layM J I G P M = ([], 1) by unfold layM; rw [hr]; rfl] at hx
    cases hx
  · rw [show layM J I G P M = (sectM M, 0) by unfold layM; rw [if_pos hr]] at hx
    obtain ⟨_, r2, _, r4, _, r6, r7, _⟩ := rightM_out hr
    unfold sectM at hx
    simp only [List.mem_cons] at hx
    rcases hx with rfl | rfl | rfl | hx
    · exact Field.isBytes_layed _ _
    · intro x hx
      unfold ownersB at hx
      rcases List.mem_append.1 hx with hx | hx
      · have := r6 x hx; omega
      · obtain rfl := List.eq_of_mem_replicate hx; decide
    · exact hu
    · have : ∀ (L : List Ino), ∀ ys ∈ pairsI L, isBytes ys := by
        intro L
        induction L using pairsI.induct with
        | case1 a b L ih =>
          intro ys hy
          simp only [pairsI, List.mem_cons] at hy
          rcases hy with rfl | hy
          · exact isBytes_append.2 ⟨Ino.bytes_isBytes _, Ino.bytes_isBytes _⟩
          · exact ih ys hy
        | case2 L h =>
          intro ys hy
          match L, h with
          | [], _ => cases hy
          | [a], _ => cases hy
          | a :: b :: L, h => exact absurd rfl (h a b L)
      exact this _ xs hx
theorem pairsI_le : ∀ L : List Ino, (pairsI L).length ≤ L.length
  | [] => Nat.zero_le _
  | [a] => Nat.zero_le _
  | a :: b :: L => by
    have := pairsI_le L
    simp [pairsI]; omega
theorem lay_len {J I G P : Int} {M : MetaT} (h : M.inodes.length ≤ 1000) : (layM J I G P M).1.length ≤ 1003 := by
  have := pairsI_le M.inodes
  unfold layM
  split
  · simp [sectM]; omega
  · simp
set_option maxHeartbeats 16000000 in
set_option maxRecDepth 100000 in
theorem own_walk (J I G P : Int) (p : Pl) (M : MetaT) (w : World) (hin : M.small → MetaIn w p M) :
    Calls Try.prog 4 #[Super.geoV J I G P, metaV p M] w fun e w' => e = .returned (.bool true) ∧ Ext w w' := by
  obtain ⟨hbox, hbx⟩ := BoxAt.new w J I G P p M
  have hsh := shown_ok (boxW w J I G P p M)
  have hsb : (boxW w J I G P p M).heap.size = w.heap.size + 2 := by simp [boxW]
  have HBX := Lib.hid hbx
  have HBOX := Lib.hid hbox
  have HSB := Lib.hid hsb
  have HIN := Lib.hid hin
  clear hbox hbx hin hsb
  go_enter Try.func4, Try.ntmps4
  go_wp2_with fail
  refine hsh.mono ?_
  rintro e w1 ⟨rfl, h1⟩
  have HX1 := Lib.hid (HBX.out.trans h1)
  have HZ1 := Lib.hid (HSB.out ▸ h1.size)
  have HB1 := Lib.hid (HBOX.out.ext h1)
  obtain ⟨⟨g0, g1, g2, g3⟩, m0, m1, m2, m3⟩ := HB1.out
  clear h1 hsh HBOX HSB
  have hsm := small_ok p M w1
  obtain ⟨sb, hsb⟩ : ∃ q, q = decide (M.rows.length ≤ 100 ∧ M.owners.length ≤ 100 ∧ M.used.length ≤ 200 ∧ M.inodes.length ≤ 100) := ⟨_, rfl⟩
  rw [← hsb] at hsm
  have HSB := Lib.hid hsb
  clear hsb
  go_wp2_with fail
  refine hsm.mono ?_
  rintro e w2 ⟨rfl, h2⟩
  have HX2 := Lib.hid (HX1.out.trans h2)
  have HZ2 := Lib.hid (Nat.le_trans HZ1.out h2.size)
  have HB2 := Lib.hid (HB1.out.ext h2)
  clear h2 hsm g0 g1 g2 g3 m0 m1 m2 m3 HB1
  obtain ⟨⟨g0, g1, g2, g3⟩, m0, m1, m2, m3⟩ := HB2.out
  cases sb
  · go_wp2
    go_ret
    exact ⟨rfl, HX2.out⟩
  have hsmall : M.small := by simpa [MetaT.small] using HSB.out.symm
  have HM := Lib.hid (HIN.out hsmall)
  have hf := HM.out.few
  have hz := zeroMeta
  clear hsmall HIN HSB
  -- c
  have hcp := Copy_ok p M w2 (HM.out.ext HX2.out)
  go_wp2_with fail
  refine hcp.mono ?_
  rintro e w3 ⟨c, rfl, hc3, h3⟩
  have HC3 := Lib.hid hc3
  have HE3 := Lib.hid h3
  have hX3 := (Ext.refl w3).alloc (.cells #[.slice c.ra M.rows.length c.rc, .slice c.oa M.owners.length c.oc, .slice c.ua M.used.length c.uc, .slice c.ia M.inodes.length c.ic] 29)
  have HBC := Lib.hid (BoxM.new w3 c M)
  have HX3 := Lib.hid (HX2.out.trans (h3.trans hX3))
  have HB3 := Lib.hid (HB2.out.ext (h3.trans hX3))
  have HZ3 := Lib.hid (show (w3.alloc (.cells #[.slice c.ra M.rows.length c.rc, .slice c.oa M.owners.length c.oc, .slice c.ua M.used.length c.uc, .slice c.ia M.inodes.length c.ic] 29)).heap.size = w3.heap.size + 1 by simp)
  obtain ⟨bc, hbc⟩ : ∃ q, q = w3.heap.size := ⟨_, rfl⟩
  have HBCE := Lib.hid hbc
  have HXC := Lib.hid hX3
  clear hc3 h3 hX3 hcp g0 g1 g2 g3 m0 m1 m2 m3
  obtain ⟨⟨g0, g1, g2, g3⟩, m0, m1, m2, m3⟩ := HB3.out
  have hcp := Copy_ok p M _ (HM.out.ext HX3.out)
  go_wp2_with fail
  generalize hw4 : w3.alloc (.cells #[.slice c.ra M.rows.length c.rc, .slice c.oa M.owners.length c.oc, .slice c.ua M.used.length c.uc, .slice c.ia M.inodes.length c.ic] 29) = w4 at *
  clear hw4
  rw [← hbc] at HBC ⊢
  clear hbc
  refine hcp.mono ?_
  rintro e w5 ⟨d, rfl, hd5, h5⟩
  have HD5 := Lib.hid hd5
  have hX5 := (Ext.refl w5).alloc (.cells #[.slice d.ra M.rows.length d.rc, .slice d.oa M.owners.length d.oc, .slice d.ua M.used.length d.uc, .slice d.ia M.inodes.length d.ic] 29)
  have HBD := Lib.hid (BoxM.new w5 d M)
  have HE5 := Lib.hid h5
  have HX5 := Lib.hid (HX3.out.trans (h5.trans hX5))
  have HB5 := Lib.hid (HB3.out.ext (h5.trans hX5))
  have HBC5 := Lib.hid (HBC.out.ext (h5.trans hX5))
  have HXD := Lib.hid hX5
  have HZ5 := Lib.hid (show (w5.alloc (.cells #[.slice d.ra M.rows.length d.rc, .slice d.oa M.owners.length d.oc, .slice d.ua M.used.length d.uc, .slice d.ia M.inodes.length d.ic] 29)).heap.size = w5.heap.size + 1 by simp)
  obtain ⟨bd, hbd⟩ : ∃ q, q = w5.heap.size := ⟨_, rfl⟩
  have HBDE := Lib.hid hbd
  have hsame := Same_yes c p M _ ((HC3.out.ext (HXC.out.trans (h5.trans hX5))).in_) (HM.out.ext HX5.out)
  clear hd5 h5 hX5 hcp g0 g1 g2 g3 m0 m1 m2 m3
  obtain ⟨⟨g0, g1, g2, g3⟩, m0, m1, m2, m3⟩ := HB5.out
  obtain ⟨q0, q1, q2, q3⟩ := HBC5.out
  go_wp2_with fail
  generalize hw6 : w5.alloc (.cells #[.slice d.ra M.rows.length d.rc, .slice d.oa M.owners.length d.oc, .slice d.ua M.used.length d.uc, .slice d.ia M.inodes.length d.ic] 29) = w6 at *
  clear hw6
  rw [← hbd] at HBD ⊢
  clear hbd
  refine hsame.mono ?_
  rintro e w7 ⟨rfl, h7⟩
  have HX7 := Lib.hid (HX5.out.trans h7)
  have HB7 := Lib.hid (HB5.out.ext h7)
  have HX67 := Lib.hid h7
  clear hsame h7 g0 g1 g2 g3 m0 m1 m2 m3 q0 q1 q2 q3
  obtain ⟨⟨g0, g1, g2, g3⟩, m0, m1, m2, m3⟩ := HB7.out
  have hlay := Lay_ok J I G P p M w7 (HM.out.ext HX7.out)
  have HLB := Lib.hid (layM_bytes (J := J) (I := I) (G := G) (P := P) HM.out.bu)
  have HLAY := Lib.hid (fun (v : World) (e : Ext w v) => Lay_ok J I G P p M v (HM.out.ext e))
  have hll := Lib.hid (show (layM J I G P M).1.length ≤ 1003 from lay_len (by have := HM.out.few; omega))
  generalize layM J I G P M = LM at *
  obtain ⟨L, code⟩ := LM
  dsimp only at *
  obtain ⟨nl, hnl⟩ : ∃ q, q = L.length := ⟨_, rfl⟩
  rw [← hnl] at hlay HLAY hll
  clear hnl
  have hl1000 := hll.out
  go_wp2_with fail
  refine hlay.mono ?_
  rintro e w8 ⟨al, cl, rfl, hS8, h8⟩
  have HS8 := Lib.hid hS8
  have HX8 := Lib.hid (HX7.out.trans h8)
  have HE8 := Lib.hid h8
  have HB8 := Lib.hid (HB7.out.ext h8)
  have hlay := HLAY.out w8 HX8.out
  clear hS8 h8 g0 g1 g2 g3 m0 m1 m2 m3
  obtain ⟨⟨g0, g1, g2, g3⟩, m0, m1, m2, m3⟩ := HB8.out
  go_wp2_with fail
  refine hlay.mono ?_
  rintro e w9 ⟨ak, ck, rfl, hS9, h9⟩
  have HS9 := Lib.hid hS9
  have HX9 := Lib.hid (HX8.out.trans h9)
  have HE9 := Lib.hid h9
  have HB9 := Lib.hid (HB8.out.ext h9)
  clear hlay hS9 h9 g0 g1 g2 g3 m0 m1 m2 m3
  -- who may turn
  obtain ⟨F, hF⟩ : ∃ F : Nat → Prop, F = fun q => (w7.heap.size ≤ q ∧ q < w8.heap.size) ∨ (w2.heap.size ≤ q ∧ q < w3.heap.size) := ⟨_, rfl⟩
  have HF := Lib.hid (show ∀ q, F q ↔ ((w7.heap.size ≤ q ∧ q < w8.heap.size) ∨ (w2.heap.size ≤ q ∧ q < w3.heap.size)) from fun q => by rw [hF])
  clear hF
  obtain ⟨F1, hF1⟩ : ∃ F : Nat → Prop, F = fun q => (w7.heap.size ≤ q ∧ q < w8.heap.size) := ⟨_, rfl⟩
  have HF1 := Lib.hid (show ∀ q, F1 q ↔ (w7.heap.size ≤ q ∧ q < w8.heap.size) from fun q => by rw [hF1])
  clear hF1
  have HSZ := Lib.hid (show w.heap.size + 2 ≤ w2.heap.size ∧ w2.heap.size ≤ w3.heap.size ∧ w4.heap.size = w3.heap.size + 1 ∧ w4.heap.size ≤ w5.heap.size ∧ w6.heap.size = w5.heap.size + 1 ∧ w6.heap.size ≤ w7.heap.size ∧ w7.heap.size ≤ w8.heap.size ∧ w8.heap.size ≤ w9.heap.size from ⟨HZ2.out, HE3.out.size, HZ3.out, HE5.out.size, HZ5.out, HX67.out.size, HE8.out.size, HE9.out.size⟩)
  have HBC9 := Lib.hid (HBC5.out.ext (HX67.out.trans (HE8.out.trans HE9.out)))
  have HWL := Lib.hid (HS8.out.wl.ext HE9.out)
  have HCW := Lib.hid (HC3.out.cw.ext (HXC.out.trans (HE5.out.trans (HXD.out.trans (HX67.out.trans (HE8.out.trans HE9.out))))))
  clear HZ2 HZ3 HZ5
  go_wp2_with fail
  go_loopw [47] (fun v wr => ∃ k : Nat, k ≤ nl ∧ v = .int .i64 k ∧ WL wr w7.heap.size w8.heap.size al nl ∧ Chg F1 w9 wr) (fun v _ => nl - (intOf v).toNat)
  case atStart => exact ⟨0, by omega, rfl, HWL.out, Chg.refl _ _⟩
  case round =>
    obtain ⟨k, hk, rfl, hwl, hchg⟩ := hrel
    have HWK := Lib.hid hwl
    have HCK := Lib.hid hchg
    clear hwl hchg
    by_cases hlt : k < nl
    · obtain ⟨ao, b, c', hal, hco, hbo, hHU⟩ := HWK.out k hlt
      have HUB := Lib.hid hHU
      have hkn : (k : Int) < nl := by omega
      have hk0 : (0 : Int) ≤ k := by omega
      have HAL := Lib.hid hal
      rw [hal]
      go_wp2
      go_loopw [55] (fun v wi => ∃ j : Nat, j ≤ 64 ∧ v = .int .i64 j ∧ WL wi w7.heap.size w8.heap.size al nl ∧ Chg F1 w9 wi ∧ wi.cell? ⟨ao, k, none⟩ = some (.slice (some ⟨b, 0, none⟩) 64 c') ∧ HU wi w7.heap.size w8.heap.size (some ⟨b, 0, none⟩) 64) (fun v _ => 64 - (intOf v).toNat)
      case atStart => exact ⟨0, by omega, rfl, HWK.out, HCK.out, hco, HUB.out⟩
      case round =>
        obtain ⟨j, hj, rfl, hwl, hchg, hco2, hHU2⟩ := hrel
        have HWJ := Lib.hid hwl
        have HCJ := Lib.hid hchg
        have HUJ := Lib.hid hHU2
        clear hwl hchg hHU2 hHU hco
        by_cases hlj : j < 64
        · obtain ⟨b', M', hb', hbd, hrow, hM⟩ := HUJ.out
          cases hb'
          obtain ⟨y, hy⟩ := hM j hlj
          have hcell := (hrow.cell? j).trans hy
          have hfz := hrow.frozen j
          have hjn : (j : Int) < 64 := by omega
          have hj0 : (0 : Int) ≤ j := by omega
          have HFB := Lib.hid ((HF1.out b).2 hbd)
          have HNE := Lib.hid (show ∀ ao', al = some ⟨ao', 0, none⟩ → b ≠ ao' from fun ao' e => by rw [HAL.out] at e; cases e; exact hbo)
          have HCO := Lib.hid hco2
          have HBO := Lib.hid hbo
          have hlb := World.block_lt_of_cell? wr _ hco2
          have HKC := Lib.hid (show ∀ z : Value, (wr.setCell ⟨b, j, none⟩ z).cell? ⟨ao, k, none⟩ = some (.slice (some ⟨b, 0, none⟩) 64 c') from fun z => by
            rw [World.cell?_of_block (w := wr) ((By.set wr b j z).block ao hlb (by simpa using hbo.symm))]
            exact hco2)
          clear hM hy hlb hrow
          go_wp2
          go_roundw
          case rel => exact ⟨j + 1, hlj, by go_num, HWJ.out.set HNE.out j _, HCJ.out.set HFB.out j _, HKC.out _, HUJ.out.set b j _⟩
          case measure => simp [intOf]; omega
        · obtain rfl : j = 64 := by omega
          clear hco2
          go_wp2
          go_roundw
          case rel => exact ⟨k + 1, hlt, by go_num, by rw [← HAL.out]; exact HWJ.out, HCJ.out⟩
          case measure => simp [intOf]; omega
    · obtain rfl : k = nl := by omega
      clear hk hlt
      have HCW1 := Lib.hid (show CW wr w2.heap.size w3.heap.size c M from HCW.out.chg (fun q h1 h2 => HCK.out.block q (by have := HSZ.out; omega) (fun hf => by have := (HF1.out q).1 hf; have := HSZ.out; omega)))
      have HCK := Lib.hid (HCK.out.mono (fun q hq => (HF.out q).2 (.inl ((HF1.out q).1 hq))))
      have hbcq := fun (v : World) (h : Chg F w9 v) => (show BoxM v bc c M from by
        obtain ⟨x0, x1, x2, x3⟩ := HBC9.out
        have hn : ¬ F bc := fun hf => by have := (HF.out bc).1 hf; have := HSZ.out; have := HBCE.out; omega
        exact ⟨h.cell x0 hn, h.cell x1 hn, h.cell x2 hn, h.cell x3 hn⟩)
      have HBQ := Lib.hid hbcq
      clear hbcq
      obtain ⟨q0, q1, q2, q3⟩ := HBQ.out _ HCK.out
      go_wp2
      go_loopw [72] (fun v w1' => ∃ i : Nat, i ≤ M.rows.length ∧ v = .int .i64 i ∧ CW w1' w2.heap.size w3.heap.size c M ∧ Chg F w9 w1') (fun v _ => M.rows.length - (intOf v).toNat)
      case atStart => exact ⟨0, by omega, rfl, HCW1.out, HCK.out⟩
      case round =>
        obtain ⟨i, hi, rfl, hcw, hchg⟩ := hrel
        have HCWi := Lib.hid hcw
        have HCi := Lib.hid hchg
        clear hcw hchg q0 q1 q2 q3
        obtain ⟨q0, q1, q2, q3⟩ := HBQ.out _ HCi.out
        by_cases hlt : i < M.rows.length
        · obtain ⟨b, M', hra, hbd, hrow, hlen⟩ := HCWi.out.rows (by omega)
          obtain ⟨cc, hcell⟩ : ∃ v, wr.cell? ⟨b, i * 2 + 1, none⟩ = some v := ⟨_, hrow.cell (by omega)⟩
          have hfz := hrow.frozen (i * 2 + 1)
          have hin : (i : Int) < (M.rows.length : Int) := by omega
          have hi0 : (0 : Int) ≤ i := by omega
          have HFB := Lib.hid ((HF.out b).2 (.inr hbd))
          have HRW := Lib.hid hrow
          rw [hra] at q0
          have hra2 := Lib.hid hra
          clear hra hrow q1 q2 q3 hlen
          go_wp2
          go_roundw
          case rel => exact ⟨i + 1, hlt, by go_num, HCWi.out.far HRW.out (by decide) _ _, HCi.out.set HFB.out _ _⟩
          case measure => simp [intOf]; omega
        · obtain rfl : i = M.rows.length := by omega
          go_wp2
          go_loopw [84] (fun v w1' => ∃ i : Nat, i ≤ M.owners.length ∧ v = .int .i64 i ∧ CW w1' w2.heap.size w3.heap.size c M ∧ Chg F w9 w1') (fun v _ => M.owners.length - (intOf v).toNat)
          case atStart => exact ⟨0, by omega, rfl, HCWi.out, HCi.out⟩
          case round =>
            obtain ⟨i, hi, rfl, hcw, hchg⟩ := hrel
            have HCWi := Lib.hid hcw
            have HCi := Lib.hid hchg
            clear hcw hchg q0 q1 q2 q3
            obtain ⟨q0, q1, q2, q3⟩ := HBQ.out _ HCi.out
            by_cases hlt : i < M.owners.length
            · obtain ⟨b, M', hra, hbd, hrow, hlen⟩ := HCWi.out.owners (by omega)
              obtain ⟨cc, hcell⟩ : ∃ v, wr.cell? ⟨b, i, none⟩ = some v := ⟨_, hrow.cell (by omega)⟩
              have hfz := hrow.frozen i
              have hin : (i : Int) < (M.owners.length : Int) := by omega
              have hi0 : (0 : Int) ≤ i := by omega
              have HFB := Lib.hid ((HF.out b).2 (.inr hbd))
              have HRW := Lib.hid hrow
              rw [hra] at q1
              clear hra hrow q0 q2 q3 hlen
              go_wp2
              go_roundw
              case rel => exact ⟨i + 1, hlt, by go_num, HCWi.out.far HRW.out (by decide) _ _, HCi.out.set HFB.out _ _⟩
              case measure => simp [intOf]; omega
            · obtain rfl : i = M.owners.length := by omega
              go_wp2
              go_loopw [95] (fun v w1' => ∃ i : Nat, i ≤ M.used.length ∧ v = .int .i64 i ∧ CW w1' w2.heap.size w3.heap.size c M ∧ Chg F w9 w1') (fun v _ => M.used.length - (intOf v).toNat)
              case atStart => exact ⟨0, by omega, rfl, HCWi.out, HCi.out⟩
              case round =>
                obtain ⟨i, hi, rfl, hcw, hchg⟩ := hrel
                have HCWi := Lib.hid hcw
                have HCi := Lib.hid hchg
                clear hcw hchg q0 q1 q2 q3
                obtain ⟨q0, q1, q2, q3⟩ := HBQ.out _ HCi.out
                by_cases hlt : i < M.used.length
                · obtain ⟨b, M', hra, hbd, hrow, hM⟩ := HCWi.out.used (by omega)
                  obtain ⟨y, hy⟩ := hM i hlt
                  have hcell := (hrow.cell? i).trans hy
                  have hfz := hrow.frozen i
                  have hin : (i : Int) < (M.used.length : Int) := by omega
                  have hi0 : (0 : Int) ≤ i := by omega
                  have HFB := Lib.hid ((HF.out b).2 (.inr hbd))
                  rw [hra] at q2
                  clear hra hrow q0 q1 q3 hM hy
                  go_wp2
                  go_roundw
                  case rel => exact ⟨i + 1, hlt, by go_num, HCWi.out.set8 _ _ _, HCi.out.set HFB.out _ _⟩
                  case measure => simp [intOf]; omega
                · obtain rfl : i = M.used.length := by omega
                  go_wp2
                  go_loopw [109] (fun v w1' => ∃ i : Nat, i ≤ M.inodes.length ∧ v = .int .i64 i ∧ CW w1' w2.heap.size w3.heap.size c M ∧ Chg F w9 w1') (fun v _ => M.inodes.length - (intOf v).toNat)
                  case atStart => exact ⟨0, by omega, rfl, HCWi.out, HCi.out⟩
                  case round =>
                    obtain ⟨i, hi, rfl, hcw, hchg⟩ := hrel
                    have HCWi := Lib.hid hcw
                    have HCi := Lib.hid hchg
                    clear hcw hchg q0 q1 q2 q3
                    obtain ⟨q0, q1, q2, q3⟩ := HBQ.out _ HCi.out
                    by_cases hlt : i < M.inodes.length
                    · obtain ⟨b, M', hra, hbd, hrow, hlen⟩ := HCWi.out.inodes (by omega)
                      obtain ⟨cc, hcell⟩ : ∃ v, wr.cell? ⟨b, i * 14 + 3, none⟩ = some v := ⟨_, hrow.cell (by omega)⟩
                      have hfz := hrow.frozen (i * 14 + 3)
                      have hin : (i : Int) < (M.inodes.length : Int) := by omega
                      have hi0 : (0 : Int) ≤ i := by omega
                      have HFB := Lib.hid ((HF.out b).2 (.inr hbd))
                      have HRW := Lib.hid hrow
                      rw [hra] at q3
                      clear hra hrow q0 q1 q2 hlen
                      go_wp2
                      go_roundw
                      case rel => exact ⟨i + 1, hlt, by go_num, HCWi.out.far HRW.out (by decide) _ _, HCi.out.set HFB.out _ _⟩
                      case measure => simp [intOf]; omega
                    · obtain rfl : i = M.inodes.length := by omega
                      clear q0 q1 q2 q3
                      have HXE := Lib.hid (Chg.ext HX9.out HCi.out (fun q hq => by have := (HF.out q).1 hq; have := HSZ.out; omega))
                      have HBE := Lib.hid (show BoxAt wr w.heap.size (w.heap.size + 1) J I G P p M from by
                        obtain ⟨⟨x0, x1, x2, x3⟩, y0, y1, y2, y3⟩ := HB9.out
                        have n0 : ¬ F w.heap.size := fun hf => by have := (HF.out _).1 hf; have := HSZ.out; omega
                        have n1 : ¬ F (w.heap.size + 1) := fun hf => by have := (HF.out _).1 hf; have := HSZ.out; omega
                        have hc := HCi.out
                        exact ⟨⟨hc.cell x0 n0, hc.cell x1 n0, hc.cell x2 n0, hc.cell x3 n0⟩, hc.cell y0 n1, hc.cell y1 n1, hc.cell y2 n1, hc.cell y3 n1⟩)
                      have HBDE2 := Lib.hid (show BoxM wr bd d M from by
                        obtain ⟨x0, x1, x2, x3⟩ := HBD.out.ext (HX67.out.trans (HE8.out.trans HE9.out))
                        have n0 : ¬ F bd := fun hf => by have := (HF.out _).1 hf; have := HSZ.out; have := HBDE.out; omega
                        have hc := HCi.out
                        exact ⟨hc.cell x0 n0, hc.cell x1 n0, hc.cell x2 n0, hc.cell x3 n0⟩)
                      have HDE := Lib.hid (show MetaAt wr w4.heap.size d M from HD5.out.via (fun q h1 h2 => by
                        have e1 := (HXD.out.trans (HX67.out.trans (HE8.out.trans HE9.out))).block q h2
                        have e2 := HCi.out.block q (by have := HSZ.out; omega) (fun hf => by have := (HF.out q).1 hf; have := HSZ.out; omega)
                        exact e2.trans e1))
                      have HKE := Lib.hid (show LsIn wr ak _ L from (HS9.out.via (fun q h1 h2 => HCi.out.block q h2 (fun hf => by have := (HF.out q).1 hf; have := HSZ.out; omega))).ls HLB.out)
                      obtain ⟨⟨g0, g1, g2, g3⟩, m0, m1, m2, m3⟩ := HBE.out
                      have hlay := HLAY.out wr HXE.out
                      go_wp2_with fail
                      refine hlay.mono ?_
                      rintro e v1 ⟨aa, ca, rfl, hSa, hxa⟩
                      have HSA := Lib.hid (hSa.ls HLB.out)
                      have HXA := Lib.hid (HXE.out.trans hxa)
                      have HMA := Lib.hid (show MetaIn v1 d M from (HDE.out.ext hxa).in_)
                      have HKA := Lib.hid (HKE.out.ext hxa)
                      obtain ⟨d0, d1, d2, d3⟩ := HBDE2.out.ext hxa
                      clear hlay hSa g0 g1 g2 g3 m0 m1 m2 m3
                      obtain ⟨⟨g0, g1, g2, g3⟩, m0, m1, m2, m3⟩ := HBE.out.ext hxa
                      have hsame := Same_yes d p M v1 HMA.out (HM.out.ext HXA.out)
                      have hq1 : (code == code) = true := by simp
                      clear hxa
                      go_wp2_with fail
                      refine hsame.mono ?_
                      rintro e v2 ⟨rfl, hx2⟩
                      have hss := SameS_ok aa _ ca L ak _ ck L v2 (HSA.out.ext hx2) (HKA.out.ext hx2) (by omega)
                      rw [show sameLs L L = true by simp [sameLs]] at hss
                      have HX2' := Lib.hid (HXA.out.trans hx2)
                      clear hsame hx2
                      go_wp2_with fail
                      refine hss.mono ?_
                      rintro e v3 ⟨rfl, hx3⟩
                      have HX3' := Lib.hid (HX2'.out.trans hx3)
                      clear hss hx3
                      go_wp2
                      go_ret
                      exact ⟨rfl, HX3'.out⟩
end Go.Proofs.Ytnodinancnfoeaa.Mt
