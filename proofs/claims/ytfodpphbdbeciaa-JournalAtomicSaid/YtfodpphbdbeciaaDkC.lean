/- The disk's Crash (written by gen_crash.py). -/
import Derived.Test.YtfodpphbdbeciaaDkX
namespace Go.Proofs.Ytfodpphbdbeciaa.Dk
open Go.RowKit Words Mem Plain Ops Agg OwnS
set_option maxRecDepth 100000
set_option linter.ambiguousOpen false
set_option linter.unusedVariables false
set_option linter.unusedSimpArgs false

def undoS (secs : List Sec) (W : List Wt) : List Sec := W.foldr (fun x s => s.set x.pos.toNat x.was) secs
theorem undoS_len (secs : List Sec) (W : List Wt) : (undoS secs W).length = secs.length := by
  induction W with
  | nil => rfl
  | cons x W ih => show (List.set _ _ _).length = _; rw [List.length_set]; exact ih
theorem undoS_step (secs : List Sec) (W : List Wt) (q : Nat) (h : q < W.length) : undoS secs (W.drop q) = (undoS secs (W.drop (q + 1))).set W[q].pos.toNat W[q].was := by
  rw [List.drop_eq_getElem_cons h]; rfl
def bitB (there : Int) (j : Nat) : Bool := bits BinOp.and IntKind.u64 (there / 2 ^ (j % 64)) 1 == 1
def redoN (there : Int) (secs : List Sec) (W : List Wt) : Nat → List Sec
  | 0 => secs
  | j + 1 => match W[j]? with
    | some x => if bitB there j = true then (redoN there secs W j).set x.pos.toNat x.now else redoN there secs W j
    | none => redoN there secs W j
theorem redoN_len (there : Int) (secs : List Sec) (W : List Wt) : ∀ j, (redoN there secs W j).length = secs.length
  | 0 => rfl
  | j + 1 => by
    unfold redoN
    split
    · split
      · rw [List.length_set]; exact redoN_len there secs W j
      · exact redoN_len there secs W j
    · exact redoN_len there secs W j
theorem redoN_yes {there : Int} {secs : List Sec} {W : List Wt} {j : Nat} (h : j < W.length) (hb : bitB there j = true) : redoN there secs W (j + 1) = (redoN there secs W j).set W[j].pos.toNat W[j].now := by
  conv => lhs; unfold redoN
  rw [List.getElem?_eq_getElem h]
  simp only [hb, if_true]
theorem redoN_no {there : Int} {secs : List Sec} {W : List Wt} {j : Nat} (h : j < W.length) (hb : bitB there j = false) : redoN there secs W (j + 1) = redoN there secs W j := by
  conv => lhs; unfold redoN
  rw [List.getElem?_eq_getElem h]
  simp only [hb, Bool.false_eq_true, if_false]
def crashR (D : Dsk) (there : Int) : Dsk := ⟨redoN there (undoS D.secs D.waits) D.waits D.waits.length, [], false, -1, D.done⟩
/-- A sector is put back. -/
theorem DiskAt.setSec {w : World} {base g gs : Nat} {sc : Nat} {wa : Option Addr} {wc : Nat} {D : Dsk} (h : DiskAt w base g (some ⟨gs, 0, none⟩) sc wa wc D) {k : Nat} (hk : k < D.secs.length) (s : Sec) :
    DiskAt (w.setCells gs (k * 65) (secC s)) base g (some ⟨gs, 0, none⟩) sc wa wc { D with secs := D.secs.set k s } := by
  have b7 := gb_setCells gs (secC s) w (k * 65)
  have hgsg : gs ≠ g := h.sg ⟨gs, 0, none⟩ rfl
  have hsl : (D.secs.set k s).length = D.secs.length := List.length_set ..
  refine ⟨?_, ?_, ?_, h.hb, h.sg, h.wg, h.sw⟩
  · refine (b7.block g h.row.lt (by simpa using hgsg.symm)).trans ?_
    show _ = some (Obj.cells (dRow _ _ _ _ _).toArray _ _)
    unfold dRow
    dsimp only
    rw [hsl]
    exact h.row
  · dsimp only
    rw [hsl]
    exact ownS_set secC_len h.secs rfl hk s
  · exact ownS_block h.waits (fun ad e => b7.block ad.block (ownS_lt h.waits ad e).2 (by simp; exact (h.sw ⟨gs, 0, none⟩ ad rfl e).symm))

set_option maxRecDepth 100000 in
set_option maxHeartbeats 4000000 in
theorem Crash_walk {base g gs : Nat} {sc : Nat} {wa : Option Addr} {wc : Nat} {D : Dsk} {w : World} (h : DiskAt w base g (some ⟨gs, 0, none⟩) sc wa wc D) (hm : D.waits.length ≤ 100000000) (hn : D.secs.length ≤ 4096) (hpos : ∀ x ∈ D.waits, 0 ≤ x.pos ∧ x.pos < D.secs.length) (there : Int) :
    Calls Try.prog 21 #[.pointer (some ⟨g, 0, none⟩), .int .u64 there] w fun e w' => e = .returned (.tuple #[]) ∧ DiskAt w' base g (some ⟨gs, 0, none⟩) sc none 0 (crashR D there) ∧ Chg (foot g (some ⟨gs, 0, none⟩) wa) w w' := by
  obtain ⟨c0, c1, c2, c3, c4⟩ := h.cells
  have HD := Lib.hid h
  have HPOS := Lib.hid hpos
  obtain ⟨m, hmm⟩ : ∃ m, m = D.waits.length := ⟨_, rfl⟩
  obtain ⟨n, hnn⟩ : ∃ n, n = D.secs.length := ⟨_, rfl⟩
  have HM := Lib.hid hmm
  have HN := Lib.hid hnn
  rw [← hmm] at c1 hm
  rw [← hnn] at c0 hn
  clear h hpos hmm hnn
  have hsub : IntKind.i64.wrap ((m : Int) - 1) = (m : Int) - 1 := IntWalk.i64_in _ (by omega)
  go_enter Try.func21, Try.ntmps21
  go_wp2
  clear c0 c1 c2 c3 c4
  go_loopw [4] (fun v wr => ∃ q : Nat, q ≤ m ∧ v = .int .i64 ((q : Int) - 1) ∧ DiskAt wr base g (some ⟨gs, 0, none⟩) sc wa wc { D with secs := undoS D.secs (D.waits.drop q) } ∧ Chg (foot g (some ⟨gs, 0, none⟩) wa) w wr) (fun v _ => (intOf v + 1).toNat)
  case atStart => exact ⟨m, Nat.le_refl _, rfl, by rw [HM.out, List.drop_length]; exact HD.out, Chg.refl _ _⟩
  case round =>
    obtain ⟨q0, hq, rfl, hD, hC⟩ := hrel
    by_cases hlt : 0 < q0
    · obtain ⟨q, rfl⟩ : ∃ q, q0 = q + 1 := ⟨q0 - 1, by omega⟩
      have hqi : ((q + 1 : Nat) : Int) - 1 = (q : Int) := by omega
      rw [hqi]
      have hqm : q < D.waits.length := by rw [← HM.out]; omega
      obtain ⟨c0, c1, c2, c3, c4⟩ := hD.cells
      dsimp only at c0 c1
      rw [undoS_len, ← HN.out] at c0
      rw [← HM.out] at c1
      obtain ⟨gw, hgw, _, hrw, _⟩ := ownS_elem wtC_len hD.waits rfl hqm
      obtain ⟨p0, p1⟩ := HPOS.out _ (List.getElem_mem hqm)
      have hstep := undoS_step D.secs D.waits q hqm
      obtain ⟨x, hx⟩ : ∃ x, x = D.waits[q] := ⟨_, rfl⟩
      rw [← hx] at p0 p1 hstep
      have hrw' : wr.rangeAt gw (q * 131) (wtC x) := by rw [hx]; exact hrw
      obtain ⟨p, hp⟩ : ∃ p : Nat, x.pos = p := ⟨x.pos.toNat, by omega⟩
      have hpn : p < n := by rw [HN.out]; omega
      have hcp : wr.cell? ⟨gw, q * 131, none⟩ = some (.int .i64 p) := by
        have := hrw' 0 _ rfl
        rw [← hp]; exact this
      obtain ⟨WS, hWS⟩ : ∃ q, q = secC x.was := ⟨_, rfl⟩
      have hrws : wr.rangeAt gw (q * 131 + 1) WS := fun j v hv => by
        have hj : j < 65 := by
          have := (List.getElem?_eq_some_iff.1 hv).1
          rw [hWS, secC_len] at this; exact this
        have := hrw' (j + 1) v (by
          unfold wtC
          rw [List.getElem?_cons_succ, List.getElem?_append_left (by rw [secC_len]; exact hj), ← hWS]; exact hv)
        rw [← this]
        congr 2
        omega
      have hset := (hD.ext (Ext.drew (Ext.refl wr))).setSec (k := p) (by dsimp only; rw [undoS_len, ← HN.out]; exact hpn) x.was
      rw [show x.pos.toNat = p by omega] at hstep
      dsimp only at hset
      rw [← hstep, ← hWS] at hset
      have HSET := Lib.hid hset
      obtain ⟨gs', e', _, _, hth⟩ := ownS_elem secC_len hD.secs rfl (k := p) (by dsimp only; rw [undoS_len, ← HN.out]; exact hpn)
      cases e'
      have HTH := Lib.hid hth
      have HDC := Lib.hid (And.intro hD.row.lt (And.intro (hD.sg ⟨gs, 0, none⟩ rfl) (fun ad e => hD.sw ⟨gs, 0, none⟩ ad rfl e)))
      have HC := Lib.hid hC
      have HWS := Lib.hid hWS
      have hu63 : Try.prog.underlying 79 = _ := Try.underlying79
      have hiWS : (Try.prog.info? 79).map (·.size) = some WS.length := by rw [hWS, secC_len]; exact infoSec
      have HHELD := Lib.hid (And.intro c0 (And.intro c1 (And.intro hcp hrws)))
      rw [hgw] at c1
      have hp0 : (0 : Int) ≤ p := by omega
      have hp1 : (p : Int) < n := by omega
      have hq0 : (0 : Int) ≤ q := by omega
      have hq1 : (q : Int) < m := by omega
      have HGW := Lib.hid hgw
      clear hD hC hset hth hstep hrw hrw' hWS p0 p1 hp hx hgw
      go_wp2
      refine wp_region_held_drew (S := (fun v => v.cell? ⟨g, 0, none⟩ = some (.slice (some ⟨gs, 0, none⟩) n sc) ∧ v.cell? ⟨g, 1, none⟩ = some (.slice (some ⟨gw, 0, none⟩) m wc) ∧ v.cell? ⟨gw, q * 131, none⟩ = some (.int .i64 p) ∧ v.rangeAt gw (q * 131 + 1) WS)) (by kernel_rfl) ⟨c0, c1, hcp, hrws⟩ (fun hHeld => ?_)
      refine takeD (i := 0) (v := ?_) rfl rfl (by kernel_rfl) (by kernel_rfl) (by kernel_rfl) (fun _ _ _ h => h) (Or.inl ⟨by rfl, ?_⟩) hHeld ?_
      rotate_left
      · (intro v hv; (try dsimp only at hv); go_simp; try (with_reducible rfl))
      (try simp only [List.setIfInBounds_toArray, List.set_cons_zero, List.set_cons_succ])
      refine takeD (i := 1) (v := ?_) rfl rfl (by kernel_rfl) (by kernel_rfl) (by kernel_rfl) (fun _ _ _ h => h) (Or.inl ⟨by rfl, ?_⟩) hHeld ?_
      rotate_left
      · (intro v hv; (try dsimp only at hv); go_simp; try (with_reducible rfl))
      (try simp only [List.setIfInBounds_toArray, List.set_cons_zero, List.set_cons_succ])
      refine takeD (i := 2) (v := ?_) rfl rfl (by kernel_rfl) (by kernel_rfl) (by kernel_rfl) (fun _ _ _ h => h) (Or.inl ⟨by rfl, ?_⟩) hHeld ?_
      rotate_left
      · (intro v hv; (try dsimp only at hv); go_simp; try (with_reducible rfl))
      (try simp only [List.setIfInBounds_toArray, List.set_cons_zero, List.set_cons_succ])
      refine takeD (i := 3) (v := ?_) rfl rfl (by kernel_rfl) (by kernel_rfl) (by kernel_rfl) (fun _ _ _ h => h) (Or.inl ⟨by rfl, ?_⟩) hHeld ?_
      rotate_left
      · (intro v hv; (try dsimp only at hv); go_simp; try (with_reducible rfl))
      (try simp only [List.setIfInBounds_toArray, List.set_cons_zero, List.set_cons_succ])
      refine takeD (i := 4) (v := ?_) rfl rfl (by kernel_rfl) (by kernel_rfl) (by kernel_rfl) (fun _ _ _ h => h) (Or.inl ⟨by rfl, ?_⟩) hHeld ?_
      rotate_left
      · (intro v hv; (try dsimp only at hv); go_simp; try (with_reducible rfl))
      (try simp only [List.setIfInBounds_toArray, List.set_cons_zero, List.set_cons_succ])
      refine takeD (i := 5) (v := ?_) rfl rfl (by kernel_rfl) (by kernel_rfl) (by kernel_rfl) (fun _ _ _ h => h) (Or.inl ⟨by rfl, ?_⟩) hHeld ?_
      rotate_left
      · (intro v hv; (try dsimp only at hv); go_simp; try (with_reducible rfl))
      (try simp only [List.setIfInBounds_toArray, List.set_cons_zero, List.set_cons_succ])
      refine takeD (i := 6) (v := ?_) rfl rfl (by kernel_rfl) (by kernel_rfl) (by kernel_rfl) (fun _ _ _ h => h) (Or.inl ⟨by rfl, ?_⟩) hHeld ?_
      rotate_left
      · (intro v hv; (try dsimp only at hv); go_simp; try (with_reducible rfl))
      (try simp only [List.setIfInBounds_toArray, List.set_cons_zero, List.set_cons_succ])
      refine takeD (i := 7) (v := ?_) rfl rfl (by kernel_rfl) (by kernel_rfl) (by kernel_rfl) (fun _ _ _ h => h) (Or.inl ⟨by rfl, ?_⟩) hHeld ?_
      rotate_left
      · (intro v hv; (try dsimp only at hv); go_simp; try (with_reducible rfl))
      (try simp only [List.setIfInBounds_toArray, List.set_cons_zero, List.set_cons_succ])
      refine takeD (i := 8) (v := ?_) rfl rfl (by kernel_rfl) (by kernel_rfl) (by kernel_rfl) (fun _ _ _ h => h) (Or.inl ⟨by rfl, ?_⟩) hHeld ?_
      rotate_left
      · (intro v hv; (try dsimp only at hv); go_simp; try (with_reducible rfl))
      (try simp only [List.setIfInBounds_toArray, List.set_cons_zero, List.set_cons_succ])
      refine takeD (i := 9) (v := ?_) rfl rfl (by kernel_rfl) (by kernel_rfl) (by kernel_rfl) (fun _ _ _ h => h) (Or.inl ⟨by rfl, ?_⟩) hHeld ?_
      rotate_left
      · (intro v hv; (try dsimp only at hv); go_simp; try (with_reducible rfl))
      (try simp only [List.setIfInBounds_toArray, List.set_cons_zero, List.set_cons_succ])
      refine takeD (i := 10) (v := ?_) rfl rfl (by kernel_rfl) (by kernel_rfl) (by kernel_rfl) (fun _ _ _ h => h) (Or.inl ⟨by rfl, ?_⟩) hHeld ?_
      rotate_left
      · (intro v hv; (try dsimp only at hv); go_simp; try (with_reducible rfl))
      (try simp only [List.setIfInBounds_toArray, List.set_cons_zero, List.set_cons_succ])
      refine takeD (i := 11) (v := ?_) rfl rfl (by kernel_rfl) (by kernel_rfl) (by kernel_rfl) (fun _ _ _ h => h) (Or.inl ⟨by rfl, ?_⟩) hHeld ?_
      rotate_left
      · (intro v hv; (try dsimp only at hv); go_simp; try (with_reducible rfl))
      (try simp only [List.setIfInBounds_toArray, List.set_cons_zero, List.set_cons_succ])
      refine takeD (i := 12) (v := ?_) rfl rfl (by kernel_rfl) (by kernel_rfl) (by kernel_rfl) (fun _ _ _ h => h) (Or.inl ⟨by rfl, ?_⟩) hHeld ?_
      rotate_left
      · (intro v hv; (try dsimp only at hv); go_simp; try (with_reducible rfl))
      (try simp only [List.setIfInBounds_toArray, List.set_cons_zero, List.set_cons_succ])
      refine takeD (i := 13) (v := ?_) rfl rfl (by kernel_rfl) (by kernel_rfl) (by kernel_rfl) (fun _ _ _ h => h) (Or.inl ⟨by rfl, ?_⟩) hHeld ?_
      rotate_left
      · (intro v hv; (try dsimp only at hv); go_simp; try (with_reducible rfl))
      (try simp only [List.setIfInBounds_toArray, List.set_cons_zero, List.set_cons_succ])
      refine takeD (i := 14) (v := ?_) rfl rfl (by kernel_rfl) (by kernel_rfl) (by kernel_rfl) (fun _ _ _ h => h) (Or.inl ⟨by rfl, ?_⟩) hHeld ?_
      rotate_left
      · (intro v hv; (try dsimp only at hv); go_simp; try (with_reducible rfl))
      (try simp only [List.setIfInBounds_toArray, List.set_cons_zero, List.set_cons_succ])
      refine takeD (i := 15) (v := ?_) rfl rfl (by kernel_rfl) (by kernel_rfl) (by kernel_rfl) (fun _ _ _ h => h) (Or.inl ⟨by rfl, ?_⟩) hHeld ?_
      rotate_left
      · (intro v hv; (try dsimp only at hv); go_simp; try (with_reducible rfl))
      (try simp only [List.setIfInBounds_toArray, List.set_cons_zero, List.set_cons_succ])
      refine takeD (i := 16) (v := ?_) rfl rfl (by kernel_rfl) (by kernel_rfl) (by kernel_rfl) (fun _ _ _ h => h) (Or.inl ⟨by rfl, ?_⟩) hHeld ?_
      rotate_left
      · (intro v hv; (try dsimp only at hv); go_simp; try (with_reducible rfl))
      (try simp only [List.setIfInBounds_toArray, List.set_cons_zero, List.set_cons_succ])
      refine takeD (i := 17) (v := ?_) rfl rfl (by kernel_rfl) (by kernel_rfl) (by kernel_rfl) (fun _ _ _ h => h) (Or.inl ⟨by rfl, ?_⟩) hHeld ?_
      rotate_left
      · (intro v hv; (try dsimp only at hv); go_simp; try (with_reducible rfl))
      (try simp only [List.setIfInBounds_toArray, List.set_cons_zero, List.set_cons_succ])
      refine takeD (i := 18) (v := ?_) rfl rfl (by kernel_rfl) (by kernel_rfl) (by kernel_rfl) (fun _ _ _ h => h) (Or.inl ⟨by rfl, ?_⟩) hHeld ?_
      rotate_left
      · (intro v hv; (try dsimp only at hv); go_simp; try (with_reducible rfl))
      (try simp only [List.setIfInBounds_toArray, List.set_cons_zero, List.set_cons_succ])
      refine takeD (i := 19) (v := (.agg WS.toArray)) rfl rfl (by kernel_rfl) (by kernel_rfl) (by kernel_rfl) (fun _ _ _ h => h) (yieldsIf_load_mid (by rfl) _ _ rfl gw (q * 131 + 1) rfl WS _ (fun v hv => hv.2.2.2) hu63 rfl hiWS) hHeld ?_
      (try simp only [List.setIfInBounds_toArray, List.set_cons_zero, List.set_cons_succ])
      refine takeD (i := 20) (v := ?_) rfl rfl (by kernel_rfl) (by kernel_rfl) (by kernel_rfl) (fun _ _ _ h => h) (Or.inl ⟨by rfl, ?_⟩) hHeld ?_
      rotate_left
      · (intro v hv; (try dsimp only at hv); go_simp; try (with_reducible rfl))
      (try simp only [List.setIfInBounds_toArray, List.set_cons_zero, List.set_cons_succ])
      have b7 := gb_setCells gs WS wr.drew (p * 65)
      have HS7 := Lib.hid (And.intro (byCell b7 hHeld.1 (by dsimp only; exact HDC.out.2.1.symm)) (And.intro (byCell b7 hHeld.2.1 (by dsimp only; exact HDC.out.2.1.symm)) (And.intro (byCell b7 hHeld.2.2.1 (by dsimp only; exact fun e => HDC.out.2.2 ⟨gw, 0, none⟩ HGW.out e.symm)) (range_chg hHeld.2.2.2 (Chg.ofBy (F := (· = gs)) b7 rfl) (fun e => HDC.out.2.2 ⟨gw, 0, none⟩ HGW.out e.symm)))))
      have HC7 := Lib.hid ((HC.out.trans (Chg.ofExt _ (Ext.drew (Ext.refl wr)))).trans (Chg.ofBy (F := foot g (some ⟨gs, 0, none⟩) wa) b7 (.inr (.inl ⟨_, rfl, rfl⟩))))
      refine wpAnyH_ready (rs := [21]) (by kernel_rfl) (by simp) ?_
      refine AllReadyH.cons rfl (fun K hK => ?_) AllReadyH.nil
      rw [if_pos (by rfl)]
      refine store_midN _ _ _ (by rfl) (by rfl) gs (p * 65) WS.toArray (by rfl) (by rfl) (by rw [HWS.out, sizeSec]; exact HTH.out) (by rw [HWS.out, sizeSec]; exact infoSec) (by rw [HWS.out]; exact allSec _) ?_
      refine hK.out _ _ HS7.out (fun hHeld => ?_)
      clear hK hHeld b7 c0 c1 hcp hrws
      refine wpAnyH_done (by kernel_rfl) ?_ _
      have hsub2 : IntKind.i64.wrap ((q : Int) - 1) = (q : Int) - 1 := IntWalk.i64_in _ (by omega)
      go_wp2
      go_roundw
      case rel => exact ⟨q, by omega, rfl, HSET.out, HC7.out⟩
      case measure => simp [intOf]
    · obtain rfl : q0 = 0 := by omega
      obtain ⟨c0, c1, c2, c3, c4⟩ := hD.cells
      have HD0 := Lib.hid hD
      have HC := Lib.hid hC
      dsimp only at c0 c1
      rw [← HM.out] at c1
      clear hD hC
      go_wp2
      have hz2 : ∀ v : World, (zeroValue 83).run Try.prog v = .ok (.agg (wtC ⟨0, zeroS, zeroS⟩).toArray) v := fun v => by kernel_rfl
      obtain ⟨Z2, hZ2⟩ : ∃ Z : Array Value, Z = (wtC ⟨0, zeroS, zeroS⟩).toArray := ⟨_, rfl⟩
      rw [← hZ2] at hz2
      have HZ2 := Lib.hid hZ2
      clear hZ2 c0 c1 c2 c3 c4
      go_loopw [45] (fun v wr2 => ∃ j : Nat, j ≤ m ∧ v = .int .i64 j ∧ DiskAt wr2 base g (some ⟨gs, 0, none⟩) sc wa wc { D with secs := redoN there (undoS D.secs D.waits) D.waits j } ∧ Chg (foot g (some ⟨gs, 0, none⟩) wa) w wr2) (fun v _ => m - (intOf v).toNat)
      case atStart => exact ⟨0, by omega, rfl, HD0.out, HC.out⟩
      case round =>
        obtain ⟨j, hj, rfl, hD, hC⟩ := hrel
        by_cases hjlt : j < m
        · have hjm : j < D.waits.length := by rw [← HM.out]; exact hjlt
          obtain ⟨c0, c1, c2, c3, c4⟩ := hD.cells
          dsimp only at c0 c1
          rw [redoN_len, undoS_len, ← HN.out] at c0
          rw [← HM.out] at c1
          obtain ⟨gw, hgw, _, hrw, _⟩ := ownS_elem wtC_len hD.waits rfl hjm
          subst hgw
          obtain ⟨x, hx⟩ : ∃ x, x = D.waits[j] := ⟨_, rfl⟩
          have hrw' : wr.rangeAt gw (j * 131) (wtC x) := by rw [hx]; exact hrw
          have HRW := Lib.hid hrw'
          have hrowZ := Row.new wr 83 (wtC ⟨0, zeroS, zeroS⟩)
          have HRZ := Lib.hid (show Row (wr.alloc (.cells Z2 83)) wr.heap.size 83 Z2.toList by rw [HZ2.out]; simpa using hrowZ)
          have HXW := Lib.hid (show (Try.prog.info? 83).map (·.size) = some (wtC x).toArray.size ∧ Z2.size = (wtC x).toArray.size ∧ (wtC x).toArray.all (·.oneCell') = true from ⟨by rw [List.size_toArray, wtC_len]; exact infoWt, by rw [HZ2.out]; simp [wtC_len], all_oneCell_toArray (wtC_one x)⟩)
          have HXE := Lib.hid hx
          clear hrw hrw' hrowZ hx
          have hX0 : Ext wr ((wr.alloc (.cells Z2 83)).setRow wr.heap.size (wtC x).toArray) := ((Ext.refl wr).alloc _).setRow (Nat.le_refl _) _
          have hR0 : Row ((wr.alloc (.cells Z2 83)).setRow wr.heap.size (wtC x).toArray) wr.heap.size 83 (wtC x) := by simpa using HRZ.out.setRow (wtC x).toArray
          have hD0 := hD.ext hX0
          have HC0 := Lib.hid (hC.trans (Chg.ofExt _ hX0))
          have HD00 := Lib.hid hD0
          have e0 := hX0.keep c0
          cases hb : bitB there j
          · have hbit : (bits BinOp.and IntKind.u64 (there / 2 ^ (j % 64)) 1 == 1) = false := hb
            have HNO := Lib.hid (redoN_no (secs := undoS D.secs D.waits) hjm hb)
            clear hb hD hC hX0 hR0 hD0 e0 c2 c3 c4
            go_wp2_with (first
              | (refine wpList_load_mid rfl 83 _ rfl gw (j * 131) rfl (wtC x) _ HRW.out Try.underlying83 rfl (by rw [wtC_len]; exact infoWt) ?_)
              | (refine wpList_store_row rfl _ _ _ rfl wr.heap.size (wtC x).toArray rfl rfl 83 Z2 HRZ.out HXW.out.1 HXW.out.2.1 HXW.out.2.2 ?_))
            go_roundw
            case rel => exact ⟨j + 1, hjlt, by go_num, by rw [HNO.out]; exact HD00.out, HC0.out⟩
            case measure => simp [intOf]; omega
          · have hbit : (bits BinOp.and IntKind.u64 (there / 2 ^ (j % 64)) 1 == 1) = true := hb
            have hyes := redoN_yes (secs := undoS D.secs D.waits) hjm hb
            obtain ⟨p0, p1⟩ := HPOS.out _ (List.getElem_mem hjm)
            rw [← HXE.out] at hyes p0 p1
            obtain ⟨p, hp⟩ : ∃ p : Nat, x.pos = p := ⟨x.pos.toNat, by omega⟩
            have hpn : p < n := by rw [HN.out]; omega
            rw [show x.pos.toNat = p by omega] at hyes
            obtain ⟨NL, hNL⟩ : ∃ q, q = secC x.now := ⟨_, rfl⟩
            have hset := (hD0.ext (Ext.drew (Ext.refl _))).setSec (k := p) (by dsimp only; rw [redoN_len, undoS_len, ← HN.out]; exact hpn) x.now
            dsimp only at hset
            rw [← hyes, ← hNL] at hset
            have HSET := Lib.hid hset
            obtain ⟨gs', e', _, _, hth⟩ := ownS_elem secC_len hD0.secs rfl (k := p) (by dsimp only; rw [redoN_len, undoS_len, ← HN.out]; exact hpn)
            cases e'
            have HTH := Lib.hid hth
            have hgsg : gs ≠ g := hD0.sg ⟨gs, 0, none⟩ rfl
            have hgsl : gs < wr.heap.size := (ownS_lt hD.secs ⟨gs, 0, none⟩ rfl).2
            have hcp : ((wr.alloc (.cells Z2 83)).setRow wr.heap.size (wtC x).toArray).cell? ⟨wr.heap.size, 0, none⟩ = some (.int .i64 p) := by rw [hR0.cell?, ← hp]; rfl
            have hrn : ((wr.alloc (.cells Z2 83)).setRow wr.heap.size (wtC x).toArray).rangeAt wr.heap.size 66 NL := fun i v hv => by
              rw [hR0.cell?]
              unfold wtC
              rw [show 66 + i = (65 + i) + 1 by omega, List.getElem?_cons_succ, List.getElem?_append_right (by rw [secC_len]; omega), secC_len, Nat.add_sub_cancel_left, ← hNL, hv]
            have HNL := Lib.hid hNL
            have hu63 : Try.prog.underlying 79 = _ := Try.underlying79
            have hiNL : (Try.prog.info? 79).map (·.size) = some NL.length := by rw [hNL, secC_len]; exact infoSec
            have hp0 : (0 : Int) ≤ p := by omega
            have hp1 : (p : Int) < n := by omega
            have HGG := Lib.hid (And.intro hgsg hgsl)
            clear hb hD hC hX0 hR0 hD0 c2 c3 c4 hyes hset hth hNL p0 p1 hp hgsg hgsl
            go_wp2_with (first
              | (refine wpList_load_mid rfl 83 _ rfl gw (j * 131) rfl (wtC x) _ HRW.out Try.underlying83 rfl (by rw [wtC_len]; exact infoWt) ?_)
              | (refine wpList_store_row rfl _ _ _ rfl wr.heap.size (wtC x).toArray rfl rfl 83 Z2 HRZ.out HXW.out.1 HXW.out.2.1 HXW.out.2.2 ?_))
            generalize (wr.alloc (.cells Z2 83)).setRow wr.heap.size (wtC x).toArray = v0 at *
            refine wp_region_held_drew (S := (fun v => v.cell? ⟨g, 0, none⟩ = some (.slice (some ⟨gs, 0, none⟩) n sc) ∧ v.cell? ⟨wr.heap.size, 0, none⟩ = some (.int .i64 p) ∧ v.rangeAt wr.heap.size 66 NL)) (by kernel_rfl) ⟨e0, hcp, hrn⟩ (fun hHeld => ?_)
            refine takeD (i := 0) (v := ?_) rfl rfl (by kernel_rfl) (by kernel_rfl) (by kernel_rfl) (fun _ _ _ h => h) (Or.inl ⟨by rfl, ?_⟩) hHeld ?_
            rotate_left
            · (intro v hv; (try dsimp only at hv); go_simp; try (with_reducible rfl))
            (try simp only [List.setIfInBounds_toArray, List.set_cons_zero, List.set_cons_succ])
            refine takeD (i := 1) (v := ?_) rfl rfl (by kernel_rfl) (by kernel_rfl) (by kernel_rfl) (fun _ _ _ h => h) (Or.inl ⟨by rfl, ?_⟩) hHeld ?_
            rotate_left
            · (intro v hv; (try dsimp only at hv); go_simp; try (with_reducible rfl))
            (try simp only [List.setIfInBounds_toArray, List.set_cons_zero, List.set_cons_succ])
            refine takeD (i := 2) (v := ?_) rfl rfl (by kernel_rfl) (by kernel_rfl) (by kernel_rfl) (fun _ _ _ h => h) (Or.inl ⟨by rfl, ?_⟩) hHeld ?_
            rotate_left
            · (intro v hv; (try dsimp only at hv); go_simp; try (with_reducible rfl))
            (try simp only [List.setIfInBounds_toArray, List.set_cons_zero, List.set_cons_succ])
            refine takeD (i := 3) (v := ?_) rfl rfl (by kernel_rfl) (by kernel_rfl) (by kernel_rfl) (fun _ _ _ h => h) (Or.inl ⟨by rfl, ?_⟩) hHeld ?_
            rotate_left
            · (intro v hv; (try dsimp only at hv); go_simp; try (with_reducible rfl))
            (try simp only [List.setIfInBounds_toArray, List.set_cons_zero, List.set_cons_succ])
            refine takeD (i := 4) (v := ?_) rfl rfl (by kernel_rfl) (by kernel_rfl) (by kernel_rfl) (fun _ _ _ h => h) (Or.inl ⟨by rfl, ?_⟩) hHeld ?_
            rotate_left
            · (intro v hv; (try dsimp only at hv); go_simp; try (with_reducible rfl))
            (try simp only [List.setIfInBounds_toArray, List.set_cons_zero, List.set_cons_succ])
            refine takeD (i := 5) (v := ?_) rfl rfl (by kernel_rfl) (by kernel_rfl) (by kernel_rfl) (fun _ _ _ h => h) (Or.inl ⟨by rfl, ?_⟩) hHeld ?_
            rotate_left
            · (intro v hv; (try dsimp only at hv); go_simp; try (with_reducible rfl))
            (try simp only [List.setIfInBounds_toArray, List.set_cons_zero, List.set_cons_succ])
            refine takeD (i := 6) (v := ?_) rfl rfl (by kernel_rfl) (by kernel_rfl) (by kernel_rfl) (fun _ _ _ h => h) (Or.inl ⟨by rfl, ?_⟩) hHeld ?_
            rotate_left
            · (intro v hv; (try dsimp only at hv); go_simp; try (with_reducible rfl))
            (try simp only [List.setIfInBounds_toArray, List.set_cons_zero, List.set_cons_succ])
            refine takeD (i := 7) (v := (.agg NL.toArray)) rfl rfl (by kernel_rfl) (by kernel_rfl) (by kernel_rfl) (fun _ _ _ h => h) (yieldsIf_load_mid (by rfl) _ _ rfl wr.heap.size 66 rfl NL _ (fun v hv => hv.2.2) hu63 rfl hiNL) hHeld ?_
            (try simp only [List.setIfInBounds_toArray, List.set_cons_zero, List.set_cons_succ])
            refine takeD (i := 8) (v := ?_) rfl rfl (by kernel_rfl) (by kernel_rfl) (by kernel_rfl) (fun _ _ _ h => h) (Or.inl ⟨by rfl, ?_⟩) hHeld ?_
            rotate_left
            · (intro v hv; (try dsimp only at hv); go_simp; try (with_reducible rfl))
            (try simp only [List.setIfInBounds_toArray, List.set_cons_zero, List.set_cons_succ])
            have b7 := gb_setCells gs NL v0.drew (p * 65)
            have HS7 := Lib.hid (And.intro (byCell b7 hHeld.1 (by dsimp only; exact HGG.out.1.symm)) (And.intro (byCell b7 hHeld.2.1 (by dsimp only; have := HGG.out.2; omega)) (range_chg hHeld.2.2 (Chg.ofBy (F := (· = gs)) b7 rfl) (fun e => by have := HGG.out.2; omega))))
            have HC7 := Lib.hid ((HC0.out.trans (Chg.ofExt _ (Ext.drew (Ext.refl v0)))).trans (Chg.ofBy (F := foot g (some ⟨gs, 0, none⟩) (some ⟨gw, 0, none⟩)) b7 (.inr (.inl ⟨_, rfl, rfl⟩))))
            refine wpAnyH_ready (rs := [9]) (by kernel_rfl) (by simp) ?_
            refine AllReadyH.cons rfl (fun K hK => ?_) AllReadyH.nil
            rw [if_pos (by rfl)]
            refine store_midN _ _ _ (by rfl) (by rfl) gs (p * 65) NL.toArray (by rfl) (by rfl) (by rw [HNL.out, sizeSec]; exact HTH.out) (by rw [HNL.out, sizeSec]; exact infoSec) (by rw [HNL.out]; exact allSec _) ?_
            refine hK.out _ _ HS7.out (fun hHeld => ?_)
            clear hK hHeld b7 e0 hcp hrn
            refine wpAnyH_done (by kernel_rfl) ?_ _
            go_wp2
            go_roundw
            case rel => exact ⟨j + 1, hjlt, by go_num, HSET.out, HC7.out⟩
            case measure => simp [intOf]; omega
        · obtain rfl : j = m := by omega
          obtain ⟨c0, c1, c2, c3, c4⟩ := hD.cells
          have f1 := hD.row.frozen 1
          have f2 := hD.row.frozen 2
          have f3 := hD.row.frozen 3
          have n1 := hD.noWaits
          have b1 := By.set wr g 1 (.slice none 0 0)
          have b2 := By.set (wr.setCell ⟨g, 1, none⟩ (.slice none 0 0)) g 2 (.bool false)
          have b3 := By.set ((wr.setCell ⟨g, 1, none⟩ (.slice none 0 0)).setCell ⟨g, 2, none⟩ (.bool false)) g 3 (.int .i64 (-1))
          have hr2 := Mem.Row.set n1.row 2 (.bool false)
          have hr3 := Mem.Row.set hr2 3 (.int .i64 (-1))
          have HEND := Lib.hid (n1.turn (D' := ⟨redoN there (undoS D.secs D.waits) D.waits j, [], false, -1, D.done⟩) (b2.trans b3) hr3 rfl rfl)
          have HCE := Lib.hid (((hC.trans (Chg.ofBy b1 (.inl rfl))).trans (Chg.ofBy b2 (.inl rfl))).trans (Chg.ofBy b3 (.inl rfl)))
          have HJ := Lib.hid (show crashR D there = ⟨redoN there (undoS D.secs D.waits) D.waits j, [], false, -1, D.done⟩ by unfold crashR; rw [← HM.out])
          dsimp only at c2 c3
          clear hD hC n1 b1 b2 b3 hr2 hr3 c0 c4
          go_wp2
          refine bodyPost_end (results_none rfl _ _ _) rfl ?_
          rw [HJ.out]
          exact ⟨rfl, HEND.out, HCE.out⟩
end Go.Proofs.Ytfodpphbdbeciaa.Dk
