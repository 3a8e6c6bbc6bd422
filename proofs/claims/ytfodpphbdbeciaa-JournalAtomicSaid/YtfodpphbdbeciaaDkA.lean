/- The disk's small methods: New, Len, there, Dead, Done, Cut, Flush. -/
import Derived.Test.YtfodpphbdbeciaaDkP
namespace Go.Proofs.Ytfodpphbdbeciaa.Dk
open Go.RowKit Words Mem Plain Ops Agg OwnS
set_option maxRecDepth 100000
set_option linter.ambiguousOpen false
set_option linter.unusedVariables false
set_option linter.unusedSimpArgs false

theorem infoSec : (Try.prog.info? 79).map (·.size) = some 65 := by kernel_rfl
theorem infoWt : (Try.prog.info? 83).map (·.size) = some 131 := by kernel_rfl
theorem infoDsk : (Try.prog.info? 65).map (·.size) = some 5 := by kernel_rfl
theorem infoSecZ : (Try.prog.info? 79).map (fun i => (i.zero, i.size, i.bytes)) = some (some (.agg (secC zeroS).toArray), 65, 66) := by kernel_rfl
theorem infoWtZ : (Try.prog.info? 83).map (fun i => (i.zero, i.size, i.bytes)) = some (some (.agg (wtC ⟨0, zeroS, zeroS⟩).toArray), 131, 144) := by kernel_rfl

theorem run_make_s (w : World) (s : Nat) (t e : TypeId) (c : List Value) (bts : Nat) (hs : c.length = s) (hs0 : 0 < s) (ht : Try.prog.underlying t = some (.slice e)) (hi : (Try.prog.info? e).map (fun i => (i.zero, i.size, i.bytes)) = some (some (.agg c.toArray), s, bts))
    (n : Nat) (hb : bts * n ≤ 281474976710656) (hm : n ≤ 9223372036854775807) :
    (Instr.makeSlice t (.int .i64 n) (.int .i64 n)).run Try.prog w = .ok (.slice (some ⟨w.heap.size, 0, none⟩) n n) (w.alloc (.cells (flat (fun _ : Unit => c) (List.replicate n ())).toArray e)) := by
  obtain ⟨i, h2, h3, h4, h5⟩ := info_parts hi
  have := run_make (P := Try.prog) w t e i _ ht h2 h3 .i64 .i64 n n (by omega) (by omega) (by rw [h5]; have e := Int.natCast_mul bts n; omega) (by omega)
  rw [this, h4]
  simp only [Int.toNat_natCast]
  congr 4
  apply Array.toList_inj.1
  apply List.ext_getElem?
  intro j
  unfold madeCells
  have hl : (flat (fun _ : Unit => c) (List.replicate n ())).length = n * s := by rw [flat_length (s := s) (fun _ => hs)]; simp
  by_cases hj : j < n * s
  · have hk : j / s < n := Nat.div_lt_of_lt_mul (by rw [Nat.mul_comm]; exact hj)
    have hjm : j % s < s := Nat.mod_lt _ hs0
    have e1 : j = j / s * s + j % s := by rw [Nat.mul_comm]; exact (Nat.div_add_mod j s).symm
    have e2 := flat_at (f := fun _ : Unit => c) (s := s) (fun _ => hs) (List.replicate n ()) (j / s) (by simpa using hk) (j % s) hjm
    rw [← e1] at e2
    simp only [List.toList_toArray, Value.cells]
    rw [e2]
    simp [hj, hs, hjm]
  · simp only [List.toList_toArray]
    rw [List.getElem?_eq_none (show (flat (fun _ : Unit => c) (List.replicate n ())).length ≤ j by rw [hl]; omega)]
    simp
    omega
theorem flat_rep (n : Nat) (x : Sec) : flat (fun _ : Unit => secC x) (List.replicate n ()) = flat secC (List.replicate n x) := by
  induction n with
  | zero => rfl
  | succ n ih => rw [List.replicate_succ, List.replicate_succ, flat_cons, flat_cons, ih]
theorem newD_wf {n : Nat} (h : n ≤ 4096) (b : Nat) : (newD n).Wf b := by
  refine ⟨fun s hs => ?_, fun x hx => (by cases hx), by simpa [newD] using h, ⟨Int.le_refl _, by show (-1 : Int) ≤ 9223372036854775807; decide⟩, ⟨Int.le_refl _, by show (0 : Int) ≤ b; omega⟩, Nat.zero_le _⟩
  obtain rfl := List.eq_of_mem_replicate hs
  exact zeroS_wf

theorem New_ok (n : Nat) (w : World) (hn : n ≤ 4096) :
    Calls Try.prog 12 #[.int .i64 n] w fun e w' => ∃ g gs sc, e = .returned (.tuple #[.pointer (some ⟨g, 0, none⟩), .int .i64 0]) ∧ DiskAt w' w.heap.size g (some ⟨gs, 0, none⟩) sc none 0 (newD n) ∧ Ext w w' := by
  have hmk := run_make_s w 65 62 79 (secC zeroS) 66 (secC_len _) (by decide) Try.underlying62 infoSecZ n (by omega) (by omega)
  rw [flat_rep] at hmk
  have hr0 := Row.new w 79 (flat secC (List.replicate n zeroS))
  have X1 := (Ext.refl w).alloc (.cells (flat secC (List.replicate n zeroS)).toArray 79)
  have hs1 : (w.alloc (.cells (flat secC (List.replicate n zeroS)).toArray 79)).heap.size = w.heap.size + 1 := by simp
  generalize hw1 : w.alloc (.cells (flat secC (List.replicate n zeroS)).toArray 79) = w1 at *
  clear hw1
  have hr1 := Row.new w1 65 (dRow (some ⟨w.heap.size, 0, none⟩) n none 0 (newD n))
  have hlen : (flat secC (List.replicate n zeroS)).length = n * 65 := by rw [flat_length secC_len]; simp
  have hsn : (newD n).secs.length = n := by simp [newD]
  have hrow0 := hr0.ext ((Ext.refl w1).alloc (.cells (dRow (some ⟨w.heap.size, 0, none⟩) n none 0 (newD n)).toArray 65))
  have hAt : DiskAt (w1.alloc (.cells (dRow (some ⟨w.heap.size, 0, none⟩) n none 0 (newD n)).toArray 65)) w.heap.size w1.heap.size (some ⟨w.heap.size, 0, none⟩) n none 0 (newD n) := by
    refine ⟨hr1, ?_, ownS_nil _ _ _ _, by omega, ?_, by simp, by simp⟩
    · rw [hsn]
      exact ownS_of hrow0 (Nat.le_refl _) hlen (by unfold maxLen; omega)
    · intro ad e
      cases e
      show w.heap.size ≠ w1.heap.size
      omega
  have HAT := Lib.hid hAt
  have HX := Lib.hid (X1.alloc (.cells (dRow (some ⟨w.heap.size, 0, none⟩) n none 0 (newD n)).toArray 65))
  have hn1 : (n : Int) ≤ 4096 := by omega
  clear hr0 hr1 hrow0 hAt X1 hlen
  rw [hs1] at HAT
  go_enter Try.func12, Try.ntmps12
  go_wp2
  go_ret2
  refine ⟨_, w.heap.size, n, rfl, ?_, ?_⟩
  · have := HAT.out
    unfold dRow at this
    rw [hsn] at this
    exact this
  · have := HX.out
    unfold dRow at this
    rw [hsn] at this
    exact this

theorem Len_ok {base g : Nat} {sa : Option Addr} {sc : Nat} {wa : Option Addr} {wc : Nat} {D : Dsk} {w : World} (h : DiskAt w base g sa sc wa wc D) :
    Calls Try.prog 27 #[.pointer (some ⟨g, 0, none⟩)] w fun e w' => e = .returned (.int .i64 D.secs.length) ∧ w' = w := by
  obtain ⟨c0, c1, c2, c3, c4⟩ := h.cells
  clear h
  generalize D.secs.length = n at *
  go_enter Try.func27, Try.ntmps27
  go_wp2
  go_ret
  exact ⟨rfl, rfl⟩
theorem Dead_ok {base g : Nat} {sa : Option Addr} {sc : Nat} {wa : Option Addr} {wc : Nat} {D : Dsk} {w : World} (h : DiskAt w base g sa sc wa wc D) :
    Calls Try.prog 24 #[.pointer (some ⟨g, 0, none⟩)] w fun e w' => e = .returned (.bool D.dead) ∧ w' = w := by
  obtain ⟨c0, c1, c2, c3, c4⟩ := h.cells
  clear h
  go_enter Try.func24, Try.ntmps24
  go_wp2
  go_ret
  exact ⟨rfl, rfl⟩
theorem Done_ok {base g : Nat} {sa : Option Addr} {sc : Nat} {wa : Option Addr} {wc : Nat} {D : Dsk} {w : World} (h : DiskAt w base g sa sc wa wc D) :
    Calls Try.prog 22 #[.pointer (some ⟨g, 0, none⟩)] w fun e w' => e = .returned (.int .i64 D.done) ∧ w' = w := by
  obtain ⟨c0, c1, c2, c3, c4⟩ := h.cells
  clear h
  go_enter Try.func22, Try.ntmps22
  go_wp2
  go_ret
  exact ⟨rfl, rfl⟩
theorem there_ok {base g : Nat} {sa : Option Addr} {sc : Nat} {wa : Option Addr} {wc : Nat} {D : Dsk} {w : World} (h : DiskAt w base g sa sc wa wc D) (i : Int) :
    Calls Try.prog 45 #[.pointer (some ⟨g, 0, none⟩), .int .i64 i] w fun e w' => e = .returned (.bool (decide (0 ≤ i ∧ i < D.secs.length))) ∧ w' = w := by
  have hlen := Len_ok h
  clear h
  generalize D.secs.length = n at *
  by_cases h0 : 0 ≤ i
  · by_cases h1 : i < (n : Int)
    · have HV := Lib.hid (show decide (0 ≤ i ∧ i < (n : Int)) = true by simp [h0, h1])
      generalize decide (0 ≤ i ∧ i < (n : Int)) = V at *
      go_enter Try.func45, Try.ntmps45
      go_wp2_with fail
      refine hlen.mono ?_
      rintro e w2 ⟨rfl, rfl⟩
      clear hlen
      go_wp2
      go_ret
      exact ⟨by rw [HV.out]; rfl, rfl⟩
    · have HV := Lib.hid (show decide (0 ≤ i ∧ i < (n : Int)) = false by simp [h1])
      generalize decide (0 ≤ i ∧ i < (n : Int)) = V at *
      go_enter Try.func45, Try.ntmps45
      go_wp2_with fail
      refine hlen.mono ?_
      rintro e w2 ⟨rfl, rfl⟩
      clear hlen
      go_wp2
      go_ret
      exact ⟨by rw [HV.out]; show Ending.returned (.bool (decide (i < (n : Int)))) = _; congr 2; simp; omega, rfl⟩
  · have HV := Lib.hid (show decide (0 ≤ i ∧ i < (n : Int)) = false by simp [h0])
    generalize decide (0 ≤ i ∧ i < (n : Int)) = V at *
    clear hlen
    go_enter Try.func45, Try.ntmps45
    go_wp2
    go_ret
    exact ⟨by rw [HV.out]; rfl, rfl⟩
def cutR (D : Dsk) (n : Int) : Dsk := if D.dead = true then D else { D with fuse := if -1 ≤ n then n else -1 }
theorem cutR_wf {D : Dsk} {b : Nat} (h : D.Wf b) {n : Int} (hn : n ≤ 9223372036854775807) : (cutR D n).Wf b := by
  obtain ⟨h1, h2, h3, h4, h5, h6⟩ := h
  unfold cutR
  split
  · exact ⟨h1, h2, h3, h4, h5, h6⟩
  · refine ⟨h1, h2, h3, ?_, h5, h6⟩
    dsimp only
    split <;> omega
theorem Cut_ok {base g : Nat} {sa : Option Addr} {sc : Nat} {wa : Option Addr} {wc : Nat} {D : Dsk} {w : World} (h : DiskAt w base g sa sc wa wc D) (n : Int) :
    Calls Try.prog 20 #[.pointer (some ⟨g, 0, none⟩), .int .i64 n] w fun e w' => e = .returned (.tuple #[]) ∧ DiskAt w' base g sa sc wa wc (cutR D n) ∧ By g w w' := by
  obtain ⟨c0, c1, c2, c3, c4⟩ := h.cells
  have f3 := h.row.frozen 3
  have HD := Lib.hid h
  obtain ⟨S, W, dead, fuse, done⟩ := D
  dsimp only at *
  cases dead
  · by_cases h1 : -1 ≤ n
    · have HR := Lib.hid (show cutR ⟨S, W, false, fuse, done⟩ n = ⟨S, W, false, n, done⟩ by simp [cutR, h1])
      have HB := Lib.hid (By.set w g 3 (.int .i64 n))
      have HN := Lib.hid (h.turn (D' := ⟨S, W, false, n, done⟩) (By.set w g 3 (.int .i64 n)) (h.row.set 3 (.int .i64 n)) rfl rfl)
      clear h
      go_enter Try.func20, Try.ntmps20
      go_wp2
      refine bodyPost_end (results_none rfl _ _ _) rfl ?_
      rw [HR.out]
      exact ⟨rfl, HN.out, HB.out⟩
    · have HR := Lib.hid (show cutR ⟨S, W, false, fuse, done⟩ n = ⟨S, W, false, -1, done⟩ by simp [cutR, h1])
      have HB := Lib.hid (By.set w g 3 (.int .i64 (-1)))
      have HN := Lib.hid (h.turn (D' := ⟨S, W, false, -1, done⟩) (By.set w g 3 (.int .i64 (-1))) (h.row.set 3 (.int .i64 (-1))) rfl rfl)
      clear h
      go_enter Try.func20, Try.ntmps20
      go_wp2
      refine bodyPost_end (results_none rfl _ _ _) rfl ?_
      rw [HR.out]
      exact ⟨rfl, HN.out, HB.out⟩
  · have HR := Lib.hid (show cutR ⟨S, W, true, fuse, done⟩ n = ⟨S, W, true, fuse, done⟩ from rfl)
    clear h
    go_enter Try.func20, Try.ntmps20
    go_wp2
    refine bodyPost_end (results_none rfl _ _ _) rfl ?_
    rw [HR.out]
    exact ⟨rfl, HD.out, By.refl _ _⟩

def flushR (D : Dsk) : Dsk × Int := if (powerR D).2 = 0 then ({ (powerR D).1 with waits := [] }, 0) else powerR D
theorem DiskAt.noWaits {w : World} {base g : Nat} {sa : Option Addr} {sc : Nat} {wa : Option Addr} {wc : Nat} {D : Dsk} (h : DiskAt w base g sa sc wa wc D) : DiskAt (w.setCell ⟨g, 1, none⟩ (.slice none 0 0)) base g sa sc none 0 { D with waits := [] } := by
  have hb := By.set w g 1 (.slice none 0 0)
  refine ⟨Row.set h.row 1 (.slice none 0 0), ?_, ownS_nil _ _ _ _, h.hb, h.sg, by simp, by simp⟩
  exact ownS_block h.secs (fun ad e => hb.block _ (ownS_lt h.secs ad e).2 (by simp; exact h.sg ad e))
theorem power_code (D : Dsk) : (powerR D).2 = 0 ∨ (powerR D).2 = 6 := by
  unfold powerR
  split
  · exact .inr rfl
  · split
    · exact .inr rfl
    · exact .inl rfl
theorem flush_wf {D : Dsk} {b : Nat} (h : D.Wf b) : (flushR D).1.Wf (b + 1) := by
  have hp := power_wf h
  unfold flushR
  split
  · exact ⟨hp.secs, fun x hx => (by cases hx), hp.few, hp.fuse, hp.done, Nat.zero_le _⟩
  · exact hp
theorem Flush_ok {base g : Nat} {sa : Option Addr} {sc : Nat} {wa : Option Addr} {wc : Nat} {D : Dsk} {w : World} (h : DiskAt w base g sa sc wa wc D) (hd : 0 ≤ D.done ∧ D.done ≤ 1000000000000) (hf : -1 ≤ D.fuse ∧ D.fuse ≤ 9223372036854775807) :
    Calls Try.prog 44 #[.pointer (some ⟨g, 0, none⟩)] w fun e w' => e = .returned (.int .i64 (flushR D).2) ∧ (∃ wa' wc', DiskAt w' base g sa sc wa' wc' (flushR D).1 ∧ (wa' = wa ∨ wa' = none)) ∧ By g w w' := by
  have hpow := power_ok h hd hf
  have HF := Lib.hid (show flushR D = if (powerR D).2 = 0 then ({ (powerR D).1 with waits := [] }, 0) else powerR D from rfl)
  have hcode := power_code D
  generalize powerR D = P at *
  generalize flushR D = F at *
  obtain ⟨D1, c⟩ := P
  dsimp only at *
  clear h
  rcases hcode with rfl | rfl
  · have HF2 := Lib.hid (HF.out.trans (if_pos rfl))
    clear HF
    go_enter Try.func44, Try.ntmps44
    go_wp2_with fail
    refine hpow.mono ?_
    rintro e w2 ⟨rfl, hD2, hB2⟩
    obtain ⟨c0, c1, c2, c3, c4⟩ := hD2.cells
    have f1 := hD2.row.frozen 1
    have HN := Lib.hid hD2.noWaits
    have HB := Lib.hid (hB2.trans (By.set w2 g 1 (.slice none 0 0)))
    clear hD2 hB2 hpow
    go_wp2
    go_ret
    rw [HF2.out]
    exact ⟨rfl, ⟨none, 0, HN.out, .inr rfl⟩, HB.out⟩
  · have HF2 := Lib.hid (HF.out.trans (if_neg (by decide)))
    clear HF
    go_enter Try.func44, Try.ntmps44
    go_wp2_with fail
    refine hpow.mono ?_
    rintro e w2 ⟨rfl, hD2, hB2⟩
    have HN := Lib.hid hD2
    have HB := Lib.hid hB2
    clear hD2 hB2 hpow
    go_wp2
    go_ret
    rw [HF2.out]
    exact ⟨rfl, ⟨wa, wc, HN.out, .inl rfl⟩, HB.out⟩
end Go.Proofs.Ytfodpphbdbeciaa.Dk
