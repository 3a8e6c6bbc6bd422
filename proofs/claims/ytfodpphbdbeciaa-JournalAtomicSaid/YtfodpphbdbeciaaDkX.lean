/- The disk's Write, all ways. -/
import Derived.Test.YtfodpphbdbeciaaDkW
namespace Go.Proofs.Ytfodpphbdbeciaa.Dk
open Go.RowKit Words Mem Plain Ops Agg OwnS
set_option maxRecDepth 100000
set_option linter.ambiguousOpen false
set_option linter.unusedVariables false
set_option linter.unusedSimpArgs false

theorem write_no {D : Dsk} {i : Int} {bs : List Int} {tag : Int} (h : ¬ (0 ≤ i ∧ i < D.secs.length ∧ bs.length = 64)) : writeR D i bs tag = (D, 1) := by unfold writeR; rw [if_pos h]
theorem write_dead {D : Dsk} {i : Int} {bs : List Int} {tag : Int} (h : 0 ≤ i ∧ i < D.secs.length ∧ bs.length = 64) (hp : (powerR D).2 ≠ 0) : writeR D i bs tag = powerR D := by unfold writeR; rw [if_neg (fun e => e h), if_neg hp]
theorem write_code {D : Dsk} {i : Int} {bs : List Int} {tag : Int} (h : 0 ≤ i ∧ i < D.secs.length ∧ bs.length = 64) (hp : (powerR D).2 = 0) : (writeR D i bs tag).2 = 0 := by unfold writeR; rw [if_neg (fun e => e h), if_pos hp]

set_option maxHeartbeats 2000000 in
theorem Write_ok {base g : Nat} {sa : Option Addr} {sc : Nat} {wa : Option Addr} {wc : Nat} {D : Dsk} {w : World} (h : DiskAt w base g sa sc wa wc D) (hd : 0 ≤ D.done ∧ D.done ≤ 1000000000000) (hf : -1 ≤ D.fuse ∧ D.fuse ≤ 9223372036854775807)
    (i : Int) (a : Option Addr) (nb cb : Nat) (bs : List Int) (tag : Int) (hl : bs.length = nb) (hnb : nb ≤ 9223372036854775807) (hs : Sl w a (ints .u8 bs)) (hfree : ∀ ad, a = some ad → ¬ foot g sa wa ad.block) (hn : D.secs.length ≤ 4096) (hm : D.waits.length ≤ 100000000) (hbase : base ≤ w.heap.size) :
    Calls Try.prog 43 #[.pointer (some ⟨g, 0, none⟩), .agg #[.int .i64 i, .slice a nb cb, .int .u16 tag]] w fun e w' => e = .returned (.int .i64 (writeR D i bs tag).2) ∧ ∃ wa' wc', DiskAt w' base g sa sc wa' wc' (writeR D i bs tag).1 ∧ Chg (foot g sa wa) w w' ∧ (wa' = wa ∨ ∀ ad, wa' = some ad → w.heap.size ≤ ad.block) := by
  by_cases hok : 0 ≤ i ∧ i < D.secs.length ∧ bs.length = 64
  · obtain ⟨h0, h1, h64⟩ := hok
    obtain ⟨k, rfl⟩ : ∃ k : Nat, i = k := ⟨i.toNat, by omega⟩
    obtain rfl : nb = 64 := by omega
    obtain ⟨b, off, rfl, hc⟩ := hs.at (by rw [ints_length]; omega)
    by_cases hp : (powerR D).2 = 0
    · have := Write_yes h hd hf k b off cb bs tag (by omega) hn hm h64 (fun j hj => by
        have hj2 : j < (ints .u8 bs).length := by rw [ints_length, h64]; exact hj
        rw [hc j hj2, List.getElem?_eq_getElem hj2]) (hfree _ rfl) hbase hp
      rw [write_code ⟨h0, h1, h64⟩ hp]
      exact this
    · have hcode := power_code D
      rw [write_dead ⟨h0, h1, h64⟩ hp]
      have X1 := (Ext.refl w).alloc (.cells #[.int .i64 k, .slice (some ⟨b, off, none⟩) 64 cb, .int .u16 tag] 37)
      have h1' := h.ext X1
      have hth := there_ok h1' k
      rw [show decide (0 ≤ (k : Int) ∧ (k : Int) < D.secs.length) = true by simpa using h1] at hth
      have hpow := power_ok h1' hd hf
      have HX1 := Lib.hid X1
      have hcode6 : (powerR D).2 = 6 := by omega
      rw [hcode6] at hpow ⊢
      clear h1' X1 hs hc h h1 h0 hcode hp hn hm
      go_enter Try.func43, Try.ntmps43
      go_wp2_with fail
      refine hth.mono ?_
      rintro e w1 ⟨rfl, rfl⟩
      clear hth
      go_wp2_with fail
      refine hpow.mono ?_
      rintro e w2 ⟨rfl, hD2, hB2⟩
      have HD2 := Lib.hid hD2
      have HB2 := Lib.hid hB2
      clear hD2 hB2 hpow
      go_wp2
      go_ret
      exact ⟨rfl, wa, wc, HD2.out, (Chg.ofExt _ HX1.out).trans (Chg.ofBy HB2.out (.inl rfl)), .inl rfl⟩
  · rw [write_no hok]
    have X1 := (Ext.refl w).alloc (.cells #[.int .i64 i, .slice a nb cb, .int .u16 tag] 37)
    have h1' := h.ext X1
    have hth := there_ok h1' i
    have HX1 := Lib.hid X1
    have HD1 := Lib.hid h1'
    by_cases hin : 0 ≤ i ∧ i < D.secs.length
    · rw [show decide (0 ≤ i ∧ i < (D.secs.length : Int)) = true by simpa using hin] at hth
      have hnb64 : ¬ (nb : Int) = 64 := by omega
      clear h1' X1 hs h hok hin
      go_enter Try.func43, Try.ntmps43
      go_wp2_with fail
      refine hth.mono ?_
      rintro e w1 ⟨rfl, rfl⟩
      clear hth
      go_wp2
      go_ret
      exact ⟨rfl, wa, wc, HD1.out, Chg.ofExt _ HX1.out, .inl rfl⟩
    · rw [show decide (0 ≤ i ∧ i < (D.secs.length : Int)) = false by simpa using hin] at hth
      clear h1' X1 hs h hok hin
      go_enter Try.func43, Try.ntmps43
      go_wp2_with fail
      refine hth.mono ?_
      rintro e w1 ⟨rfl, rfl⟩
      clear hth
      go_wp2
      go_ret
      exact ⟨rfl, wa, wc, HD1.out, Chg.ofExt _ HX1.out, .inl rfl⟩
end Go.Proofs.Ytfodpphbdbeciaa.Dk
