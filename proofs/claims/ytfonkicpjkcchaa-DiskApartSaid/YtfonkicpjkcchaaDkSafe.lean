/- The law DiskSafe. -/
import Derived.Test.YtfonkicpjkcchaaDkI
import Derived.Test.YtfonkicpjkcchaaDkQ
namespace Go.Proofs.Ytfonkicpjkcchaa.Dk
open Go.RowKit Words Mem Plain Ops Agg OwnS
open Go.Joins Go.ChangeShapes Go.WideShapes Go.Deep
set_option linter.ambiguousOpen false
set_option linter.unusedVariables false
set_option linter.unusedSimpArgs false

structure Live (n k : Nat) (D : Dsk) : Prop where
  wf : D.Wf k
  len : D.secs.length = n
  on : D.dead = false
  full : D.fuse = -1
theorem live_power {D : Dsk} (h1 : D.dead = false) (h2 : D.fuse = -1) : powerR D = ({ D with done := D.done + 1 }, 0) := by
  unfold powerR
  rw [if_neg (by rw [h1]; decide), if_neg (by rw [h2]; decide), if_neg (by rw [h2]; decide)]
theorem Live.write {n k : Nat} {D : Dsk} (h : Live n k D) (i : Int) {c : Int} (hc : 0 ≤ c ∧ c ≤ 255) : Live n (k + 1) (writeR D i (allB c) c).1 := by
  refine ⟨write_wf h.wf i hc, by rw [write_len, h.len], ?_, ?_⟩
  all_goals
    unfold writeR
    split
    · first | exact h.on | exact h.full
    · rw [live_power h.on h.full]
      split
      · first | exact h.on | exact h.full
      · first | exact h.on | exact h.full
theorem Live.yes {n k : Nat} {D : Dsk} (h : Live n k D) {i : Int} (hi : 0 ≤ i ∧ i < n) (c : Int) : (writeR D i (allB c) c).2 = 0 := by
  unfold writeR
  rw [if_neg (fun e => e ⟨hi.1, by rw [h.len]; exact hi.2, allB_len c⟩), if_pos (by rw [live_power h.on h.full])]
theorem wf_more {D : Dsk} {a b : Nat} (h : D.Wf a) (hab : a ≤ b) : D.Wf b := ⟨h.secs, h.waits, h.few, h.fuse, by have := h.done; omega, by have := h.many; omega⟩
theorem live_new {n : Nat} (h : n ≤ 4096) : Live n 0 (newD n) := ⟨newD_wf h 0, by show (List.replicate n zeroS).length = n; exact List.length_replicate, rfl, rfl⟩
/-- A sector is written and made safe. -/
theorem Live.safe {n k : Nat} {D : Dsk} (h : Live n k D) {i : Nat} (hi : i < n) {c : Int} (hc : 0 ≤ c ∧ c ≤ 255) :
    (flushR (writeR D i (allB c) c).1).2 = 0 ∧ (flushR (writeR D i (allB c) c).1).1.Wf (k + 2) ∧ Still i (sC c) (flushR (writeR D i (allB c) c).1).1 := by
  have hw := h.write i hc
  have hy := h.yes (i := (i : Int)) ⟨by omega, by omega⟩ c
  have hf : (flushR (writeR D i (allB c) c).1).2 = 0 := by
    unfold flushR
    rw [if_pos (by rw [live_power hw.on hw.full])]
  refine ⟨hf, flush_wf hw.wf, ?_⟩
  obtain ⟨h1, ⟨_, h2⟩ | ⟨e, _⟩⟩ := flush_cases (writeR D i (allB c) c).1
  · rcases write_cases D i c with ⟨e, _⟩ | ⟨_, h0, h3, h4⟩
    · exact absurd hy e
    · refine ⟨by rw [h1, write_len, h.len]; exact hi, by rw [h2]; simp, ?_⟩
      rw [h1, h3, sg_set (by omega), if_pos (by omega)]
  · rw [hf] at e; cases e

set_option maxHeartbeats 4000000 in
theorem safe_walk (a1 : Option Addr) (n1 cap1 : Nat) (a2 : Option Addr) (n2 cap2 : Nat) (sec : Nat) (w : World) (hs1 : n1 ≤ cap1) (hm1 : cap1 ≤ 9223372036854775807) (hs2 : n2 ≤ cap2) (hm2 : cap2 ≤ 9223372036854775807)
    (ha1 : ActsAt w a1 n1) (ha2 : ActsAt w a2 n2) (hsec : sec ≤ 255) :
    Calls Try.prog 3 #[.slice a1 n1 cap1, .slice a2 n2 cap2, .int .u8 sec] w fun e w' => e = .returned (.bool true) ∧ Ext w w' := by
  have HA1 := Lib.hid ha1
  have HA2 := Lib.hid ha2
  have HF1 := Lib.hid (fun (v : World) (e : Ext w v) => few_ok a1 n1 cap1 v hs1 hm1 (ha1.ext e))
  have HF2 := Lib.hid (fun (v : World) (e : Ext w v) => few_ok a2 n2 cap2 v hs2 hm2 (ha2.ext e))
  obtain ⟨at', hat⟩ : ∃ q : Nat, q = sec % 10 := ⟨_, rfl⟩
  have hat10 : at' < 10 := by omega
  have hrem : (binOp .rem 5 (.int .u8 sec) (.int .u8 10)).run Try.prog = (binOp .rem 5 (.int .u8 sec) (.int .u8 10)).run Try.prog := rfl
  clear ha1 ha2 hs1 hs2 hm1 hm2 hrem
  go_enter Try.func3, Try.ntmps3
  go_wp2_with fail
  refine (shown_ok w).mono ?_
  rintro e w1 ⟨rfl, h1⟩
  have H1 := Lib.hid h1
  clear h1
  have hnew : Calls Try.prog 9 #[.int .i64 10] w1 _ := New_at 10 w1 (by decide)
  go_wp2_with fail
  refine hnew.mono ?_
  rintro e w2 ⟨g, gs, sc, rfl, h2⟩
  have H2 := Lib.hid h2
  have hf := HF1.out w2 (H1.out.trans h2.1)
  clear hnew h2 HF1
  go_wp2_with fail
  rw [show (sec : Int) % 10 = (at' : Nat) by omega]
  refine hf.mono ?_
  rintro e w2' ⟨hw2, m1, rfl, hm1, hm1'⟩
  subst hw2
  clear hf hat hsec
  have HM1 := Lib.hid (HA1.out.fewer hm1)
  clear hm1
  have HLN := Lib.hid (live_new (n := 10) (by decide))
  have HX1 := Lib.hid H1.out
  go_wp2_with fail
  go_loopw [36] (fun v wr => ∃ (k : Nat) (D : Dsk), k ≤ m1 ∧ v = .int .i64 k ∧ Live 10 k D ∧ At w1 g gs sc D wr) (fun v _ => m1 - (intOf v).toNat)
  case atStart => exact ⟨0, _, by omega, rfl, HLN.out, H2.out⟩
  case round =>
    obtain ⟨k, D, hk, rfl, hI, hA⟩ := hrel
    have HI := Lib.hid hI
    have HA := Lib.hid hA
    clear hI hA
    by_cases hlt : k < m1
    · obtain ⟨b, off, rfl, hacts⟩ := HM1.out (by omega)
      obtain ⟨x, hx, hc⟩ := hacts k hlt
      obtain ⟨c0, c1, c2, c3, c4, c5⟩ := hc.ext (HX1.out.trans HA.out.1)
      have hxc := hx.2.2.1
      clear hacts hc hx
      obtain ⟨kind, pos, c, bp, bl, bc, tag, there⟩ := x
      dsimp only at *
      obtain ⟨hc0, hc1⟩ := hxc
      have hrow := Row.new wr 34 [.int .u8 kind, .int .i64 pos, .int .u8 c, .slice bp bl bc, .int .u16 tag, .int .u64 there]
      have hX := HA.out.ext ((Ext.refl wr).alloc (.cells #[.int .u8 kind, .int .i64 pos, .int .u8 c, .slice bp bl bc, .int .u16 tag, .int .u64 there] 34))
      have HX := Lib.hid hX
      have hp1 := patch_ok pos c (wr.alloc (.cells #[.int .u8 kind, .int .i64 pos, .int .u8 c, .slice bp bl bc, .int .u16 tag, .int .u64 there] 34)) ⟨hc0, hc1⟩
      have k1 := (hrow.cell? 1).trans rfl
      have k2 := (hrow.cell? 2).trans rfl
      clear hX hrow
      go_wp2_with fail
      refine hp1.mono ?_
      rintro e u1 ⟨a1, rfl, ha, hr, hx⟩
      have hwr := Write_at HX.out HI.out.wf (by omega) hx ha hr pos
      have HS := Lib.hid (HI.out.write pos ⟨hc0, hc1⟩)
      clear hp1 ha hr hx
      generalize writeR D pos (allB c) c = D' at *
      go_wp2_with fail
      refine hwr.mono ?_
      rintro e u2 ⟨rfl, hA2⟩
      have HA2 := Lib.hid hA2
      clear hwr hA2
      go_wp2
      go_roundw
      case rel => exact ⟨k + 1, D'.1, hlt, by go_num, HS.out, HA2.out⟩
      case measure => simp [intOf]; omega
    · obtain rfl : k = m1 := by omega
      clear hk hlt HM1 HA1
      have hp1 : Calls Try.prog 12 #[.int .i64 at', .int .u8 77] wr _ := patch_ok at' 77 wr (by decide)
      obtain ⟨sf1, sf2, sf3⟩ := HI.out.safe hat10 (c := 77) (by decide)
      have sf0 := HI.out.yes (i := (at' : Int)) ⟨by omega, by omega⟩ 77
      have HW := Lib.hid (HI.out.write (at' : Int) (c := 77) (by decide)).wf
      go_wp2_with fail
      refine hp1.mono ?_
      rintro e u1 ⟨a1, rfl, ha, hr, hx⟩
      have hwr := Write_at HA.out HI.out.wf (by omega) hx ha hr at'
      rw [sf0] at hwr
      clear hp1 ha hr hx
      generalize (writeR D at' (allB 77) 77).1 = D1 at *
      go_wp2_with fail
      refine hwr.mono ?_
      rintro e u2 ⟨rfl, hA2⟩
      have hfl := Flush_at hA2 HW.out (by omega)
      rw [sf1] at hfl
      have HSF := Lib.hid (And.intro sf2 sf3)
      clear hwr hA2 sf1 sf2 sf3 sf0 HW HI HA
      generalize (flushR D1).1 = D2 at *
      go_wp2_with fail
      refine hfl.mono ?_
      rintro e u3 ⟨rfl, hA3⟩
      have HA3 := Lib.hid hA3
      have hf := HF2.out u3 (HX1.out.trans hA3.1)
      clear hfl hA3 HF2
      go_wp2_with fail
      refine hf.mono ?_
      rintro e u3' ⟨hw2, m2, rfl, hm2, hm2'⟩
      subst hw2
      have HM2 := Lib.hid (HA2.out.fewer hm2)
      clear hf hm2 HA2
      have hk200 : k + 2 ≤ 122 := by omega
      obtain ⟨b0, hb0⟩ : ∃ q, q = k + 2 := ⟨_, rfl⟩
      rw [← hb0] at HSF hk200
      clear hb0 hm1'
      go_wp2_with fail
      go_loopw [61] (fun v wr => ∃ (k : Nat) (D : Dsk), k ≤ m2 ∧ v = .int .i64 k ∧ D.Wf (b0 + k) ∧ Still at' (sC 77) D ∧ At w1 g gs sc D wr) (fun v _ => m2 - (intOf v).toNat)
      case atStart => exact ⟨0, _, by omega, rfl, HSF.out.1, HSF.out.2, HA3.out⟩
      case round =>
        obtain ⟨k, D, hk, rfl, hW, hS, hA⟩ := hrel
        have HW := Lib.hid hW
        have HS := Lib.hid hS
        have HA := Lib.hid hA
        clear hW hS hA
        by_cases hlt : k < m2
        · obtain ⟨b, off, rfl, hacts⟩ := HM2.out (by omega)
          obtain ⟨x, hx, hc⟩ := hacts k hlt
          obtain ⟨c0, c1, c2, c3, c4, c5⟩ := hc.ext (HX1.out.trans HA.out.1)
          have hxc := hx.2.2.1
          have hxp := hx.2.1
          have hxk := hx.1
          clear hacts hc hx
          obtain ⟨kind, pos, c, bp, bl, bc, tag, there⟩ := x
          dsimp only at *
          obtain ⟨hc0, hc1⟩ := hxc
          have hrow := Row.new wr 34 [.int .u8 kind, .int .i64 pos, .int .u8 c, .slice bp bl bc, .int .u16 tag, .int .u64 there]
          have hX := HA.out.ext ((Ext.refl wr).alloc (.cells #[.int .u8 kind, .int .i64 pos, .int .u8 c, .slice bp bl bc, .int .u16 tag, .int .u64 there] 34))
          have HX := Lib.hid hX
          have k0 := (hrow.cell? 0).trans rfl
          have k1 := (hrow.cell? 1).trans rfl
          have k2 := (hrow.cell? 2).trans rfl
          have k5 := (hrow.cell? 5).trans rfl
          have HWM := Lib.hid (show D.Wf (b0 + (k + 1)) from wf_more HW.out (by omega))
          clear hX hrow
          have hr5 : 0 ≤ kind % 5 ∧ kind % 5 < 5 := by omega
          rcases (show kind % 5 = 0 ∨ kind % 5 = 1 ∨ kind % 5 = 2 ∨ kind % 5 = 3 ∨ kind % 5 = 4 by omega) with hq | hq | hq | hq | hq
          · by_cases hpe : pos = at'
            · subst hpe
              go_wp2
              go_roundw
              case rel => exact ⟨k + 1, D, hlt, by go_num, HWM.out, HS.out, HX.out⟩
              case measure => simp [intOf]; omega
            · have hp1 := patch_ok pos c (wr.alloc (.cells #[.int .u8 kind, .int .i64 pos, .int .u8 c, .slice bp bl bc, .int .u16 tag, .int .u64 there] 34)) ⟨hc0, hc1⟩
              have HS2 := Lib.hid (HS.out.write hpe c)
              have HW2 := Lib.hid (write_wf HW.out pos ⟨hc0, hc1⟩)
              go_wp2_with fail
              refine hp1.mono ?_
              rintro e u1 ⟨a1, rfl, ha, hr, hx⟩
              have hwr := Write_at HX.out HW.out (by omega) hx ha hr pos
              clear hp1 ha hr hx
              generalize writeR D pos (allB c) c = D' at *
              go_wp2_with fail
              refine hwr.mono ?_
              rintro e u2 ⟨rfl, hA2⟩
              have HA2 := Lib.hid hA2
              clear hwr hA2
              go_wp2
              go_roundw
              case rel => exact ⟨k + 1, D'.1, hlt, by go_num, by rw [← Nat.add_assoc]; exact HW2.out, HS2.out, HA2.out⟩
              case measure => simp [intOf]; omega
          · by_cases hpe : pos = at'
            · subst hpe
              go_wp2
              go_roundw
              case rel => exact ⟨k + 1, D, hlt, by go_num, HWM.out, HS.out, HX.out⟩
              case measure => simp [intOf]; omega
            · have hp1 := patch_ok pos c (wr.alloc (.cells #[.int .u8 kind, .int .i64 pos, .int .u8 c, .slice bp bl bc, .int .u16 tag, .int .u64 there] 34)) ⟨hc0, hc1⟩
              have HS2 := Lib.hid (HS.out.write hpe c)
              have HW2 := Lib.hid (write_wf HW.out pos ⟨hc0, hc1⟩)
              go_wp2_with fail
              refine hp1.mono ?_
              rintro e u1 ⟨a1, rfl, ha, hr, hx⟩
              have hwr := Write_at HX.out HW.out (by omega) hx ha hr pos
              clear hp1 ha hr hx
              generalize writeR D pos (allB c) c = D' at *
              go_wp2_with fail
              refine hwr.mono ?_
              rintro e u2 ⟨rfl, hA2⟩
              have HA2 := Lib.hid hA2
              clear hwr hA2
              go_wp2
              go_roundw
              case rel => exact ⟨k + 1, D'.1, hlt, by go_num, by rw [← Nat.add_assoc]; exact HW2.out, HS2.out, HA2.out⟩
              case measure => simp [intOf]; omega
          · have hfl := Flush_at HX.out HW.out (by omega)
            have HS2 := Lib.hid HS.out.flush
            have HW2 := Lib.hid (flush_wf HW.out)
            generalize flushR D = D' at *
            go_wp2_with fail
            refine hfl.mono ?_
            rintro e u2 ⟨rfl, hA2⟩
            have HA2 := Lib.hid hA2
            clear hfl hA2
            go_wp2
            go_roundw
            case rel => exact ⟨k + 1, D'.1, hlt, by go_num, by rw [← Nat.add_assoc]; exact HW2.out, HS2.out, HA2.out⟩
            case measure => simp [intOf]; omega
          · have hfl := Cut_at HX.out pos
            have HS2 := Lib.hid (HS.out.cut pos)
            have HW2 := Lib.hid (wf_more (cutR_wf HW.out hxp.2) (show b0 + k ≤ b0 + (k + 1) by omega))
            generalize cutR D pos = D' at *
            go_wp2_with fail
            refine hfl.mono ?_
            rintro e u2 ⟨rfl, hA2⟩
            have HA2 := Lib.hid hA2
            clear hfl hA2
            go_wp2
            go_roundw
            case rel => exact ⟨k + 1, D', hlt, by go_num, HW2.out, HS2.out, HA2.out⟩
            case measure => simp [intOf]; omega
          · have hfl := Crash_at HX.out HW.out (by omega) there
            have HS2 := Lib.hid (HS.out.crash HW.out there)
            have HW2 := Lib.hid (wf_more (crash_wf HW.out there) (show b0 + k ≤ b0 + (k + 1) by omega))
            generalize crashR D there = D' at *
            go_wp2_with fail
            refine hfl.mono ?_
            rintro e u2 ⟨rfl, hA2⟩
            have HA2 := Lib.hid hA2
            clear hfl hA2
            go_wp2
            go_roundw
            case rel => exact ⟨k + 1, D', hlt, by go_num, HW2.out, HS2.out, HA2.out⟩
            case measure => simp [intOf]; omega
        · obtain rfl : k = m2 := by omega
          have hcr : Calls Try.prog 15 #[.pointer (some ⟨g, 0, none⟩), .int .u64 0] wr _ := Crash_at HA.out HW.out (by omega) 0
          have hS3 := HS.out.crash HW.out 0
          have hgt : getR (crashR D 0) (at' : Int) = (sC 77, 0) := by rw [getR_yes hS3.lt rfl, hS3.is]
          have hrt : readR (crashR D 0) (at' : Int) = (allB 77, 0) := by
            unfold readR
            rw [hgt, if_pos rfl]
            show (pad64 (allB 77), (0 : Int)) = _
            rw [pad64_of (allB_len 77)]
          have HG := Lib.hid hgt
          have HR := Lib.hid hrt
          clear hS3 hgt hrt HS HW HSF HM2 hk200
          generalize crashR D 0 = D3 at *
          go_wp2_with fail
          refine hcr.mono ?_
          rintro e u4 ⟨rfl, hA4⟩
          have HA4 := Lib.hid hA4
          have hrd := Read_at hA4 at'
          rw [HR.out] at hrd
          clear hcr hA4
          go_wp2_with fail
          refine hrd.mono ?_
          rintro e u5 ⟨a5, c5, rfl, ho5, hx5⟩
          dsimp only at ho5 ⊢
          rw [allB_len] at ho5 ⊢
          have HO5 := Lib.hid (ownsRow_sl ho5)
          have HA5 := Lib.hid (HA4.out.ext hx5)
          have htg := Tag_at HA5.out at'
          rw [HG.out] at htg
          clear hrd ho5 hx5
          go_wp2_with fail
          refine htg.mono ?_
          rintro e u6 ⟨rfl, hx6⟩
          have HO6 := Lib.hid (HO5.out.ext hx6)
          have HA6 := Lib.hid (HA5.out.ext hx6)
          clear htg hx6
          dsimp only [sC]
          go_wp2_with fail
          obtain ⟨S1, hS1⟩ : ∃ q, q = strOf (allB 77) := ⟨_, rfl⟩
          have hconv : ∀ (v : World) (a : Option Addr) (c : Nat), Sl v a (ints .u8 (allB 77)) → (convert 29 9 (.slice a 64 c)).run Try.prog v = .ok (.string S1) v := fun v a c hs => by
            rw [hS1]; exact run_conv_str (P := Try.prog) v 29 9 5 Try.underlying29 Try.underlying5 Try.underlying9 c hs (allB_len 77)
          have HCV := Lib.hid hconv
          have HALL := Lib.hid (show ∀ v : World, Ext u6 v → (Ext u6 v ∧ (convert 29 9 (.slice a5 64 c5)).run Try.prog v = .ok (.string S1) v) from fun v hv => ⟨hv, hconv v a5 c5 (HO6.out.ext hv)⟩)
          have hq1 : (S1.toList == S1.toList) = true := by simp
          clear hconv hS1
          refine wp_region_held_drew (S := (fun v => Ext u6 v ∧ (convert 29 9 (.slice a5 64 c5)).run Try.prog v = .ok (.string S1) v)) (by kernel_rfl) (HALL.out _ ((Ext.refl _).drew)) (fun hHeld => ?_)
          refine takeD (i := 0) (v := ?_) rfl rfl (by kernel_rfl) (by kernel_rfl) (by kernel_rfl) (fun _ _ _ h => h) (Or.inl ⟨by rfl, ?_⟩) hHeld ?_
          rotate_left
          · (intro v hv; obtain ⟨_, hv1⟩ := hv; go_simp; try (with_reducible rfl))
          (try simp only [List.setIfInBounds_toArray, List.set_cons_zero, List.set_cons_succ])
          refine takeD (i := 1) (v := ?_) rfl rfl (by kernel_rfl) (by kernel_rfl) (by kernel_rfl) (fun _ _ _ h => h) (Or.inl ⟨by rfl, ?_⟩) hHeld ?_
          rotate_left
          · (intro v hv; obtain ⟨_, hv1⟩ := hv; go_simp; try (with_reducible rfl))
          (try simp only [List.setIfInBounds_toArray, List.set_cons_zero, List.set_cons_succ])
          refine takeD (i := 2) (v := ?_) rfl rfl (by kernel_rfl) (by kernel_rfl) (by kernel_rfl) (fun _ _ _ h => h) (Or.inl ⟨by rfl, ?_⟩) hHeld ?_
          rotate_left
          · (intro v hv; obtain ⟨_, hv1⟩ := hv; go_simp; try (with_reducible rfl))
          (try simp only [List.setIfInBounds_toArray, List.set_cons_zero, List.set_cons_succ])
          refine takeD (i := 3) (v := ?_) rfl rfl (by kernel_rfl) (by kernel_rfl) (by kernel_rfl) (fun _ _ _ h => h) (Or.inl ⟨by rfl, ?_⟩) hHeld ?_
          rotate_left
          · (intro v hv; obtain ⟨_, hv1⟩ := hv; go_simp; try (with_reducible rfl))
          (try simp only [List.setIfInBounds_toArray, List.set_cons_zero, List.set_cons_succ])
          refine takeD (i := 4) (v := ?_) rfl rfl (by kernel_rfl) (by kernel_rfl) (by kernel_rfl) (fun _ _ _ h => h) (Or.inl ⟨by rfl, ?_⟩) hHeld ?_
          rotate_left
          · (intro v hv; obtain ⟨_, hv1⟩ := hv; go_simp; try (with_reducible rfl))
          (try simp only [List.setIfInBounds_toArray, List.set_cons_zero, List.set_cons_succ])
          refine takeD (i := 5) (v := ?_) rfl rfl (by kernel_rfl) (by kernel_rfl) (by kernel_rfl) (fun _ _ _ h => h) (Or.inl ⟨by rfl, ?_⟩) hHeld ?_
          rotate_left
          · (intro v hv; obtain ⟨_, hv1⟩ := hv; go_simp; try (with_reducible rfl))
          (try simp only [List.setIfInBounds_toArray, List.set_cons_zero, List.set_cons_succ])
          refine takeD (i := 6) (v := ?_) rfl rfl (by kernel_rfl) (by kernel_rfl) (by kernel_rfl) (fun _ _ _ h => h) (Or.inl ⟨by rfl, ?_⟩) hHeld ?_
          rotate_left
          · (intro v hv; obtain ⟨_, hv1⟩ := hv; go_simp; try (with_reducible rfl))
          (try simp only [List.setIfInBounds_toArray, List.set_cons_zero, List.set_cons_succ])
          refine takeD (i := 7) (v := ?_) rfl rfl (by kernel_rfl) (by kernel_rfl) (by kernel_rfl) (fun _ _ _ h => h) (Or.inl ⟨by rfl, ?_⟩) hHeld ?_
          rotate_left
          · (intro v hv; obtain ⟨_, hv1⟩ := hv; go_simp; try (with_reducible rfl))
          (try simp only [List.setIfInBounds_toArray, List.set_cons_zero, List.set_cons_succ])
          refine takeD (i := 8) (v := ?_) rfl rfl (by kernel_rfl) (by kernel_rfl) (by kernel_rfl) (fun _ _ _ h => h) (Or.inl ⟨by rfl, ?_⟩) hHeld ?_
          rotate_left
          · (intro v hv; obtain ⟨_, hv1⟩ := hv; go_simp; try (with_reducible rfl))
          (try simp only [List.setIfInBounds_toArray, List.set_cons_zero, List.set_cons_succ])
          refine takeD (i := 9) (v := ?_) rfl rfl (by kernel_rfl) (by kernel_rfl) (by kernel_rfl) (fun _ _ _ h => h) (Or.inl ⟨by rfl, ?_⟩) hHeld ?_
          rotate_left
          · (intro v hv; obtain ⟨_, hv1⟩ := hv; go_simp; try (with_reducible rfl))
          (try simp only [List.setIfInBounds_toArray, List.set_cons_zero, List.set_cons_succ])
          refine takeD (i := 10) (v := ?_) rfl rfl (by kernel_rfl) (by kernel_rfl) (by kernel_rfl) (fun _ _ _ h => h) (Or.inl ⟨by rfl, ?_⟩) hHeld ?_
          rotate_left
          · (intro v hv; obtain ⟨_, hv1⟩ := hv; go_simp; try (with_reducible rfl))
          (try simp only [List.setIfInBounds_toArray, List.set_cons_zero, List.set_cons_succ])
          refine takeD (i := 11) (v := (.string S1)) rfl rfl (by kernel_rfl) (by kernel_rfl) (by kernel_rfl) (fun _ _ _ h => h) (Or.inl ⟨by rfl, ?_⟩) hHeld ?_
          · (intro v hv; obtain ⟨_, hv1⟩ := hv; go_simp; try (with_reducible rfl))
          (try simp only [List.setIfInBounds_toArray, List.set_cons_zero, List.set_cons_succ])
          refine wpAnyH_ready (rs := [12]) (by kernel_rfl) (by simp) ?_
          refine AllReadyH.cons rfl (fun K hK => ?_) AllReadyH.nil
          go_simp
          have k1 : Calls Try.prog 18 #[.int .u8 77] _ _ := sector_ok 77 u6.drew
          refine k1.mono ?_
          rintro e v1 ⟨b1, rfl, hb1, hr1, hx1⟩
          have cv1 := HCV.out v1 (some ⟨b1, 0, none⟩) 64 hr1.sl0
          refine hK.out _ _ (HALL.out _ (hHeld.1.trans hx1)) (fun hHeld => ?_)
          clear hK
          refine wpAnyH_ready (rs := [13]) (by kernel_rfl) (by simp) ?_
          refine AllReadyH.cons rfl (fun K hK => ?_) AllReadyH.nil
          go_simp
          refine hK.out _ _ hHeld (fun hHeld => ?_)
          clear hK
          refine takeD (i := 14) (v := ?_) rfl rfl (by kernel_rfl) (by kernel_rfl) (by kernel_rfl) (fun _ _ _ h => h) (Or.inl ⟨by rfl, ?_⟩) hHeld ?_
          rotate_left
          · (intro v hv; obtain ⟨_, hv1⟩ := hv; go_simp; try (with_reducible rfl))
          (try simp only [List.setIfInBounds_toArray, List.set_cons_zero, List.set_cons_succ])
          refine takeD (i := 15) (v := ?_) rfl rfl (by kernel_rfl) (by kernel_rfl) (by kernel_rfl) (fun _ _ _ h => h) (Or.inl ⟨by rfl, ?_⟩) hHeld ?_
          rotate_left
          · (intro v hv; obtain ⟨_, hv1⟩ := hv; go_simp; try (with_reducible rfl))
          (try simp only [List.setIfInBounds_toArray, List.set_cons_zero, List.set_cons_succ])
          refine takeD (i := 16) (v := ?_) rfl rfl (by kernel_rfl) (by kernel_rfl) (by kernel_rfl) (fun _ _ _ h => h) (Or.inl ⟨by rfl, ?_⟩) hHeld ?_
          rotate_left
          · (intro v hv; obtain ⟨_, hv1⟩ := hv; go_simp; try (with_reducible rfl))
          (try simp only [List.setIfInBounds_toArray, List.set_cons_zero, List.set_cons_succ])
          refine takeD (i := 17) (v := ?_) rfl rfl (by kernel_rfl) (by kernel_rfl) (by kernel_rfl) (fun _ _ _ h => h) (Or.inl ⟨by rfl, ?_⟩) hHeld ?_
          rotate_left
          · (intro v hv; obtain ⟨_, hv1⟩ := hv; go_simp; try (with_reducible rfl))
          (try simp only [List.setIfInBounds_toArray, List.set_cons_zero, List.set_cons_succ])
          refine takeD (i := 18) (v := ?_) rfl rfl (by kernel_rfl) (by kernel_rfl) (by kernel_rfl) (fun _ _ _ h => h) (Or.inl ⟨by rfl, ?_⟩) hHeld ?_
          rotate_left
          · (intro v hv; obtain ⟨_, hv1⟩ := hv; go_simp; try (with_reducible rfl))
          (try simp only [List.setIfInBounds_toArray, List.set_cons_zero, List.set_cons_succ])
          refine takeD (i := 19) (v := ?_) rfl rfl (by kernel_rfl) (by kernel_rfl) (by kernel_rfl) (fun _ _ _ h => h) (Or.inl ⟨by rfl, ?_⟩) hHeld ?_
          rotate_left
          · (intro v hv; obtain ⟨_, hv1⟩ := hv; go_simp; try (with_reducible rfl))
          (try simp only [List.setIfInBounds_toArray, List.set_cons_zero, List.set_cons_succ])
          refine takeD (i := 20) (v := ?_) rfl rfl (by kernel_rfl) (by kernel_rfl) (by kernel_rfl) (fun _ _ _ h => h) (Or.inl ⟨by rfl, ?_⟩) hHeld ?_
          rotate_left
          · (intro v hv; obtain ⟨_, hv1⟩ := hv; go_simp; try (with_reducible rfl))
          (try simp only [List.setIfInBounds_toArray, List.set_cons_zero, List.set_cons_succ])
          refine wpAnyH_done (by kernel_rfl) ?_ _
          go_wp2
          go_ret
          exact ⟨rfl, HX1.out.trans (HA6.out.1.trans hHeld.1)⟩

theorem law_DiskSafe {H : Type} {enc : TypeId × Value → H} {base : Nat} {d0 d1 d2 : DataW H} {p0 p1 p2 : List MemPlace} (v0 v1 v2 : Value) (w : World)
    (ho0 : Value.okWide Try.prog w .any base 22 v0) (h0 : DataW.Trod enc Try.prog w 0 (fun _ => true) true 22 v0 d0 p0)
    (ho1 : Value.okWide Try.prog w .any base 22 v1) (h1 : DataW.Trod enc Try.prog w 0 (fun _ => true) true 22 v1 d1 p1)
    (ho2 : Value.okWide Try.prog w .any base 5 v2) (h2 : DataW.Trod enc Try.prog w 0 (fun _ => true) true 5 v2 d2 p2) :
    Calls Try.prog 3 #[v0, v1, v2] w fun e w' => e = .returned (.bool true) ∧ Below w.heap.size w w' := by
  obtain ⟨a1, n1, cap1, rfl, hn1, hm1, hs1⟩ := acts_in ho0 h0
  obtain ⟨a2, n2, cap2, rfl, hn2, hm2, hs2⟩ := acts_in ho1 h1
  obtain ⟨x, rfl, _, _, hx⟩ := open_int Try.underlying5 ho2 h2
  have bx := bounds_u8 hx
  obtain ⟨n, rfl⟩ : ∃ n : Nat, x = n := ⟨x.toNat, by omega⟩
  exact safe_walk a1 n1 cap1 a2 n2 cap2 n w hn1 hm1 hn2 hm2 hs1 hs2 (by omega)
end Go.Proofs.Ytfonkicpjkcchaa.Dk
