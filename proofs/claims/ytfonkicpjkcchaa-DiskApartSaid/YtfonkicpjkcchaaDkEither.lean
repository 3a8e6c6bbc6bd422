/- The law DiskEither (written by gen_either.py). -/
import Derived.Test.YtfonkicpjkcchaaDkSafe
import Derived.Test.YtfonkicpjkcchaaDkM
namespace Go.Proofs.Ytfonkicpjkcchaa.Dk
open Go.RowKit Words Mem Plain Ops Agg OwnS
open Go.Joins Go.ChangeShapes Go.WideShapes Go.Deep
set_option linter.ambiguousOpen false
set_option linter.unusedVariables false
set_option linter.unusedSimpArgs false

theorem Dead_of {w0 u : World} {g gs sc : Nat} {D : Dsk} (h : At w0 g gs sc D u) :
    Calls Try.prog 19 #[.pointer (some ⟨g, 0, none⟩)] u fun e w' => e = .returned (.bool D.dead) ∧ w' = u := by
  obtain ⟨h1, wa, wc, h2⟩ := h
  exact Dead_ok h2
theorem allB_bytes {c : Int} (hc : 0 ≤ c ∧ c ≤ 255) : isBytes (allB c) := fun x hx => by obtain rfl := List.eq_of_mem_replicate hx; omega
theorem allB_inj {c d : Int} (h : allB c = allB d) : c = d := by
  have := congrArg (fun l => l.head?) h
  simpa [allB] using this
theorem info1 : (Try.prog.info? 5).map (·.size) = some 1 := by kernel_rfl
theorem May.byte {at' : Nat} {M : List Int} {D : Dsk} (h : May at' M D) : 0 < M.length := by
  obtain ⟨c, h1, _⟩ := h.last
  cases M with
  | nil => cases h1
  | cons => simp
set_option maxHeartbeats 8000000 in
set_option maxRecDepth 100000 in
theorem either_walk (a1 : Option Addr) (n1 cap1 : Nat) (there sec : Nat) (w : World) (hs1 : n1 ≤ cap1) (hm1 : cap1 ≤ 9223372036854775807)
    (ha1 : ActsAt w a1 n1) (hsec : sec ≤ 255) :
    Calls Try.prog 4 #[.slice a1 n1 cap1, .int .u64 there, .int .u8 sec] w fun e w' => e = .returned (.bool true) ∧ Ext w w' := by
  have HA1 := Lib.hid ha1
  have HF1 := Lib.hid (fun (v : World) (e : Ext w v) => few_ok a1 n1 cap1 v hs1 hm1 (ha1.ext e))
  obtain ⟨at', hat⟩ : ∃ q : Nat, q = sec % 10 := ⟨_, rfl⟩
  have hat10 : at' < 10 := by omega
  clear ha1 hs1 hm1
  go_enter Try.func4, Try.ntmps4
  go_wp2_with fail
  refine (shown_ok w).mono ?_
  rintro e w1 ⟨rfl, h1⟩
  have HX1 := Lib.hid h1
  clear h1
  have hnew : Calls Try.prog 9 #[.int .i64 10] w1 _ := New_at 10 w1 (by decide)
  go_wp2_with fail
  refine hnew.mono ?_
  rintro e w2 ⟨g, gs, sc, rfl, h2⟩
  have hX := (Ext.refl w2).alloc (.cells #[.int .u8 0] 5)
  have hrow := Row.new w2 5 [.int .u8 0]
  have HM := Lib.hid (h2.fresh (Y := fun k => k = w2.heap.size) hX (by rintro k rfl; simp))
  have HW := Lib.hid (show Win (w2.alloc (.cells #[.int .u8 0] 5)) w2.heap.size 0 1 1 [0] from ⟨rfl, Nat.le_refl _, [.int .u8 0], hrow, rfl, fun j hj => by
    have : j = 0 := by simpa using hj
    subst this; rfl⟩)
  have hf := HF1.out _ (HX1.out.trans (h2.1.trans hX))
  clear hnew h2 HF1 hX hrow
  go_wp2_with fail
  rw [show (sec : Int) % 10 = (at' : Nat) by omega]
  refine hf.mono ?_
  rintro e w2' ⟨hw2, m1, rfl, hm1, hm1'⟩
  subst hw2
  clear hf hat hsec
  have HM1 := Lib.hid (HA1.out.fewer hm1)
  clear hm1
  have HLN := Lib.hid (newD_wf (n := 10) (by decide) 0)
  have HMN := Lib.hid (may_new hat10)
  go_wp2_with fail
  go_loopw [40, 11] (fun v u wr => ∃ (k : Nat) (D : Dsk) (M : List Int) (gm off n cap : Nat), k ≤ m1 ∧ v = .int .i64 k ∧ u = .slice (some ⟨gm, off, none⟩) n cap ∧ n ≤ k + 1 ∧ D.Wf k ∧ May at' M D ∧ (∀ c ∈ M, 0 ≤ c ∧ c ≤ 255) ∧ AtM w1 g gs sc D (fun q => q = gm) wr ∧ Win wr gm off n cap M) (fun v _ _ => m1 - (intOf v).toNat)
  case atStart => exact ⟨0, _, [0], _, _, _, _, by omega, rfl, rfl, by omega, HLN.out, HMN.out, by simp, HM.out, HW.out⟩
  case round =>
    obtain ⟨k, D, M, gm, off, n, cap, hk, rfl, rfl, hn, hWf, hMay, hB, hA, hWin⟩ := hrel
    have HWF := Lib.hid hWf
    have HMAY := Lib.hid hMay
    have HB := Lib.hid hB
    have HA := Lib.hid hA
    have HWIN := Lib.hid hWin
    clear hWf hMay hB hA hWin
    by_cases hlt : k < m1
    · obtain ⟨b, off2, rfl, hacts⟩ := HM1.out (by omega)
      obtain ⟨x, hx, hc⟩ := hacts k hlt
      obtain ⟨c0, c1, c2, c3, c4, c5⟩ := hc.ext (HX1.out.trans HA.out.1)
      have hxc := hx.2.2.1
      have hxp := hx.2.1
      have hxk := hx.1
      clear hacts hc hx
      obtain ⟨kind, pos, c, bp, bl, bc, tag, thr⟩ := x
      dsimp only at *
      have hXX := (Ext.refl wr).alloc (.cells #[.int .u8 kind, .int .i64 pos, .int .u8 c, .slice bp bl bc, .int .u16 tag, .int .u64 thr] 34)
      have hrow := Row.new wr 34 [.int .u8 kind, .int .i64 pos, .int .u8 c, .slice bp bl bc, .int .u16 tag, .int .u64 thr]
      have hX := HA.out.add hXX (Y := fun q => q = gm ∨ q = wr.heap.size) (by rintro q (rfl | rfl); exact .inl rfl; exact .inr (by simp))
      have HX := Lib.hid hX
      have HWIN2 := Lib.hid (HWIN.out.ext hXX)
      have HROW := Lib.hid hrow
      have HSZ := Lib.hid (show gm < wr.heap.size from HWIN.out.lt)
      have k0 := (hrow.cell? 0).trans rfl
      have k1 := (hrow.cell? 1).trans rfl
      have k2 := (hrow.cell? 2).trans rfl
      have HWM := Lib.hid (show D.Wf (k + 1) from wf_more HWF.out (by omega))
      clear hX hrow hXX
      have hr5 : 0 ≤ kind % 5 ∧ kind % 5 < 5 := by omega
      rcases (show kind % 5 = 0 ∨ kind % 5 = 1 ∨ kind % 5 = 2 ∨ kind % 5 = 3 ∨ kind % 5 = 4 by omega) with hq | hq | hq | hq | hq
      · have hp1 := patch_ok pos c (wr.alloc (.cells #[.int .u8 kind, .int .i64 pos, .int .u8 c, .slice bp bl bc, .int .u16 tag, .int .u64 thr] 34)) hxc
        have HCC := Lib.hid hxc
        obtain ⟨hc0, hc1⟩ := hxc
        go_wp2_with fail
        refine hp1.mono ?_
        rintro e u1 ⟨a1, rfl, ha, hr, hx⟩
        have hwr := Write_atM HX.out HWF.out (by omega) hx ha hr pos
        have HW2 := Lib.hid (write_wf HWF.out pos HCC.out)
        have HNO := Lib.hid (fun h => HMAY.out.write_no (i := pos) (c := c) h)
        have HYES := Lib.hid (fun (h : pos = at') (h2 : (writeR D pos (allB c) c).2 = 0) => (show May at' (M ++ [c]) (writeR D pos (allB c) c).1 from by subst h; exact HMAY.out.write h2))
        clear hp1 ha hr hx
        generalize writeR D pos (allB c) c = D' at *
        obtain ⟨D', rc⟩ := D'
        dsimp only at *
        go_wp2_with fail
        refine hwr.mono ?_
        rintro e u2 ⟨rfl, hA2, hS2⟩
        have HA2 := Lib.hid hA2
        have HW3 := Lib.hid (HWIN2.out.kept (hS2 gm (.inl rfl)))
        have hrow := (hS2 _ (.inr rfl)).trans HROW.out
        have hrow : Row u2 wr.heap.size 34 [.int .u8 kind, .int .i64 pos, .int .u8 c, .slice bp bl bc, .int .u16 tag, .int .u64 thr] := hrow
        have k1 := (hrow.cell? 1).trans rfl
        have k2 := (hrow.cell? 2).trans rfl
        clear hwr hA2 hS2 hrow
        by_cases hz : rc = 0
        · subst hz
          by_cases hpe : pos = at'
          · subst hpe
            have hmore := HW3.out.more (by omega) c rfl
            obtain ⟨gm', off', cap', u3, hap, hw3, hside⟩ := hmore
            have HW4 := Lib.hid hw3
            have HY := Lib.hid (HYES.out rfl rfl)
            have HA3 := Lib.hid (show AtM w1 g gs sc D' (fun q => q = gm') u3 from by
              rcases hside with ⟨rfl, hc⟩ | ⟨hge, he⟩
              · exact (HA2.out.sub (Y := fun q => q = gm') (by rintro q rfl; exact .inl rfl)).guest hc
              · exact HA2.out.add he (by rintro q rfl; exact .inr ⟨hge, hw3.lt⟩))
            clear hside hw3
            go_wp2_with (at_builtin; refine Guard.wpList_append_want _ rfl _ _ _ _ rfl _ _ rfl rfl _ _ hap ?_)
            go_roundw
            case rel => exact ⟨k + 1, D', M ++ [c], gm', off', n + 1, cap', hlt, by go_num, rfl, by omega, HW2.out, HY.out, by
              intro z hz
              rcases List.mem_append.1 hz with hz | hz
              · exact HB.out z hz
              · simp at hz; subst hz; exact HCC.out, HA3.out, HW4.out⟩
            case measure => simp [intOf]; omega
          · have HY := Lib.hid (HNO.out (.inr hpe))
            have HA3 := Lib.hid (HA2.out.sub (Y := fun q => q = gm) (by rintro q rfl; exact .inl rfl))
            go_wp2
            go_roundw
            case rel => exact ⟨k + 1, D', M, gm, off, n, cap, hlt, by go_num, rfl, by omega, HW2.out, HY.out, HB.out, HA3.out, HW3.out⟩
            case measure => simp [intOf]; omega
        · have HY := Lib.hid (HNO.out (.inl hz))
          have HA3 := Lib.hid (HA2.out.sub (Y := fun q => q = gm) (by rintro q rfl; exact .inl rfl))
          go_wp2
          go_roundw
          case rel => exact ⟨k + 1, D', M, gm, off, n, cap, hlt, by go_num, rfl, by omega, HW2.out, HY.out, HB.out, HA3.out, HW3.out⟩
          case measure => simp [intOf]; omega
      · have hp1 := patch_ok pos c (wr.alloc (.cells #[.int .u8 kind, .int .i64 pos, .int .u8 c, .slice bp bl bc, .int .u16 tag, .int .u64 thr] 34)) hxc
        have HCC := Lib.hid hxc
        obtain ⟨hc0, hc1⟩ := hxc
        go_wp2_with fail
        refine hp1.mono ?_
        rintro e u1 ⟨a1, rfl, ha, hr, hx⟩
        have hwr := Write_atM HX.out HWF.out (by omega) hx ha hr pos
        have HW2 := Lib.hid (write_wf HWF.out pos HCC.out)
        have HNO := Lib.hid (fun h => HMAY.out.write_no (i := pos) (c := c) h)
        have HYES := Lib.hid (fun (h : pos = at') (h2 : (writeR D pos (allB c) c).2 = 0) => (show May at' (M ++ [c]) (writeR D pos (allB c) c).1 from by subst h; exact HMAY.out.write h2))
        clear hp1 ha hr hx
        generalize writeR D pos (allB c) c = D' at *
        obtain ⟨D', rc⟩ := D'
        dsimp only at *
        go_wp2_with fail
        refine hwr.mono ?_
        rintro e u2 ⟨rfl, hA2, hS2⟩
        have HA2 := Lib.hid hA2
        have HW3 := Lib.hid (HWIN2.out.kept (hS2 gm (.inl rfl)))
        have hrow := (hS2 _ (.inr rfl)).trans HROW.out
        have hrow : Row u2 wr.heap.size 34 [.int .u8 kind, .int .i64 pos, .int .u8 c, .slice bp bl bc, .int .u16 tag, .int .u64 thr] := hrow
        have k1 := (hrow.cell? 1).trans rfl
        have k2 := (hrow.cell? 2).trans rfl
        clear hwr hA2 hS2 hrow
        by_cases hz : rc = 0
        · subst hz
          by_cases hpe : pos = at'
          · subst hpe
            have hmore := HW3.out.more (by omega) c rfl
            obtain ⟨gm', off', cap', u3, hap, hw3, hside⟩ := hmore
            have HW4 := Lib.hid hw3
            have HY := Lib.hid (HYES.out rfl rfl)
            have HA3 := Lib.hid (show AtM w1 g gs sc D' (fun q => q = gm') u3 from by
              rcases hside with ⟨rfl, hc⟩ | ⟨hge, he⟩
              · exact (HA2.out.sub (Y := fun q => q = gm') (by rintro q rfl; exact .inl rfl)).guest hc
              · exact HA2.out.add he (by rintro q rfl; exact .inr ⟨hge, hw3.lt⟩))
            clear hside hw3
            go_wp2_with (at_builtin; refine Guard.wpList_append_want _ rfl _ _ _ _ rfl _ _ rfl rfl _ _ hap ?_)
            go_roundw
            case rel => exact ⟨k + 1, D', M ++ [c], gm', off', n + 1, cap', hlt, by go_num, rfl, by omega, HW2.out, HY.out, by
              intro z hz
              rcases List.mem_append.1 hz with hz | hz
              · exact HB.out z hz
              · simp at hz; subst hz; exact HCC.out, HA3.out, HW4.out⟩
            case measure => simp [intOf]; omega
          · have HY := Lib.hid (HNO.out (.inr hpe))
            have HA3 := Lib.hid (HA2.out.sub (Y := fun q => q = gm) (by rintro q rfl; exact .inl rfl))
            go_wp2
            go_roundw
            case rel => exact ⟨k + 1, D', M, gm, off, n, cap, hlt, by go_num, rfl, by omega, HW2.out, HY.out, HB.out, HA3.out, HW3.out⟩
            case measure => simp [intOf]; omega
        · have HY := Lib.hid (HNO.out (.inl hz))
          have HA3 := Lib.hid (HA2.out.sub (Y := fun q => q = gm) (by rintro q rfl; exact .inl rfl))
          go_wp2
          go_roundw
          case rel => exact ⟨k + 1, D', M, gm, off, n, cap, hlt, by go_num, rfl, by omega, HW2.out, HY.out, HB.out, HA3.out, HW3.out⟩
          case measure => simp [intOf]; omega
      · have hfl := Flush_atM HX.out HWF.out (by omega)
        have HW2 := Lib.hid (flush_wf HWF.out)
        have HNO := Lib.hid (fun h => HMAY.out.flush_no h)
        obtain ⟨cl, hcl, _⟩ := HMAY.out.last
        have HYES := Lib.hid (fun h => HMAY.out.flush h hcl)
        have HLEN := Lib.hid (HWIN.out.len)
        have hn0 : 0 < n := by have := HMAY.out.byte; have := HLEN.out; omega
        have HDROP := Lib.hid (show M.drop (n - 1) = [cl] ∧ (0 ≤ cl ∧ cl ≤ 255) from by
          obtain ⟨pre, rfl⟩ : ∃ pre, M = pre ++ [cl] := ⟨M.dropLast, by rw [List.getLast?_eq_some_iff] at hcl; obtain ⟨ys, rfl⟩ := hcl; simp⟩
          have : n - 1 = pre.length := by have := HLEN.out; simp at this; omega
          rw [this, List.drop_left]
          exact ⟨rfl, HB.out cl (by simp)⟩)
        clear hcl
        generalize flushR D = D' at *
        obtain ⟨D', rc⟩ := D'
        dsimp only at *
        go_wp2_with fail
        refine hfl.mono ?_
        rintro e u2 ⟨rfl, hA2, hS2⟩
        have HA3 := Lib.hid (hA2.sub (Y := fun q => q = gm) (by rintro q rfl; exact .inl rfl))
        have HW3 := Lib.hid (HWIN2.out.kept (hS2 gm (.inl rfl)))
        clear hfl hA2 hS2
        by_cases hz : rc = 0
        · subst hz
          have hwrap : IntKind.i64.wrap ((n : Int) - 1) = (n : Int) - 1 := IntWalk.i64_in _ (by omega)
          have hle := HW3.out.le
          have hsl := run_slice_from (P := Try.prog) u2 29 5 Try.underlying29 info1 (some ⟨gm, off, none⟩) n cap (n - 1) .i64 ((n : Int) - 1) (by omega) (by omega)
          have hcut : cutA (some ⟨gm, off, none⟩) cap (n - 1) = some ⟨gm, off + (n - 1), none⟩ := by
            unfold cutA
            rw [if_neg (by omega)]
            show some (Addr.add _ _) = _
            rw [Addr.add_lit]
          rw [hcut, show n - (n - 1) = 1 by omega] at hsl
          have hwin := HW3.out.last (k := n - 1) (by omega)
          rw [HDROP.out.1, show n - (n - 1) = 1 by omega] at hwin
          have HW4 := Lib.hid hwin
          have HY := Lib.hid (HYES.out rfl)
          clear hcut hwin hle
          go_wp2
          go_roundw
          case rel => exact ⟨k + 1, D', [cl], gm, _, 1, _, hlt, by go_num, rfl, by omega, HW2.out, HY.out, by
            intro z hz
            simp at hz; subst hz; exact HDROP.out.2, HA3.out, HW4.out⟩
          case measure => simp [intOf]; omega
        · have HY := Lib.hid (HNO.out hz)
          go_wp2
          go_roundw
          case rel => exact ⟨k + 1, D', M, gm, off, n, cap, hlt, by go_num, rfl, by omega, HW2.out, HY.out, HB.out, HA3.out, HW3.out⟩
          case measure => simp [intOf]; omega
      · have hfl := Cut_atM HX.out pos
        have HY := Lib.hid (HMAY.out.cut pos)
        have HW2 := Lib.hid (wf_more (cutR_wf HWF.out hxp.2) (show k ≤ k + 1 by omega))
        generalize cutR D pos = D' at *
        go_wp2_with fail
        refine hfl.mono ?_
        rintro e u2 ⟨rfl, hA2, hS2⟩
        have HA3 := Lib.hid (hA2.sub (Y := fun q => q = gm) (by rintro q rfl; exact .inl rfl))
        have HW3 := Lib.hid (HWIN2.out.kept (hS2 gm (.inl rfl)))
        clear hfl hA2 hS2
        go_wp2
        go_roundw
        case rel => exact ⟨k + 1, D', M, gm, off, n, cap, hlt, by go_num, rfl, by omega, HW2.out, HY.out, HB.out, HA3.out, HW3.out⟩
        case measure => simp [intOf]; omega
      · have HAR := Lib.hid (HX.out.sub (Y := fun q => q = gm) (by rintro q rfl; exact .inl rfl))
        obtain ⟨cl, hcl, hsg⟩ := HMAY.out.last
        have hlen := HWIN.out.len
        have hrd := Read_at HAR.out.at_ at'
        have hlt10 := HMAY.out.lt
        cases hdead : D.dead
        · have hgt : getR D (at' : Int) = (sC cl, 0) := by rw [getR_yes hlt10 hdead, hsg]
          have hrt : readR D (at' : Int) = (allB cl, 0) := by
            unfold readR
            rw [hgt, if_pos rfl]
            show (pad64 (allB cl), (0 : Int)) = _
            rw [pad64_of (allB_len cl)]
          rw [hrt] at hrd
          obtain ⟨q, rfl⟩ : ∃ q, n = q + 1 := ⟨n - 1, by have := HMAY.out.byte; omega⟩
          have hlast : ∀ (v : World), Ext wr v → v.cell? ⟨gm, off + q, none⟩ = some (.int .u8 cl) := fun v hv => by
            have h := (HWIN.out.ext hv).cell (j := q) (by omega)
            rw [h]
            have : M[q]? = some cl := by rw [List.getLast?_eq_getElem?, hlen] at hcl; exact hcl
            rw [List.getElem?_eq_getElem (by omega)] at this
            simpa using this
          have HLAST := Lib.hid hlast
          have HXX := Lib.hid ((Ext.refl wr).alloc (.cells #[.int .u8 kind, .int .i64 pos, .int .u8 c, .slice bp bl bc, .int .u16 tag, .int .u64 thr] 34))
          clear hgt hrt hcl hsg hlast hlen hlt10
          go_wp2_with fail
          refine hrd.mono ?_
          rintro e u5 ⟨a5, c5, rfl, ho5, hx5⟩
          dsimp only at ho5 ⊢
          rw [allB_len] at ho5 ⊢
          obtain ⟨b5, ob5, rfl, hc5⟩ := (ownsRow_sl ho5).ints (by rw [allB_len]; decide)
          have hc50 := hc5 0 (by rw [allB_len]; decide)
          rw [show (allB cl)[0]'(by rw [allB_len]; decide) = cl by simp [allB], Nat.add_zero] at hc50
          have hl5 := HLAST.out u5 (HXX.out.trans hx5)
          have HALL := Lib.hid (show ∀ v : World, Ext u5 v → (Ext u5 v ∧ v.cell? ⟨b5, ob5, none⟩ = some (.int .u8 cl) ∧ v.cell? ⟨gm, off + q, none⟩ = some (.int .u8 cl)) from fun v hv => ⟨hv, (hv.cell (World.block_lt_of_cell? u5 _ hc50)).trans hc50, (hv.cell (World.block_lt_of_cell? u5 _ hl5)).trans hl5⟩)
          have HX5 := Lib.hid hx5
          have HDEAD := Lib.hid (fun (v : World) (h : Ext u5 v) => (show Calls Try.prog 19 #[.pointer (some ⟨g, 0, none⟩)] v _ from Dead_of (HAR.out.at_.ext (hx5.trans h))))
          clear hrd ho5 hx5 hc5 hc50 hl5
          have hw1 : IntKind.i64.wrap (((q + 1 : Nat) : Int) - 1) = (q : Int) := by rw [show (((q + 1 : Nat) : Int) - 1) = q by omega]; exact IntWalk.i64_in _ (by omega)
          have hw2 : IntKind.i64.wrap (q : Int) = (q : Int) := IntWalk.i64_in _ (by omega)
          have hq0 : (0 : Int) ≤ q := by omega
          have hq1 : (q : Int) < ((q + 1 : Nat) : Int) := by omega
          have hq2 : (q : Int) < (q : Int) + 1 := by omega
          go_wp2_with fail
          refine wp_region_held_drew (S := (fun v => Ext u5 v ∧ v.cell? ⟨b5, ob5, none⟩ = some (.int .u8 cl) ∧ v.cell? ⟨gm, off + q, none⟩ = some (.int .u8 cl))) (by kernel_rfl) (HALL.out _ ((Ext.refl _).drew)) (fun hHeld => ?_)
          refine takeD (i := 0) (v := ?_) rfl rfl (by kernel_rfl) (by kernel_rfl) (by kernel_rfl) (fun _ _ _ h => h) (Or.inl ⟨by rfl, ?_⟩) hHeld ?_
          rotate_left
          · (intro v hv; (try obtain ⟨hv0, hv1, hv2⟩ := hv); go_simp; try (with_reducible rfl))
          (try simp only [List.setIfInBounds_toArray, List.set_cons_zero, List.set_cons_succ])
          refine wpAnyH_ready (rs := [1]) (by kernel_rfl) (by simp) ?_
          refine AllReadyH.cons rfl (fun K hK => ?_) AllReadyH.nil
          go_simp
          refine (HDEAD.out _ hHeld.1).mono ?_
          rintro e v1 ⟨rfl, hv1⟩
          subst hv1
          rw [hdead]
          refine hK.out _ _ hHeld (fun hHeld => ?_)
          clear hK
          refine takeD (i := 2) (v := ?_) rfl rfl (by kernel_rfl) (by kernel_rfl) (by kernel_rfl) (fun _ _ _ h => h) (Or.inl ⟨by rfl, ?_⟩) hHeld ?_
          rotate_left
          · (intro v hv; (try obtain ⟨hv0, hv1, hv2⟩ := hv); go_simp; try (with_reducible rfl))
          (try simp only [List.setIfInBounds_toArray, List.set_cons_zero, List.set_cons_succ])
          refine takeD (i := 3) (v := ?_) rfl rfl (by kernel_rfl) (by kernel_rfl) (by kernel_rfl) (fun _ _ _ h => h) (Or.inl ⟨by rfl, ?_⟩) hHeld ?_
          rotate_left
          · (intro v hv; (try obtain ⟨hv0, hv1, hv2⟩ := hv); go_simp; try (with_reducible rfl))
          (try simp only [List.setIfInBounds_toArray, List.set_cons_zero, List.set_cons_succ])
          refine takeD (i := 4) (v := ?_) rfl rfl (by kernel_rfl) (by kernel_rfl) (by kernel_rfl) (fun _ _ _ h => h) (Or.inl ⟨by rfl, ?_⟩) hHeld ?_
          rotate_left
          · (intro v hv; (try obtain ⟨hv0, hv1, hv2⟩ := hv); go_simp; try (with_reducible rfl))
          (try simp only [List.setIfInBounds_toArray, List.set_cons_zero, List.set_cons_succ])
          refine takeD (i := 5) (v := ?_) rfl rfl (by kernel_rfl) (by kernel_rfl) (by kernel_rfl) (fun _ _ _ h => h) (Or.inl ⟨by rfl, ?_⟩) hHeld ?_
          rotate_left
          · (intro v hv; (try obtain ⟨hv0, hv1, hv2⟩ := hv); go_simp; try (with_reducible rfl))
          (try simp only [List.setIfInBounds_toArray, List.set_cons_zero, List.set_cons_succ])
          refine takeD (i := 6) (v := ?_) rfl rfl (by kernel_rfl) (by kernel_rfl) (by kernel_rfl) (fun _ _ _ h => h) (Or.inl ⟨by rfl, ?_⟩) hHeld ?_
          rotate_left
          · (intro v hv; (try obtain ⟨hv0, hv1, hv2⟩ := hv); go_simp; try (with_reducible rfl))
          (try simp only [List.setIfInBounds_toArray, List.set_cons_zero, List.set_cons_succ])
          refine takeD (i := 7) (v := ?_) rfl rfl (by kernel_rfl) (by kernel_rfl) (by kernel_rfl) (fun _ _ _ h => h) (Or.inl ⟨by rfl, ?_⟩) hHeld ?_
          rotate_left
          · (intro v hv; (try obtain ⟨hv0, hv1, hv2⟩ := hv); go_simp; try (with_reducible rfl))
          (try simp only [List.setIfInBounds_toArray, List.set_cons_zero, List.set_cons_succ])
          refine takeD (i := 8) (v := ?_) rfl rfl (by kernel_rfl) (by kernel_rfl) (by kernel_rfl) (fun _ _ _ h => h) (Or.inl ⟨by rfl, ?_⟩) hHeld ?_
          rotate_left
          · (intro v hv; (try obtain ⟨hv0, hv1, hv2⟩ := hv); go_simp; try (with_reducible rfl))
          (try simp only [List.setIfInBounds_toArray, List.set_cons_zero, List.set_cons_succ])
          refine takeD (i := 9) (v := ?_) rfl rfl (by kernel_rfl) (by kernel_rfl) (by kernel_rfl) (fun _ _ _ h => h) (Or.inl ⟨by rfl, ?_⟩) hHeld ?_
          rotate_left
          · (intro v hv; (try obtain ⟨hv0, hv1, hv2⟩ := hv); go_simp; try (with_reducible rfl))
          (try simp only [List.setIfInBounds_toArray, List.set_cons_zero, List.set_cons_succ])
          refine takeD (i := 10) (v := ?_) rfl rfl (by kernel_rfl) (by kernel_rfl) (by kernel_rfl) (fun _ _ _ h => h) (Or.inl ⟨by rfl, ?_⟩) hHeld ?_
          rotate_left
          · (intro v hv; (try obtain ⟨hv0, hv1, hv2⟩ := hv); go_simp; try (with_reducible rfl))
          (try simp only [List.setIfInBounds_toArray, List.set_cons_zero, List.set_cons_succ])
          refine takeD (i := 11) (v := ?_) rfl rfl (by kernel_rfl) (by kernel_rfl) (by kernel_rfl) (fun _ _ _ h => h) (Or.inl ⟨by rfl, ?_⟩) hHeld ?_
          rotate_left
          · (intro v hv; (try obtain ⟨hv0, hv1, hv2⟩ := hv); go_simp; try (with_reducible rfl))
          (try simp only [List.setIfInBounds_toArray, List.set_cons_zero, List.set_cons_succ])
          refine takeD (i := 12) (v := ?_) rfl rfl (by kernel_rfl) (by kernel_rfl) (by kernel_rfl) (fun _ _ _ h => h) (Or.inl ⟨by rfl, ?_⟩) hHeld ?_
          rotate_left
          · (intro v hv; (try obtain ⟨hv0, hv1, hv2⟩ := hv); go_simp; try (with_reducible rfl))
          (try simp only [List.setIfInBounds_toArray, List.set_cons_zero, List.set_cons_succ])
          refine takeD (i := 13) (v := ?_) rfl rfl (by kernel_rfl) (by kernel_rfl) (by kernel_rfl) (fun _ _ _ h => h) (Or.inl ⟨by rfl, ?_⟩) hHeld ?_
          rotate_left
          · (intro v hv; (try obtain ⟨hv0, hv1, hv2⟩ := hv); go_simp; try (with_reducible rfl))
          (try simp only [List.setIfInBounds_toArray, List.set_cons_zero, List.set_cons_succ])
          refine takeD (i := 14) (v := ?_) rfl rfl (by kernel_rfl) (by kernel_rfl) (by kernel_rfl) (fun _ _ _ h => h) (Or.inl ⟨by rfl, ?_⟩) hHeld ?_
          rotate_left
          · (intro v hv; (try obtain ⟨hv0, hv1, hv2⟩ := hv); go_simp; try (with_reducible rfl))
          (try simp only [List.setIfInBounds_toArray, List.set_cons_zero, List.set_cons_succ])
          refine takeD (i := 15) (v := ?_) rfl rfl (by kernel_rfl) (by kernel_rfl) (by kernel_rfl) (fun _ _ _ h => h) (Or.inl ⟨by rfl, ?_⟩) hHeld ?_
          rotate_left
          · (intro v hv; (try obtain ⟨hv0, hv1, hv2⟩ := hv); go_simp; try (with_reducible rfl))
          (try simp only [List.setIfInBounds_toArray, List.set_cons_zero, List.set_cons_succ])
          refine takeD (i := 16) (v := ?_) rfl rfl (by kernel_rfl) (by kernel_rfl) (by kernel_rfl) (fun _ _ _ h => h) (Or.inl ⟨by rfl, ?_⟩) hHeld ?_
          rotate_left
          · (intro v hv; (try obtain ⟨hv0, hv1, hv2⟩ := hv); go_simp; try (with_reducible rfl))
          (try simp only [List.setIfInBounds_toArray, List.set_cons_zero, List.set_cons_succ])
          refine takeD (i := 17) (v := ?_) rfl rfl (by kernel_rfl) (by kernel_rfl) (by kernel_rfl) (fun _ _ _ h => h) (Or.inl ⟨by rfl, ?_⟩) hHeld ?_
          rotate_left
          · (intro v hv; (try obtain ⟨hv0, hv1, hv2⟩ := hv); go_simp; try (with_reducible rfl))
          (try simp only [List.setIfInBounds_toArray, List.set_cons_zero, List.set_cons_succ])
          refine takeD (i := 18) (v := ?_) rfl rfl (by kernel_rfl) (by kernel_rfl) (by kernel_rfl) (fun _ _ _ h => h) (Or.inl ⟨by rfl, ?_⟩) hHeld ?_
          rotate_left
          · (intro v hv; (try obtain ⟨hv0, hv1, hv2⟩ := hv); go_simp; try (with_reducible rfl))
          (try simp only [List.setIfInBounds_toArray, List.set_cons_zero, List.set_cons_succ])
          refine takeD (i := 19) (v := ?_) rfl rfl (by kernel_rfl) (by kernel_rfl) (by kernel_rfl) (fun _ _ _ h => h) (Or.inl ⟨by rfl, ?_⟩) hHeld ?_
          rotate_left
          · (intro v hv; (try obtain ⟨hv0, hv1, hv2⟩ := hv); go_simp; try (with_reducible rfl))
          (try simp only [List.setIfInBounds_toArray, List.set_cons_zero, List.set_cons_succ])
          refine wpAnyH_done (by kernel_rfl) ?_ _
          have HH := Lib.hid hHeld
          go_wp2
          go_roundw
          case rel => exact ⟨k + 1, D, M, gm, off, q + 1, cap, hlt, by go_num, rfl, by omega, HWM.out, HMAY.out, HB.out, HAR.out.ext (HX5.out.trans HH.out.1), HWIN2.out.ext (HX5.out.trans HH.out.1)⟩
          case measure => simp [intOf]; omega
        · have hgt : getR D (at' : Int) = (zeroS, 6) := getR_dead ⟨by omega, by omega⟩ hdead
          have hrt : readR D (at' : Int) = ([], 6) := by
            unfold readR
            rw [hgt, if_neg (by decide)]
          rw [hrt] at hrd
          clear hgt hrt hcl hsg hlen hlt10
          go_wp2_with fail
          refine hrd.mono ?_
          rintro e u5 ⟨a5, c5, rfl, ho5, hx5⟩
          dsimp only [List.length_nil] at ho5 ⊢
          have HX5 := Lib.hid hx5
          have HDEAD := Lib.hid (fun (v : World) (h : Ext u5 v) => (show Calls Try.prog 19 #[.pointer (some ⟨g, 0, none⟩)] v _ from Dead_of (HAR.out.at_.ext (hx5.trans h))))
          clear hrd ho5 hx5
          go_wp2_with fail
          refine wp_region_held_drew (S := (fun v => Ext u5 v)) (by kernel_rfl) ((Ext.refl _).drew) (fun hHeld => ?_)
          refine takeD (i := 0) (v := ?_) rfl rfl (by kernel_rfl) (by kernel_rfl) (by kernel_rfl) (fun _ _ _ h => h) (Or.inl ⟨by rfl, ?_⟩) hHeld ?_
          rotate_left
          · (intro v hv; skip; go_simp; try (with_reducible rfl))
          (try simp only [List.setIfInBounds_toArray, List.set_cons_zero, List.set_cons_succ])
          refine wpAnyH_ready (rs := [1]) (by kernel_rfl) (by simp) ?_
          refine AllReadyH.cons rfl (fun K hK => ?_) AllReadyH.nil
          go_simp
          refine (HDEAD.out _ hHeld).mono ?_
          rintro e v1 ⟨rfl, hv1⟩
          subst hv1
          rw [hdead]
          refine hK.out _ _ hHeld (fun hHeld => ?_)
          clear hK
          refine takeD (i := 2) (v := ?_) rfl rfl (by kernel_rfl) (by kernel_rfl) (by kernel_rfl) (fun _ _ _ h => h) (Or.inl ⟨by rfl, ?_⟩) hHeld ?_
          rotate_left
          · (intro v hv; skip; go_simp; try (with_reducible rfl))
          (try simp only [List.setIfInBounds_toArray, List.set_cons_zero, List.set_cons_succ])
          refine takeD (i := 3) (v := ?_) rfl rfl (by kernel_rfl) (by kernel_rfl) (by kernel_rfl) (fun _ _ _ h => h) (Or.inl ⟨by rfl, ?_⟩) hHeld ?_
          rotate_left
          · (intro v hv; skip; go_simp; try (with_reducible rfl))
          (try simp only [List.setIfInBounds_toArray, List.set_cons_zero, List.set_cons_succ])
          refine takeD (i := 4) (v := undef) rfl rfl (by kernel_rfl) (by kernel_rfl) (by kernel_rfl) (fun _ _ _ h => h) (Or.inr ⟨by rfl, rfl⟩) hHeld ?_
          (try simp only [List.setIfInBounds_toArray, List.set_cons_zero, List.set_cons_succ])
          refine takeD (i := 5) (v := undef) rfl rfl (by kernel_rfl) (by kernel_rfl) (by kernel_rfl) (fun _ _ _ h => h) (Or.inr ⟨by rfl, rfl⟩) hHeld ?_
          (try simp only [List.setIfInBounds_toArray, List.set_cons_zero, List.set_cons_succ])
          refine takeD (i := 6) (v := undef) rfl rfl (by kernel_rfl) (by kernel_rfl) (by kernel_rfl) (fun _ _ _ h => h) (Or.inr ⟨by rfl, rfl⟩) hHeld ?_
          (try simp only [List.setIfInBounds_toArray, List.set_cons_zero, List.set_cons_succ])
          refine takeD (i := 7) (v := undef) rfl rfl (by kernel_rfl) (by kernel_rfl) (by kernel_rfl) (fun _ _ _ h => h) (Or.inr ⟨by rfl, rfl⟩) hHeld ?_
          (try simp only [List.setIfInBounds_toArray, List.set_cons_zero, List.set_cons_succ])
          refine takeD (i := 8) (v := undef) rfl rfl (by kernel_rfl) (by kernel_rfl) (by kernel_rfl) (fun _ _ _ h => h) (Or.inr ⟨by rfl, rfl⟩) hHeld ?_
          (try simp only [List.setIfInBounds_toArray, List.set_cons_zero, List.set_cons_succ])
          refine takeD (i := 9) (v := undef) rfl rfl (by kernel_rfl) (by kernel_rfl) (by kernel_rfl) (fun _ _ _ h => h) (Or.inr ⟨by rfl, rfl⟩) hHeld ?_
          (try simp only [List.setIfInBounds_toArray, List.set_cons_zero, List.set_cons_succ])
          refine takeD (i := 10) (v := undef) rfl rfl (by kernel_rfl) (by kernel_rfl) (by kernel_rfl) (fun _ _ _ h => h) (Or.inr ⟨by rfl, rfl⟩) hHeld ?_
          (try simp only [List.setIfInBounds_toArray, List.set_cons_zero, List.set_cons_succ])
          refine takeD (i := 11) (v := undef) rfl rfl (by kernel_rfl) (by kernel_rfl) (by kernel_rfl) (fun _ _ _ h => h) (Or.inr ⟨by rfl, rfl⟩) hHeld ?_
          (try simp only [List.setIfInBounds_toArray, List.set_cons_zero, List.set_cons_succ])
          refine takeD (i := 12) (v := undef) rfl rfl (by kernel_rfl) (by kernel_rfl) (by kernel_rfl) (fun _ _ _ h => h) (Or.inr ⟨by rfl, rfl⟩) hHeld ?_
          (try simp only [List.setIfInBounds_toArray, List.set_cons_zero, List.set_cons_succ])
          refine takeD (i := 13) (v := undef) rfl rfl (by kernel_rfl) (by kernel_rfl) (by kernel_rfl) (fun _ _ _ h => h) (Or.inr ⟨by rfl, rfl⟩) hHeld ?_
          (try simp only [List.setIfInBounds_toArray, List.set_cons_zero, List.set_cons_succ])
          refine takeD (i := 14) (v := undef) rfl rfl (by kernel_rfl) (by kernel_rfl) (by kernel_rfl) (fun _ _ _ h => h) (Or.inr ⟨by rfl, rfl⟩) hHeld ?_
          (try simp only [List.setIfInBounds_toArray, List.set_cons_zero, List.set_cons_succ])
          refine takeD (i := 15) (v := undef) rfl rfl (by kernel_rfl) (by kernel_rfl) (by kernel_rfl) (fun _ _ _ h => h) (Or.inr ⟨by rfl, rfl⟩) hHeld ?_
          (try simp only [List.setIfInBounds_toArray, List.set_cons_zero, List.set_cons_succ])
          refine takeD (i := 16) (v := undef) rfl rfl (by kernel_rfl) (by kernel_rfl) (by kernel_rfl) (fun _ _ _ h => h) (Or.inr ⟨by rfl, rfl⟩) hHeld ?_
          (try simp only [List.setIfInBounds_toArray, List.set_cons_zero, List.set_cons_succ])
          refine takeD (i := 17) (v := undef) rfl rfl (by kernel_rfl) (by kernel_rfl) (by kernel_rfl) (fun _ _ _ h => h) (Or.inr ⟨by rfl, rfl⟩) hHeld ?_
          (try simp only [List.setIfInBounds_toArray, List.set_cons_zero, List.set_cons_succ])
          refine takeD (i := 18) (v := undef) rfl rfl (by kernel_rfl) (by kernel_rfl) (by kernel_rfl) (fun _ _ _ h => h) (Or.inr ⟨by rfl, rfl⟩) hHeld ?_
          (try simp only [List.setIfInBounds_toArray, List.set_cons_zero, List.set_cons_succ])
          refine takeD (i := 19) (v := ?_) rfl rfl (by kernel_rfl) (by kernel_rfl) (by kernel_rfl) (fun _ _ _ h => h) (Or.inl ⟨by rfl, ?_⟩) hHeld ?_
          rotate_left
          · (intro v hv; skip; go_simp; try (with_reducible rfl))
          (try simp only [List.setIfInBounds_toArray, List.set_cons_zero, List.set_cons_succ])
          refine wpAnyH_done (by kernel_rfl) ?_ _
          have HH := Lib.hid hHeld
          go_wp2
          go_roundw
          case rel => exact ⟨k + 1, D, M, gm, off, n, cap, hlt, by go_num, rfl, by omega, HWM.out, HMAY.out, HB.out, HAR.out.ext (HX5.out.trans HH.out), HWIN2.out.ext (HX5.out.trans HH.out)⟩
          case measure => simp [intOf]; omega
    · obtain rfl : k = m1 := by omega
      have hcr := Crash_atM HA.out HWF.out (by omega) there
      obtain ⟨cF, hmem, hsg⟩ := HMAY.out.crash HWF.out there
      have hcF := HB.out cF hmem
      have hlt3 : at' < (crashR D there).secs.length := by rw [crash_len]; exact HMAY.out.lt
      have hgt : getR (crashR D there) (at' : Int) = (sC cF, 0) := by rw [getR_yes hlt3 rfl, hsg]
      have hrt : readR (crashR D there) (at' : Int) = (allB cF, 0) := by
        unfold readR
        rw [hgt, if_pos rfl]
        show (pad64 (allB cF), (0 : Int)) = _
        rw [pad64_of (allB_len cF)]
      have HG := Lib.hid hgt
      have HR := Lib.hid hrt
      have HMEM := Lib.hid hmem
      have HLEN := Lib.hid HWIN.out.len
      clear hgt hrt hsg hlt3 hmem HM1 HA1 HM HW HLN HMN HMAY
      generalize crashR D there = D3 at *
      go_wp2_with fail
      refine hcr.mono ?_
      rintro e u4 ⟨rfl, hA4, hS4⟩
      have HA4 := Lib.hid hA4
      have HW4 := Lib.hid (HWIN.out.kept (hS4 gm rfl))
      have hrd := Read_at hA4 at'
      rw [HR.out] at hrd
      clear hcr hA4 hS4
      go_wp2_with fail
      refine hrd.mono ?_
      rintro e u5 ⟨a5, c5, rfl, ho5, hx5⟩
      dsimp only at ho5 ⊢
      rw [allB_len] at ho5 ⊢
      have HO5 := Lib.hid (ownsRow_sl ho5)
      have HA5 := Lib.hid (HA4.out.ext hx5)
      have HW5 := Lib.hid (HW4.out.ext hx5)
      have htg := Tag_at HA5.out at'
      rw [HG.out] at htg
      clear hrd ho5 hx5
      go_wp2_with fail
      refine htg.mono ?_
      rintro e u6 ⟨rfl, hx6⟩
      have HO6 := Lib.hid (HO5.out.ext hx6)
      have HA6 := Lib.hid (HA5.out.ext hx6)
      have HW6 := Lib.hid (HW5.out.ext hx6)
      clear htg hx6
      dsimp only [sC]
      go_wp2_with fail
      have HCV := Lib.hid (show ∀ (v : World) (a : Option Addr) (c : Nat) (z : Int), Sl v a (ints .u8 (allB z)) → (convert 29 9 (.slice a 64 c)).run Try.prog v = .ok (.string (strOf (allB z))) v from fun v a c z hs => run_conv_str (P := Try.prog) v 29 9 5 Try.underlying29 Try.underlying5 Try.underlying9 c hs (allB_len z))
      go_loopw [140] (fun v wi => ∃ j : Nat, j ≤ n ∧ v = .int .i64 j ∧ Ext u6 wi ∧ ∀ i, i < j → M[i]? ≠ some cF) (fun v _ => n - (intOf v).toNat)
      case atStart => exact ⟨0, by omega, rfl, Ext.refl _, fun i hi => absurd hi (by omega)⟩
      case round =>
        obtain ⟨j, hj, rfl, hXi, hno⟩ := hrel
        have HXI := Lib.hid hXi
        have HNO := Lib.hid hno
        clear hXi hno
        by_cases hjlt : j < n
        · have hjM : j < M.length := by have := HLEN.out; omega
          have hcell := (HW6.out.ext HXI.out).cell hjM
          have hMj : M[j]? = some M[j] := List.getElem?_eq_getElem hjM
          have hcx : 0 ≤ M[j] ∧ M[j] ≤ 255 := HB.out _ (List.getElem_mem hjM)
          generalize M[j] = cx at *
          have HMJ := Lib.hid hMj
          have hwx : IntKind.u16.wrap cx = cx := IntWalk.u16_in _ (by omega)
          have hjn0 : (0 : Int) ≤ j := by omega
          have hjn1 : (j : Int) < n := by omega
          obtain ⟨SF, hSF⟩ : ∃ q, q = strOf (allB cF) := ⟨_, rfl⟩
          have HSF := Lib.hid hSF
          have HALL := Lib.hid (show ∀ v : World, Ext wr v → (Ext wr v ∧ (convert 29 9 (.slice a5 64 c5)).run Try.prog v = .ok (.string SF) v) from fun v hv => ⟨hv, by rw [hSF]; exact HCV.out v a5 c5 cF (HO6.out.ext (HXI.out.trans hv))⟩)
          clear hMj hjM hSF
          by_cases hcc : cx = cF
          · subst hcc
            have hq1 : (SF.toList == SF.toList) = true := by simp
            go_wp2_with fail
            refine wp_region_held_drew (S := (fun v => Ext wr v ∧ (convert 29 9 (.slice a5 64 c5)).run Try.prog v = .ok (.string SF) v)) (by kernel_rfl) (HALL.out _ ((Ext.refl _).drew)) (fun hHeld => ?_)
            refine takeD (i := 0) (v := ?_) rfl rfl (by kernel_rfl) (by kernel_rfl) (by kernel_rfl) (fun _ _ _ h => h) (Or.inl ⟨by rfl, ?_⟩) hHeld ?_
            rotate_left
            · (intro v hv; (try obtain ⟨hv0, hv1⟩ := hv); go_simp; try (with_reducible rfl))
            (try simp only [List.setIfInBounds_toArray, List.set_cons_zero, List.set_cons_succ])
            refine takeD (i := 1) (v := (.string SF)) rfl rfl (by kernel_rfl) (by kernel_rfl) (by kernel_rfl) (fun _ _ _ h => h) (Or.inl ⟨by rfl, ?_⟩) hHeld ?_
            · (intro v hv; (try obtain ⟨hv0, hv1⟩ := hv); go_simp; try (with_reducible rfl))
            (try simp only [List.setIfInBounds_toArray, List.set_cons_zero, List.set_cons_succ])
            refine takeD (i := 2) (v := ?_) rfl rfl (by kernel_rfl) (by kernel_rfl) (by kernel_rfl) (fun _ _ _ h => h) (Or.inl ⟨by rfl, ?_⟩) hHeld ?_
            rotate_left
            · (intro v hv; (try obtain ⟨hv0, hv1⟩ := hv); go_simp; try (with_reducible rfl))
            (try simp only [List.setIfInBounds_toArray, List.set_cons_zero, List.set_cons_succ])
            refine wpAnyH_ready (rs := [3]) (by kernel_rfl) (by simp) ?_
            refine AllReadyH.cons rfl (fun K hK => ?_) AllReadyH.nil
            go_simp
            refine (sector_ok cx wr.drew).mono ?_
            rintro e v1 ⟨b1, rfl, hb1, hr1, hx1⟩
            have cv1 := HCV.out v1 (some ⟨b1, 0, none⟩) 64 cx hr1.sl0
            rw [← HSF.out] at cv1
            refine hK.out _ _ (HALL.out _ (hHeld.1.trans hx1)) (fun hHeld => ?_)
            clear hK
            refine wpAnyH_ready (rs := [4]) (by kernel_rfl) (by simp) ?_
            refine AllReadyH.cons rfl (fun K hK => ?_) AllReadyH.nil
            go_simp
            refine hK.out _ _ hHeld (fun hHeld => ?_)
            clear hK
            refine takeD (i := 5) (v := ?_) rfl rfl (by kernel_rfl) (by kernel_rfl) (by kernel_rfl) (fun _ _ _ h => h) (Or.inl ⟨by rfl, ?_⟩) hHeld ?_
            rotate_left
            · (intro v hv; (try obtain ⟨hv0, hv1⟩ := hv); go_simp; try (with_reducible rfl))
            (try simp only [List.setIfInBounds_toArray, List.set_cons_zero, List.set_cons_succ])
            refine takeD (i := 6) (v := ?_) rfl rfl (by kernel_rfl) (by kernel_rfl) (by kernel_rfl) (fun _ _ _ h => h) (Or.inl ⟨by rfl, ?_⟩) hHeld ?_
            rotate_left
            · (intro v hv; (try obtain ⟨hv0, hv1⟩ := hv); go_simp; try (with_reducible rfl))
            (try simp only [List.setIfInBounds_toArray, List.set_cons_zero, List.set_cons_succ])
            refine takeD (i := 7) (v := ?_) rfl rfl (by kernel_rfl) (by kernel_rfl) (by kernel_rfl) (fun _ _ _ h => h) (Or.inl ⟨by rfl, ?_⟩) hHeld ?_
            rotate_left
            · (intro v hv; (try obtain ⟨hv0, hv1⟩ := hv); go_simp; try (with_reducible rfl))
            (try simp only [List.setIfInBounds_toArray, List.set_cons_zero, List.set_cons_succ])
            refine takeD (i := 8) (v := ?_) rfl rfl (by kernel_rfl) (by kernel_rfl) (by kernel_rfl) (fun _ _ _ h => h) (Or.inl ⟨by rfl, ?_⟩) hHeld ?_
            rotate_left
            · (intro v hv; (try obtain ⟨hv0, hv1⟩ := hv); go_simp; try (with_reducible rfl))
            (try simp only [List.setIfInBounds_toArray, List.set_cons_zero, List.set_cons_succ])
            refine takeD (i := 9) (v := ?_) rfl rfl (by kernel_rfl) (by kernel_rfl) (by kernel_rfl) (fun _ _ _ h => h) (Or.inl ⟨by rfl, ?_⟩) hHeld ?_
            rotate_left
            · (intro v hv; (try obtain ⟨hv0, hv1⟩ := hv); go_simp; try (with_reducible rfl))
            (try simp only [List.setIfInBounds_toArray, List.set_cons_zero, List.set_cons_succ])
            refine takeD (i := 10) (v := ?_) rfl rfl (by kernel_rfl) (by kernel_rfl) (by kernel_rfl) (fun _ _ _ h => h) (Or.inl ⟨by rfl, ?_⟩) hHeld ?_
            rotate_left
            · (intro v hv; (try obtain ⟨hv0, hv1⟩ := hv); go_simp; try (with_reducible rfl))
            (try simp only [List.setIfInBounds_toArray, List.set_cons_zero, List.set_cons_succ])
            refine takeD (i := 11) (v := ?_) rfl rfl (by kernel_rfl) (by kernel_rfl) (by kernel_rfl) (fun _ _ _ h => h) (Or.inl ⟨by rfl, ?_⟩) hHeld ?_
            rotate_left
            · (intro v hv; (try obtain ⟨hv0, hv1⟩ := hv); go_simp; try (with_reducible rfl))
            (try simp only [List.setIfInBounds_toArray, List.set_cons_zero, List.set_cons_succ])
            refine wpAnyH_done (by kernel_rfl) ?_ _
            have HH := Lib.hid hHeld
            clear hHeld
            go_wp2
            go_ret
            exact ⟨rfl, HX1.out.trans (HA6.out.1.trans (HXI.out.trans HH.out.1))⟩
          · obtain ⟨SX, hSX⟩ : ∃ q, q = strOf (allB cx) := ⟨_, rfl⟩
            have hq1 : (SF.toList == SX.toList) = false := by rw [HSF.out, hSX, strOf_eq (allB_bytes hcF) (allB_bytes hcx)]; simp; intro e; exact hcc (allB_inj e).symm
            have hq2 : ¬ (SF.toList = SX.toList) := by simpa using hq1
            have HSX := Lib.hid hSX
            clear hSX
            go_wp2_with fail
            refine wp_region_held_drew (S := (fun v => Ext wr v ∧ (convert 29 9 (.slice a5 64 c5)).run Try.prog v = .ok (.string SF) v)) (by kernel_rfl) (HALL.out _ ((Ext.refl _).drew)) (fun hHeld => ?_)
            refine takeD (i := 0) (v := ?_) rfl rfl (by kernel_rfl) (by kernel_rfl) (by kernel_rfl) (fun _ _ _ h => h) (Or.inl ⟨by rfl, ?_⟩) hHeld ?_
            rotate_left
            · (intro v hv; (try obtain ⟨hv0, hv1⟩ := hv); go_simp; try (with_reducible rfl))
            (try simp only [List.setIfInBounds_toArray, List.set_cons_zero, List.set_cons_succ])
            refine takeD (i := 1) (v := (.string SF)) rfl rfl (by kernel_rfl) (by kernel_rfl) (by kernel_rfl) (fun _ _ _ h => h) (Or.inl ⟨by rfl, ?_⟩) hHeld ?_
            · (intro v hv; (try obtain ⟨hv0, hv1⟩ := hv); go_simp; try (with_reducible rfl))
            (try simp only [List.setIfInBounds_toArray, List.set_cons_zero, List.set_cons_succ])
            refine takeD (i := 2) (v := ?_) rfl rfl (by kernel_rfl) (by kernel_rfl) (by kernel_rfl) (fun _ _ _ h => h) (Or.inl ⟨by rfl, ?_⟩) hHeld ?_
            rotate_left
            · (intro v hv; (try obtain ⟨hv0, hv1⟩ := hv); go_simp; try (with_reducible rfl))
            (try simp only [List.setIfInBounds_toArray, List.set_cons_zero, List.set_cons_succ])
            refine wpAnyH_ready (rs := [3]) (by kernel_rfl) (by simp) ?_
            refine AllReadyH.cons rfl (fun K hK => ?_) AllReadyH.nil
            go_simp
            refine (sector_ok cx wr.drew).mono ?_
            rintro e v1 ⟨b1, rfl, hb1, hr1, hx1⟩
            have cv1 := HCV.out v1 (some ⟨b1, 0, none⟩) 64 cx hr1.sl0
            rw [← HSX.out] at cv1
            refine hK.out _ _ (HALL.out _ (hHeld.1.trans hx1)) (fun hHeld => ?_)
            clear hK
            refine wpAnyH_ready (rs := [4]) (by kernel_rfl) (by simp) ?_
            refine AllReadyH.cons rfl (fun K hK => ?_) AllReadyH.nil
            go_simp
            refine hK.out _ _ hHeld (fun hHeld => ?_)
            clear hK
            refine takeD (i := 5) (v := (.bool false)) rfl rfl (by kernel_rfl) (by kernel_rfl) (by kernel_rfl) (fun _ _ _ h => h) (Or.inl ⟨by rfl, ?_⟩) hHeld ?_
            · (intro v hv; (try obtain ⟨hv0, hv1⟩ := hv); go_simp; first | done | rw [hq1] | simp only [hq1] | simp [hq1] | skip)
            (try simp only [List.setIfInBounds_toArray, List.set_cons_zero, List.set_cons_succ])
            refine takeD (i := 6) (v := ?_) rfl rfl (by kernel_rfl) (by kernel_rfl) (by kernel_rfl) (fun _ _ _ h => h) (Or.inl ⟨by rfl, ?_⟩) hHeld ?_
            rotate_left
            · (intro v hv; (try obtain ⟨hv0, hv1⟩ := hv); go_simp; try (with_reducible rfl))
            (try simp only [List.setIfInBounds_toArray, List.set_cons_zero, List.set_cons_succ])
            refine takeD (i := 7) (v := undef) rfl rfl (by kernel_rfl) (by kernel_rfl) (by kernel_rfl) (fun _ _ _ h => h) (Or.inr ⟨by rfl, rfl⟩) hHeld ?_
            (try simp only [List.setIfInBounds_toArray, List.set_cons_zero, List.set_cons_succ])
            refine takeD (i := 8) (v := undef) rfl rfl (by kernel_rfl) (by kernel_rfl) (by kernel_rfl) (fun _ _ _ h => h) (Or.inr ⟨by rfl, rfl⟩) hHeld ?_
            (try simp only [List.setIfInBounds_toArray, List.set_cons_zero, List.set_cons_succ])
            refine takeD (i := 9) (v := undef) rfl rfl (by kernel_rfl) (by kernel_rfl) (by kernel_rfl) (fun _ _ _ h => h) (Or.inr ⟨by rfl, rfl⟩) hHeld ?_
            (try simp only [List.setIfInBounds_toArray, List.set_cons_zero, List.set_cons_succ])
            refine takeD (i := 10) (v := undef) rfl rfl (by kernel_rfl) (by kernel_rfl) (by kernel_rfl) (fun _ _ _ h => h) (Or.inr ⟨by rfl, rfl⟩) hHeld ?_
            (try simp only [List.setIfInBounds_toArray, List.set_cons_zero, List.set_cons_succ])
            refine takeD (i := 11) (v := ?_) rfl rfl (by kernel_rfl) (by kernel_rfl) (by kernel_rfl) (fun _ _ _ h => h) (Or.inl ⟨by rfl, ?_⟩) hHeld ?_
            rotate_left
            · (intro v hv; (try obtain ⟨hv0, hv1⟩ := hv); go_simp; try (with_reducible rfl))
            (try simp only [List.setIfInBounds_toArray, List.set_cons_zero, List.set_cons_succ])
            refine wpAnyH_done (by kernel_rfl) ?_ _
            have HH := Lib.hid hHeld
            clear hHeld
            go_wp2
            go_roundw
            case rel => exact ⟨j + 1, hjlt, by go_num, HXI.out.trans HH.out.1, fun i hi => by
              by_cases hij : i = j
              · subst hij; rw [HMJ.out]; intro e; cases e; exact hcc rfl
              · exact HNO.out i (by omega)⟩
            case measure => simp [intOf]; omega
        · exfalso
          obtain ⟨i, hi, e⟩ := List.getElem_of_mem HMEM.out
          exact HNO.out i (by have := HLEN.out; omega) (by rw [List.getElem?_eq_getElem hi, e])
end Go.Proofs.Ytfonkicpjkcchaa.Dk
