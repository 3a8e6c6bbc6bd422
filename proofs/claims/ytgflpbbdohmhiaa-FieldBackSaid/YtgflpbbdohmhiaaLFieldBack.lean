/- The walk of the law FieldBack. -/
import Derived.Test.YtgflpbbdohmhiaaSplice
import Derived.Test.YtgflpbbdohmhiaaLFieldFT
import Derived.Test.YtgflpbbdohmhiaaLFieldParts
import Derived.BigQuiet
import Derived.Deep.QuietTactic
namespace Go.Proofs.Ytgflpbbdohmhiaa.Field
open Go.RowKit Words Mem Plain Ops
set_option linter.unusedVariables false
set_option linter.unusedSimpArgs false

theorem setR_code {xs : List Int} {k s x : Int} (h : (setR xs k s x).2 = 0) : standsB xs.length k s = true ∧ fitsB x s.toNat = true := by
  unfold setR at h
  by_cases h1 : standsB xs.length k s = false
  · rw [if_pos h1] at h; cases h
  · rw [if_neg h1] at h
    by_cases h2 : fitsB x s.toNat = false
    · rw [if_pos h2] at h; cases h
    · exact ⟨by simpa using h1, by simpa using h2⟩

set_option maxRecDepth 100000 in
set_option maxHeartbeats 2000000 in
theorem walk_FieldBack (a0 : Option Addr) (len0 cap0 : Nat) (z0 : List Int) (a1 : Int) (a2 : Int) (a3 : Option Addr) (len3 cap3 : Nat) (z3 : List Int) (w : World) (w0 : RowIn .u8 w a0 len0 cap0 z0) (w1 : (Lit.int .i64 a1).wf = true) (w2 : (Lit.int .i64 a2).wf = true) (w3 : RowIn .u64 w a3 len3 cap3 z3) :
    Calls Try.prog 9 #[.slice a0 len0 cap0, .int .i64 a1, .int .i64 a2, .slice a3 len3 cap3] w fun e w' => e = .returned (.bool true) ∧ Below w.heap.size w w' := by
  obtain ⟨l, hl, hb, hs, hlc, hc, hnil⟩ := bytesIn w0
  obtain ⟨m, km, ku, ks, klc, kc, knil⟩ := u64sIn w3
  have b1 := bounds_i64 w1
  have b2 := bounds_i64 w2
  clear w0 w1 w2 w3
  have hl' : (l.take 5000).length = min len0 5000 := by rw [List.length_take]; omega
  have hb' : isBytes (l.take 5000) := isBytes_take hb _
  have ks' := ks.take 500
  rw [ints_take] at ks'
  have ku' : ∀ x ∈ m.take 500, 0 ≤ x ∧ x < 18446744073709551616 := fun x hx => ku x (List.mem_of_mem_take hx)
  obtain ⟨q, hq⟩ : ∃ q, q = min len3 500 := ⟨_, rfl⟩
  have km' : (m.take 500).length = q := by rw [List.length_take]; omega
  have kmin : (if (500 : Int) < (len3 : Int) then 500 else (len3 : Int)) = q := by split <;> omega
  have kqc : q ≤ cap3 := by omega
  have kq5 : q ≤ 500 := by omega
  have kq3 : q ≤ len3 := by omega
  have ksl : ∀ v : World, (Instr.slice 32 (.slice a3 len3 cap3) none (some (.int .i64 q)) none).run Try.prog v = .ok (.slice a3 q cap3) v := fun v => run_slice_upto v _ _ Try.underlying32 size64 a3 len3 cap3 q _ _ rfl kqc
  have hex : q < len3 → q = 500 := by omega
  generalize m.take 500 = Y at *
  go_enter Try.func9, Try.ntmps9
  go_wp2_with fail
  refine (shown_ok w).mono ?_
  rintro e w1 ⟨rfl, hX1⟩
  go_wp2_with fail
  refine (few_ok a0 len0 cap0 l w1 hl (by omega) hlc (hs.ext hX1)).mono ?_
  rintro e w' ⟨⟨rfl, hs1⟩, rfl⟩
  have hs' : Sl w a0 (ints .u8 (l.take 5000)) := by have := hs.take 5000; rwa [ints_take] at this
  have hn : min len0 5000 ≤ 5000 := Nat.min_le_right _ _
  have hnc : min len0 5000 ≤ cap0 := by omega
  generalize l.take 5000 = X at *
  generalize min len0 5000 = n at *
  clear hs hl hb hnil hlc hs1 km ks ku knil hq
  have HL := Lib.hid hl'; have KL := Lib.hid km'; have KM := Lib.hid kmin; have KS := Lib.hid ksl
  clear hl' km' kmin ksl
  go_wp2_with fail
  go_loopw [26] (fun v wr => ∃ k : Nat, k ≤ q ∧ v = .int .i64 k ∧ Ext w wr) (fun v _ => len3 - (intOf v).toNat)
  case atStart => exact ⟨0, by omega, rfl, hX1⟩
  case round =>
    obtain ⟨k, hk, rfl, hX⟩ := hrel
    by_cases hlt : k < q
    · have hkl : k < Y.length := by rw [KL.out]; exact hlt
      obtain ⟨bb, oo, rfl, hcell⟩ := (ks'.ext hX).ints (by omega)
      have hck := hcell k hkl
      have hx := ku' Y[k] (List.getElem_mem hkl)
      generalize Y[k] = x at *
      clear hcell hkl
      have hk5 : (k : Int) < 500 := by omega
      have hk3 : (k : Int) < len3 := by omega
      obtain ⟨x0, x1⟩ := hx
      have HCK := Lib.hid hck
      go_wp2_with fail
      refine (Set_gave a0 n cap0 X wr a1 a2 x b1.1 x0 x1 HL.out (by omega) (hs'.ext hX)).mono ?_
      rintro e w2 ⟨a4, c4, rfl, ho4, hX2⟩
      have XX2 := hX.trans hX2
      by_cases hcode : (setR X a1 a2 x).2 = 0
      · obtain ⟨g1, g2⟩ := setR_code hcode
        rw [HL.out] at g1
        obtain ⟨i1, i2, i3, i4, i5⟩ := standsB_true g1
        obtain ⟨s, rfl⟩ : ∃ s : Nat, a2 = s := ⟨a2.toNat, by omega⟩
        obtain ⟨p, rfl⟩ : ∃ p : Nat, a1 = p := ⟨a1.toNat, by omega⟩
        rw [Int.toNat_natCast] at g2
        have hsr := setR_yes (xs := X) (k := p) (s := s) (x := x) (by rw [HL.out]; exact g1) g2
        have hlen : (setP X p s x).length = n := by rw [length_setP _ _ _ _ (by rw [HL.out]; omega), HL.out]
        rw [hsr] at ho4 ⊢
        dsimp only at ho4 ⊢
        rw [hlen] at ho4 ⊢
        have hgr : getR (setP X p s x) p s = (x, 0) := by rw [getR_yes (by rw [hlen]; exact g1), get_setP (by rw [HL.out]; omega) x0 g2]
        have hbz := isBytes_setP X p s x hb'
        have hst : (setP X p s x).take p = X.take p := splice_take _ _ _ (by rw [length_bytesOf, HL.out]; omega)
        have hsd : (setP X p s x).drop (p + s) = X.drop (p + s) := by
          have := splice_drop X (bytesOf s x) p (by rw [length_bytesOf, HL.out]; omega)
          rwa [length_bytesOf] at this
        have hl4 := hlen
        generalize setP X p s x = Z at *
        have HZ := Lib.hid hl4
        have k4 := own_cap ho4
        have sZ := ownsRow_sl ho4
        have sX := hs'.ext XX2
        clear hcode g2 hsr hlen hl4 ho4
        have hcell2 := HCK.out
        rw [← hX2.cell (p := ⟨bb, oo + k, none⟩) (World.block_lt_of_cell? wr _ hcell2)] at hcell2
        clear hck HCK
        go_wp2_with fail
        refine (Get_gave a4 n c4 Z w2 p s (by omega) HZ.out (by omega) hbz sZ k4.1 k4.2).mono ?_
        rintro e w' ⟨rfl, rfl⟩
        rw [hgr]
        dsimp only
        clear hgr
        have u1 : ∀ v : World, (Instr.slice 22 (.slice a4 n c4) none (some (.int .i64 p)) none).run Try.prog v = .ok (.slice a4 p c4) v := fun v => run_slice_upto v _ _ Try.underlying22 size8 a4 n c4 p _ _ rfl (by omega)
        have u2 : ∀ v : World, (Instr.slice 22 (.slice a0 n cap0) none (some (.int .i64 p)) none).run Try.prog v = .ok (.slice a0 p cap0) v := fun v => run_slice_upto v _ _ Try.underlying22 size8 a0 n cap0 p _ _ rfl (by omega)
        have u3 : ∀ v : World, (Instr.slice 22 (.slice a4 n c4) (some (.int .i64 ((p : Int) + s))) none none).run Try.prog v = .ok (.slice (cutA a4 c4 (p + s)) (n - (p + s)) (c4 - (p + s))) v := fun v => run_slice_from v _ _ Try.underlying22 size8 a4 n c4 (p + s) _ _ (by omega) (by omega)
        have u4 : ∀ v : World, (Instr.slice 22 (.slice a0 n cap0) (some (.int .i64 ((p : Int) + s))) none none).run Try.prog v = .ok (.slice (cutA a0 cap0 (p + s)) (n - (p + s)) (cap0 - (p + s))) v := fun v => run_slice_from v _ _ Try.underlying22 size8 a0 n cap0 (p + s) _ _ (by omega) (by omega)
        have s1 := sZ.take p
        have s2 := sX.take p
        have s3 := sZ.cutA c4 (p + s) (by intro e; rw [ints_length, HZ.out]; omega)
        have s4 := sX.cutA cap0 (p + s) (by intro e; rw [ints_length, HL.out]; omega)
        rw [ints_take, hst] at s1
        rw [ints_take] at s2
        rw [ints_drop, hsd] at s3
        rw [ints_drop] at s4
        have t1 : (X.take p).length = p := by rw [List.length_take, HL.out]; omega
        have t2 : (X.drop (p + s)).length = n - (p + s) := by rw [List.length_drop, HL.out]
        generalize X.take p = P at *
        generalize X.drop (p + s) = S at *
        generalize cutA a4 c4 (p + s) = A4 at *
        generalize cutA a0 cap0 (p + s) = A0 at *
        have d1 : ∀ i, (convert 22 9 (.slice a4 p c4)).run Try.prog (w2.drewN i) = .ok (.string (strOf P)) (w2.drewN i) := fun i => run_conv_str (P := Try.prog) (w2.drewN i) 22 9 5 Try.underlying22 Try.underlying5 Try.underlying9 c4 (s1.ext ((Ext.refl _).drewN i)) t1
        have d2 : ∀ i, (convert 22 9 (.slice a0 p cap0)).run Try.prog (w2.drewN i) = .ok (.string (strOf P)) (w2.drewN i) := fun i => run_conv_str (P := Try.prog) (w2.drewN i) 22 9 5 Try.underlying22 Try.underlying5 Try.underlying9 cap0 (s2.ext ((Ext.refl _).drewN i)) t1
        have d3 : ∀ i, (convert 22 9 (.slice A4 (n - (p + s)) (c4 - (p + s)))).run Try.prog (w2.drewN i) = .ok (.string (strOf S)) (w2.drewN i) := fun i => run_conv_str (P := Try.prog) (w2.drewN i) 22 9 5 Try.underlying22 Try.underlying5 Try.underlying9 (c4 - (p + s)) (s3.ext ((Ext.refl _).drewN i)) t2
        have d4 : ∀ i, (convert 22 9 (.slice A0 (n - (p + s)) (cap0 - (p + s)))).run Try.prog (w2.drewN i) = .ok (.string (strOf S)) (w2.drewN i) := fun i => run_conv_str (P := Try.prog) (w2.drewN i) 22 9 5 Try.underlying22 Try.underlying5 Try.underlying9 (cap0 - (p + s)) (s4.ext ((Ext.refl _).drewN i)) t2
        have j1 : (p : Int) + s ≤ n := by omega
        have j2 : IntKind.i64.wrap ((p : Int) + s) = (p : Int) + s := IntWalk.i64_in _ (by omega)
        have j3 : decide ((p : Int) < 0) = false := by simp
        have j4 : decide ((s : Int) < 0) = false := by simp
        have j5 : decide ((n : Int) < (p : Int) + s) = false := by simp; omega
        clear s1 s2 s3 s4 t1 t2 hst hsd sZ sX hX2 hX
        go_wp2_with fail
        go_big_quiet (fail)
        go_wp2
        go_roundw
        case rel => exact ⟨k + 1, hlt, by go_num, XX2.drewN _⟩
        case measure => simp [intOf]; omega
      · have hne : ((setR X a1 a2 x).2 != 0) = true := by simpa using hcode
        generalize setR X a1 a2 x = R at *
        clear hcode ho4 HCK hck
        go_wp2
        go_roundw
        case rel => exact ⟨k + 1, hlt, by go_num, XX2⟩
        case measure => simp [intOf]; omega
    · have hkq : k = q := by omega
      subst hkq
      have hok : okLay 8 Y = true := okLay_of KL.out (by omega) fun x hx => fitsB_of (by have := ku' x hx; rw [p8]; exact this.2)
      have hlr : layR 8 Y = (layed 8 Y, 0) := layR_val ((layR_code _ _).2 ⟨by decide, by decide, hok⟩)
      have HOK := Lib.hid hok; have HLR := Lib.hid hlr
      have kmin := KM.out
      have ksl := KS.out
      have KM0 : True := trivial
      clear hok hlr KM KS hlt hk
      by_cases hq : k < len3
      · have k500 : k = 500 := hex hq
        have k5 : (500 : Int) ≤ k := by omega
        have k6 : k < len3 := hq
        have k7 : (500 : Int) < len3 := by omega
        have ksl5 : ∀ v : World, (Instr.slice 32 (.slice a3 len3 cap3) none (some (.int .i64 500)) none).run Try.prog v = .ok (.slice a3 k cap3) v := fun v => run_slice_upto v _ _ Try.underlying32 size64 a3 len3 cap3 k _ _ (by omega) kqc
        clear hex hq kq3 k500 kmin ksl
        clear KM0
        go_wp2_with fail
        have k0 : Calls Try.prog 16 #[.int .i64 8, .slice a3 k cap3] wr _ := Lay_gave a3 k cap3 Y wr 8 KL.out (by omega) (ks'.ext hX) ku'
        refine k0.mono ?_
        clear k0
        rintro e w2 ⟨a4, c4, rfl, ho4, hX2⟩
        rw [HLR.out] at ho4 ⊢
        dsimp only at ho4 ⊢
        have k4 := own_cap ho4
        have hbz := isBytes_layed 8 Y
        have XX2 := hX.trans hX2
        have HTR := Lib.hid (takeR_layed 8 Y (by decide) (by decide) (fun x hx => (ku' x hx).1) HOK.out)
        generalize layed 8 Y = Z at *
        go_wp2_with fail
        have k0 : Calls Try.prog 20 #[.int .i64 8, .slice a4 Z.length c4] w2 _ := Take_gave a4 Z.length c4 Z w2 8 rfl (by omega) hbz (ownsRow_sl ho4) k4.1 k4.2
        refine k0.mono ?_
        clear k0
        rintro e w3 ⟨a5, c5, rfl, ho5, hX3⟩
        have htr : takeR 8 Z = (Y, 0) := HTR.out
        rw [htr] at ho5 ⊢
        dsimp only at ho5 ⊢
        rw [KL.out] at ho5 ⊢
        have XX3 := XX2.trans hX3
        have s5 := ownsRow_sl ho5
        have s3 := ks'.ext XX3
        clear ho4 ho5 hX2 hX3 htr HTR hX XX2 hX1 ks' hs'
        go_wp2_with fail
        refine (Same64.Same_ok a5 a3 k k c5 cap3 Y Y w3 KL.out KL.out (by omega) s5 s3).mono ?_
        rintro e w4 ⟨rfl, hX5⟩
        have hq : Same64.sameB Y Y = true := by simp [Same64.sameB]
        rw [hq]
        clear hq
        go_wp2
        go_ret
        exact ⟨rfl, XX3.trans hX5⟩

      · have k8 : k = len3 := by omega
        subst k8
        have k7 : ¬ ((500 : Int) < k) := by omega
        clear hex hq kmin
        clear KM0
        go_wp2_with fail
        have k0 : Calls Try.prog 16 #[.int .i64 8, .slice a3 k cap3] wr _ := Lay_gave a3 k cap3 Y wr 8 KL.out (by omega) (ks'.ext hX) ku'
        refine k0.mono ?_
        clear k0
        rintro e w2 ⟨a4, c4, rfl, ho4, hX2⟩
        rw [HLR.out] at ho4 ⊢
        dsimp only at ho4 ⊢
        have k4 := own_cap ho4
        have hbz := isBytes_layed 8 Y
        have XX2 := hX.trans hX2
        have HTR := Lib.hid (takeR_layed 8 Y (by decide) (by decide) (fun x hx => (ku' x hx).1) HOK.out)
        generalize layed 8 Y = Z at *
        go_wp2_with fail
        have k0 : Calls Try.prog 20 #[.int .i64 8, .slice a4 Z.length c4] w2 _ := Take_gave a4 Z.length c4 Z w2 8 rfl (by omega) hbz (ownsRow_sl ho4) k4.1 k4.2
        refine k0.mono ?_
        clear k0
        rintro e w3 ⟨a5, c5, rfl, ho5, hX3⟩
        have htr : takeR 8 Z = (Y, 0) := HTR.out
        rw [htr] at ho5 ⊢
        dsimp only at ho5 ⊢
        rw [KL.out] at ho5 ⊢
        have XX3 := XX2.trans hX3
        have s5 := ownsRow_sl ho5
        have s3 := ks'.ext XX3
        clear ho4 ho5 hX2 hX3 htr HTR hX XX2 hX1 ks' hs'
        go_wp2_with fail
        refine (Same64.Same_ok a5 a3 k k c5 cap3 Y Y w3 KL.out KL.out (by omega) s5 s3).mono ?_
        rintro e w4 ⟨rfl, hX5⟩
        have hq : Same64.sameB Y Y = true := by simp [Same64.sameB]
        rw [hq]
        clear hq
        go_wp2
        go_ret
        exact ⟨rfl, XX3.trans hX5⟩

end Go.Proofs.Ytgflpbbdohmhiaa.Field
