/- Contracts: super.Lay, moatref09.Lay. -/
import Derived.Test.YthhkkjnahiimbaaGeoP
namespace Go.Proofs.Ythhkkjnahiimbaa.Super
open Go.RowKit Words Mem Plain Ops
set_option linter.ambiguousOpen false
open Go.Proofs.Ythhkkjnahiimbaa.Field Agg Sum
set_option linter.unusedVariables false
set_option linter.unusedSimpArgs false

theorem Lay_bad (g : Geo4) (w : World) (h : g.rightB = false) : Calls Try.prog 18 #[g.v] w (Gave .u8 5 w g.layR) := by
  rw [Geo4.layR_no h]
  have hR := Right_ok g.J g.I g.G g.P
  have h' : Super.rightB g.J g.I g.G g.P = false := h
  rw [h'] at hR
  obtain ⟨J, I, G, P⟩ := g
  dsimp only [Geo4.v, Geo4.cs] at *
  go_enter Try.func18, Try.ntmps18
  go_wp2_with fail
  refine (hR _).mono ?_
  rintro e w2 ⟨rfl, hX2⟩
  have X2 := ((Ext.refl w).alloc _).trans hX2
  go_wp2_with fail
  go_ret2
  exact Gave.nil rfl X2
theorem rLay_bad (g : Geo4) (w : World) (h : g.rightB = false) : Calls Try.prog 19 #[g.v] w (Gave .u8 5 w g.layR) := by
  rw [Geo4.layR_no h]
  have hR := rRight_ok g.J g.I g.G g.P
  have h' : Super.rightB g.J g.I g.G g.P = false := h
  rw [h'] at hR
  obtain ⟨J, I, G, P⟩ := g
  dsimp only [Geo4.v, Geo4.cs] at *
  go_enter Try.func19, Try.ntmps19
  go_wp2_with fail
  refine (hR _).mono ?_
  rintro e w2 ⟨rfl, hX2⟩
  have X2 := ((Ext.refl w).alloc _).trans hX2
  go_wp2_with fail
  go_ret2
  exact Gave.nil rfl X2

theorem geoKept {w w2 : World} {J I G P : Int} (h : Ext (w.alloc (.cells #[.int .i64 J, .int .i64 I, .int .i64 G, .int .i64 P] 23)) w2) :
    w.heap.size < w2.heap.size ∧ w2.cell? ⟨w.heap.size, 0, none⟩ = some (.int .i64 J) ∧ w2.cell? ⟨w.heap.size, 1, none⟩ = some (.int .i64 I) ∧ w2.cell? ⟨w.heap.size, 2, none⟩ = some (.int .i64 G) ∧ w2.cell? ⟨w.heap.size, 3, none⟩ = some (.int .i64 P) := by
  have hlt : w.heap.size < (w.alloc (.cells #[.int .i64 J, .int .i64 I, .int .i64 G, .int .i64 P] 23)).heap.size := by simp
  refine ⟨Nat.lt_of_lt_of_le hlt h.size, ?_, ?_, ?_, ?_⟩
  all_goals (rw [h.cell (p := ⟨w.heap.size, _, none⟩) hlt]; go_simp)

set_option maxHeartbeats 2000000 in
theorem Lay_good (g : Geo4) (w : World) (h : g.rightB = true) : Calls Try.prog 18 #[g.v] w (Gave .u8 5 w g.layR) := by
  rw [Geo4.layR_yes h]
  have hR := Right_ok g.J g.I g.G g.P
  have h' : Super.rightB g.J g.I g.G g.P = true := h
  rw [h'] at hR
  obtain ⟨⟨j0, j1⟩, ⟨i0, i1⟩, ⟨g0, g1⟩, p0, p1⟩ := Geo4.bd h
  have hhd : g.head = [109, 111, 97, 116] ++ layed 2 [g.J, g.I, g.G, g.P] := rfl
  have hby : g.bytes = sealN (filled g.head 60) := rfl
  have hfl := g.fill_len
  have hfb := g.fill_bytes
  have hbl := g.bytes_len
  have hhl := g.head_len
  generalize g.bytes = BB at *
  generalize g.head = HD at *
  obtain ⟨J, I, G, P⟩ := g
  dsimp only [Geo4.v, Geo4.cs] at *
  have HHD := Lib.hid hhd; have HBY := Lib.hid hby; have HFL := Lib.hid hfl; have HFB := Lib.hid hfb; have HBL := Lib.hid hbl; have HHL := Lib.hid hhl
  clear h h' hhd hby hfl hfb hbl hhl
  go_enter Try.func18, Try.ntmps18
  go_wp2_with fail
  refine (hR _).mono ?_
  rintro e w2 ⟨rfl, hX2⟩
  clear hR
  have X2 := ((Ext.refl w).alloc _).trans hX2
  obtain ⟨hlt, c0, c1, c2, c3⟩ := geoKept hX2
  clear hX2
  have r3 : Row (w2.alloc (.cells #[.int .u64 J, .int .u64 I, .int .u64 G, .int .u64 P] 46)) w2.heap.size 46 (ints .u64 [J, I, G, P]) := Row.new w2 46 (ints .u64 [J, I, G, P])
  have X3 := X2.alloc (.cells #[.int .u64 J, .int .u64 I, .int .u64 G, .int .u64 P] 46)
  go_wp2_with fail
  obtain ⟨b3, hb3⟩ : ∃ b, b = w2.heap.size := ⟨_, rfl⟩
  rw [← hb3] at r3 ⊢
  clear hb3
  generalize w2.alloc (.cells #[.int .u64 J, .int .u64 I, .int .u64 G, .int .u64 P] 46) = w3 at *
  have hN : ∀ x ∈ [J, I, G, P], 0 ≤ x ∧ x < 65536 := by simp; omega
  have k0 : Calls Try.prog 24 #[.int .i64 2, .slice (some ⟨b3, 0, none⟩) 4 4] w3 _ := Lay_gave (some ⟨b3, 0, none⟩) 4 4 [J, I, G, P] w3 2 rfl (by decide) r3.sl0 (fun x hx => by have := hN x hx; omega)
  have hok : okLay 2 [J, I, G, P] = true := okLay_of (n := 4) rfl (by decide) (fun x hx => by have := hN x hx; unfold fitsB; rw [p2]; simp; omega)
  have hlr : Field.layR 2 [J, I, G, P] = (layed 2 [J, I, G, P], 0) := by unfold Field.layR; rw [if_neg (by decide)]; show (if okLay 2 [J, I, G, P] = true then _ else _) = _; rw [if_pos hok]; rfl
  rw [hlr] at k0
  clear hlr hok hN c0 c1 c2 c3 X2 hlt r3
  refine k0.mono ?_
  clear k0
  rintro e w4 ⟨a4, q4, rfl, o4, hX4⟩
  have hl8 : (layed 2 [J, I, G, P]).length = 8 := by rw [length_layed]; rfl
  dsimp only at o4 ⊢
  rw [hl8] at o4 ⊢
  have X4 := X3.trans hX4
  have s4 := ownsRow_sl o4
  have n4 := own_nil o4
  have HL8 := Lib.hid hl8
  clear hX4 X3 hl8 o4
  have hcv := conv_moat w4
  have X5 := X4.alloc (.cells #[.int .u8 109, .int .u8 111, .int .u8 97, .int .u8 116] 5 (4, 5))
  have s5 := s4.ext ((Ext.refl w4).alloc (.cells #[.int .u8 109, .int .u8 111, .int .u8 97, .int .u8 116] 5 (4, 5)))
  obtain ⟨b4, o4, rfl, _⟩ := s4.ints (by rw [HL8.out]; decide)
  obtain ⟨a6, q6, w6, run6, o6, ext6⟩ := run_append_full (P := Try.prog) _ 36 36 5 (.int .u8 0) 1 Try.underlying36 info8 rfl (n := 4) (cap0 := 4) (by simp [ints]) (sl_moat w4) (m := 8) q4 (by rw [ints_length]; exact HL8.out) s5 (by decide) (by decide) (by decide)
  have X6 := ext6 w X5
  rw [← ints_append, ← HHD.out] at o6
  clear ext6 s5 X5 s4 n4 X4
  go_wp2_with (at_builtin; refine Lib.wpList_append_run _ rfl _ _ _ _ rfl _ _ rfl rfl _ _ run6 ?_)
  have k0 : Calls Try.prog 25 #[.slice a6 12 q6, .int .i64 60] w6 _ := Fill_ok a6 12 q6 60 HD w6 HHL.out (ownsRow_sl o6) (by decide) (by decide)
  refine k0.mono ?_
  clear k0
  rintro e w7 ⟨rfl, rfl⟩
  have r7 := Row.new w6 5 (ints .u8 (filled HD 60))
  have X7 := X6.alloc (.cells (ints .u8 (filled HD 60)).toArray 5)
  obtain ⟨b7, hb7⟩ : ∃ b, b = w6.heap.size := ⟨_, rfl⟩
  clear run6 o6 X6
  generalize filled HD 60 = FD at *
  go_wp2_with fail
  rw [← hb7] at r7 ⊢
  clear hb7
  generalize w6.alloc (.cells (ints .u8 FD).toArray 5) = w8 at *
  have k0 : Calls Try.prog 26 #[.slice (some ⟨b7, 0, none⟩) 60 60] w8 _ := Seal_ok (some ⟨b7, 0, none⟩) 60 60 FD w8 HFL.out (by decide) HFB.out r7.sl0 (by decide) (by decide)
  refine k0.mono ?_
  clear k0
  rintro e w9 ⟨rfl, hr9, hX9⟩
  rw [← HBY.out] at hr9
  have X9 := X7.trans hX9
  go_wp2_with fail
  go_ret2
  exact Gave.own (n := 64) rfl HBL.out (ownsRow_base (ownsRow_of hr9 (Nat.le_refl _) (by rw [ints_length]; exact HBL.out) (by decide)) X7.size) X9

theorem Lay_geo (g : Geo4) (w : World) : Calls Try.prog 18 #[g.v] w (Gave .u8 5 w g.layR) := by
  cases h : g.rightB
  · exact Lay_bad g w h
  · exact Lay_good g w h

set_option maxHeartbeats 4000000 in
theorem rLay_good (g : Geo4) (w : World) (h : g.rightB = true) : Calls Try.prog 19 #[g.v] w (Gave .u8 5 w g.layR) := by
  rw [Geo4.layR_yes h]
  have hR := rRight_ok g.J g.I g.G g.P
  have h' : Super.rightB g.J g.I g.G g.P = true := h
  rw [h'] at hR
  obtain ⟨⟨j0, j1⟩, ⟨i0, i1⟩, ⟨g0, g1⟩, p0, p1⟩ := Geo4.bd h
  have hhd : g.head = [109, 111, 97, 116] ++ bytesOf 2 g.J ++ bytesOf 2 g.I ++ bytesOf 2 g.G ++ bytesOf 2 g.P := by unfold Geo4.head Geo4.nums layed; simp
  have hby : g.bytes = sealN (filled g.head 60) := rfl
  have hfl := g.fill_len
  have hfb := g.fill_bytes
  have hbl := g.bytes_len
  have hhl := g.head_len
  generalize g.bytes = BB at *
  generalize g.head = HD at *
  obtain ⟨J, I, G, P⟩ := g
  dsimp only [Geo4.v, Geo4.cs] at *
  have HHD := Lib.hid hhd; have HBY := Lib.hid hby; have HFL := Lib.hid hfl; have HFB := Lib.hid hfb; have HBL := Lib.hid hbl; have HHL := Lib.hid hhl
  clear h h' hhd hby hfl hfb hbl hhl
  go_enter Try.func19, Try.ntmps19
  go_wp2_with fail
  refine (hR _).mono ?_
  rintro e w2 ⟨rfl, hX2⟩
  clear hR
  have X2 := ((Ext.refl w).alloc _).trans hX2
  obtain ⟨hlt, c0, c1, c2, c3⟩ := geoKept hX2
  have C0 := Lib.hid c0; have C1 := Lib.hid c1; have C2 := Lib.hid c2; have C3 := Lib.hid c3
  clear hX2 c0 c1 c2 c3
  have hcv := conv_moat w2
  have X5 := (Ext.refl w2).alloc (.cells #[.int .u8 109, .int .u8 111, .int .u8 97, .int .u8 116] 5 (4, 5))
  have s5 := sl_moat w2
  have c0 := X5.keep C0.out
  go_wp2_with fail
  clear hcv
  obtain ⟨b5, hb5⟩ : ∃ b, b = w2.heap.size := ⟨_, rfl⟩
  rw [← hb5] at s5 ⊢
  clear hb5
  generalize w2.alloc (.cells #[.int .u8 109, .int .u8 111, .int .u8 97, .int .u8 116] 5 (4, 5)) = w5 at *
  have k0 : Calls Try.prog 27 #[.int .u64 J, .int .i64 2] w5 _ := rNum_ok J 2 w5 (by omega) (by omega) (by decide)
  refine k0.mono ?_
  clear k0
  rintro e x5 ⟨ax, cx, rfl, ox, hXx⟩
  rw [length_bytesOf] at ox ⊢
  have Y5 := X5.trans hXx
  obtain ⟨bx, ofx, rfl, _⟩ := (ownsRow_sl ox).ints (by rw [length_bytesOf]; decide)
  obtain ⟨a6, q6, w6, run6, o6, ext6⟩ := run_append_full (P := Try.prog) x5 36 36 5 (.int .u8 0) 1 Try.underlying36 info8 rfl (n := 4) (cap0 := 4) (by simp [ints]) (s5.ext hXx) (m := 2) cx (by rw [ints_length, length_bytesOf]) (ownsRow_sl ox) (by decide) (by decide) (by decide)
  have X6 := ext6 w2 Y5
  rw [← ints_append] at o6
  replace o6 := ownsRow_base o6 Y5.size
  have c1 := X6.keep C1.out
  clear ext6 ox hXx s5 X5 Y5 c0
  go_wp2_with (at_builtin; refine Lib.wpList_append_run _ rfl _ _ _ _ rfl _ _ rfl rfl _ _ run6 ?_)
  clear run6
  have k0 : Calls Try.prog 27 #[.int .u64 I, .int .i64 2] w6 _ := rNum_ok I 2 w6 (by omega) (by omega) (by decide)
  refine k0.mono ?_
  clear k0
  rintro e x6 ⟨ax, cx, rfl, ox, hXx⟩
  rw [length_bytesOf] at ox ⊢
  have Y6 := X6.trans hXx
  obtain ⟨a7, q7, w7, run7, o7, ext7⟩ := run_append_sl (P := Try.prog) x6 w2.heap.size 36 36 5 (.int .u8 0) 1 Try.underlying36 info8 rfl (ownsRow_ext o6 hXx) (m := 2) cx (by rw [ints_length, length_bytesOf]) (ownsRow_sl ox) (own_nil ox) (ints_oneCell' _ _) (by decide) (by decide) Y6.size
  have X7 := ext7 w2 Y6 (Nat.le_refl _)
  rw [← ints_append] at o7
  have c2 := X7.keep C2.out
  clear ext7 ox hXx o6 X6 Y6 c1
  go_wp2_with (at_builtin; refine Lib.wpList_append_run _ rfl _ _ _ _ rfl _ _ rfl rfl _ _ run7 ?_)
  clear run7
  have k0 : Calls Try.prog 27 #[.int .u64 G, .int .i64 2] w7 _ := rNum_ok G 2 w7 (by omega) (by omega) (by decide)
  refine k0.mono ?_
  clear k0
  rintro e x7 ⟨ax, cx, rfl, ox, hXx⟩
  rw [length_bytesOf] at ox ⊢
  have Y7 := X7.trans hXx
  obtain ⟨a8, q8, w8, run8, o8, ext8⟩ := run_append_sl (P := Try.prog) x7 w2.heap.size 36 36 5 (.int .u8 0) 1 Try.underlying36 info8 rfl (ownsRow_ext o7 hXx) (m := 2) cx (by rw [ints_length, length_bytesOf]) (ownsRow_sl ox) (own_nil ox) (ints_oneCell' _ _) (by decide) (by decide) Y7.size
  have X8 := ext8 w2 Y7 (Nat.le_refl _)
  rw [← ints_append] at o8
  have c3 := X8.keep C3.out
  clear ext8 ox hXx o7 X7 Y7 c2
  go_wp2_with (at_builtin; refine Lib.wpList_append_run _ rfl _ _ _ _ rfl _ _ rfl rfl _ _ run8 ?_)
  clear run8
  have k0 : Calls Try.prog 27 #[.int .u64 P, .int .i64 2] w8 _ := rNum_ok P 2 w8 (by omega) (by omega) (by decide)
  refine k0.mono ?_
  clear k0
  rintro e x8 ⟨ax, cx, rfl, ox, hXx⟩
  rw [length_bytesOf] at ox ⊢
  have Y8 := X8.trans hXx
  obtain ⟨a9, q9, w9, run9, o9, ext9⟩ := run_append_sl (P := Try.prog) x8 w2.heap.size 36 36 5 (.int .u8 0) 1 Try.underlying36 info8 rfl (ownsRow_ext o8 hXx) (m := 2) cx (by rw [ints_length, length_bytesOf]) (ownsRow_sl ox) (own_nil ox) (ints_oneCell' _ _) (by decide) (by decide) Y8.size
  have X9 := ext9 w2 Y8 (Nat.le_refl _)
  rw [← ints_append] at o9
  rw [← HHD.out] at o9
  clear ext9 ox hXx o8 X8 Y8 c3
  go_wp2_with (at_builtin; refine Lib.wpList_append_run _ rfl _ _ _ _ rfl _ _ rfl rfl _ _ run9 ?_)
  clear run9
  have k0 : Calls Try.prog 28 #[.slice a9 12 q9, .int .i64 60] w9 _ := rFill_ok a9 12 q9 60 HD w9 HHL.out (ownsRow_sl o9) (own_nil o9) (by decide) (by decide)
  refine k0.mono ?_
  clear k0
  rintro e w10 ⟨a10, q10, rfl, o10, hX10⟩
  have X10 := (X2.trans X9).trans hX10
  clear o9 X9 hX10
  generalize filled HD 60 = FD at *
  rw [HFL.out] at o10 ⊢
  have s10 := ownsRow_sl o10
  have n10 := own_nil o10
  clear o10
  go_wp2_with fail
  refine (rSeal_ok a10 60 q10 FD w10 HFL.out (by decide) HFB.out s10 n10).mono ?_
  rintro e w11 ⟨a11, q11, rfl, o11, hX11⟩
  rw [← HBY.out, HBL.out] at o11 ⊢
  have X11 := X10.trans hX11
  go_wp2_with fail
  go_ret2
  exact Gave.own (n := 64) rfl HBL.out (ownsRow_base o11 X10.size) X11
theorem rLay_geo (g : Geo4) (w : World) : Calls Try.prog 19 #[g.v] w (Gave .u8 5 w g.layR) := by
  cases h : g.rightB
  · exact rLay_bad g w h
  · exact rLay_good g w h
end Go.Proofs.Ythhkkjnahiimbaa.Super
