/- DiskApart's two inner functions. -/
import Derived.Test.YtfonkicpjkcchaaDkCopy
import Derived.Test.YtfonkicpjkcchaaDkEitherL
namespace Go.Proofs.Ytfonkicpjkcchaa.Dk
open Go.RowKit Words Mem Plain Ops Agg OwnS
open Go.Joins Go.ChangeShapes Go.WideShapes Go.Deep
set_option linter.ambiguousOpen false
set_option linter.unusedVariables false
set_option linter.unusedSimpArgs false

theorem flush_len (D : Dsk) : (flushR D).1.secs.length = D.secs.length := by rw [(flush_cases D).1]
set_option maxHeartbeats 2000000 in
theorem run_ok {w0 u : World} {g gs sc : Nat} {D : Dsk} {b : Nat} (h : At w0 g gs sc D u) (hwf : D.Wf b) (hb : b ≤ 1000000) (x : ActT) (hx : x.ok) :
    Calls Try.prog 23 #[.pointer (some ⟨g, 0, none⟩), .agg #[.int .u8 x.kind, .int .i64 x.pos, .int .u8 x.c, .slice x.bp x.bl x.bc, .int .u16 x.tag, .int .u64 x.there]] u fun e w' => e = .returned (.tuple #[]) ∧ ∃ D', At w0 g gs sc D' w' ∧ D'.Wf (b + 1) ∧ D'.secs.length = D.secs.length := by
  obtain ⟨kind, pos, c, bp, bl, bc, tag, there⟩ := x
  obtain ⟨hxk, hxp, hxc, _⟩ := hx
  dsimp only at *
  have hXX := (Ext.refl u).alloc (.cells #[.int .u8 kind, .int .i64 pos, .int .u8 c, .slice bp bl bc, .int .u16 tag, .int .u64 there] 34)
  have hrow := Row.new u 34 [.int .u8 kind, .int .i64 pos, .int .u8 c, .slice bp bl bc, .int .u16 tag, .int .u64 there]
  have HX := Lib.hid (h.ext hXX)
  have k0 := (hrow.cell? 0).trans rfl
  have k1 := (hrow.cell? 1).trans rfl
  have k2 := (hrow.cell? 2).trans rfl
  have k5 := (hrow.cell? 5).trans rfl
  have HWF := Lib.hid hwf
  clear hrow hXX h hwf
  rcases (show kind % 5 = 0 ∨ kind % 5 = 1 ∨ kind % 5 = 2 ∨ kind % 5 = 3 ∨ kind % 5 = 4 by omega) with hq | hq | hq | hq | hq
  · have hp1 := patch_ok pos c (u.alloc (.cells #[.int .u8 kind, .int .i64 pos, .int .u8 c, .slice bp bl bc, .int .u16 tag, .int .u64 there] 34)) hxc
    have HW2 := Lib.hid (And.intro (write_wf HWF.out pos hxc) (write_len D pos c))
    obtain ⟨hc0, hc1⟩ := hxc
    go_enter Try.func23, Try.ntmps23
    go_wp2_with fail
    refine hp1.mono ?_
    rintro e u1 ⟨a1, rfl, ha, hr, hx⟩
    have hwr := Write_at HX.out HWF.out (by omega) hx ha hr pos
    clear hp1 ha hr hx
    generalize writeR D pos (allB c) c = D' at *
    go_wp2_with fail
    refine hwr.mono ?_
    rintro e u2 ⟨rfl, hA2⟩
    have HA2 := Lib.hid hA2
    clear hwr hA2
    go_wp2
    refine bodyPost_end (results_none rfl _ _ _) rfl ?_
    exact ⟨rfl, D'.1, HA2.out, HW2.out⟩
  · have hp1 := patch_ok pos c (u.alloc (.cells #[.int .u8 kind, .int .i64 pos, .int .u8 c, .slice bp bl bc, .int .u16 tag, .int .u64 there] 34)) hxc
    have HW2 := Lib.hid (And.intro (write_wf HWF.out pos hxc) (write_len D pos c))
    obtain ⟨hc0, hc1⟩ := hxc
    go_enter Try.func23, Try.ntmps23
    go_wp2_with fail
    refine hp1.mono ?_
    rintro e u1 ⟨a1, rfl, ha, hr, hx⟩
    have hwr := Write_at HX.out HWF.out (by omega) hx ha hr pos
    clear hp1 ha hr hx
    generalize writeR D pos (allB c) c = D' at *
    go_wp2_with fail
    refine hwr.mono ?_
    rintro e u2 ⟨rfl, hA2⟩
    have HA2 := Lib.hid hA2
    clear hwr hA2
    go_wp2
    refine bodyPost_end (results_none rfl _ _ _) rfl ?_
    exact ⟨rfl, D'.1, HA2.out, HW2.out⟩
  · have hfl := Flush_at HX.out HWF.out (by omega)
    have HW2 := Lib.hid (And.intro (flush_wf HWF.out) (flush_len D))
    generalize flushR D = D' at *
    go_enter Try.func23, Try.ntmps23
    go_wp2_with fail
    refine hfl.mono ?_
    rintro e u2 ⟨rfl, hA2⟩
    have HA2 := Lib.hid hA2
    clear hfl hA2
    go_wp2
    refine bodyPost_end (results_none rfl _ _ _) rfl ?_
    exact ⟨rfl, D'.1, HA2.out, HW2.out⟩
  · have hfl := Cut_at HX.out pos
    have HW2 := Lib.hid (And.intro (wf_more (cutR_wf HWF.out hxp.2) (show b ≤ b + 1 by omega)) (congrArg List.length (cut_same D pos).1))
    generalize cutR D pos = D' at *
    go_enter Try.func23, Try.ntmps23
    go_wp2_with fail
    refine hfl.mono ?_
    rintro e u2 ⟨rfl, hA2⟩
    have HA2 := Lib.hid hA2
    clear hfl hA2
    go_wp2
    refine bodyPost_end (results_none rfl _ _ _) rfl ?_
    exact ⟨rfl, D', HA2.out, HW2.out⟩
  · have hfl := Crash_at HX.out HWF.out (by omega) there
    have HW2 := Lib.hid (And.intro (wf_more (crash_wf HWF.out there) (show b ≤ b + 1 by omega)) (crash_len D there))
    generalize crashR D there = D' at *
    go_enter Try.func23, Try.ntmps23
    go_wp2_with fail
    refine hfl.mono ?_
    rintro e u2 ⟨rfl, hA2⟩
    have HA2 := Lib.hid hA2
    clear hfl hA2
    go_wp2
    refine bodyPost_end (results_none rfl _ _ _) rfl ?_
    exact ⟨rfl, D', HA2.out, HW2.out⟩

/-! What is seen of a disk. -/
def seenN (D : Dsk) : Nat → ByteArray
  | 0 => strOf [IntKind.u8.wrap D.done, IntKind.u8.wrap (D.secs.length : Int)]
  | k + 1 => seenN D k ++ (strOf (pad64 (sg D.secs k).bs) ++ strOf [IntKind.u8.wrap (sg D.secs k).tag])
def seenR (D : Dsk) : ByteArray := if D.dead = true then seenN D 0 ++ ⟨#[100, 101, 97, 100]⟩ else seenN D 10
theorem Done_of {w0 u : World} {g gs sc : Nat} {D : Dsk} (h : At w0 g gs sc D u) :
    Calls Try.prog 20 #[.pointer (some ⟨g, 0, none⟩)] u fun e w' => e = .returned (.int .i64 D.done) ∧ w' = u := by
  obtain ⟨h1, wa, wc, h2⟩ := h
  exact Done_ok h2
theorem Len_of {w0 u : World} {g gs sc : Nat} {D : Dsk} (h : At w0 g gs sc D u) :
    Calls Try.prog 21 #[.pointer (some ⟨g, 0, none⟩)] u fun e w' => e = .returned (.int .i64 D.secs.length) ∧ w' = u := by
  obtain ⟨h1, wa, wc, h2⟩ := h
  exact Len_ok h2
theorem conv8 (v : World) {a : Option Addr} {n : Nat} (c : Nat) {xs : List Int} (h : Sl v a (ints .u8 xs)) (hl : xs.length = n) : (convert 29 9 (.slice a n c)).run Try.prog v = .ok (.string (strOf xs)) v :=
  run_conv_str (P := Try.prog) v 29 9 5 Try.underlying29 Try.underlying5 Try.underlying9 c h hl
theorem seen_size (D : Dsk) : ∀ k, (seenN D k).size = 2 + 65 * k
  | 0 => by unfold seenN; rw [strOf_size]; rfl
  | k + 1 => by
    unfold seenN
    rw [ByteArray.size_append, ByteArray.size_append, seen_size D k, strOf_size, strOf_size, pad64_len]
    simp; omega
set_option maxHeartbeats 2000000 in
theorem seen_ok {w0 u : World} {g gs sc : Nat} {D : Dsk} (h : At w0 g gs sc D u) (hlen : D.secs.length = 10) :
    Calls Try.prog 24 #[.pointer (some ⟨g, 0, none⟩)] u fun e w' => e = .returned (.string (seenR D)) ∧ Ext u w' := by
  have hdone := Done_of h
  have hln := Len_of h
  obtain ⟨x0, hx0⟩ : ∃ q, IntKind.u8.wrap D.done = q := ⟨_, rfl⟩
  have hXX := (Ext.refl u).alloc (.cells #[.int .u8 x0, .int .u8 10] 5)
  have hcv : (convert 29 9 (.slice (some ⟨u.heap.size, 0, none⟩) 2 2)).run Try.prog (u.alloc (.cells #[.int .u8 x0, .int .u8 10] 5)) = .ok (.string (strOf [x0, 10])) (u.alloc (.cells #[.int .u8 x0, .int .u8 10] 5)) := conv8 _ 2 (Row.new u 5 (ints .u8 [x0, 10])).sl0 rfl
  have HS0 := Lib.hid (show seenN D 0 = strOf [x0, 10] by
    show strOf [_, IntKind.u8.wrap (D.secs.length : Int)] = _
    rw [hx0, hlen]; rfl)
  have HA := Lib.hid (h.ext hXX)
  have HXX := Lib.hid hXX
  have hdead := Dead_of HA.out
  rw [hlen] at hln
  have hz0 : ¬ 9223372036854775807 < (strOf [x0, 10]).size + 4 := by rw [strOf_size]; simp
  generalize hS : strOf [x0, 10] = S0 at *
  have HLEN := Lib.hid hlen
  clear hXX h hS hlen
  have hx10 : IntKind.u8.wrap 10 = 10 := rfl
  have hln : Calls Try.prog 21 #[.pointer (some ⟨g, 0, none⟩)] u fun e w' => e = .returned (.int .i64 10) ∧ w' = u := hln
  go_enter Try.func24, Try.ntmps24
  go_wp2_with fail
  refine hdone.mono ?_
  rintro e u' ⟨rfl, hu⟩
  subst hu
  go_wp2_with fail
  refine hln.mono ?_
  rintro e u'' ⟨rfl, hu⟩
  subst hu
  clear hdone hln
  go_wp2_with fail
  refine hdead.mono ?_
  rintro e u3 ⟨rfl, hu⟩
  subst hu
  clear hdead hcv
  generalize hu1 : u''.alloc (.cells #[.int .u8 x0, .int .u8 10] 5) = u1 at *
  clear hu1
  cases hd : D.dead
  · have HSR := Lib.hid (show seenR D = seenN D 10 by unfold seenR; rw [if_neg (by rw [hd]; decide)])
    go_wp2
    go_loopw [21, 3] (fun v s wr => ∃ k : Nat, k ≤ 10 ∧ v = .int .i64 k ∧ s = .string (seenN D k) ∧ Ext u1 wr) (fun v _ _ => 10 - (intOf v).toNat)
    case atStart => exact ⟨0, by omega, rfl, by rw [HS0.out], Ext.refl _⟩
    case round =>
      obtain ⟨k, hk, rfl, rfl, hXk⟩ := hrel
      have HXK := Lib.hid hXk
      clear hXk
      by_cases hlt : k < 10
      · have hlk : k < D.secs.length := by rw [HLEN.out]; exact hlt
        have hgt := getR_yes hlk hd
        have hrt : readR D (k : Int) = (pad64 (sg D.secs k).bs, 0) := by unfold readR; rw [hgt, if_pos rfl]
        have HSK := Lib.hid (show seenN D (k + 1) = seenN D k ++ (strOf (pad64 (sg D.secs k).bs) ++ strOf [IntKind.u8.wrap (sg D.secs k).tag]) from rfl)
        have hrd := Read_at (HA.out.ext HXK.out) k
        rw [hrt] at hrd
        have HG := Lib.hid hgt
        clear hrt hlk hgt
        have HZK := Lib.hid (show (seenN D k).size ≤ 1000 by rw [seen_size]; omega)
        generalize seenN D k = SK at *
        have h64 := pad64_len (sg D.secs k).bs
        generalize sg D.secs k = sk at *
        have hk10 : (k : Int) < 10 := by omega
        go_wp2_with fail
        refine hrd.mono ?_
        rintro e v1 ⟨a5, c5, rfl, ho5, hx5⟩
        dsimp only at ho5 ⊢
        rw [h64] at ho5 ⊢
        have HO5 := Lib.hid (ownsRow_sl ho5)
        have htg := Tag_at (HA.out.ext (HXK.out.trans hx5)) k
        rw [HG.out] at htg
        have HX5 := Lib.hid (HXK.out.trans hx5)
        clear hrd ho5 hx5
        go_wp2_with fail
        refine htg.mono ?_
        rintro e v2 ⟨rfl, hx6⟩
        have HX6 := Lib.hid (HX5.out.trans hx6)
        have hcv1 := conv8 v2 c5 (HO5.out.ext hx6) h64
        obtain ⟨y, hy⟩ : ∃ q, IntKind.u8.wrap sk.tag = q := ⟨_, rfl⟩
        have hcv2 : (convert 29 9 (.slice (some ⟨v2.heap.size, 0, none⟩) 1 1)).run Try.prog (v2.alloc (.cells #[.int .u8 y] 5)) = .ok (.string (strOf [y])) (v2.alloc (.cells #[.int .u8 y] 5)) := conv8 _ 1 (Row.new v2 5 (ints .u8 [y])).sl0 rfl
        have HX7 := Lib.hid (HX6.out.alloc (.cells #[.int .u8 y] 5))
        have HSK2 := Lib.hid (show seenN D (k + 1) = SK ++ (strOf (pad64 sk.bs) ++ strOf [y]) by rw [← hy]; exact HSK.out)
        clear htg hx6
        have hz1 : (strOf (pad64 sk.bs)).size = 64 := by rw [strOf_size, h64]
        have hz2 : (strOf [y]).size = 1 := by rw [strOf_size]; rfl
        have hz3 : ¬ 9223372036854775807 < (strOf (pad64 sk.bs)).size + (strOf [y]).size := by omega
        have hz4 : ¬ 9223372036854775807 < SK.size + ((strOf (pad64 sk.bs)).size + (strOf [y]).size) := by have := HZK.out; omega
        have hz5 : ¬ 9223372036854775807 < SK.size + (strOf (pad64 sk.bs) ++ strOf [y]).size := by rw [ByteArray.size_append]; exact hz4
        clear hz1 hz2
        generalize strOf (pad64 sk.bs) = SB at *
        generalize strOf [y] = ST at *
        dsimp only
        go_wp2
        go_roundw
        case rel => exact ⟨k + 1, hlt, by go_num, by rw [HSK2.out], HX7.out⟩
        case measure => simp [intOf]; omega
      · obtain rfl : k = 10 := by omega
        go_wp2
        go_ret
        exact ⟨by rw [HSR.out]; rfl, HXX.out.trans HXK.out⟩
  · have HSR := Lib.hid (show seenR D = seenN D 0 ++ ⟨#[100, 101, 97, 100]⟩ by unfold seenR; rw [if_pos hd])
    go_wp2
    go_ret
    exact ⟨by rw [HSR.out, HS0.out]; rfl, HXX.out⟩
end Go.Proofs.Ytfonkicpjkcchaa.Dk
