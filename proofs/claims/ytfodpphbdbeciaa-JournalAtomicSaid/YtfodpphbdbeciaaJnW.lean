/- write: patches, and a flush behind them. -/
import Derived.Test.YtfodpphbdbeciaaJnH
namespace Go.Proofs.Ytfodpphbdbeciaa.Jn
open Go.RowKit Words Mem Plain Ops Agg OwnS Dk
open Go.Proofs.Ytfodpphbdbeciaa.Field Go.Proofs.Ytfodpphbdbeciaa.Sum
set_option maxRecDepth 100000
set_option linter.ambiguousOpen false
set_option linter.unusedVariables false
set_option linter.unusedSimpArgs false

structure PT where
  sec : Int
  bs : List Int
  tag : Int
def PT.wf (p : PT) : Prop := isBytes p.bs ∧ 0 ≤ p.tag ∧ p.tag ≤ 65535
def patC (p : PT) (x : Option Addr) (c : Nat) : List Value := [.int .i64 p.sec, .slice x p.bs.length c, .int .u16 p.tag]
/-- A patch's three cells, and its bytes. -/
structure PatAt (X : Nat → Prop) (u : World) (b o : Nat) (p : PT) (x : Option Addr) (c : Nat) : Prop where
  c0 : u.cell? ⟨b, o, none⟩ = some (.int .i64 p.sec)
  c1 : u.cell? ⟨b, o + 1, none⟩ = some (.slice x p.bs.length c)
  c2 : u.cell? ⟨b, o + 2, none⟩ = some (.int .u16 p.tag)
  sl : Sl u x (ints .u8 p.bs)
  ad : ∀ ad, x = some ad → X ad.block
  le : p.bs.length ≤ c ∧ c ≤ 9223372036854775807
/-- A slice of patches. -/
def PatsIn (X : Nat → Prop) (u : World) (a : Option Addr) (n : Nat) (L : List PT) : Prop :=
  L.length = n ∧ (∀ p ∈ L, p.wf) ∧ (0 < n → ∃ b off, a = some ⟨b, off, none⟩ ∧ X b ∧ ∀ i (h : i < L.length), ∃ x c, PatAt X u b (off + i * 3) L[i] x c)
theorem Same.sl {X : Nat → Prop} {u v : World} (h : Same X u v) {x : Option Addr} {xs : List Value} (hs : Sl u x xs) (hX : ∀ ad, x = some ad → X ad.block) : Sl v x xs := fun j hj => by
  obtain ⟨ad, e, hc⟩ := hs j hj
  refine ⟨ad, e, ?_⟩
  have hb : (ad.add j).block = ad.block := by unfold Addr.add; split <;> rfl
  exact h.cell hc (by rw [hb]; exact hX ad e)
theorem PatAt.same {X : Nat → Prop} {u v : World} {b o : Nat} {p : PT} {x : Option Addr} {c : Nat} (h : PatAt X u b o p x c) (hb : X b) (s : Same X u v) : PatAt X v b o p x c :=
  ⟨s.cell h.c0 hb, s.cell h.c1 hb, s.cell h.c2 hb, s.sl h.sl h.ad, h.ad, h.le⟩
theorem PatsIn.same {X : Nat → Prop} {u v : World} {a : Option Addr} {n : Nat} {L : List PT} (h : PatsIn X u a n L) (s : Same X u v) : PatsIn X v a n L := by
  refine ⟨h.1, h.2.1, fun h0 => ?_⟩
  obtain ⟨b, off, e, hb, hc⟩ := h.2.2 h0
  refine ⟨b, off, e, hb, fun i hi => ?_⟩
  obtain ⟨x, c, hp⟩ := hc i hi
  exact ⟨x, c, hp.same hb s⟩
/-- Writes, one behind the other, and a flush. -/
def writesR : Dsk → List PT → Dsk × Int
  | D, [] => flushR D
  | D, p :: l => if (writeR D p.sec p.bs p.tag).2 = 0 then writesR (writeR D p.sec p.bs p.tag).1 l else writeR D p.sec p.bs p.tag
theorem writeR_wf {D : Dsk} {b : Nat} (h : D.Wf b) (i : Int) {bs : List Int} {tag : Int} (hb : isBytes bs) (ht : 0 ≤ tag ∧ tag ≤ 65535) : (writeR D i bs tag).1.Wf (b + 1) := by
  have hpw := power_wf h
  have hps := power_secs D
  unfold writeR
  split
  · exact ⟨h.secs, h.waits, h.few, h.fuse, ⟨h.done.1, by have := h.done.2; dsimp only; omega⟩, by have := h.many; dsimp only; omega⟩
  · rename_i hc
    have hc : 0 ≤ i ∧ i < D.secs.length ∧ bs.length = 64 := Classical.not_not.1 hc
    split
    · have hns : Sec.wf ⟨bs, tag⟩ := ⟨hc.2.2, hb, ht⟩
      refine ⟨fun s hs => ?_, fun x hx => ?_, by dsimp only; rw [List.length_set]; exact h.few, hpw.fuse, ⟨hpw.done.1, hpw.done.2⟩, ?_⟩
      · rcases List.mem_or_eq_of_mem_set hs with hs | rfl
        · exact h.secs s hs
        · exact hns
      · dsimp only at hx ⊢
        rw [List.length_set]
        rcases List.mem_append.1 hx with hx | hx
        · exact h.waits x hx
        · simp at hx; subst hx
          refine ⟨⟨hc.1, hc.2.1⟩, ?_, hns⟩
          rw [sg_eq _ _ (by omega)]
          exact h.secs _ (List.getElem_mem _)
      · dsimp only; rw [List.length_append]; have := h.many; simp; omega
    · exact hpw
set_option maxHeartbeats 8000000 in
theorem write_ok {w0 u : World} {g gs sc gj : Nat} {X : Nat → Prop} {D : Dsk} {f n s : Int} {b : Nat} (hA : AtM w0 g gs sc D X u) (hwf : D.Wf b) (hj : Row u gj 67 (jRow g f n s)) (hX : X gj) (a : Option Addr) (m cap : Nat) (L : List PT) (hL : PatsIn X u a m L) (hb : b + m ≤ 99999999) :
    Calls Try.prog 31 #[.pointer (some ⟨gj, 0, none⟩), .slice a m cap] u fun e w' => e = .returned (.int .i64 (writesR D L).2) ∧ AtM w0 g gs sc (writesR D L).1 X w' ∧ Same X u w' := by
  have HA := Lib.hid hA
  have HWF := Lib.hid hwf
  have HJ := Lib.hid hj
  have HL := Lib.hid hL
  clear hA hwf hj hL
  go_enter Try.func31, Try.ntmps31
  go_wp2_with fail
  refine wp_scope_label 0 (fun a' w' => ∃ (e : Int) (u0 u1 u2 u3 u5 u6 u7 u8 u9 u10 u11 u12 u13 u14 u15 u16 u17 u18 u19 u20 u21 u22 u23 u24 u25 u26 u27 u28 u29 : Value), a' = { tmps := #[u0, u1, u2, u3, .int .i64 e, u5, u6, u7, u8, u9, u10, u11, u12, u13, u14, u15, u16, u17, u18, u19, u20, u21, u22, u23, u24, u25, u26, u27, u28, u29], defers := [] } ∧ e = (writesR D L).2 ∧ AtM w0 g gs sc (writesR D L).1 X w' ∧ Same X u w') (fun _ _ => 0) rfl ?_ ?_
  · rintro a' w' ⟨e, u0, u1, u2, u3, u5, u6, u7, u8, u9, u10, u11, u12, u13, u14, u15, u16, u17, u18, u19, u20, u21, u22, u23, u24, u25, u26, u27, u28, u29, rfl, he, hA, hS⟩
    have HE := Lib.hid he; have HA2 := Lib.hid hA; have HS2 := Lib.hid hS
    clear he hA hS
    go_wp2
    all_goals
      simp only [Exit.jump]
      go_ret
      exact ⟨by rw [HE.out]; rfl, HA2.out, HS2.out⟩
  · intro hpass
    have HPASS := Lib.hid hpass
    clear hpass
    go_wp2_with fail
    go_loopw [9] (fun v wr => ∃ (k : Nat) (D' : Dsk), k ≤ m ∧ v = .int .i64 k ∧ AtM w0 g gs sc D' X wr ∧ D'.Wf (b + k) ∧ Same X u wr ∧ writesR D L = writesR D' (L.drop k)) (fun v _ => m - (intOf v).toNat)
    case atStart => exact ⟨0, D, by omega, rfl, HA.out, HWF.out, Same.refl _ _, rfl⟩
    case round =>
      obtain ⟨k, D', hk, rfl, hA, hwf, hS, hR⟩ := hrel
      have HA2 := Lib.hid hA; have HWF2 := Lib.hid hwf; have HS := Lib.hid hS; have HRR := Lib.hid hR
      have HJ2 := Lib.hid (hS.row HJ.out hX)
      clear hA hwf hS hR
      by_cases hlt : k < m
      · have hkL : k < L.length := by rw [HL.out.1]; exact hlt
        obtain ⟨bp, off, rfl, hbp, hc⟩ := HL.out.2.2 (by omega)
        obtain ⟨x, cx, hp⟩ := hc k hkL
        have hp2 := hp.same hbp HS.out
        have hpw := HL.out.2.1 _ (List.getElem_mem hkL)
        have HDR := Lib.hid (show L.drop k = L[k] :: L.drop (k + 1) from List.drop_eq_getElem_cons hkL)
        generalize L[k] = pt at *
        obtain ⟨ps, pb, ptg⟩ := pt
        have HP := Lib.hid hp2
        have HPW := Lib.hid hpw
        have k0 := hp2.c0
        have k1 := hp2.c1
        have k2 := hp2.c2
        have hkm : (k : Int) < m := by omega
        have hzp := zeroPatch
        dsimp only at k0 k1 k2
        clear hc hp hp2 hpw hkL
        go_upto_region 4 with fail
        obtain ⟨wb, hwb⟩ : ∃ z, z = wr.alloc (.cells #[.int .i64 ps, .slice x pb.length cx, .int .u16 ptg] 37) := ⟨_, rfl⟩
        have hrb := Row.new wr 37 [.int .i64 ps, .slice x pb.length cx, .int .u16 ptg]
        have hXb := (Ext.refl wr).alloc (.cells #[.int .i64 ps, .slice x pb.length cx, .int .u16 ptg] 37)
        obtain ⟨gb, hgb⟩ : ∃ z, z = wr.heap.size := ⟨_, rfl⟩
        have hrb : Row wb gb 37 [.int .i64 ps, .slice x pb.length cx, .int .u16 ptg] := by rw [hwb, hgb]; exact hrb
        rw [← hwb] at hXb ⊢
        rw [← hgb]
        have HXB := Lib.hid (hXb.trans (Ext.refl wb).drew)
        have HRB := Lib.hid (hrb.ext (Ext.refl wb).drew)
        have HAX := Lib.hid (show AtM w0 g gs sc D' (fun q => X q ∨ q = gb) wb.drew from HA2.out.add HXB.out (fun q hq => by
          rcases hq with hq | rfl
          · exact .inl hq
          · exact .inr ⟨by rw [hgb]; exact Nat.le_refl _, HRB.out.lt⟩))
        have HSX := Lib.hid (Same.ofExt HA2.out HXB.out)
        clear hrb hXb hwb hgb k0 k1 k2 hkm
        go_wp2_with fail
        refine wp_region_held_drew (S := (fun v => Row v gj 67 (jRow g f n s) ∧ Row v gb 37 [.int .i64 ps, .slice x pb.length cx, .int .u16 ptg])) (by kernel_rfl) ⟨HSX.out.row HJ2.out hX, HRB.out⟩ (fun hHeld => ?_)
        generalize wb.drew = v0 at *
        refine takeD (i := 0) (v := ?_) rfl rfl (by kernel_rfl) (by kernel_rfl) (by kernel_rfl) (fun _ _ _ h => h) (Or.inl ⟨by rfl, ?_⟩) hHeld ?_
        rotate_left
        · (intro v hv; (obtain ⟨hv0, hv1⟩ := hv; have c0 := (hv0.cell? 0).trans rfl; have d0 := (hv1.cell? 0).trans rfl; have d1 := (hv1.cell? 1).trans rfl; have d2 := (hv1.cell? 2).trans rfl); go_simp; try (with_reducible rfl))
        (try simp only [List.setIfInBounds_toArray, List.set_cons_zero, List.set_cons_succ])
        refine takeD (i := 1) (v := ?_) rfl rfl (by kernel_rfl) (by kernel_rfl) (by kernel_rfl) (fun _ _ _ h => h) (Or.inl ⟨by rfl, ?_⟩) hHeld ?_
        rotate_left
        · (intro v hv; (obtain ⟨hv0, hv1⟩ := hv; have c0 := (hv0.cell? 0).trans rfl; have d0 := (hv1.cell? 0).trans rfl; have d1 := (hv1.cell? 1).trans rfl; have d2 := (hv1.cell? 2).trans rfl); go_simp; try (with_reducible rfl))
        (try simp only [List.setIfInBounds_toArray, List.set_cons_zero, List.set_cons_succ])
        refine takeD (i := 2) (v := ?_) rfl rfl (by kernel_rfl) (by kernel_rfl) (by kernel_rfl) (fun _ _ _ h => h) (Or.inl ⟨by rfl, ?_⟩) hHeld ?_
        rotate_left
        · (intro v hv; (obtain ⟨hv0, hv1⟩ := hv; have c0 := (hv0.cell? 0).trans rfl; have d0 := (hv1.cell? 0).trans rfl; have d1 := (hv1.cell? 1).trans rfl; have d2 := (hv1.cell? 2).trans rfl); go_simp; try (with_reducible rfl))
        (try simp only [List.setIfInBounds_toArray, List.set_cons_zero, List.set_cons_succ])
        refine takeD (i := 3) (v := ?_) rfl rfl (by kernel_rfl) (by kernel_rfl) (by kernel_rfl) (fun _ _ _ h => h) (Or.inl ⟨by rfl, ?_⟩) hHeld ?_
        rotate_left
        · (intro v hv; (obtain ⟨hv0, hv1⟩ := hv; have c0 := (hv0.cell? 0).trans rfl; have d0 := (hv1.cell? 0).trans rfl; have d1 := (hv1.cell? 1).trans rfl; have d2 := (hv1.cell? 2).trans rfl); go_simp; try (with_reducible rfl))
        (try simp only [List.setIfInBounds_toArray, List.set_cons_zero, List.set_cons_succ])
        refine takeD (i := 4) (v := ?_) rfl rfl (by kernel_rfl) (by kernel_rfl) (by kernel_rfl) (fun _ _ _ h => h) (Or.inl ⟨by rfl, ?_⟩) hHeld ?_
        rotate_left
        · (intro v hv; (obtain ⟨hv0, hv1⟩ := hv; have c0 := (hv0.cell? 0).trans rfl; have d0 := (hv1.cell? 0).trans rfl; have d1 := (hv1.cell? 1).trans rfl; have d2 := (hv1.cell? 2).trans rfl); go_simp; try (with_reducible rfl))
        (try simp only [List.setIfInBounds_toArray, List.set_cons_zero, List.set_cons_succ])
        refine wpAnyH_ready (rs := [5]) (by kernel_rfl) (by simp) ?_
        refine AllReadyH.cons rfl (fun K hK => ?_) AllReadyH.nil
        go_simp
        refine (Write_atM HAX.out HWF2.out (by omega) ps x pb.length cx pb ptg rfl (by have := HP.out.le; dsimp only at this; omega) (HSX.out.sl HP.out.sl HP.out.ad) (fun ad e => .inl (HP.out.ad ad e))).mono ?_
        rintro e v1 ⟨rfl, hA5, hS5⟩
        refine hK.out _ _ ⟨hS5.row hHeld.1 (.inl hX), hS5.row hHeld.2 (.inr rfl)⟩ (fun hHeld => ?_)
        have HA5 := Lib.hid (hA5.sub (Y := X) (fun q hq => .inl hq))
        have HS5 := Lib.hid (HS.out.trans (HSX.out.trans (hS5.sub (Y := X) (fun q hq => .inl hq))))
        have HW5 := Lib.hid (writeR_wf HWF2.out ps HPW.out.1 HPW.out.2)
        have HSTEP := Lib.hid (show writesR D L = if (writeR D' ps pb ptg).2 = 0 then writesR (writeR D' ps pb ptg).1 (L.drop (k + 1)) else writeR D' ps pb ptg by rw [HRR.out, HDR.out]; rfl)
        clear hK hA5 hS5
        generalize writeR D' ps pb ptg = RR at *
        obtain ⟨D5, code⟩ := RR
        dsimp only at *
        refine takeD (i := 6) (v := ?_) rfl rfl (by kernel_rfl) (by kernel_rfl) (by kernel_rfl) (fun _ _ _ h => h) (Or.inl ⟨by rfl, ?_⟩) hHeld ?_
        rotate_left
        · (intro v hv; skip; go_simp; try (with_reducible rfl))
        (try simp only [List.setIfInBounds_toArray, List.set_cons_zero, List.set_cons_succ])
        refine wpAnyH_done (by kernel_rfl) ?_ _
        clear hHeld
        by_cases hc0 : code = 0
        · subst hc0
          go_wp2
          go_roundw
          case rel => exact ⟨k + 1, D5, hlt, by go_num, HA5.out, HW5.out, HS5.out, by rw [HSTEP.out, if_pos rfl]⟩
          case measure => simp [intOf]; omega
        · have hne : (code != 0) = true := by simp [hc0]
          have HV := Lib.hid (show writesR D L = (D5, code) by rw [HSTEP.out, if_neg hc0])
          clear hc0
          go_wp2
          refine wp_goto ?_
          exact ⟨rfl, code, _, _, _, _, _, _, _, _, _, _, _, _, _, _, _, _, _, _, _, _, _, _, _, _, _, _, _, _, _, rfl, by rw [HV.out], by rw [HV.out]; exact HA5.out, HS5.out⟩
      · obtain rfl : k = m := by omega
        have HR2 := Lib.hid (show writesR D L = flushR D' by rw [HRR.out, List.drop_of_length_le (by rw [HL.out.1]; exact Nat.le_refl _)]; rfl)
        have c0 := (HJ2.out.cell? 0).trans rfl
        have HF := Lib.hid (Flush_atM HA2.out HWF2.out (by omega))
        clear hlt hk
        go_wp2_with fail
        refine HF.out.mono ?_
        rintro e w5 ⟨rfl, hA5, hS5⟩
        have HA5 := Lib.hid hA5
        have HS5 := Lib.hid (HS.out.trans hS5)
        clear hA5 hS5 HF c0
        generalize flushR D' = RR at *
        obtain ⟨D5, code⟩ := RR
        dsimp only at *
        by_cases hc0 : code = 0
        · subst hc0
          go_wp2
          all_goals
            simp only [Exit.jump]
            go_ret
            exact ⟨by rw [HR2.out]; rfl, by rw [HR2.out]; exact HA5.out, HS5.out⟩
        · have hne : (code != 0) = true := by simp [hc0]
          clear hc0
          go_wp2
          refine wp_goto ?_
          exact ⟨rfl, code, _, _, _, _, _, _, _, _, _, _, _, _, _, _, _, _, _, _, _, _, _, _, _, _, _, _, _, _, _, rfl, by rw [HR2.out], by rw [HR2.out]; exact HA5.out, HS5.out⟩
end Go.Proofs.Ytfodpphbdbeciaa.Jn
