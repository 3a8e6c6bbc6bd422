/- moatlaw07's patches. -/
import Derived.Test.YtfodpphbdbeciaaJnQ
import Derived.Test.YtfodpphbdbeciaaJnC
import Derived.Deep.DeepCutAuto
namespace Go.Proofs.Ytfodpphbdbeciaa.Jn
open Go.RowKit Words Mem Plain Ops Agg OwnS Dk
set_option maxRecDepth 100000
set_option linter.ambiguousOpen false
set_option linter.unusedVariables false
set_option linter.unusedSimpArgs false

/-- Sets that lie somewhere. -/
def SetsIn (u : World) (a : Option Addr) (n : Nat) (S : List (Int × Int)) : Prop :=
  S.length = n ∧ (∀ s ∈ S, 0 ≤ s.2 ∧ s.2 ≤ 255) ∧ (0 < n → ∃ b off, a = some ⟨b, off, none⟩ ∧ ∀ i (h : i < S.length), u.cell? ⟨b, off + i * 2, none⟩ = some (.int .i64 S[i].1) ∧ u.cell? ⟨b, off + i * 2 + 1, none⟩ = some (.int .u8 S[i].2))
theorem SetsIn.ext {u v : World} {a : Option Addr} {n : Nat} {S : List (Int × Int)} (h : SetsIn u a n S) (e : Ext u v) : SetsIn v a n S := by
  refine ⟨h.1, h.2.1, fun h0 => ?_⟩
  obtain ⟨b, off, ea, hc⟩ := h.2.2 h0
  exact ⟨b, off, ea, fun i hi => ⟨e.keep (hc i hi).1, e.keep (hc i hi).2⟩⟩
def patchesP (S : List (Int × Int)) : List PT := S.map fun s => ⟨s.1, allB s.2, s.2⟩
theorem zeroSet (w : World) : (zeroValue 53).run Try.prog w = .ok (.agg #[.int .i64 0, .int .u8 0]) w := by kernel_rfl
set_option maxHeartbeats 8000000 in
theorem patches_ok (k : Nat) (la : Option Addr) (ln lc : Nat) (v2 v3 v4 v5 : Value) (S : List (Int × Int)) (u : World) (hk : k ≤ 255) (hk4 : k % 6 ≠ 4) (hS : SetsIn u la ln S) (hn : ln ≤ 1000000) :
    Calls Try.prog 18 #[.agg #[.int .u8 k, .slice la ln lc, v2, v3, v4, v5]] u fun e w' => ∃ ao c O, e = .returned (.slice ao O.length c) ∧ OutAt (fun _ => False) u.heap.size w' ao c O ∧ O.map (·.p) = patchesP S ∧ Ext u w' := by
  have hrow1 := Row.new u 47 [.int .u8 k, .slice la ln lc, v2, v3, v4, v5]
  have hX1 := (Ext.refl u).alloc (.cells #[.int .u8 k, .slice la ln lc, v2, v3, v4, v5] 47)
  obtain ⟨w1, hw1⟩ : ∃ z, z = u.alloc (.cells #[.int .u8 k, .slice la ln lc, v2, v3, v4, v5] 47) := ⟨_, rfl⟩
  have hrow1 : Row w1 u.heap.size 47 [.int .u8 k, .slice la ln lc, v2, v3, v4, v5] := by rw [hw1]; exact hrow1
  rw [← hw1] at hX1
  have HR1 := Lib.hid hrow1
  have HX1 := Lib.hid hX1
  have HW1 := Lib.hid hw1
  have HS := Lib.hid hS
  have hk6 : ((k : Int) % 6 == 4) = false := by simp; omega
  have c1 := (hrow1.cell? 1).trans rfl
  clear hrow1 hX1 hw1 hS hk4
  go_enter Try.func18, Try.ntmps18
  go_upto_region 1 with fail
  rw [← HW1.out]
  go_wp2_with fail
  clear c1
  go_loopw [10, 3] (fun v o wr => ∃ (i : Nat) (O : List It) (ao : Option Addr) (c : Nat), i ≤ ln ∧ v = .int .i64 i ∧ o = .slice ao O.length c ∧ OutAt (fun _ => False) u.heap.size wr ao c O ∧ O.map (·.p) = patchesP (S.take i) ∧ Ext w1 wr ∧ ∀ ad, ao = some ad → w1.heap.size ≤ ad.block) (fun v _ _ => ln - (intOf v).toNat)
  case atStart => exact ⟨0, [], none, 0, by omega, rfl, rfl, ⟨ownS_nil _ _ _ _, fun t ht => by cases ht⟩, rfl, Ext.refl _, fun ad e => by cases e⟩
  case round =>
    obtain ⟨i, O, ao, c, hi, rfl, rfl, hO, hmap, hX, hob⟩ := hrel
    have HO := Lib.hid hO
    have HOB := Lib.hid hob
    have HMAP := Lib.hid hmap
    have HX := Lib.hid hX
    clear hO hmap hX hob
    by_cases hlt : i < ln
    · have hiS : i < S.length := by rw [HS.out.1]; exact hlt
      obtain ⟨b, off, rfl, hc⟩ := HS.out.2.2 (by omega)
      obtain ⟨hc1, hc2⟩ := hc i hiS
      have hcb := HS.out.2.1 _ (List.getElem_mem hiS)
      have k0 := (HX1.out.trans HX.out).keep hc1
      have k1 := (HX1.out.trans HX.out).keep hc2
      have HTK := Lib.hid (show patchesP (S.take (i + 1)) = patchesP (S.take i) ++ [⟨S[i].1, allB S[i].2, S[i].2⟩] by unfold patchesP; rw [List.take_succ_eq_append_getElem hiS, List.map_append]; rfl)
      generalize S[i] = sc at *
      obtain ⟨sa, cc⟩ := sc
      dsimp only at k0 k1 hcb
      have hzs := zeroSet
      have hzp := zeroPatch
      have hil : (i : Int) < ln := by omega
      clear hc hc1 hc2 hiS
      go_upto_region 5 with fail
      obtain ⟨wb, hwb⟩ : ∃ z, z = wr.alloc (.cells #[.int .i64 sa, .int .u8 cc] 53) := ⟨_, rfl⟩
      have hrb := Row.new wr 53 [.int .i64 sa, .int .u8 cc]
      have hXb := (Ext.refl wr).alloc (.cells #[.int .i64 sa, .int .u8 cc] 53)
      obtain ⟨gb, hgb⟩ : ∃ z, z = wr.heap.size := ⟨_, rfl⟩
      have hrb : Row wb gb 53 [.int .i64 sa, .int .u8 cc] := by rw [hwb, hgb]; exact hrb
      rw [← hwb] at hXb ⊢
      rw [← hgb]
      have d0 := (hrb.cell? 0).trans rfl
      have d1 := (hrb.cell? 1).trans rfl
      have HPC := Lib.hid (patch_ok sa cc wb hcb)
      have HXB := Lib.hid hXb
      clear k0 k1 hrb hXb hwb hgb hil
      go_wp2_with fail
      refine HPC.out.mono ?_
      rintro e w5 ⟨a5, rfl, ha5, hr5, h5⟩
      have hrow6 := Row.new w5 37 [.int .i64 sa, .slice (some ⟨a5, 0, none⟩) 64 64, .int .u16 cc]
      have hX6 := (Ext.refl w5).alloc (.cells #[.int .i64 sa, .slice (some ⟨a5, 0, none⟩) 64 64, .int .u16 cc] 37)
      obtain ⟨g6, hg6⟩ : ∃ z, z = w5.heap.size := ⟨_, rfl⟩
      obtain ⟨w6, hw6⟩ : ∃ z, z = w5.alloc (.cells #[.int .i64 sa, .slice (some ⟨a5, 0, none⟩) 64 64, .int .u16 cc] 37) := ⟨_, rfl⟩
      have hrow6 : Row w6 g6 37 [.int .i64 sa, .slice (some ⟨a5, 0, none⟩) 64 64, .int .u16 cc] := by rw [hw6, hg6]; exact hrow6
      rw [← hw6] at hX6
      have HX16 := Lib.hid (HXB.out.trans (h5.trans hX6))
      have q0 := (((HR1.out.ext HX.out).ext HX16.out).cell? 0).trans rfl
      have p0 := (hrow6.cell? 0).trans rfl
      have p1 := (hrow6.cell? 1).trans rfl
      have p2 := (hrow6.cell? 2).trans rfl
      have HW6 := Lib.hid hw6
      have HG6 := Lib.hid hg6
      obtain ⟨t1, ht1⟩ : ∃ t : It, t = ⟨⟨sa, allB cc, cc⟩, some ⟨a5, 0, none⟩, 64⟩ := ⟨_, rfl⟩
      have HT1V := Lib.hid (show Value.agg #[.int .i64 sa, .slice (some ⟨a5, 0, none⟩) 64 64, .int .u16 cc] = .agg (itC t1).toArray by rw [ht1]; unfold itC; dsimp only; rw [allB_len])
      have hO6 := (HO.out.ext HX16.out).ext ((Ext.refl w6).alloc (.cells (itC t1).toArray 37))
      have hXA := (HX1.out.trans (HX.out.trans HX16.out)).alloc (.cells (itC t1).toArray 37)
      have hrH := Row.new w6 37 (itC t1)
      have hlenO : O.length ≤ 1000000 := by
        have := congrArg List.length HMAP.out
        rw [List.length_map] at this
        unfold patchesP at this
        rw [List.length_map, List.length_take] at this
        omega
      obtain ⟨a9, c9, w9, hap, ho9, hg9, ha9⟩ := run_append_s (P := Try.prog) _ u.heap.size 3 (by decide) 39 39 37 _ 40 Try.underlying39 infoPatZ rfl hO6.own (a := some ⟨w6.heap.size, 0, none⟩) (m := 1) 1 (news := itC t1) rfl hrH.sl0 (fun e => by cases e) (itC_one _) (by omega) (by omega) hXA.size
      have hX9 : Ext w1 w9 := by
        have hw1s := HX1.out.size
        refine Ext_grown (base := w1.heap.size) ((HX.out.trans HX16.out).alloc (.cells (itC t1).toArray 37)) (Nat.le_refl _) ((HX.out.trans HX16.out).alloc (.cells (itC t1).toArray 37)).size hg9 (fun z hz => ?_)
        have hown := ownS_lt hO6.own
        cases ao with
        | none => simp [Value.ownBlock] at hz
        | some a0 =>
          simp [Value.ownBlock] at hz
          subst hz
          exact HOB.out a0 rfl
      have hI9 : ∀ t ∈ O ++ [t1], ItOK (fun _ => False) u.heap.size w9 a9 t := fun t ht => by
        rcases List.mem_append.1 ht with ht | ht
        · exact (hO6.ok t ht).grown hg9 ha9
        · simp at ht
          subst ht
          refine ItOK.grown (ao := ao) (n := O.length) (c := c) ?_ hg9 ha9
          rw [ht1]
          refine ⟨((hr5.ext hX6).ext ((Ext.refl w6).alloc _)).sl0, ⟨Nat.le_of_eq (allB_len cc), by show 64 ≤ 9223372036854775807; decide⟩, ⟨allB_bytes hcb, hcb.1, by show cc ≤ 65535; omega⟩, fun ad e => ?_⟩
          cases e
          refine ⟨.inr ?_, ((hr5.ext hX6).ext ((Ext.refl w6).alloc _)).lt, fun ad' e' => ?_⟩
          · show u.heap.size ≤ a5
            exact Nat.le_trans (HX1.out.trans (HX.out.trans HXB.out)).size ha5
          · have h1 := (ownS_lt HO.out.own ad' e').2
            have h2 := HXB.out.size
            show a5 ≠ ad'.block
            omega
      have HO9 := Lib.hid (show OutAt (fun _ => False) u.heap.size w9 a9 c9 (O ++ [t1]) from ⟨by rw [List.length_append, flat_append]; rw [show flat itC [t1] = itC t1 ++ [] from rfl, List.append_nil]; exact ho9, hI9⟩)
      have HX9 := Lib.hid hX9
      have HM9 := Lib.hid (show (O ++ [t1]).map (·.p) = patchesP (S.take (i + 1)) by rw [List.map_append, HMAP.out, HTK.out, ht1]; rfl)
      have HOB9 := Lib.hid (show ∀ ad, a9 = some ad → w1.heap.size ≤ ad.block from fun ad e => by
        rcases ha9 with h | h
        · rw [h] at e; exact HOB.out ad e
        · have h1 := h ad e
          have h2 := ((HX.out.trans HX16.out).alloc (.cells (itC t1).toArray 37)).size
          omega)
      clear hO6 hXA hrH hlenO hX9 hI9 ho9 hg9 ha9 ht1 hr5 h5 hX6 hrow6 hw6 hg6 ha5 d0 d1
      go_upto_region 6 with fail
      rw [← HW6.out, ← HG6.out]
      go_wp2_with (first
        | (refine wpList_onePat rfl _ rfl t1 HT1V.out ?_)
        | (at_builtin; refine Guard.wpList_append_want _ rfl _ _ _ _ rfl _ _ rfl rfl _ _ hap ?_))
      go_roundw
      case rel => exact ⟨i + 1, O ++ [t1], a9, c9, hlt, by go_num, by rw [List.length_append]; rfl, HO9.out, HM9.out, HX9.out, HOB9.out⟩
      case measure => simp [intOf]; omega
    · obtain rfl : i = ln := by omega
      have HM2 := Lib.hid (show O.map (·.p) = patchesP S by have := HMAP.out; rw [List.take_of_length_le (Nat.le_of_eq HS.out.1)] at this; exact this)
      go_wp2
      go_ret
      exact ⟨ao, c, O, rfl, HO.out, HM2.out, HX1.out.trans HX.out⟩
end Go.Proofs.Ytfodpphbdbeciaa.Jn
