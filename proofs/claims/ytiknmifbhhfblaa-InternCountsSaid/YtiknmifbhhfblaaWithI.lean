/- intern.of, row, Find, with. -/
import Derived.Test.YtiknmifbhhfblaaOfI
import Derived.Test.YtiknmifbhhfblaaRwM
namespace Go.Proofs.Ytiknmifbhhfblaa.Intern
open Go.RowKit Words Mem Plain Ops Agg
set_option linter.ambiguousOpen false
set_option linter.unusedVariables false
set_option linter.unusedSimpArgs false

theorem row_ok (L : List RowT) (s : Option Addr) (cap g : Nat) (a : Int) (w : World) (hm : L.length ≤ 9223372036854775807) (hc : Sl w s (rowsC L)) (hg : w.cell? ⟨g, 0, none⟩ = some (.int .u16 a)) :
    Calls Try.prog 26 #[.slice s L.length cap, .func (.func 33) #[] #[.pointer (some ⟨g, 0, none⟩)]] w fun e w' => e = .returned (.int .i64 (ofI L a)) ∧ Ext w w' := by
  have hcall := idxL_ok L s cap g a w hm hc hg
  have HV : ofI L a = idxI (isL a) L := rfl
  rw [HV]
  clear hm hc hg HV
  generalize L.length = n at *
  generalize idxI (isL a) L = v at *
  go_enter Try.func26, Try.ntmps26
  go_wp2_with fail
  refine hcall.mono ?_
  rintro e w2 ⟨rfl, h2⟩
  have H2 := Lib.hid h2
  clear h2 hcall
  go_wp2
  go_ret
  exact ⟨rfl, H2.out⟩
theorem rowF_ok (L : List RowT) (b off cap : Nat) (w : World) (hm : L.length ≤ 9223372036854775807) (hc : RowsAt b off L w) :
    Calls Try.prog 26 #[.slice (some ⟨b, off, none⟩) L.length cap, .func (.func 27) #[] #[]] w fun e w' => e = .returned (.int .i64 (freeI L)) ∧ Ext w w' := by
  have hcall := idxF_pos L b off cap w hm hc
  have HV : freeI L = idxI isF L := rfl
  rw [HV]
  clear hm hc HV
  generalize L.length = n at *
  generalize idxI isF L = v at *
  go_enter Try.func26, Try.ntmps26
  go_wp2_with fail
  refine hcall.mono ?_
  rintro e w2 ⟨rfl, h2⟩
  have H2 := Lib.hid h2
  clear h2 hcall
  go_wp2
  go_ret
  exact ⟨rfl, H2.out⟩
theorem of_ok (L : List RowT) (s : Option Addr) (cap : Nat) (a : Int) (w : World) (hm : L.length ≤ 9223372036854775807) (hc : Sl w s (rowsC L)) :
    Calls Try.prog 25 #[.slice s L.length cap, .int .u16 a] w fun e w' => e = .returned (.int .i64 (ofI L a)) ∧ Ext w w' := by
  have hX := (Ext.refl w).alloc (.cells #[.int .u16 a] 24)
  have hg : (w.alloc (.cells #[.int .u16 a] 24)).cell? ⟨w.heap.size, 0, none⟩ = some (.int .u16 a) := by
    rw [cell_of_row _ _ _ _ _ _ (heap_alloc_new w _)]; rfl
  have hcall := row_ok L s cap w.heap.size a _ hm (hc.ext hX) hg
  have HX := Lib.hid hX
  clear hm hc hX hg
  generalize ofI L a = v at *
  generalize L.length = n at *
  go_enter Try.func25, Try.ntmps25
  go_wp2_with fail
  refine hcall.mono ?_
  rintro e w2 ⟨rfl, h2⟩
  have H2 := Lib.hid (HX.out.trans h2)
  clear h2 hcall
  go_wp2
  go_ret
  exact ⟨rfl, H2.out⟩

theorem Find_ok (L : List RowT) (s : Option Addr) (cap : Nat) (a : Int) (w : World) (hm : L.length ≤ 9223372036854775807) (hc : Sl w s (rowsC L)) (hwf : wfR L) :
    Calls Try.prog 11 #[.slice s L.length cap, .int .u16 a] w fun e w' => e = .returned (.tuple #[.int .i64 (findR L a).1, .bool (findR L a).2]) ∧ Ext w w' := by
  have hcall := of_ok L s cap a w hm hc
  have HR := Lib.hid (fun (w2 : World) (h : Ext w w2) => Right_ok L s cap w2 (hc.ext h) hwf hm)
  have HF := Lib.hid (show findR L a = if ofI L a < 0 ∨ rightB L = false then (0, false) else (ofI L a, true) from rfl)
  have hv := idxI_cases (isL a) L
  have hv : -1 ≤ ofI L a ∧ ofI L a ≤ 9223372036854775807 := by
    rcases hv with ⟨h, _⟩ | ⟨k, hk, h, _⟩ <;> unfold ofI <;> rw [h] <;> omega
  clear hm hc hwf
  obtain ⟨v0, v1⟩ := hv
  generalize ofI L a = v at *
  generalize findR L a = F at *
  generalize rightB L = R at *
  generalize L.length = n at *
  by_cases h0 : v < 0
  · have HV := Lib.hid (HF.out.trans (if_pos (.inl h0)))
    clear HF HR
    go_enter Try.func11, Try.ntmps11
    go_wp2_with fail
    refine hcall.mono ?_
    rintro e w2 ⟨rfl, h2⟩
    have H2 := Lib.hid h2
    clear h2 hcall
    go_wp2
    go_ret2
    exact ⟨by rw [HV.out]; rfl, H2.out⟩
  · cases R
    · have HV := Lib.hid (HF.out.trans (if_pos (.inr rfl)))
      clear HF
      go_enter Try.func11, Try.ntmps11
      go_wp2_with fail
      refine hcall.mono ?_
      rintro e w2 ⟨rfl, h2⟩
      have H2 := Lib.hid h2
      have hr := HR.out w2 h2
      clear h2 hcall HR
      go_wp2_with fail
      refine hr.mono ?_
      rintro e w3 ⟨rfl, h3⟩
      have H3 := Lib.hid (H2.out.trans h3)
      clear hr h3 H2
      go_wp2
      go_ret2
      exact ⟨by rw [HV.out]; rfl, H3.out⟩
    · have HV := Lib.hid (HF.out.trans (if_neg (by simpa using h0)))
      clear HF
      go_enter Try.func11, Try.ntmps11
      go_wp2_with fail
      refine hcall.mono ?_
      rintro e w2 ⟨rfl, h2⟩
      have H2 := Lib.hid h2
      have hr := HR.out w2 h2
      clear h2 hcall HR
      go_wp2_with fail
      refine hr.mono ?_
      rintro e w3 ⟨rfl, h3⟩
      have H3 := Lib.hid (H2.out.trans h3)
      clear hr h3 H2
      go_wp2
      go_ret2
      exact ⟨by rw [HV.out]; rfl, H3.out⟩

theorem infoRowZ : (Try.prog.info? 37).map (fun i => (i.zero, i.size, i.bytes)) = some (some (.agg #[.int .u16 0, .int .i64 0]), 2, 16) := by kernel_rfl
theorem made16 : madeCells #[.int .u16 0, .int .i64 0] (Int.toNat 16 * 2) = (rowsC freeL).toArray := by kernel_rfl
theorem run_make16 (w : World) : (Instr.makeSlice 22 (.int .i64 16) (.int .i64 16)).run Try.prog w = .ok (.slice (some ⟨w.heap.size, 0, none⟩) 16 16) (w.alloc (.cells (rowsC freeL).toArray 37)) := by
  obtain ⟨i, h2, h3, h4, h5⟩ := info_parts infoRowZ
  have := run_make (P := Try.prog) w 22 37 i _ Try.underlying22 h2 h3 .i64 .i64 16 16 (by omega) (by omega) (by rw [h5]; decide) (by omega)
  rw [this, h4]
  simp only [Value.cells]
  rw [made16]
  rfl

theorem free_ok (w : World) : Calls Try.prog 20 #[] w fun e w' => ∃ v, e = .returned v ∧ OwnR 37 w freeL v w' := by
  have hmk := run_make16 w
  have hr := Row.new w 37 (rowsC freeL)
  have hX := (Ext.refl w).alloc (.cells (rowsC freeL).toArray 37)
  have HR := Lib.hid hr
  have HX := Lib.hid hX
  clear hr hX
  go_enter Try.func20, Try.ntmps20
  go_wp2
  go_ret
  exact ⟨_, rfl, OwnR.of (by rfl) HR.out (Nat.le_refl _) (by decide) HX.out⟩

theorem with_pos (L : List RowT) (k : Nat) (x y : Int) (b off cap : Nat) (w : World) (h16 : L.length = 16) (hk : k < 16) (hc : Sl w (some ⟨b, off, none⟩) (rowsC L)) :
    Calls Try.prog 28 #[.slice (some ⟨b, off, none⟩) L.length cap, .int .i64 k, .agg #[.int .u16 x, .int .i64 y]] w fun e w' => ∃ v, e = .returned v ∧ OwnR 37 w (L.set k (x, y)) v w' := by
  have X1 := (Ext.refl w).alloc (.cells #[.int .u16 x, .int .i64 y] 37)
  have hb1 := Row.new w 37 [.int .u16 x, .int .i64 y]
  replace hb1 : Row (w.alloc (.cells #[.int .u16 x, .int .i64 y] 37)) w.heap.size 37 [.int .u16 x, .int .i64 y] := hb1
  obtain ⟨g, hg⟩ : ∃ g, g = w.heap.size := ⟨_, rfl⟩
  have hs1 : (w.alloc (.cells #[.int .u16 x, .int .i64 y] 37)).heap.size = g + 1 := by rw [hg]; simp
  have hmk := run_make16 (w.alloc (.cells #[.int .u16 x, .int .i64 y] 37))
  rw [hs1] at hmk
  have hs : Sl (w.alloc (.cells #[.int .u16 x, .int .i64 y] 37)) (some ⟨b, off, none⟩) (rowsC L) := hc.ext X1
  have hlen : (rowsC L).length = 16 * 2 := by rw [rowsC_length, h16]
  have hcp : (Builtin.copy_ #[22, 22] 3 #[.slice (some ⟨g + 1, 0, none⟩) 16 16, .slice (some ⟨b, off, none⟩) 16 cap]).run Try.prog ((w.alloc (.cells #[.int .u16 x, .int .i64 y] 37)).alloc (.cells (rowsC freeL).toArray 37)) =
      .ok (goInt (16 : Nat)) (((w.alloc (.cells #[.int .u16 x, .int .i64 y] 37)).alloc (.cells (rowsC L).toArray 37))) := by
    have hs2 : Sl ((w.alloc (.cells #[.int .u16 x, .int .i64 y] 37)).alloc (.cells (rowsC freeL).toArray 37)) (some ⟨b, off, none⟩) (rowsC L) := hs.ext ((Ext.refl _).alloc _)
    have hl32 : (rowsC freeL).length = 32 := by rw [rowsC_length]; rfl
    rw [run_copy_rows (P := Try.prog) _ 22 22 3 37 (g + 1) 16 16 ⟨b, off, none⟩ cap (rowsC freeL).toArray 37 (rowsC L) Try.underlying22 infoRow (by have := Row.new (w.alloc (.cells #[.int .u16 x, .int .i64 y] 37)) 37 (rowsC freeL); rw [hs1] at this; exact this) hlen (fun j v hv => by
        obtain ⟨hj, e⟩ := List.getElem?_eq_some_iff.1 hv
        obtain ⟨ad', had, hcc⟩ := hs2 j hj
        cases had
        rw [hcc, e]) (by rw [hlen]; simp [hl32]) (rowsC_one L)]
    have e : ((rowsC freeL).toArray.toList.drop (rowsC L).length) = [] := by rw [hlen]; simp [hl32]
    rw [e, List.append_nil, ← hs1, setRow_new]
  have X2 := X1.alloc (.cells (rowsC L).toArray 37)
  have hr2 := Row.new (w.alloc (.cells #[.int .u16 x, .int .i64 y] 37)) 37 (rowsC L)
  rw [hs1] at hr2
  have hbx := hb1.ext ((Ext.refl _).alloc (.cells (rowsC L).toArray 37))
  rw [← hg] at hbx
  have d0 : _ = some (Value.int .u16 x) := (hbx.cell? 0).trans rfl
  have d1 : _ = some (Value.int .i64 y) := (hbx.cell? 1).trans rfl
  rw [h16]
  have HK := Lib.hid hk
  have hk0 : (0 : Int) ≤ k := by omega
  have hk1 : (k : Int) < 16 := by omega
  have hgg : w.heap.size ≤ g + 1 := by omega
  have ht := there_row hr2 (k * 2) (by rw [hlen]; omega)
  have HR := Lib.hid (Row.setCells2 hr2 (k * 2) (.int .u16 x) (.int .i64 y))
  have HX := Lib.hid (Ext.setCells2 X2 hgg (k * 2) (.int .u16 x) (.int .i64 y))
  have HN := Lib.hid (rowsC_set L k x y)
  have HLN := Lib.hid (show (L.set k (x, y)).length = 16 by rw [List.length_set, h16])
  have HGG := Lib.hid hgg
  have HT := Lib.hid ht
  clear hbx hb1 hr2 X1 X2 hs hc hs1 ht hk hgg
  subst hg
  go_enter Try.func28, Try.ntmps28
  go_wp2_with (refine wpList_store_mid rfl 37 _ _ rfl (w.heap.size + 1) (k * 2) #[.int .u16 x, .int .i64 y] rfl rfl HT.out infoRow (oneRow x y) ?_)
  go_ret
  refine ⟨_, rfl, OwnR.of HLN.out ?_ HGG.out (by decide) HX.out⟩
  rw [← HN.out]
  exact HR.out
end Go.Proofs.Ytiknmifbhhfblaa.Intern
