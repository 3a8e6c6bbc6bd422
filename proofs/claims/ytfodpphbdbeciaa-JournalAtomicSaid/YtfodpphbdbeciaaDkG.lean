/- The disk's get, Read, Tag. -/
import Derived.Test.YtfodpphbdbeciaaDkA
import Derived.Test.YtfodpphbdbeciaaGv
import Derived.Test.YtfodpphbdbeciaaGuard
import Derived.Lib.SliceRun
namespace Go.Proofs.Ytfodpphbdbeciaa.Dk
open Go.RowKit Words Mem Plain Ops Agg OwnS
set_option maxRecDepth 100000
set_option linter.ambiguousOpen false
set_option linter.unusedVariables false
set_option linter.unusedSimpArgs false

def sg (L : List Sec) (k : Nat) : Sec := L.getD k zeroS
theorem sg_eq (L : List Sec) (k : Nat) (h : k < L.length) : sg L k = L[k] := by simp [sg, h]
def getR (D : Dsk) (i : Int) : Sec × Int := if ¬ (0 ≤ i ∧ i < D.secs.length) then (zeroS, 1) else if D.dead = true then (zeroS, 6) else (sg D.secs i.toNat, 0)

theorem zeroSec (w : World) : (zeroValue 79).run Try.prog w = .ok (.agg (secC zeroS).toArray) w := by kernel_rfl
theorem allSec (s : Sec) : (secC s).toArray.all (·.oneCell') = true := all_oneCell_toArray (secC_one s)
theorem sizeSec (s : Sec) : (secC s).toArray.size = 65 := by simp [secC_len]
theorem getR_arg {D : Dsk} {i : Int} (h : ¬ (0 ≤ i ∧ i < D.secs.length)) : getR D i = (zeroS, 1) := by unfold getR; rw [if_pos h]
theorem getR_dead {D : Dsk} {i : Int} (h : 0 ≤ i ∧ i < D.secs.length) (hd : D.dead = true) : getR D i = (zeroS, 6) := by unfold getR; rw [if_neg (fun e => e h), if_pos hd]
theorem getR_yes {D : Dsk} {k : Nat} (h : k < D.secs.length) (hd : D.dead = false) : getR D k = (sg D.secs k, 0) := by
  unfold getR
  rw [if_neg (fun e => e (by omega)), if_neg (by rw [hd]; decide), Int.toNat_natCast]
/-- A run's end: a result in a cell and one in a slot. -/
theorem post_sec {fn : Func} {p u : Tmp} {R : Ending → World → Prop} {a : Act} {w : World} {g : Nat} {s : Sec} {x : Value} (h : fn.results = #[.cell p 79, .tmp u])
    (hp : a.tmps.getD p undef = .pointer (some ⟨g, 0, none⟩)) (hx : a.tmps.getD u undef = x) (hrow : Row w g 79 (secC s)) (hdf : a.defers = []) (hR : R (.returned (.tuple #[.agg (secC s).toArray, x])) w) : bodyPost Try.prog fn R .ret a w :=
  post_cell h hp hx (c := (secC s).toArray) (t := 79) (by simpa using hrow) Try.underlying79 rfl (by rw [sizeSec]; exact infoSec) hdf hR

set_option maxHeartbeats 1000000 in
theorem get_ok {base g : Nat} {sa : Option Addr} {sc : Nat} {wa : Option Addr} {wc : Nat} {D : Dsk} {w : World} (h : DiskAt w base g sa sc wa wc D) (i : Int) :
    Calls Try.prog 34 #[.pointer (some ⟨g, 0, none⟩), .int .i64 i] w fun e w' => e = .returned (.tuple #[.agg (secC (getR D i).1).toArray, .int .i64 (getR D i).2]) ∧ Ext w w' := by
  have X1 := (Ext.refl w).alloc (.cells (secC zeroS).toArray 79)
  have h1 := h.ext X1
  have hth := there_ok h1 i
  obtain ⟨c0, c1, c2, c3, c4⟩ := h1.cells
  have HR := Lib.hid (Row.new w 79 (secC zeroS))
  have hz := zeroSec
  have HX1 := Lib.hid X1
  have HS := Lib.hid h1.secs
  have hZ : ∃ Z : Array Value, Z = (secC zeroS).toArray := ⟨_, rfl⟩
  obtain ⟨Z, hZ⟩ := hZ
  have HZ := Lib.hid hZ
  have HZA := Lib.hid (show Z.all (·.oneCell') = true by rw [hZ]; exact allSec _)
  have HZI := Lib.hid (show (Try.prog.info? 79).map (·.size) = some Z.size by rw [hZ, sizeSec]; exact infoSec)
  rw [← hZ] at hth c0 c1 c2 c3 c4 hz HX1 HS
  have HRZ := Lib.hid (show Row (w.alloc (.cells Z 79)) w.heap.size 79 Z.toList by rw [hZ]; simpa using HR.out)
  clear X1 h1 h HR hZ
  by_cases hin : 0 ≤ i ∧ i < D.secs.length
  · have hv : decide (0 ≤ i ∧ i < (D.secs.length : Int)) = true := by simpa using hin
    rw [hv] at hth
    cases hd : D.dead
    · obtain ⟨k, rfl⟩ : ∃ k : Nat, i = k := ⟨i.toNat, by omega⟩
      have hk : k < D.secs.length := by omega
      have HV := Lib.hid (getR_yes hk hd)
      obtain ⟨gs, rfl, _, hrange, _⟩ := ownS_elem secC_len HS.out rfl hk
      rw [← sg_eq _ _ hk] at hrange
      rw [hd] at c2
      have HRG := Lib.hid hrange
      obtain ⟨hi0, hi1⟩ := hin
      clear hd hv HS hrange hk
      generalize sg D.secs k = s at *
      generalize D.secs.length = n at *
      go_enter Try.func34, Try.ntmps34
      go_wp2_with fail
      refine hth.mono ?_
      rintro e w2 ⟨rfl, rfl⟩
      clear hth
      go_wp2_with (first
        | (refine wpList_load_mid rfl 79 _ rfl gs (k * 65) rfl (secC s) _ HRG.out Try.underlying79 rfl (by rw [secC_len]; exact infoSec) ?_)
        | (refine wpList_store_row rfl _ _ _ rfl w.heap.size (secC s).toArray rfl rfl 79 Z HRZ.out (by rw [sizeSec]; exact infoSec) (by rw [sizeSec, HZ.out, sizeSec]) (allSec s) ?_))
      rw [HV.out]
      exact post_sec Try.results34 rfl rfl (by simpa using HRZ.out.setRow (secC s).toArray) rfl ⟨rfl, HX1.out.setRow (Nat.le_refl _) _⟩
    · have HV := Lib.hid (getR_dead hin hd)
      rw [hd] at c2
      clear hd hv HS
      go_enter Try.func34, Try.ntmps34
      go_wp2_with fail
      refine hth.mono ?_
      rintro e w2 ⟨rfl, rfl⟩
      clear hth
      go_wp2_with (refine wpList_store_row rfl _ _ _ rfl w.heap.size Z rfl rfl 79 Z HRZ.out HZI.out rfl HZA.out ?_)
      rw [HV.out]
      exact post_sec Try.results34 rfl rfl (by have := HRZ.out.setRow Z; rw [HZ.out] at this ⊢; simpa using this) rfl ⟨rfl, HX1.out.setRow (Nat.le_refl _) _⟩
  · have hv : decide (0 ≤ i ∧ i < (D.secs.length : Int)) = false := by simpa using hin
    have HV := Lib.hid (getR_arg hin)
    rw [hv] at hth
    clear hv hin HS
    go_enter Try.func34, Try.ntmps34
    go_wp2_with fail
    refine hth.mono ?_
    rintro e w2 ⟨rfl, rfl⟩
    clear hth
    go_wp2_with (refine wpList_store_row rfl _ _ _ rfl w.heap.size Z rfl rfl 79 Z HRZ.out HZI.out rfl HZA.out ?_)
    rw [HV.out]
    exact post_sec Try.results34 rfl rfl (by have := HRZ.out.setRow Z; rw [HZ.out] at this ⊢; simpa using this) rfl ⟨rfl, HX1.out.setRow (Nat.le_refl _) _⟩

/-! slices.Clone. -/
theorem run_eql_slice_nil' (w : World) (t e : TypeId) (a : Option Addr) (n c : Nat) (h : Try.prog.underlying t = some (.slice e)) : (binOp .eql t (.slice a n c) (.slice none 0 0)).run Try.prog w = .ok (.bool a.isNone) w := Go.Lib.run_eql_slice_nil (P := Try.prog) w t e a n c 0 0 h
theorem info8 : (Try.prog.info? 5).map (fun i => (i.zero, i.size, i.bytes)) = some (some (.int .u8 0), 1, 1) := by kernel_rfl
theorem CloneB_ok (a : Option Addr) (n cap : Nat) (xs : List Value) (w : World) (hl : xs.length = n * 1) (hs : Sl w a xs) (h1 : ∀ u ∈ xs, u.oneCell' = true) (hnil : a = none → n = 0 ∧ cap = 0) (hn : n ≤ 140737488) :
    Calls Try.prog 35 #[.slice a n cap] w fun e w' => ∃ a' c', e = .returned (.slice a' n c') ∧ w'.ownsRow w.heap.size 5 1 (.slice a' n c') n xs ∧ Ext w w' := by
  have hq := fun (v : World) => run_eql_slice_nil' v 34 _ a n cap Try.underlying34
  cases a with
  | none =>
    obtain ⟨rfl, rfl⟩ := hnil rfl
    obtain rfl : xs = [] := List.eq_nil_of_length_eq_zero (by simpa using hl)
    clear hl hs h1 hnil
    go_enter Try.func35, Try.ntmps35
    go_wp2
    go_ret
    exact ⟨none, 0, rfl, ownS_nil _ _ _ _, Ext.refl _⟩
  | some ad =>
    obtain ⟨a', c', w', hap, how, hx⟩ := run_clone_s (P := Try.prog) w 1 (by decide) 34 34 5 _ 1 Try.underlying34 info8 (by rfl) cap hl hs hnil h1 (by omega) (by omega)
    have HO := Lib.hid how
    have HX := Lib.hid hx
    clear hl hs h1 hnil how hx
    go_enter Try.func35, Try.ntmps35
    go_wp2_with (at_builtin; refine Guard.wpList_append_want _ rfl _ _ _ _ rfl _ _ rfl rfl _ _ hap ?_)
    go_ret
    exact ⟨a', c', rfl, HO.out, HX.out⟩
def readR (D : Dsk) (i : Int) : List Int × Int := if (getR D i).2 = 0 then (pad64 (getR D i).1.bs, 0) else ([], (getR D i).2)
set_option maxHeartbeats 1000000 in
theorem Read_ok {base g : Nat} {sa : Option Addr} {sc : Nat} {wa : Option Addr} {wc : Nat} {D : Dsk} {w : World} (h : DiskAt w base g sa sc wa wc D) (i : Int) :
    Calls Try.prog 26 #[.pointer (some ⟨g, 0, none⟩), .int .i64 i] w (Field.Gave .u8 5 w (readR D i)) := by
  have hget := get_ok h i
  have hz := zeroSec
  have HR := Lib.hid (show readR D i = if (getR D i).2 = 0 then (pad64 (getR D i).1.bs, 0) else ([], (getR D i).2) from rfl)
  generalize getR D i = G at *
  generalize readR D i = RR at *
  obtain ⟨s, c⟩ := G
  dsimp only at *
  obtain ⟨Z, hZ⟩ : ∃ Z : Array Value, Z = (secC zeroS).toArray := ⟨_, rfl⟩
  have HZ := Lib.hid hZ
  rw [← hZ] at hz
  clear h hZ
  by_cases hc : c = 0
  · subst hc
    have HV := Lib.hid (HR.out.trans (if_pos rfl))
    clear HR
    go_enter Try.func26, Try.ntmps26
    go_wp2_with fail
    refine hget.mono ?_
    rintro e w2 ⟨rfl, h2⟩
    have H2 := Lib.hid h2
    have HRZ := Lib.hid (show Row (w2.alloc (.cells Z 79)) w2.heap.size 79 Z.toList by rw [HZ.out]; simpa using Row.new w2 79 (secC zeroS))
    have HX := Lib.hid ((h2.alloc (.cells Z 79)).setRow (show w.heap.size ≤ w2.heap.size from h2.size) (secC s).toArray)
    have hrow := HRZ.out.setRow (secC s).toArray
    have HSL := Lib.hid (show Sl ((w2.alloc (.cells Z 79)).setRow w2.heap.size (secC s).toArray) (some ⟨w2.heap.size, 0, none⟩) (ints .u8 (pad64 s.bs)) from by
      have := Row.sl hrow 0 (ys := ints .u8 (pad64 s.bs)) (fun j hj => by
        simp only [Nat.zero_add]
        show (secC s)[j]? = _
        unfold secC
        rw [List.getElem?_append_left hj, List.getElem?_eq_getElem hj])
      exact this)
    clear h2 hget hrow
    go_wp2_with (refine wpList_store_row rfl _ _ _ rfl w2.heap.size (secC s).toArray rfl rfl 79 Z HRZ.out (by rw [sizeSec]; exact infoSec) (by rw [sizeSec, HZ.out, sizeSec]) (allSec s) ?_)
    have hcl := CloneB_ok (some ⟨w2.heap.size, 0, none⟩) 64 64 (ints .u8 (pad64 s.bs)) _ (by rw [ints_length, pad64_len]) HSL.out (ints_oneCell' _ _) (by simp) (by decide)
    refine hcl.mono ?_
    rintro e w3 ⟨a', c', rfl, ho, h3⟩
    have HO := Lib.hid (ownS_base ho HX.out.size)
    have H3 := Lib.hid (HX.out.trans h3)
    clear ho h3 hcl
    go_wp2
    go_ret2
    rw [HV.out]
    refine ⟨a', c', by dsimp only; rw [pad64_len]; rfl, ?_, H3.out⟩
    dsimp only
    rw [pad64_len]
    exact HO.out
  · have HV := Lib.hid (HR.out.trans (if_neg hc))
    clear HR
    go_enter Try.func26, Try.ntmps26
    go_wp2_with fail
    refine hget.mono ?_
    rintro e w2 ⟨rfl, h2⟩
    have H2 := Lib.hid h2
    have HRZ := Lib.hid (show Row (w2.alloc (.cells Z 79)) w2.heap.size 79 Z.toList by rw [HZ.out]; simpa using Row.new w2 79 (secC zeroS))
    have HX := Lib.hid ((h2.alloc (.cells Z 79)).setRow (show w.heap.size ≤ w2.heap.size from h2.size) (secC s).toArray)
    clear h2 hget
    go_wp2_with (refine wpList_store_row rfl _ _ _ rfl w2.heap.size (secC s).toArray rfl rfl 79 Z HRZ.out (by rw [sizeSec]; exact infoSec) (by rw [sizeSec, HZ.out, sizeSec]) (allSec s) ?_)
    go_ret2
    rw [HV.out]
    exact Field.Gave.nil rfl HX.out

theorem Tag_ok {base g : Nat} {sa : Option Addr} {sc : Nat} {wa : Option Addr} {wc : Nat} {D : Dsk} {w : World} (h : DiskAt w base g sa sc wa wc D) (i : Int) :
    Calls Try.prog 19 #[.pointer (some ⟨g, 0, none⟩), .int .i64 i] w fun e w' => e = .returned (.tuple #[.int .u16 (getR D i).1.tag, .int .i64 (getR D i).2]) ∧ Ext w w' := by
  have hget := get_ok h i
  have hz := zeroSec
  generalize getR D i = G at *
  obtain ⟨s, c⟩ := G
  dsimp only at *
  obtain ⟨Z, hZ⟩ : ∃ Z : Array Value, Z = (secC zeroS).toArray := ⟨_, rfl⟩
  have HZ := Lib.hid hZ
  rw [← hZ] at hz
  clear h hZ
  go_enter Try.func19, Try.ntmps19
  go_wp2_with fail
  refine hget.mono ?_
  rintro e w2 ⟨rfl, h2⟩
  have HRZ := Lib.hid (show Row (w2.alloc (.cells Z 79)) w2.heap.size 79 Z.toList by rw [HZ.out]; simpa using Row.new w2 79 (secC zeroS))
  have HX := Lib.hid ((h2.alloc (.cells Z 79)).setRow (show w.heap.size ≤ w2.heap.size from h2.size) (secC s).toArray)
  have hrow := HRZ.out.setRow (secC s).toArray
  have c64 : ((w2.alloc (.cells Z 79)).setRow w2.heap.size (secC s).toArray).cell? ⟨w2.heap.size, 64, none⟩ = some (.int .u16 s.tag) := by
    rw [hrow.cell?]
    show (secC s)[64]? = _
    unfold secC
    rw [List.getElem?_append_right (by rw [ints_length, pad64_len]; exact Nat.le_refl _), ints_length, pad64_len]
    rfl
  clear h2 hget hrow
  go_wp2_with (refine wpList_store_row rfl _ _ _ rfl w2.heap.size (secC s).toArray rfl rfl 79 Z HRZ.out (by rw [sizeSec]; exact infoSec) (by rw [sizeSec, HZ.out, sizeSec]) (allSec s) ?_)
  go_ret2
  exact ⟨rfl, HX.out⟩
end Go.Proofs.Ytfodpphbdbeciaa.Dk
