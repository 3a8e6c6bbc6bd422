/- Contracts: super.Take, moatref09.Take. -/
import Derived.Test.YthhkkjnahiimbaaGLay
import Derived.Deep.DeepCutAuto
namespace Go.Proofs.Ythhkkjnahiimbaa.Super
open Go.RowKit Words Mem Plain Ops
set_option linter.ambiguousOpen false
open Go.Proofs.Ythhkkjnahiimbaa.Field Agg Sum
set_option linter.unusedVariables false
set_option linter.unusedSimpArgs false

def GaveG (w : World) (r : Geo4 × Int) (e : Ending) (w' : World) : Prop := e = .returned (.tuple #[r.1.v, .int .i64 r.2]) ∧ Ext w w'
theorem Take_len (a : Option Addr) (n cap : Nat) (xs : List Int) (w : World) (hl : xs.length = n) (h : n ≠ 64) :
    Calls Try.prog 20 #[.slice a n cap] w (GaveG w (Geo4.takeR xs)) := by
  rw [takeR_no (fun e => h (by rw [← hl]; exact e.1))]
  have hd : ((n : Int) == 64) = false := by simp; omega
  have hd' : ((n : Int) != 64) = true := by simp; omega
  go_enter Try.func20, Try.ntmps20
  have HR := Lib.hid (Row.new w 23 (#[.int .i64 0, .int .i64 0, .int .i64 0, .int .i64 0] : Array Value).toList)
  go_wp2_with (refine wpList_store_row rfl _ _ _ rfl w.heap.size #[.int .i64 0, .int .i64 0, .int .i64 0, .int .i64 0] rfl rfl 23 #[.int .i64 0, .int .i64 0, .int .i64 0, .int .i64 0] HR.out infoGeo rfl (oneGeo 0 0 0 0) ?_)
  have X := (Ext.refl w).alloc (.cells #[.int .i64 0, .int .i64 0, .int .i64 0, .int .i64 0] 23)
  exact post_cell Try.results20 rfl rfl (HR.out.setRow #[.int .i64 0, .int .i64 0, .int .i64 0, .int .i64 0]) Try.underlying23 rfl infoGeo rfl ⟨rfl, X.setRow (Nat.le_refl _) #[.int .i64 0, .int .i64 0, .int .i64 0, .int .i64 0]⟩
theorem rTake_len (a : Option Addr) (n cap : Nat) (xs : List Int) (w : World) (hl : xs.length = n) (h : n ≠ 64) :
    Calls Try.prog 21 #[.slice a n cap] w (GaveG w (Geo4.takeR xs)) := by
  rw [takeR_no (fun e => h (by rw [← hl]; exact e.1))]
  have hd : ((n : Int) == 64) = false := by simp; omega
  have hd' : ((n : Int) != 64) = true := by simp; omega
  go_enter Try.func21, Try.ntmps21
  have HR := Lib.hid (Row.new w 23 (#[.int .i64 0, .int .i64 0, .int .i64 0, .int .i64 0] : Array Value).toList)
  go_wp2_with (refine wpList_store_row rfl _ _ _ rfl w.heap.size #[.int .i64 0, .int .i64 0, .int .i64 0, .int .i64 0] rfl rfl 23 #[.int .i64 0, .int .i64 0, .int .i64 0, .int .i64 0] HR.out infoGeo rfl (oneGeo 0 0 0 0) ?_)
  have X := (Ext.refl w).alloc (.cells #[.int .i64 0, .int .i64 0, .int .i64 0, .int .i64 0] 23)
  exact post_cell Try.results21 rfl rfl (HR.out.setRow #[.int .i64 0, .int .i64 0, .int .i64 0, .int .i64 0]) Try.underlying23 rfl infoGeo rfl ⟨rfl, X.setRow (Nat.le_refl _) #[.int .i64 0, .int .i64 0, .int .i64 0, .int .i64 0]⟩

theorem at_bd {xs : List Int} (hb : isBytes xs) (k : Nat) : 0 ≤ Geo4.at xs k ∧ Geo4.at xs k < 65536 := by
  unfold Geo4.at
  refine ⟨numOf_nonneg (isBytes_take (isBytes_drop hb _) _), ?_⟩
  have h1 := numOf_lt (isBytes_take (isBytes_drop hb k) 2)
  have h2 : (256 : Int) ^ ((xs.drop k).take 2).length ≤ 256 ^ 2 := pow_mono (by rw [List.length_take]; omega)
  rw [p2] at h2
  omega
theorem geo_step (L : List Int) (k : Nat) (x : Int) (hL : L.length = 4) (hk : k < 4) (hx : L[k]? = some x) :
    (ints .i64 (L.take k ++ List.replicate (4 - k) 0)).set k (.int .i64 x) = ints .i64 (L.take (k + 1) ++ List.replicate (4 - (k + 1)) 0) := by
  obtain ⟨h1, h2⟩ := List.getElem?_eq_some_iff.1 hx
  rw [show 4 - k = (4 - (k + 1)) + 1 by omega, List.replicate_succ, List.take_succ_eq_append_getElem h1, h2]
  have hl : (L.take k).length = k := by rw [List.length_take]; omega
  simp only [ints, List.map_append, List.map_cons]
  rw [List.set_append_right _ _ (by rw [List.length_map, hl]; exact Nat.le_refl _), List.length_map, hl, Nat.sub_self]
  simp

set_option maxHeartbeats 4000000 in
theorem Take_64 (a : Option Addr) (cap : Nat) (xs : List Int) (w : World) (hl : xs.length = 64) (hb : isBytes xs) (hs : Sl w a (ints .u8 xs)) (hcap : 64 ≤ cap) (hcm : cap ≤ 9223372036854775807) :
    Calls Try.prog 20 #[.slice a 64 cap] w (GaveG w (Geo4.takeR xs)) := by
  have hL4 : ∀ k, k < 4 → [Geo4.at xs 4, Geo4.at xs 6, Geo4.at xs 8, Geo4.at xs 10][k]? = some (Geo4.at xs (4 + 2 * k)) := fun k hk => by
    obtain rfl | rfl | rfl | rfl : k = 0 ∨ k = 1 ∨ k = 2 ∨ k = 3 := by omega
    all_goals rfl
  have hget : ∀ (k : Nat), k < 4 → ∀ v : World, Ext w v → Calls Try.prog 30 #[.slice a 64 cap, .int .i64 (4 + 2 * (k : Int)), .int .i64 2] v fun e w' => e = .returned (.tuple #[.int .u64 (Geo4.at xs (4 + 2 * k)), .int .i64 0]) ∧ v = w' := fun k hk v hv => by
    have := Get_yes a 64 cap xs (4 + 2 * k) 2 v hl (by decide) hcap hcm hb (hs.ext hv) (standsB_of (by decide) (by decide) (by omega) (by omega) (by omega))
    have e : ((4 + 2 * k : Nat) : Int) = 4 + 2 * (k : Int) := by omega
    rw [e] at this
    exact this
  have hbd := fun k => at_bd hb k
  have hno := fun (h : ¬ Geo4.takeP xs) => takeR_no h
  have hyes := fun (h : Geo4.takeP xs) => takeR_yes h
  have hof : Geo4.ofBytes xs = ⟨Geo4.at xs 4, Geo4.at xs 6, Geo4.at xs 8, Geo4.at xs 10⟩ := rfl
  have htp : Geo4.takeP xs ↔ ((Geo4.ofBytes xs).rightB = true ∧ (Geo4.ofBytes xs).bytes = xs) := ⟨fun h => h.2, fun h => ⟨hl, h⟩⟩
  obtain ⟨gI, hgI⟩ : ∃ g, g = Geo4.ofBytes xs := ⟨_, rfl⟩
  obtain ⟨L, hL⟩ : ∃ L, L = [Geo4.at xs 4, Geo4.at xs 6, Geo4.at xs 8, Geo4.at xs 10] := ⟨_, rfl⟩
  have hLc : ints .i64 L = gI.cs.toList := by rw [hL, hgI]; rfl
  have hLl : L.length = 4 := by rw [hL]; rfl
  rw [← hL] at hL4
  rw [← hgI] at hyes htp
  generalize Geo4.takeR xs = R at *
  have HL4 := Lib.hid hL4; have HG := Lib.hid hget; have HBD := Lib.hid hbd; have HNO := Lib.hid hno; have HYES := Lib.hid hyes; have HTP := Lib.hid htp; have HLC := Lib.hid hLc; have HLL := Lib.hid hLl; have HSX := Lib.hid hs; have HLX := Lib.hid hl; have HB := Lib.hid hb
  clear hL4 hget hbd hno hyes hof htp hgI hL hLc hLl hs hl hb
  have R0 := Lib.hid (Row.new w 23 (#[.int .i64 0, .int .i64 0, .int .i64 0, .int .i64 0] : Array Value).toList)
  have X0 := (Ext.refl w).alloc (.cells #[.int .i64 0, .int .i64 0, .int .i64 0, .int .i64 0] 23)
  have e1 : (w.alloc (.cells #[.int .i64 0, .int .i64 0, .int .i64 0, .int .i64 0] 23)).heap.size = w.heap.size + 1 := by simp
  have e2 : ((w.alloc (.cells #[.int .i64 0, .int .i64 0, .int .i64 0, .int .i64 0] 23)).alloc (.cells #[.int .i64 0, .int .i64 0, .int .i64 0, .int .i64 0] 23)).heap.size = w.heap.size + 1 + 1 := by simp
  have g1 := (Row.new (w.alloc (.cells #[.int .i64 0, .int .i64 0, .int .i64 0, .int .i64 0] 23)) 23 (#[.int .i64 0, .int .i64 0, .int .i64 0, .int .i64 0] : Array Value).toList).alloc (.cells #[.pointer (some ⟨w.heap.size + 1, 0, none⟩), .pointer (some ⟨w.heap.size + 1, 1, none⟩), .pointer (some ⟨w.heap.size + 1, 2, none⟩), .pointer (some ⟨w.heap.size + 1, 3, none⟩)] 51)
  rw [e1] at g1
  have h1 := Row.new ((w.alloc (.cells #[.int .i64 0, .int .i64 0, .int .i64 0, .int .i64 0] 23)).alloc (.cells #[.int .i64 0, .int .i64 0, .int .i64 0, .int .i64 0] 23)) 51 (#[.pointer (some ⟨w.heap.size + 1, 0, none⟩), .pointer (some ⟨w.heap.size + 1, 1, none⟩), .pointer (some ⟨w.heap.size + 1, 2, none⟩), .pointer (some ⟨w.heap.size + 1, 3, none⟩)] : Array Value).toList
  rw [e2] at h1
  have X1 := ((Ext.refl (w.alloc (.cells #[.int .i64 0, .int .i64 0, .int .i64 0, .int .i64 0] 23))).alloc (.cells #[.int .i64 0, .int .i64 0, .int .i64 0, .int .i64 0] 23)).alloc (.cells #[.pointer (some ⟨w.heap.size + 1, 0, none⟩), .pointer (some ⟨w.heap.size + 1, 1, none⟩), .pointer (some ⟨w.heap.size + 1, 2, none⟩), .pointer (some ⟨w.heap.size + 1, 3, none⟩)] 51)
  have E1 := Lib.hid e1
  clear e1 e2
  go_enter Try.func20, Try.ntmps20
  go_wp2_with fail
  generalize ((w.alloc (.cells #[.int .i64 0, .int .i64 0, .int .i64 0, .int .i64 0] 23)).alloc (.cells #[.int .i64 0, .int .i64 0, .int .i64 0, .int .i64 0] 23)).alloc (.cells #[.pointer (some ⟨w.heap.size + 1, 0, none⟩), .pointer (some ⟨w.heap.size + 1, 1, none⟩), .pointer (some ⟨w.heap.size + 1, 2, none⟩), .pointer (some ⟨w.heap.size + 1, 3, none⟩)] 51) = wC at *
  generalize w.alloc (.cells #[.int .i64 0, .int .i64 0, .int .i64 0, .int .i64 0] 23) = wA at *
  have g1' : Row wC (w.heap.size + 1) 23 (ints .i64 (L.take 0 ++ List.replicate (4 - 0) 0)) := g1
  go_loopw [5, 22] (fun u v wr => ∃ k : Nat, k ≤ 4 ∧ v = .int .i64 k ∧ u = .int .i64 (4 + 2 * (k : Int)) ∧ Row wr (w.heap.size + 1) 23 (ints .i64 (L.take k ++ List.replicate (4 - k) 0)) ∧ Row wr (w.heap.size + 1 + 1) 51 (#[.pointer (some ⟨w.heap.size + 1, 0, none⟩), .pointer (some ⟨w.heap.size + 1, 1, none⟩), .pointer (some ⟨w.heap.size + 1, 2, none⟩), .pointer (some ⟨w.heap.size + 1, 3, none⟩)] : Array Value).toList ∧ Ext wA wr) (fun _ v _ => 4 - (intOf v).toNat)
  case atStart => exact ⟨0, by omega, rfl, rfl, g1', h1, X1⟩
  case round =>
    obtain ⟨k, hk, rfl, rfl, hg, hp, hX⟩ := hrel
    by_cases hlt : k < 4
    · have hcall := HG.out k hlt wr (X0.trans hX)
      have hx := HL4.out k hlt
      obtain ⟨x0, x1⟩ := HBD.out (4 + 2 * k)
      generalize Geo4.at xs (4 + 2 * k) = x at *
      have hcp : wr.cell? ⟨w.heap.size + 1 + 1, k, none⟩ = some (.pointer (some ⟨w.heap.size + 1, k, none⟩)) := by
        rw [hp.cell?]
        obtain rfl | rfl | rfl | rfl : k = 0 ∨ k = 1 ∨ k = 2 ∨ k = 3 := by omega
        all_goals rfl
      have hcg := hg.cell? k
      have hfg := hg.frozen k
      obtain ⟨old, hold⟩ : ∃ old, wr.cell? ⟨w.heap.size + 1, k, none⟩ = some old := by
        rw [hcg]
        exact ⟨_, List.getElem?_eq_getElem (by rw [ints_length, List.length_append, List.length_take, List.length_replicate, HLL.out]; omega)⟩
      have hst := hg.set k (.int .i64 x)
      rw [geo_step L k x HLL.out hlt hx] at hst
      have hpn := hp.by (By.set wr (w.heap.size + 1) k (.int .i64 x)) (by omega)
      have hXn := hX.setCell (p := ⟨w.heap.size + 1, k, none⟩) (by rw [E1.out]; exact Nat.le_refl _) (.int .i64 x)
      have HST := Lib.hid hst; have HPN := Lib.hid hpn; have HXN := Lib.hid hXn; have HC := Lib.hid hcall
      clear hst hpn hXn hcall hcg hg hp hX hx
      go_wp2_with fail
      refine HC.out.mono ?_
      rintro e w' ⟨rfl, rfl⟩
      go_wp2_with fail
      go_roundw
      case rel => exact ⟨k + 1, hlt, by go_num, by (first | (congr 1; done) | (congr 1; omega)), HST.out, HPN.out, HXN.out⟩
      case measure => simp [intOf]; omega
    · have : k = 4 := by omega
      subst this
      rw [Nat.sub_self, List.take_of_length_le (by rw [HLL.out]; exact Nat.le_refl _), List.replicate_zero, List.append_nil, HLC.out] at hg
      obtain ⟨p0, p1, p2, p3⟩ := Geo4.rowCells hg
      have hrow := R0.out.ext hX
      have XX := X0.trans hX
      have hLay := Lay_geo gI wr
      have HROW := Lib.hid hrow; have HXX := Lib.hid XX; have HRO := Lib.hid hg
      have hbb := gI.bytes_isBytes
      have HBB := Lib.hid hbb
      clear hrow XX hX hp hg hk hlt X0 X1 g1 g1' h1 R0 E1 HL4 HBD HLL HLC HG hbb
      cases hrb : gI.rightB
      · have hR : R = (Geo4.zero, 90) := HNO.out (fun e => by have := (HTP.out.1 e).1; rw [hrb] at this; cases this)
        rw [Geo4.layR_no hrb] at hLay
        have HRQ := Lib.hid hR; have HLAY := Lib.hid hLay
        obtain ⟨J, I, G, P⟩ := gI
        dsimp only [Geo4.v, Geo4.cs] at *
        clear hR hLay hrb
        go_wp2_with fail
        refine HLAY.out.mono ?_
        rintro e w6 ⟨a6, c6, rfl, ho6, hX6⟩
        dsimp only
        have HR6 := Lib.hid (HROW.out.ext hX6)
        clear ho6 p0 p1 p2 p3
        go_wp2_with (refine wpList_store_row rfl _ _ _ rfl w.heap.size #[.int .i64 0, .int .i64 0, .int .i64 0, .int .i64 0] rfl rfl 23 #[.int .i64 0, .int .i64 0, .int .i64 0, .int .i64 0] HR6.out infoGeo rfl (oneGeo 0 0 0 0) ?_)
        rw [HRQ.out]
        exact post_cell Try.results20 rfl rfl (HR6.out.setRow #[.int .i64 0, .int .i64 0, .int .i64 0, .int .i64 0]) Try.underlying23 rfl infoGeo rfl ⟨rfl, (HXX.out.trans hX6).setRow (Nat.le_refl _) #[.int .i64 0, .int .i64 0, .int .i64 0, .int .i64 0]⟩
      · rw [Geo4.layR_yes hrb] at hLay
        have htp2 : Geo4.takeP xs ↔ gI.bytes = xs := ⟨fun e => (HTP.out.1 e).2, fun e => HTP.out.2 ⟨hrb, e⟩⟩
        have hl64 := gI.bytes_len
        generalize gI.bytes = BB at *
        have HLAY := Lib.hid hLay; have HT2 := Lib.hid htp2; have HL64 := Lib.hid hl64
        clear hLay hrb htp2 hl64
        by_cases heq : BB = xs
        · have hR : R = (gI, 0) := HYES.out (HT2.out.2 heq)
          have HRQ := Lib.hid hR
          obtain ⟨J, I, G, P⟩ := gI
          dsimp only [Geo4.v, Geo4.cs] at *
          clear hR
          go_wp2_with fail
          refine HLAY.out.mono ?_
          rintro e w6 ⟨a6, c6, rfl, ho6, hX6⟩
          dsimp only at ho6 ⊢
          rw [HL64.out] at ho6 ⊢
          have HR6 := Lib.hid (HROW.out.ext hX6)
          have XX6 := HXX.out.trans hX6
          have e1 := run_conv_str (P := Try.prog) w6 36 9 5 Try.underlying36 Try.underlying5 Try.underlying9  c6 (ownsRow_sl ho6) HL64.out
          have e2 := run_conv_str (P := Try.prog) w6 36 9 5 Try.underlying36 Try.underlying5 Try.underlying9  cap (HSX.out.ext XX6) HLX.out
          rw [heq] at e1
          obtain ⟨p0, p1, p2, p3⟩ := Geo4.rowCells (g := ⟨J, I, G, P⟩) (HRO.out.ext hX6)
          dsimp only at p0 p1 p2 p3
          clear ho6 heq
          go_wp2_with (refine wpList_store_row rfl _ _ _ rfl w.heap.size #[.int .i64 J, .int .i64 I, .int .i64 G, .int .i64 P] rfl rfl 23 #[.int .i64 0, .int .i64 0, .int .i64 0, .int .i64 0] HR6.out infoGeo rfl (oneGeo _ _ _ _) ?_)
          rw [HRQ.out]
          exact post_cell Try.results20 rfl rfl (HR6.out.setRow #[.int .i64 J, .int .i64 I, .int .i64 G, .int .i64 P]) Try.underlying23 rfl infoGeo rfl ⟨rfl, XX6.setRow (Nat.le_refl _) #[.int .i64 J, .int .i64 I, .int .i64 G, .int .i64 P]⟩
        · have hR : R = (Geo4.zero, 90) := HNO.out (fun e => heq (HT2.out.1 e))
          have hse : ((strOf BB).toList == (strOf xs).toList) = false := by rw [strOf_eq HBB.out HB.out]; simp [heq]
          have HRQ := Lib.hid hR
          obtain ⟨J, I, G, P⟩ := gI
          dsimp only [Geo4.v, Geo4.cs] at *
          clear hR
          go_wp2_with fail
          refine HLAY.out.mono ?_
          rintro e w6 ⟨a6, c6, rfl, ho6, hX6⟩
          dsimp only at ho6 ⊢
          rw [HL64.out] at ho6 ⊢
          have HR6 := Lib.hid (HROW.out.ext hX6)
          have XX6 := HXX.out.trans hX6
          have e1 := run_conv_str (P := Try.prog) w6 36 9 5 Try.underlying36 Try.underlying5 Try.underlying9  c6 (ownsRow_sl ho6) HL64.out
          have e2 := run_conv_str (P := Try.prog) w6 36 9 5 Try.underlying36 Try.underlying5 Try.underlying9  cap (HSX.out.ext XX6) HLX.out
          clear ho6 heq p0 p1 p2 p3
          go_wp2_with (refine wpList_store_row rfl _ _ _ rfl w.heap.size #[.int .i64 0, .int .i64 0, .int .i64 0, .int .i64 0] rfl rfl 23 #[.int .i64 0, .int .i64 0, .int .i64 0, .int .i64 0] HR6.out infoGeo rfl (oneGeo 0 0 0 0) ?_)
          rw [HRQ.out]
          exact post_cell Try.results20 rfl rfl (HR6.out.setRow #[.int .i64 0, .int .i64 0, .int .i64 0, .int .i64 0]) Try.underlying23 rfl infoGeo rfl ⟨rfl, XX6.setRow (Nat.le_refl _) #[.int .i64 0, .int .i64 0, .int .i64 0, .int .i64 0]⟩
theorem Take_geo (a : Option Addr) (n cap : Nat) (xs : List Int) (w : World) (hl : xs.length = n) (hb : isBytes xs) (hs : Sl w a (ints .u8 xs)) (hcap : n ≤ cap) (hcm : cap ≤ 9223372036854775807) :
    Calls Try.prog 20 #[.slice a n cap] w (GaveG w (Geo4.takeR xs)) := by
  by_cases h : n = 64
  · subst h
    exact Take_64 a cap xs w hl hb hs hcap hcm
  · exact Take_len a n cap xs w hl h

set_option maxHeartbeats 4000000 in
theorem rTake_64 (a : Option Addr) (cap : Nat) (xs : List Int) (w : World) (hl : xs.length = 64) (hb : isBytes xs) (hs : Sl w a (ints .u8 xs)) :
    Calls Try.prog 21 #[.slice a 64 cap] w (GaveG w (Geo4.takeR xs)) := by
  obtain ⟨val, hval, hat⟩ : ∃ val : Int → Int, (∀ k : Nat, Geo4.at xs k = val k) ∧ ∀ v : World, Ext w v → ∀ q : Int, 0 ≤ q → q ≤ 60 → Calls Try.prog 31 #[.slice a 64 cap, .int .i64 q, .int .i64 2] v fun e w' => e = .returned (.int .u64 (val q)) ∧ v = w' :=
    ⟨fun q => Geo4.at xs q.toNat, fun k => by simp, fun v hv q h0 h60 => by
      obtain ⟨k, rfl⟩ : ∃ k : Nat, q = k := ⟨q.toNat, by omega⟩
      exact At_ok a 64 cap xs k 2 v hl (by decide) hb (hs.ext hv) (standsB_of (by decide) (by decide) (by omega) (by omega) (by omega))⟩
  have hbd := fun k => at_bd hb k
  have v4 : Geo4.at xs 4 = val 4 := hval 4
  have v6 : Geo4.at xs 6 = val 6 := hval 6
  have v8 : Geo4.at xs 8 = val 8 := hval 8
  have v10 : Geo4.at xs 10 = val 10 := hval 10
  obtain ⟨n40, n41⟩ := hbd 4
  obtain ⟨n60, n61⟩ := hbd 6
  obtain ⟨n80, n81⟩ := hbd 8
  obtain ⟨n100, n101⟩ := hbd 10
  rw [v4] at n40 n41
  rw [v6] at n60 n61
  rw [v8] at n80 n81
  rw [v10] at n100 n101
  have nw1 : IntKind.i64.wrap (val 4) = val 4 := IntWalk.i64_in _ (by omega)
  have nw2 : IntKind.i64.wrap (val 6) = val 6 := IntWalk.i64_in _ (by omega)
  have nw3 : IntKind.i64.wrap (val 8) = val 8 := IntWalk.i64_in _ (by omega)
  have nw4 : IntKind.i64.wrap (val 10) = val 10 := IntWalk.i64_in _ (by omega)
  have HNO := Lib.hid (fun (h : ¬ Geo4.takeP xs) => takeR_no h)
  have hyes := fun (h : Geo4.takeP xs) => takeR_yes h
  have hof : Geo4.ofBytes xs = ⟨val 4, val 6, val 8, val 10⟩ := by unfold Geo4.ofBytes; rw [v4, v6, v8, v10]
  have htp : Geo4.takeP xs ↔ ((Geo4.ofBytes xs).rightB = true ∧ (Geo4.ofBytes xs).bytes = xs) := ⟨fun h => h.2, fun h => ⟨hl, h⟩⟩
  rw [hof] at hyes htp
  generalize Geo4.takeR xs = R at *
  have HYES := Lib.hid hyes; have HTP := Lib.hid htp; have HAT := Lib.hid hat; have HSX := Lib.hid hs; have HLX := Lib.hid hl; have HB := Lib.hid hb
  clear hval hat hbd v4 v6 v8 v10 hyes hof htp hs hl hb
  have R0 := Lib.hid (Row.new w 23 (#[.int .i64 0, .int .i64 0, .int .i64 0, .int .i64 0] : Array Value).toList)
  have X0 := (Ext.refl w).alloc (.cells #[.int .i64 0, .int .i64 0, .int .i64 0, .int .i64 0] 23)
  go_enter Try.func21, Try.ntmps21
  go_wp2_with fail
  generalize hw1 : w.alloc (.cells #[.int .i64 0, .int .i64 0, .int .i64 0, .int .i64 0] 23) = w1 at *
  have HX0 := Lib.hid X0
  have hlt0 : w.heap.size < w1.heap.size := by rw [← hw1]; simp
  clear X0 hw1
  refine (HAT.out _ HX0.out _ (by decide) (by decide)).mono ?_
  rintro e w' ⟨rfl, rfl⟩
  go_wp2_with fail
  refine (HAT.out _ HX0.out _ (by decide) (by decide)).mono ?_
  rintro e w' ⟨rfl, rfl⟩
  go_wp2_with fail
  refine (HAT.out _ HX0.out _ (by decide) (by decide)).mono ?_
  rintro e w' ⟨rfl, rfl⟩
  go_wp2_with fail
  refine (HAT.out _ HX0.out _ (by decide) (by decide)).mono ?_
  rintro e w' ⟨rfl, rfl⟩
  generalize val 4 = J at *
  generalize val 6 = I at *
  generalize val 8 = G at *
  generalize val 10 = P at *
  clear HAT
  have hr : Row (w1.alloc (.cells #[.int .i64 J, .int .i64 I, .int .i64 G, .int .i64 P] 23)) w1.heap.size 23 (#[.int .i64 J, .int .i64 I, .int .i64 G, .int .i64 P] : Array Value).toList := Row.new w1 23 (#[.int .i64 J, .int .i64 I, .int .i64 G, .int .i64 P] : Array Value).toList
  have X1 := (Ext.refl w1).alloc (.cells #[.int .i64 J, .int .i64 I, .int .i64 G, .int .i64 P] 23)
  have hgl : w1.heap.size ≤ w1.heap.size := Nat.le_refl _
  go_wp2_with fail
  obtain ⟨g, hgg⟩ : ∃ g, g = w1.heap.size := ⟨_, rfl⟩
  rw [← hgg] at hr ⊢
  clear hgg
  generalize w1.alloc (.cells #[.int .i64 J, .int .i64 I, .int .i64 G, .int .i64 P] 23) = wx at *
  obtain ⟨gI, hgI⟩ : ∃ gI : Geo4, gI = ⟨J, I, G, P⟩ := ⟨_, rfl⟩
  rw [← hgI] at HYES HTP
  have hg : Row wx g 23 gI.cs.toList := by rw [hgI]; exact hr
  obtain ⟨p0, p1, p2, p3⟩ := Geo4.rowCells hg
  have hrow := R0.out.ext X1
  have XX := HX0.out.trans X1
  have hLay := rLay_geo gI wx
  have HROW := Lib.hid hrow; have HXX := Lib.hid XX; have HRO := Lib.hid hg
  have hbb := gI.bytes_isBytes
  have HBB := Lib.hid hbb
  have HGI := Lib.hid hgI
  clear hrow XX X1 hr hg hgI hbb nw1 nw2 nw3 nw4 n40 n41 n60 n61 n80 n81 n100 n101 R0 hgl hlt0
  cases hrb : gI.rightB
  · have hR : R = (Geo4.zero, 90) := HNO.out (fun e => by have := (HTP.out.1 e).1; rw [hrb] at this; cases this)
    rw [Geo4.layR_no hrb] at hLay
    have HRQ := Lib.hid hR; have HLAY := Lib.hid hLay
    obtain rfl := HGI.out
    dsimp only [Geo4.v, Geo4.cs] at *
    clear hR hLay hrb
    refine HLAY.out.mono ?_
    rintro e w6 ⟨a6, c6, rfl, ho6, hX6⟩
    dsimp only
    have HR6 := Lib.hid (HROW.out.ext hX6)
    clear ho6 p0 p1 p2 p3
    go_wp2_with (refine wpList_store_row rfl _ _ _ rfl w.heap.size #[.int .i64 0, .int .i64 0, .int .i64 0, .int .i64 0] rfl rfl 23 #[.int .i64 0, .int .i64 0, .int .i64 0, .int .i64 0] HR6.out infoGeo rfl (oneGeo 0 0 0 0) ?_)
    rw [HRQ.out]
    exact post_cell Try.results21 rfl rfl (HR6.out.setRow #[.int .i64 0, .int .i64 0, .int .i64 0, .int .i64 0]) Try.underlying23 rfl infoGeo rfl ⟨rfl, (HXX.out.trans hX6).setRow (Nat.le_refl _) #[.int .i64 0, .int .i64 0, .int .i64 0, .int .i64 0]⟩
  · rw [Geo4.layR_yes hrb] at hLay
    have htp2 : Geo4.takeP xs ↔ gI.bytes = xs := ⟨fun e => (HTP.out.1 e).2, fun e => HTP.out.2 ⟨hrb, e⟩⟩
    have hl64 := gI.bytes_len
    generalize gI.bytes = BB at *
    have HLAY := Lib.hid hLay; have HT2 := Lib.hid htp2; have HL64 := Lib.hid hl64
    clear hLay hrb htp2 hl64
    by_cases heq : BB = xs
    · have hR : R = (gI, 0) := HYES.out (HT2.out.2 heq)
      have HRQ := Lib.hid hR
      obtain rfl := HGI.out
      dsimp only [Geo4.v, Geo4.cs] at *
      clear hR
      refine HLAY.out.mono ?_
      rintro e w6 ⟨a6, c6, rfl, ho6, hX6⟩
      dsimp only at ho6 ⊢
      rw [HL64.out] at ho6 ⊢
      have HR6 := Lib.hid (HROW.out.ext hX6)
      have XX6 := HXX.out.trans hX6
      have e1 := run_conv_str (P := Try.prog) w6 36 9 5 Try.underlying36 Try.underlying5 Try.underlying9  c6 (ownsRow_sl ho6) HL64.out
      have e2 := run_conv_str (P := Try.prog) w6 36 9 5 Try.underlying36 Try.underlying5 Try.underlying9  cap (HSX.out.ext XX6) HLX.out
      rw [heq] at e1
      obtain ⟨p0, p1, p2, p3⟩ := Geo4.rowCells (g := ⟨J, I, G, P⟩) (HRO.out.ext hX6)
      dsimp only at p0 p1 p2 p3
      clear ho6 heq
      go_wp2_with (refine wpList_store_row rfl _ _ _ rfl w.heap.size #[.int .i64 J, .int .i64 I, .int .i64 G, .int .i64 P] rfl rfl 23 #[.int .i64 0, .int .i64 0, .int .i64 0, .int .i64 0] HR6.out infoGeo rfl (oneGeo _ _ _ _) ?_)
      rw [HRQ.out]
      exact post_cell Try.results21 rfl rfl (HR6.out.setRow #[.int .i64 J, .int .i64 I, .int .i64 G, .int .i64 P]) Try.underlying23 rfl infoGeo rfl ⟨rfl, XX6.setRow (Nat.le_refl _) #[.int .i64 J, .int .i64 I, .int .i64 G, .int .i64 P]⟩
    · have hR : R = (Geo4.zero, 90) := HNO.out (fun e => heq (HT2.out.1 e))
      have hse : ((strOf BB).toList == (strOf xs).toList) = false := by rw [strOf_eq HBB.out HB.out]; simp [heq]
      have HRQ := Lib.hid hR
      obtain rfl := HGI.out
      dsimp only [Geo4.v, Geo4.cs] at *
      clear hR
      refine HLAY.out.mono ?_
      rintro e w6 ⟨a6, c6, rfl, ho6, hX6⟩
      dsimp only at ho6 ⊢
      rw [HL64.out] at ho6 ⊢
      have HR6 := Lib.hid (HROW.out.ext hX6)
      have XX6 := HXX.out.trans hX6
      have e1 := run_conv_str (P := Try.prog) w6 36 9 5 Try.underlying36 Try.underlying5 Try.underlying9  c6 (ownsRow_sl ho6) HL64.out
      have e2 := run_conv_str (P := Try.prog) w6 36 9 5 Try.underlying36 Try.underlying5 Try.underlying9  cap (HSX.out.ext XX6) HLX.out
      clear ho6 heq p0 p1 p2 p3
      go_wp2_with (refine wpList_store_row rfl _ _ _ rfl w.heap.size #[.int .i64 0, .int .i64 0, .int .i64 0, .int .i64 0] rfl rfl 23 #[.int .i64 0, .int .i64 0, .int .i64 0, .int .i64 0] HR6.out infoGeo rfl (oneGeo 0 0 0 0) ?_)
      rw [HRQ.out]
      exact post_cell Try.results21 rfl rfl (HR6.out.setRow #[.int .i64 0, .int .i64 0, .int .i64 0, .int .i64 0]) Try.underlying23 rfl infoGeo rfl ⟨rfl, XX6.setRow (Nat.le_refl _) #[.int .i64 0, .int .i64 0, .int .i64 0, .int .i64 0]⟩
theorem rTake_geo (a : Option Addr) (n cap : Nat) (xs : List Int) (w : World) (hl : xs.length = n) (hb : isBytes xs) (hs : Sl w a (ints .u8 xs)) :
    Calls Try.prog 21 #[.slice a n cap] w (GaveG w (Geo4.takeR xs)) := by
  by_cases h : n = 64
  · subst h
    exact rTake_64 a cap xs w hl hb hs
  · exact rTake_len a n cap xs w hl h
end Go.Proofs.Ythhkkjnahiimbaa.Super
