/- The law JournalAtomic. -/
import Derived.Test.YtfodpphbdbeciaaJnAt
import Derived.Deep.DeepCutAuto
namespace Go.Proofs.Ytfodpphbdbeciaa.Jn
open Go.RowKit Words Mem Plain Ops Agg OwnS Dk
open Go.Joins Go.ChangeShapes Go.WideShapes Go.Deep
set_option maxRecDepth 100000
set_option linter.ambiguousOpen false
set_option linter.unusedVariables false
set_option linter.unusedSimpArgs false

theorem acts_nil {H : Type} {enc : TypeId × Value → H} {d : DataW H} {p : List MemPlace} {w : World} {n cap : Nat} (h : DataW.Trod enc Try.prog w 0 (fun _ => true) true 43 (.slice none n cap) d p) : n = 0 ∧ cap = 0 := by
  obtain ⟨fuel, hf⟩ := h
  rcases open_slice Try.underlying43 hf with ⟨hc, hx⟩ | ⟨a, len, cap, m, k, D, Pl, hc, _, hl, hm, hmm, hx, hall⟩
  · simpa [Value.cells] using hc
  · simp [Value.cells] at hc
def lastA : ActT := ⟨2, none, 0, 0, 0, 0, none, 0, 0, 12345, []⟩
theorem lastA_ok (w : World) : lastA.ok w := ⟨by decide, by decide, by decide, by decide, by decide, rfl, (fun s hs => by cases hs), fun h => absurd h (by decide)⟩
theorem actC_len (x : ActT) : (actC x).length = 6 := rfl
theorem actC_one (x : ActT) : ∀ u ∈ actC x, u.oneCell' = true := by
  intro u hu
  simp [actC] at hu
  rcases hu with rfl | rfl | rfl | rfl | rfl | rfl <;> rfl
theorem acts_sl {w : World} {a : Option Addr} {n m : Nat} {L : List ActT} (h : ActsIn w a n L) (hm : m ≤ n) : Sl w a (flat actC (L.take m)) := by
  by_cases h0 : 0 < n
  · obtain ⟨b, off, rfl, hc⟩ := h.2 h0
    refine flat_sl (s := 6) (by decide) actC_len (fun i hi q hq => ?_)
    have hi2 : i < L.length := by rw [List.length_take] at hi; omega
    have h2 := (hc i hi2).2 q hq
    have e : (L.take m)[i] = L[i] := by rw [List.getElem_take]
    rw [e, ← h2]
    have ea : (⟨b, off, none⟩ : Addr).add (i * 6 + q) = ⟨b, off + i * 6 + q, none⟩ := by unfold Addr.add; split <;> simp_all [Nat.add_assoc]
    rw [ea]
  · have : L = [] := List.eq_nil_of_length_eq_zero (by rw [h.1]; omega)
    subst this
    simp [flat]
    exact Sl.nil _ _
theorem fill_oneAct (x : ActT) : Instr.fill (fun i => some (i * 6, 6)) ((Array.range (1 * 6)).map ((Value.agg #[.int .u8 0, .slice none 0 0, .int .i64 0, .int .u8 0, .slice none 0 0, .int .u64 0]).cells[· % (Value.agg #[.int .u8 0, .slice none 0 0, .int .i64 0, .int .u8 0, .slice none 0 0, .int .u64 0]).cells.size]!)) [(0, .agg (actC x).toArray)] = some (actC x).toArray := by
  kernel_rfl
theorem infoActZ : (Try.prog.info? 47).map (fun i => (i.zero, i.size, i.bytes)) = some (some (.agg #[.int .u8 0, .slice none 0 0, .int .i64 0, .int .u8 0, .slice none 0 0, .int .u64 0]), 6, 80) := by kernel_rfl
theorem wpList_oneAct {ops : Array Oper} {rest : List Oper} {Q : Exit → Act → World → Prop} {o : Oper} {a : Act} {w : World} (hg : o.guard = none) (u : Operand) (ho : o.op = .buildSlice 43 1 #[(0, u)]) (x : ActT) (hx : a.eval u = .agg (actC x).toArray)
    (h : wpList Try.prog ops Q rest (a.put o.dst (.slice (some ⟨w.heap.size, 0, none⟩) 1 1)) (w.alloc (.cells (actC x).toArray 47))) : wpList Try.prog ops Q (o :: rest) a w := by
  obtain ⟨i, h2, h3, h4, h5⟩ := info_parts infoActZ
  refine wpList_buildSlice hg 43 47 1 #[(0, u)] ho (actC x).toArray i _ Try.underlying43 h2 h3 (by rw [h4]; decide) (by rw [h4]; decide) ?_ h
  rw [h4]
  have e : ((#[(0, u)] : Array (Nat × Operand)).map fun (i, x) => (i, a.eval x)).toList = [(0, .agg (actC x).toArray)] := by simp [hx]
  rw [e]
  exact fill_oneAct x
theorem fill_oneSet (x : Int × Int) : Instr.fill (fun i => some (i * 2, 2)) ((Array.range (1 * 2)).map ((Value.agg #[.int .i64 0, .int .u8 0]).cells[· % (Value.agg #[.int .i64 0, .int .u8 0]).cells.size]!)) [(0, .agg #[.int .i64 x.1, .int .u8 x.2])] = some #[.int .i64 x.1, .int .u8 x.2] := by
  kernel_rfl
theorem infoSetZ : (Try.prog.info? 53).map (fun i => (i.zero, i.size, i.bytes)) = some (some (.agg #[.int .i64 0, .int .u8 0]), 2, 16) := by kernel_rfl
theorem wpList_oneSet {ops : Array Oper} {rest : List Oper} {Q : Exit → Act → World → Prop} {o : Oper} {a : Act} {w : World} (hg : o.guard = none) (u : Operand) (ho : o.op = .buildSlice 45 1 #[(0, u)]) (x : Int × Int) (hx : a.eval u = .agg #[.int .i64 x.1, .int .u8 x.2])
    (h : wpList Try.prog ops Q rest (a.put o.dst (.slice (some ⟨w.heap.size, 0, none⟩) 1 1)) (w.alloc (.cells #[.int .i64 x.1, .int .u8 x.2] 53))) : wpList Try.prog ops Q (o :: rest) a w := by
  obtain ⟨i, h2, h3, h4, h5⟩ := info_parts infoSetZ
  refine wpList_buildSlice hg 45 53 1 #[(0, u)] ho #[.int .i64 x.1, .int .u8 x.2] i _ Try.underlying45 h2 h3 (by rw [h4]; decide) (by rw [h4]; decide) ?_ h
  rw [h4]
  have e : ((#[(0, u)] : Array (Nat × Operand)).map fun (i, x) => (i, a.eval x)).toList = [(0, .agg #[.int .i64 x.1, .int .u8 x.2])] := by simp [hx]
  rw [e]
  exact fill_oneSet x
/-- A crash of a disk that is off. -/
theorem crash_again {w0 u : World} {g gs sc : Nat} {X : Nat → Prop} {D : Dsk} {b m : Nat} {P : List Int → Prop} (hA : AtM w0 g gs sc D X u) (hwf : D.Wf b) (hb : b ≤ 1000000) (hc : CrashE D m P) (there : Int) :
    Calls Try.prog 21 #[.pointer (some ⟨g, 0, none⟩), .int .u64 there] u fun e w' => e = .returned (.tuple #[]) ∧ ∃ (D' : Dsk) (s : Nat) (V : List Int), AtM w0 g gs sc D' X w' ∧ Same X u w' ∧ Live D' ∧ D'.waits = [] ∧ Ends D'.secs s V ∧ s ≤ m ∧ P V ∧ D'.Wf b := by
  refine (Crash_atM hA hwf (by omega) there).mono ?_
  rintro e w' ⟨rfl, hA', hs'⟩
  obtain ⟨s, V, k1, k2, k3, k4⟩ := hc there
  refine ⟨rfl, crashR D there, s.toNat, V, hA', hs', ⟨rfl, rfl⟩, rfl, ?_, by omega, k4, secs_crash_wf hwf there⟩
  rw [show ((s.toNat : Nat) : Int) = s by omega]
  exact k3
set_option maxHeartbeats 16000000 in
theorem atomic_walk (a : Option Addr) (n cap : Nat) (L : List ActT) (w : World) (hn : n ≤ cap) (hcm : cap ≤ 9223372036854775807) (hL : ActsIn w a n L) (hnil : a = none → n = 0 ∧ cap = 0) :
    Calls Try.prog 8 #[.slice a n cap] w fun e w' => e = .returned (.bool true) ∧ Ext w w' := by
  have HL := Lib.hid hL
  have HCAP := Lib.hid (And.intro hn hcm)
  have HNIL := Lib.hid hnil
  have HSH := Lib.hid (shown_ok w)
  clear hL hn hcm hnil
  go_enter Try.func8, Try.ntmps8
  go_wp2_with fail
  refine HSH.out.mono ?_
  rintro e w1 ⟨rfl, h1⟩
  have HX1 := Lib.hid h1
  have HNEW := Lib.hid (New_atM 60 w1 (by decide))
  clear h1 HSH
  go_wp2_with fail
  refine HNEW.out.mono ?_
  rintro e w2 ⟨g, gs, sc, rfl, hA⟩
  have HA2 := Lib.hid hA
  have HOP := Lib.hid (calm_open hA (newD_wf (by decide) 0) calm_new (by decide))
  clear hA HNEW
  go_wp2_with fail
  refine HOP.out.mono ?_
  rintro e w3 ⟨gj, rfl, hgj, hr3, h3⟩
  have HR3 := Lib.hid hr3
  have HGJ := Lib.hid hgj
  have HX23 := Lib.hid h3
  obtain ⟨W0, hW0⟩ : ∃ z, z = nowB (newD 60).secs := ⟨_, rfl⟩
  have HNO := Lib.hid (now_ok (HA2.out.ext h3) rfl (by simp [newD]))
  rw [← hW0] at HNO
  have HW0 := Lib.hid hW0
  obtain ⟨S0, hS0⟩ : ∃ z, z = strOf W0 := ⟨_, rfl⟩
  rw [← hS0] at HNO
  have HS0 := Lib.hid hS0
  clear hr3 h3 hgj HOP hW0 hS0
  go_wp2_with fail
  refine HNO.out.mono ?_
  rintro e w4 ⟨rfl, h4⟩
  have HX34 := Lib.hid h4
  obtain ⟨w5, hw5⟩ : ∃ z, z = w4.alloc (.cells #[] 47) := ⟨_, rfl⟩
  have hX45 := (Ext.refl w4).alloc (.cells #[] 47)
  have hr5 := Row.new w4 47 []
  rw [← hw5] at hX45
  have hr5' : Row w5 w4.heap.size 47 [] := by rw [hw5]; exact hr5
  have HFEW := Lib.hid (few_ok a n cap L w5 HCAP.out.1 HCAP.out.2 (HL.out.ext (HX1.out.trans (HA2.out.1.trans (HX23.out.trans (h4.trans hX45))))))
  have HR5 := Lib.hid hr5'
  have HX45 := Lib.hid hX45
  have HW5 := Lib.hid hw5
  clear h4 hX45 hr5 hr5' hw5 HNO
  go_upto_region 8 with fail
  have hza := zeroAct
  go_wp2_with fail
  rw [← HW5.out]
  refine HFEW.out.mono ?_
  rintro e w' ⟨rfl, m, rfl, hmn, hm40, hln⟩
  have HLN := Lib.hid hln
  obtain ⟨g5, hg5⟩ : ∃ z, z = w4.heap.size := ⟨_, rfl⟩
  have hX14 : Ext w w4 := HX1.out.trans (HA2.out.1.trans (HX23.out.trans HX34.out))
  have hown5 : w5.ownsRow g5 47 6 (.slice (some ⟨g5, 0, none⟩) 0 0) 0 [] := by
    rw [hg5]
    exact ownS_of HR5.out (Nat.le_refl _) rfl (by decide)
  obtain ⟨a6, c6, w6, hap6, ho6, hg6, ha6⟩ := run_append_s (P := Try.prog) w5 g5 6 (by decide) 43 43 47 _ 80 Try.underlying43 infoActZ rfl hown5 (a := a) (m := m) cap (news := flat actC (L.take m)) (by rw [OwnS.flat_length actC_len, List.length_take, HL.out.1]; rw [Nat.min_eq_left hmn]) (acts_sl (HL.out.ext (hX14.trans HX45.out)) hmn) (fun e => by
    obtain ⟨h1, h2⟩ := HNIL.out e
    exact ⟨by omega, h2⟩) (flat_one actC_one _) (by omega) (by omega) (by rw [hg5]; exact HX45.out.size)
  have hX46 : Ext w4 w6 := Ext_grown (base := g5) HX45.out (by rw [hg5]; exact Nat.le_refl _) (by rw [hg5]; exact HX45.out.size) hg6 (fun z hz => by simp [Value.ownBlock] at hz; omega)
  rw [List.nil_append, Nat.zero_add] at ho6
  rw [Nat.zero_add] at hap6
  obtain ⟨lA, hlA⟩ : ∃ x : ActT, x = lastA := ⟨_, rfl⟩
  have HLAV := Lib.hid (show Value.agg #[.int .u8 2, .slice none 0 0, .int .i64 0, .int .u8 0, .slice none 0 0, .int .u64 12345] = .agg (actC lA).toArray by rw [hlA]; rfl)
  have hX67 := (Ext.refl w6).alloc (.cells (actC lA).toArray 47)
  have hr7 := Row.new w6 47 (actC lA)
  obtain ⟨a8, c8, w8, hap8, ho8, hg8, ha8⟩ := run_append_s (P := Try.prog) _ g5 6 (by decide) 43 43 47 _ 80 Try.underlying43 infoActZ rfl (ownS_ext ho6 hX67) (a := some ⟨w6.heap.size, 0, none⟩) (m := 1) 1 (news := actC lA) rfl hr7.sl0 (fun e => by cases e) (actC_one _) (by omega) (by omega) (by rw [hg5]; exact (hX46.trans hX67).size)
  have hX48 : Ext w4 w8 := Ext_grown (base := g5) (hX46.trans hX67) (by rw [hg5]; exact Nat.le_refl _) (by rw [hg5]; exact (hX46.trans hX67).size) hg8 (fun z hz => by
    have h := ownS_lt ho6
    cases a6 with
    | none => simp [Value.ownBlock] at hz
    | some a0 =>
      simp [Value.ownBlock] at hz
      subst hz
      exact (h a0 rfl).1)
  obtain ⟨AL, hAL⟩ : ∃ AL, AL = L.take m ++ [lastA] := ⟨_, rfl⟩
  have hfl : flat actC (L.take m) ++ actC lA = flat actC AL := by rw [hlA, hAL, OwnS.flat_append, OwnS.flat_one]
  rw [hfl] at ho8
  have hALl : AL.length = m + 1 := by rw [hAL, List.length_append, List.length_take, HL.out.1, Nat.min_eq_left hmn]; rfl
  have HALO := Lib.hid (show ∀ i (h : i < AL.length), AL[i].ok w ∧ AL[i].ln ≤ 60 from fun i hi => by
    by_cases hlt : i < m
    · have hiL : i < L.length := by rw [HL.out.1]; omega
      have e : AL[i] = L[i] := by
        have h : AL[i]? = L[i]? := by rw [hAL, List.getElem?_append_left (by rw [List.length_take, HL.out.1]; omega), List.getElem?_take, if_pos hlt]
        rw [List.getElem?_eq_getElem hi, List.getElem?_eq_getElem hiL] at h
        exact Option.some.inj h
      obtain ⟨b, off, _, hc⟩ := HL.out.2 (by omega)
      rw [e]
      exact ⟨(hc i hiL).1, HLN.out i hiL hlt⟩
    · have e : AL[i] = lastA := by
        have h : AL[i]? = some lastA := by
          rw [hAL, List.getElem?_append_right (by rw [List.length_take, HL.out.1]; omega), List.length_take, HL.out.1, Nat.min_eq_left hmn, show i - m = 0 by omega]
          rfl
        rw [List.getElem?_eq_getElem hi] at h
        exact Option.some.inj h
      rw [e]
      exact ⟨lastA_ok w, by decide⟩)
  obtain ⟨gA, hgA, hgA5, hgA8⟩ : ∃ gA, a8 = some ⟨gA, 0, none⟩ ∧ g5 ≤ gA ∧ gA < w8.heap.size := by
    obtain ⟨gA, e, _⟩ := ownS_elem actC_len ho8 hALl (k := 0) (by omega)
    have := ownS_lt ho8 _ e
    exact ⟨gA, e, this.1, this.2⟩
  subst hgA
  have hX38 : Ext w3 w8 := HX34.out.trans hX48
  have hgj3 := HR3.out.lt
  have hs34 := HX34.out.size
  have HA8 := Lib.hid (HA2.out.add (Y := fun q => q = gj ∨ q = gA) (HX23.out.trans hX38) (fun q hq => by
    have h2 := hX38.size
    have h3 := HX23.out.size
    rcases hq with rfl | rfl
    · exact .inr ⟨HGJ.out, by omega⟩
    · exact .inr ⟨by omega, hgA8⟩))
  have HR8 := Lib.hid (HR3.out.ext hX38)
  have HO8 := Lib.hid ho8
  have HNE := Lib.hid (show gj ≠ gA by omega)
  have HALL := Lib.hid hALl
  have HSB := Lib.hid (show isBytes W0 ∧ W0.length = 768 from by
    rw [HW0.out]
    exact ⟨nowB_bytes (newD_wf (n := 60) (by decide) 0) (by simp [newD]), nowB_len _⟩)
  rw [← hg5]
  clear hlA hln HFEW hown5 ho6 hg6 ha6 hX46 hX67 hr7 ho8 hg8 ha8 hX48 hfl hAL hALl hX14 hX38 hgj3 hs34 hgA5 hgA8 hg5
  go_upto_region 9 with (first
    | (refine wpList_oneAct rfl _ rfl lA HLAV.out ?_)
    | (at_builtin; refine Guard.wpList_append_want _ rfl _ _ _ _ rfl (.slice (some ⟨g5, 0, none⟩) 0 0) (.slice a m cap) rfl rfl _ _ (by with_reducible exact hap6) ?_)
    | (at_builtin; refine Guard.wpList_append_want _ rfl _ _ _ _ rfl (.slice a6 m c6) (.slice (some ⟨w6.heap.size, 0, none⟩) 1 1) rfl rfl _ _ (by with_reducible exact hap8) ?_))
  have hza := zeroAct
  go_loopw [52, 6, 9, 10] (fun v jv wv mv wr => ∃ (i gj nn : Nat) (D : Dsk) (W M : List Int) (SW SM : ByteArray), i ≤ m + 1 ∧ v = .int .i64 i ∧ jv = .pointer (some ⟨gj, 0, none⟩) ∧ wv = .string SW ∧ mv = .string SM ∧ SW = Ops.strOf W ∧ SM = Ops.strOf M ∧ gj ≠ gA ∧ AtM w1 g gs sc D (fun q => q = gj ∨ q = gA) wr ∧ Row wr gj 67 (jRow g 12 48 nn) ∧ wr.ownsRow 0 47 6 (.slice (some ⟨gA, 0, none⟩) (m + 1) c8) (m + 1) (flat actC AL) ∧ AInv D nn i W M ∧ D.Wf (i * 2000)) (fun v _ _ _ _ => (m + 1) - (intOf v).toNat)
  case atStart => exact ⟨0, gj, 0, newD 60, W0, W0, S0, S0, by omega, rfl, rfl, rfl, rfl, HS0.out, HS0.out, HNE.out, HA8.out, HR8.out, ownS_base HO8.out (Nat.zero_le _), ⟨Nat.le_refl _, .inl ⟨rfl, rfl, by simp [newD], .inl ⟨by decide +kernel, rfl⟩, HW0.out.symm⟩⟩, newD_wf (by decide) _⟩
  case round =>
    obtain ⟨i, gj, nn, D, W, M, SW, SM, hi, rfl, rfl, rfl, rfl, hSW, hSM, hne, hA, hr, ho, hinv, hwf⟩ := hrel
    have HSW := Lib.hid hSW
    have HSM := Lib.hid hSM
    have HNA := Lib.hid hne
    have HA := Lib.hid hA
    have HR := Lib.hid hr
    have HO := Lib.hid ho
    have HINV := Lib.hid hinv
    have HWF := Lib.hid hwf
    clear hSW hSM hne hA hr ho hinv hwf HA8 HR8 HO8 HNE
    by_cases hlt : i < m + 1
    · have hiL : i < AL.length := by rw [HALL.out]; exact hlt
      obtain ⟨_, e, _, hrange, _⟩ := ownS_elem actC_len HO.out HALL.out hiL
      cases e
      obtain ⟨hok, h60⟩ := HALO.out i hiL
      have hXw := HX1.out.trans HA.out.1
      generalize AL[i] = x at *
      obtain ⟨kind, la, ln, lc, pos, cc, bp, bl, bc, there, S⟩ := x
      have k0 : wr.cell? ⟨gA, i * 6, none⟩ = some (.int .u8 kind) := by simpa using hrange 0 _ rfl
      have k1 : wr.cell? ⟨gA, i * 6 + 1, none⟩ = some (.slice la ln lc) := hrange 1 _ rfl
      have k2 : wr.cell? ⟨gA, i * 6 + 2, none⟩ = some (.int .i64 pos) := hrange 2 _ rfl
      have k3 : wr.cell? ⟨gA, i * 6 + 3, none⟩ = some (.int .u8 cc) := hrange 3 _ rfl
      have k4 : wr.cell? ⟨gA, i * 6 + 4, none⟩ = some (.slice bp bl bc) := hrange 4 _ rfl
      have k5 : wr.cell? ⟨gA, i * 6 + 5, none⟩ = some (.int .u64 there) := hrange 5 _ rfl
      dsimp only at h60
      have hkind : kind ≤ 255 := hok.kind
      have HPOS := Lib.hid (show pos ≤ 9223372036854775807 from hok.pos.2)
      have HTH := Lib.hid (show 0 ≤ there ∧ there ≤ 18446744073709551615 from hok.there)
      have HSETS := Lib.hid ((show SetsIn w la ln S from hok.sets).ext hXw)
      have him : (i : Int) < (m : Int) + 1 := by omega
      clear hrange hok hiL hXw
      go_upto_region 11 with fail
      obtain ⟨wb, hwb⟩ : ∃ z, z = wr.alloc (.cells #[.int .u8 kind, .slice la ln lc, .int .i64 pos, .int .u8 cc, .slice bp bl bc, .int .u64 there] 47) := ⟨_, rfl⟩
      have hrb := Row.new wr 47 [.int .u8 kind, .slice la ln lc, .int .i64 pos, .int .u8 cc, .slice bp bl bc, .int .u64 there]
      have hXb := (Ext.refl wr).alloc (.cells #[.int .u8 kind, .slice la ln lc, .int .i64 pos, .int .u8 cc, .slice bp bl bc, .int .u64 there] 47)
      obtain ⟨gb, hgb⟩ : ∃ z, z = wr.heap.size := ⟨_, rfl⟩
      replace hrb : Row wb gb 47 [.int .u8 kind, .slice la ln lc, .int .i64 pos, .int .u8 cc, .slice bp bl bc, .int .u64 there] := by rw [hwb, hgb]; exact hrb
      rw [← hwb] at hXb ⊢
      rw [← hgb]
      have HAB := Lib.hid (HA.out.ext hXb)
      have HRJ := Lib.hid (HR.out.ext hXb)
      have HAX := Lib.hid (HA.out.add (Y := fun q => (q = gj ∨ q = gA) ∨ q = gb) hXb (fun q hq => by
        rcases hq with hq | hq
        · exact .inl hq
        · rw [hq]; exact .inr ⟨Nat.le_of_eq hgb.symm, hrb.lt⟩))
      have HOB := Lib.hid (ownS_ext HO.out hXb)
      have HSB2 := Lib.hid (HSETS.out.ext hXb)
      have HRB := Lib.hid hrb
      have HGB := Lib.hid (show gb ≠ gj ∧ gb ≠ gA from by
        have h1 := HR.out.lt
        have h2 := (ownS_lt HO.out _ rfl).2
        dsimp only at h2
        omega)
      have d0 : wb.cell? ⟨gb, 0, none⟩ = some (.int .u8 kind) := (hrb.cell? 0).trans rfl
      have d1 : wb.cell? ⟨gb, 1, none⟩ = some (.slice la ln lc) := (hrb.cell? 1).trans rfl
      have d2 : wb.cell? ⟨gb, 2, none⟩ = some (.int .i64 pos) := (hrb.cell? 2).trans rfl
      have d3 : wb.cell? ⟨gb, 3, none⟩ = some (.int .u8 cc) := (hrb.cell? 3).trans rfl
      have d4 : wb.cell? ⟨gb, 4, none⟩ = some (.slice bp bl bc) := (hrb.cell? 4).trans rfl
      have d5 : wb.cell? ⟨gb, 5, none⟩ = some (.int .u64 there) := (hrb.cell? 5).trans rfl
      clear k0 k1 k2 k3 k4 k5 hrb hXb hwb hgb him HA HR HO HSETS
      by_cases hk0 : kind % 6 = 0
      · have e0 : ((kind : Int) % 6 == 0) = true := by simp; omega
        have e1 : ((kind : Int) % 6 == 1) = false := by simp; omega
        have e2 : ((kind : Int) % 6 == 2) = false := by simp; omega
        clear hk0
        go_wp2_with fail
        go_loopw [64, 13] (fun v sv wl => ∃ (q : Nat) (P : List (Int × Int)) (ap : Option Addr) (cp : Nat), q ≤ ln ∧ v = .int .i64 q ∧ sv = .slice ap P.length cp ∧ wl.ownsRow wb.heap.size 53 2 (.slice ap P.length cp) P.length (flat setC P) ∧ P = (S.take q).foldl keepF [] ∧ Ext wb wl) (fun v _ _ => ln - (intOf v).toNat)
        case atStart => exact ⟨0, [], none, 0, by omega, rfl, rfl, ownS_nil _ _ _ _, rfl, Ext.refl _⟩
        case round =>
          obtain ⟨q, P, ap, cp, hq, rfl, rfl, hPo, hPf, hXq⟩ := hrel
          have HPO := Lib.hid hPo
          have HPF := Lib.hid hPf
          have HXQ := Lib.hid hXq
          clear hPo hPf hXq
          by_cases hlt2 : q < ln
          · have hqS : q < S.length := by rw [HSB2.out.1]; exact hlt2
            obtain ⟨b2, off2, rfl, hcS⟩ := HSB2.out.2.2 (by omega)
            obtain ⟨hc1, hc2⟩ := hcS q hqS
            have k0 := HXQ.out.keep hc1
            have k1 := HXQ.out.keep hc2
            have hzs := zeroSet
            have hql : (q : Int) < ln := by omega
            have HKE := Lib.hid (show (S.take (q + 1)).foldl keepF [] = keepF P S[q] by rw [List.take_succ_eq_append_getElem hqS, List.foldl_append, ← HPF.out]; rfl)
            have hP40 : P.length ≤ 40 := by
              rw [HPF.out]
              exact (keep_fold (S.take q) [] ⟨by simp, fun s hs => by cases hs⟩ (fun s hs => HSB2.out.2.1 s (List.mem_of_mem_take hs))).1
            generalize S[q] = sc2 at *
            obtain ⟨sa, sb⟩ := sc2
            dsimp only at k0 k1
            clear hc1 hc2 hcS hqS
            go_upto_region 17 with fail
            obtain ⟨wd, hwd⟩ : ∃ z, z = wr.alloc (.cells #[.int .i64 sa, .int .u8 sb] 53) := ⟨_, rfl⟩
            have hrd := Row.new wr 53 [.int .i64 sa, .int .u8 sb]
            have hXd := (Ext.refl wr).alloc (.cells #[.int .i64 sa, .int .u8 sb] 53)
            obtain ⟨gd, hgd⟩ : ∃ z, z = wr.heap.size := ⟨_, rfl⟩
            have hrd : Row wd gd 53 [.int .i64 sa, .int .u8 sb] := by rw [hwd, hgd]; exact hrd
            rw [← hwd] at hXd ⊢
            rw [← hgd]
            have q0 : wd.cell? ⟨gd, 0, none⟩ = some (.int .i64 sa) := (hrd.cell? 0).trans rfl
            have q1 : wd.cell? ⟨gd, 1, none⟩ = some (.int .u8 sb) := (hrd.cell? 1).trans rfl
            have HXD := Lib.hid (HXQ.out.trans hXd)
            have HPD := Lib.hid (ownS_ext HPO.out hXd)
            clear k0 k1 hrd hXd hwd hgd
            by_cases h1 : 0 ≤ sa
            · by_cases h2 : sa < 12
              · by_cases h3 : P.length < 40
                · have h3' : (P.length : Int) < 40 := by omega
                  have HKN := Lib.hid (show keepF P (sa, sb) = P ++ [(sa, sb)] by unfold keepF; rw [if_pos ⟨h1, h2, h3⟩])
                  have hXH := (Ext.refl wd).alloc (.cells #[.int .i64 sa, .int .u8 sb] 53)
                  have hrH := Row.new wd 53 [.int .i64 sa, .int .u8 sb]
                  obtain ⟨a9, c9, w9, hap, ho9, hg9, ha9⟩ := run_append_s (P := Try.prog) _ wb.heap.size 2 (by decide) 45 45 53 _ 16 Try.underlying45 infoSetZ rfl (ownS_ext HPD.out hXH) (a := some ⟨wd.heap.size, 0, none⟩) (m := 1) 1 (news := [.int .i64 sa, .int .u8 sb]) rfl hrH.sl0 (fun e => by cases e) (setC_one (sa, sb)) (by omega) (by omega) (HXD.out.trans hXH).size
                  have hX9 : Ext wb w9 := Ext_grown (base := wb.heap.size) (HXD.out.trans hXH) (Nat.le_refl _) (HXD.out.trans hXH).size hg9 (fun z hz => by
                    cases ap with
                    | none => simp [Value.ownBlock] at hz
                    | some a0 =>
                      simp [Value.ownBlock] at hz
                      subst hz
                      exact (ownS_lt HPO.out a0 rfl).1)
                  have HO9 := Lib.hid (show w9.ownsRow wb.heap.size 53 2 (.slice a9 (P ++ [(sa, sb)]).length c9) (P ++ [(sa, sb)]).length (flat setC (P ++ [(sa, sb)])) from by
                    rw [List.length_append, OwnS.flat_append, OwnS.flat_one]
                    exact ho9)
                  have HX9 := Lib.hid hX9
                  obtain ⟨lP, hlP⟩ : ∃ z, z = P.length := ⟨_, rfl⟩
                  have HLP := Lib.hid hlP
                  rw [← hlP] at hap h3' ⊢
                  clear hXH hrH ho9 hg9 ha9 hX9 h3 hlP hP40
                  go_wp2_with (first
                    | (refine wpList_oneSet rfl _ rfl (sa, sb) rfl ?_)
                    | (at_builtin; refine Guard.wpList_append_want _ rfl _ _ _ _ rfl (.slice ap lP cp) (.slice (some ⟨wd.heap.size, 0, none⟩) 1 1) rfl rfl _ _ (by with_reducible exact hap) ?_))
                  go_roundw
                  case rel => exact ⟨q + 1, P ++ [(sa, sb)], a9, c9, hlt2, by go_num, by rw [List.length_append, ← HLP.out]; rfl, HO9.out, by rw [HKE.out, HKN.out], HX9.out⟩
                  case measure => simp [intOf]; omega
                · have h3' : ¬ (P.length : Int) < 40 := by omega
                  have HKN := Lib.hid (show keepF P (sa, sb) = P by unfold keepF; rw [if_neg (fun h => h3 h.2.2)])
                  clear h3 hP40
                  go_wp2_with fail
                  go_roundw
                  case rel => exact ⟨q + 1, P, ap, cp, hlt2, by go_num, rfl, HPD.out, by rw [HKE.out, HKN.out], HXD.out⟩
                  case measure => simp [intOf]; omega
              · have HKN := Lib.hid (show keepF P (sa, sb) = P by unfold keepF; rw [if_neg (fun h => h2 h.2.1)])
                clear hP40
                go_wp2_with fail
                go_roundw
                case rel => exact ⟨q + 1, P, ap, cp, hlt2, by go_num, rfl, HPD.out, by rw [HKE.out, HKN.out], HXD.out⟩
                case measure => simp [intOf]; omega
            · have HKN := Lib.hid (show keepF P (sa, sb) = P by unfold keepF; rw [if_neg (fun h => h1 h.1)])
              clear hP40
              go_wp2_with fail
              go_roundw
              case rel => exact ⟨q + 1, P, ap, cp, hlt2, by go_num, rfl, HPD.out, by rw [HKE.out, HKN.out], HXD.out⟩
              case measure => simp [intOf]; omega
          · obtain rfl : q = ln := by omega
            have hPS : P = S.foldl keepF [] := by rw [HPF.out, List.take_of_length_le (Nat.le_of_eq HSB2.out.1)]
            have HK := Lib.hid (show P.length ≤ 40 ∧ ∀ s ∈ P, 0 ≤ s.1 ∧ s.1 ≤ 11 ∧ 0 ≤ s.2 ∧ s.2 ≤ 255 from by
              rw [hPS]
              exact keep_fold S [] ⟨by simp, fun s hs => by cases hs⟩ HSB2.out.2.1)
            have HSI := Lib.hid (setsIn_own HPO.out (fun s hs => (HK.out.2 s hs).2.2))
            have HAQ := Lib.hid (HAB.out.ext HXQ.out)
            have HDD := Lib.hid (Dead_atM HAQ.out)
            obtain ⟨lP, hlP⟩ : ∃ z, z = P.length := ⟨_, rfl⟩
            have HLP := Lib.hid hlP
            rw [← hlP]
            clear hPS d0 d1 d2 d3 d4 d5 hlP hlt2 hq
            go_wp2_with fail
            refine HDD.out.mono ?_
            rintro e w' ⟨rfl, rfl⟩
            cases hd : D.dead
            · have HD0 := Lib.hid hd
              have HD60 := Lib.hid (show D.secs.length = 60 from by
                rcases HINV.out.2 with h | h
                · exact h.2.2.1
                · rw [hd] at h; exact absurd h.1 (by decide))
              have HWB0 := Lib.hid (show W = nowB D.secs from by
                rcases HINV.out.2 with h | h
                · exact h.2.2.2.2.symm
                · rw [hd] at h; exact absurd h.1 (by decide))
              have HWB := Lib.hid (show isBytes W ∧ W.length = 768 from by
                rw [HWB0.out]
                exact ⟨nowB_bytes HWF.out HD60.out, nowB_len _⟩)
              have HPP := Lib.hid (patches_ok 0 ap P.length cp (.int .i64 0) (.int .u8 0) (.slice none 0 0) (.int .u64 0) P wr (by decide) (by decide) HSI.out (by have := HK.out.1; omega))
              rw [← HLP.out] at HPP
              have hza := zeroAct
              clear hd HDD
              go_wp2_with fail
              refine HPP.out.mono ?_
              rintro e w5 ⟨ao, co, O, rfl, hO, hOm, h5⟩
              have HX5 := Lib.hid (HXQ.out.trans h5)
              obtain ⟨X, hXX⟩ : ∃ X : Nat → Prop, X = fun q => (q = gj ∨ q = gA) ∨ (wb.heap.size ≤ q ∧ q < w5.heap.size) := ⟨_, rfl⟩
              have hA5 : AtM w1 g gs sc D X w5 := HAB.out.add HX5.out (fun q hq => by rw [hXX] at hq; exact hq)
              have hPats : PatsIn X w5 ao O.length (patchesP P) := by
                have h1 := hO.pats
                rw [hOm] at h1
                exact h1.mono (fun q hq => by
                  rw [hXX]
                  rcases hq with hq | hq
                  · exact hq.elim
                  · exact .inr ⟨Nat.le_trans HXQ.out.size hq.1, hq.2⟩)
              have hlO : O.length = P.length := by
                have h1 := congrArg List.length hOm
                rw [List.length_map] at h1
                rw [h1]
                unfold patchesP
                rw [List.length_map]
              have hP40 := HK.out.1
              have hcap := ownS_cap hO.own
              have hXG : X gj := by rw [hXX]; exact .inl (.inl rfl)
              have HXG := Lib.hid (show ∀ q, (q = gj ∨ q = gA) → X q from fun q hq => by rw [hXX]; exact .inl hq)
              have HXP := Lib.hid (show ∀ ad, ap = some ad → X ad.block ∧ ad.block ≠ gj from fun ad e => by
                have h1 := ownS_lt HPO.out ad e
                have h2 := HRJ.out.lt
                have h3 := h5.size
                rw [hXX]
                exact ⟨.inr ⟨h1.1, by omega⟩, by omega⟩)
              have hnn := HINV.out.1
              obtain ⟨s6, hs6, hor⟩ := ainv_commit HINV.out HD0.out (by omega) HK.out
              have HW6 := Lib.hid (commit_wf (s := (nn : Int)) HWF.out hPats.2.1 (by rw [hPats.1]; omega))
              have HCM := Lib.hid (Commit_ok (nk := 47) hA5 HWF.out (HRJ.out.ext HX5.out) hXG (by decide) (by decide) (by omega) ao O.length co (patchesP P) hPats (by omega) hcap.1 hcap.2 (by omega))
              have HV6 := Lib.hid hs6
              have HOR := Lib.hid hor
              have HPO5 := Lib.hid (ownS_ext HPO.out h5)
              have HOB5 := Lib.hid (ownS_ext HOB.out HX5.out)
              clear hO hOm h5 hXX hA5 hPats hcap hXG HPP hza hlO hP40 hs6 hor
              generalize commitR D 12 (47 + 1 : Nat) nn (patchesP P) = CR at *
              obtain ⟨D6, v6, c6⟩ := CR
              go_wp2_with fail
              refine HCM.out.mono ?_
              rintro e w6 ⟨rfl, hA6, hr6, hs6⟩
              have HA6 := Lib.hid (hA6.sub HXG.out)
              have HR6 := Lib.hid (show Row w6 gj 67 (jRow g 12 48 s6) from by
                have h := HV6.out
                rw [h] at hr6
                exact hr6)
              have HO6 := Lib.hid (ownS_block HOB5.out (fun ad e => by cases e; exact hs6.2 gA ⟨HXG.out gA (.inr rfl), Ne.symm HNA.out⟩))
              have HPO6 := Lib.hid (ownS_block HPO5.out (fun ad e => hs6.2 ad.block (HXP.out ad e)))
              clear hA6 hr6 hs6 HCM
              have hor := HOR.out
              clear HOR
              rw [HLP.out]
              rcases hor with ⟨hc, hdd, hai⟩ | ⟨hc, hdd, hai⟩
              · have HI6 := Lib.hid hai
                have HC0 := Lib.hid hdd
                have hcode : c6 = 0 := hc
                subst hcode
                clear hai hdd hc
                obtain ⟨Zs, hbz, hXc⟩ := bytes_row w6 5 HWB.out.1
                have hcv := Lib.run_convert_string_bytes (P := Try.prog) w6 9 34 5 SW Try.underlying9 Try.underlying34 Try.underlying5
                rw [← HSW.out] at hbz hXc
                have hsz : SW.size = 768 := by rw [HSW.out, Ops.strOf_size]; exact HWB.out.2
                have hge := grownCap_ge w6 SW.size 0 5
                rw [hsz] at hcv hge
                obtain ⟨NC, hNC⟩ : ∃ z, z = grownCap w6 768 0 5 := ⟨_, rfl⟩
                obtain ⟨gB, hgB⟩ : ∃ z, z = w6.heap.size := ⟨_, rfl⟩
                obtain ⟨wc, hwc⟩ : ∃ z, z = Lib.bytesWorld w6 5 SW := ⟨_, rfl⟩
                rw [← hNC] at hcv hge
                rw [← hgB] at hcv hbz
                rw [← hwc] at hcv hbz hXc
                have HBZ := Lib.hid hbz
                have HXC := Lib.hid hXc
                have HGE := Lib.hid hge
                have HGBN := Lib.hid hgB
                obtain ⟨N, hN⟩ : ∃ z, z = 768 + Zs.length := ⟨_, rfl⟩
                have HN := Lib.hid hN
                have hLW : (ints .u8 W ++ Zs).length = N := by rw [List.length_append, ints_length, HWB.out.2, hN]
                rw [hLW] at HBZ
                clear hbz hXc hsz hge hNC hgB hwc hN hLW
                go_wp2_with fail
                clear hcv
                go_loopw [97] (fun v wl => ∃ (q : Nat) (V : List Int), q ≤ P.length ∧ v = .int .i64 q ∧ V = nowB ((patchesP (P.take q)).foldl setS D.secs) ∧ wl.heap[gB]? = some (.cells (ints .u8 V ++ Zs).toArray 5 (N, N + 1)) ∧ Ext w6 wl) (fun v _ => P.length - (intOf v).toNat)
                case atStart => exact ⟨0, W, by omega, rfl, HWB0.out, HBZ.out, HXC.out⟩
                case round =>
                  obtain ⟨q, V, hq, rfl, hV, hbz, hX⟩ := hrel
                  have HV := Lib.hid hV
                  have HBZ := Lib.hid hbz
                  have HX := Lib.hid hX
                  clear hV hbz hX
                  by_cases hlq : q < P.length
                  · obtain ⟨gP, e, _, hr, _⟩ := ownS_elem setC_len (ownS_ext HPO6.out HX.out) rfl hlq
                    have hb := HK.out.2 _ (List.getElem_mem hlq)
                    have HVN := Lib.hid (patches_take hlq D.secs)
                    have k0 : wr.cell? ⟨gP, q * 2, none⟩ = some (.int .i64 P[q].1) := by simpa using hr 0 _ rfl
                    have k1 : wr.cell? ⟨gP, q * 2 + 1, none⟩ = some (.int .u8 P[q].2) := hr 1 _ rfl
                    generalize P[q] = sc2 at *
                    obtain ⟨sa, sb⟩ := sc2
                    dsimp only at k0 k1 hb
                    obtain ⟨pn, rfl⟩ : ∃ pn : Nat, sa = pn := ⟨sa.toNat, by omega⟩
                    have hzs := zeroSet
                    have hql : (q : Int) < P.length := by omega
                    have HPN := Lib.hid hb
                    have HPV := Lib.hid e
                    rw [e]
                    clear hr hb e
                    go_upto_region 26 with fail
                    obtain ⟨wd, hwd⟩ : ∃ z, z = wr.alloc (.cells #[.int .i64 pn, .int .u8 sb] 53) := ⟨_, rfl⟩
                    have hrd := Row.new wr 53 [.int .i64 pn, .int .u8 sb]
                    have hXd := (Ext.refl wr).alloc (.cells #[.int .i64 pn, .int .u8 sb] 53)
                    obtain ⟨gd, hgd⟩ : ∃ z, z = wr.heap.size := ⟨_, rfl⟩
                    have hrd : Row wd gd 53 [.int .i64 pn, .int .u8 sb] := by rw [hwd, hgd]; exact hrd
                    rw [← hwd] at hXd ⊢
                    rw [← hgd]
                    have hgBl : gB < wr.heap.size := (Array.getElem?_eq_some_iff.1 HBZ.out).1
                    have HGD := Lib.hid (show gd ≠ gB by omega)
                    have HXD := Lib.hid hXd
                    have HBD := Lib.hid ((hXd.block gB hgBl).trans HBZ.out)
                    have q0 : wd.cell? ⟨gd, 0, none⟩ = some (.int .i64 pn) := (hrd.cell? 0).trans rfl
                    have q1 : wd.cell? ⟨gd, 1, none⟩ = some (.int .u8 sb) := (hrd.cell? 1).trans rfl
                    have HRD := Lib.hid hrd
                    obtain ⟨lo, hlo⟩ : ∃ z, z = 64 * pn := ⟨_, rfl⟩
                    obtain ⟨p1, hp1⟩ : ∃ z, z = pn + 1 := ⟨_, rfl⟩
                    obtain ⟨hi64, hhi⟩ : ∃ z, z = 64 * pn + 64 := ⟨_, rfl⟩
                    have hpn := HPN.out
                    have HWR := Lib.hid (show IntKind.i64.wrap ((pn : Int) * 64) = (lo : Int) ∧ IntKind.i64.wrap ((pn : Int) + 1) = (p1 : Int) ∧ IntKind.i64.wrap ((p1 : Int) * 64) = (hi64 : Int) from by
                      refine ⟨?_, ?_, ?_⟩
                      · rw [IntWalk.i64_in _ (by omega)]; omega
                      · rw [IntWalk.i64_in _ (by omega)]; omega
                      · rw [IntWalk.i64_in _ (by omega)]; omega)
                    have HSLI := Lib.hid (fun v : World => run_slice_mid1 v gB 768 NC lo hi64 (by omega) (by have := HGE.out; omega) (by have := HGE.out; omega))
                    rw [show hi64 - lo = 64 by omega] at HSLI
                    have HLO := Lib.hid (And.intro hlo hhi)
                    have HPNB := Lib.hid (show pn < 12 by omega)
                    clear k0 k1 hwd hrd hXd hgd hgBl hlo hp1 hhi hpn hql
                    refine wp_region_held_drew (S := (fun v => v.cell? ⟨gd, 0, none⟩ = some (.int .i64 pn) ∧ v.cell? ⟨gd, 1, none⟩ = some (.int .u8 sb))) (by kernel_rfl) ⟨q0, q1⟩ (fun hHeld => ?_)
                    have HXD5 := Lib.hid (show Ext wd wd.drew from (Ext.refl _).drew)
                    generalize wd.drew = v5 at *
                    clear q0 q1
                    refine takeD (i := 0) (v := ?_) rfl rfl (by kernel_rfl) (by kernel_rfl) (by kernel_rfl) (fun _ _ _ h => h) (Or.inl ⟨by rfl, ?_⟩) hHeld ?_
                    rotate_left
                    · (intro v hv; (obtain ⟨q0, q1⟩ := hv; obtain ⟨w1a, w1b, w1c⟩ := HWR.out); go_simp; try (with_reducible rfl))
                    (try simp only [List.setIfInBounds_toArray, List.set_cons_zero, List.set_cons_succ])
                    refine takeD (i := 1) (v := ?_) rfl rfl (by kernel_rfl) (by kernel_rfl) (by kernel_rfl) (fun _ _ _ h => h) (Or.inl ⟨by rfl, ?_⟩) hHeld ?_
                    rotate_left
                    · (intro v hv; (obtain ⟨q0, q1⟩ := hv; obtain ⟨w1a, w1b, w1c⟩ := HWR.out); go_simp; try (with_reducible rfl))
                    (try simp only [List.setIfInBounds_toArray, List.set_cons_zero, List.set_cons_succ])
                    refine takeD (i := 2) (v := ?_) rfl rfl (by kernel_rfl) (by kernel_rfl) (by kernel_rfl) (fun _ _ _ h => h) (Or.inl ⟨by rfl, ?_⟩) hHeld ?_
                    rotate_left
                    · (intro v hv; (obtain ⟨q0, q1⟩ := hv; obtain ⟨w1a, w1b, w1c⟩ := HWR.out); go_simp; try (with_reducible rfl))
                    (try simp only [List.setIfInBounds_toArray, List.set_cons_zero, List.set_cons_succ])
                    refine takeD (i := 3) (v := ?_) rfl rfl (by kernel_rfl) (by kernel_rfl) (by kernel_rfl) (fun _ _ _ h => h) (Or.inl ⟨by rfl, ?_⟩) hHeld ?_
                    rotate_left
                    · (intro v hv; (obtain ⟨q0, q1⟩ := hv; obtain ⟨w1a, w1b, w1c⟩ := HWR.out); go_simp; try (with_reducible rfl))
                    (try simp only [List.setIfInBounds_toArray, List.set_cons_zero, List.set_cons_succ])
                    refine takeD (i := 4) (v := ?_) rfl rfl (by kernel_rfl) (by kernel_rfl) (by kernel_rfl) (fun _ _ _ h => h) (Or.inl ⟨by rfl, ?_⟩) hHeld ?_
                    rotate_left
                    · (intro v hv; (obtain ⟨q0, q1⟩ := hv; obtain ⟨w1a, w1b, w1c⟩ := HWR.out); go_simp; try (with_reducible rfl))
                    (try simp only [List.setIfInBounds_toArray, List.set_cons_zero, List.set_cons_succ])
                    refine takeD (i := 5) (v := ?_) rfl rfl (by kernel_rfl) (by kernel_rfl) (by kernel_rfl) (fun _ _ _ h => h) (Or.inl ⟨by rfl, ?_⟩) hHeld ?_
                    rotate_left
                    · (intro v hv; (obtain ⟨q0, q1⟩ := hv; obtain ⟨w1a, w1b, w1c⟩ := HWR.out); go_simp; try (with_reducible rfl))
                    (try simp only [List.setIfInBounds_toArray, List.set_cons_zero, List.set_cons_succ])
                    refine takeD (i := 6) (v := ?_) rfl rfl (by kernel_rfl) (by kernel_rfl) (by kernel_rfl) (fun _ _ _ h => h) (Or.inl ⟨by rfl, ?_⟩) hHeld ?_
                    rotate_left
                    · (intro v hv; (obtain ⟨q0, q1⟩ := hv; obtain ⟨w1a, w1b, w1c⟩ := HWR.out); go_simp; try (with_reducible rfl))
                    (try simp only [List.setIfInBounds_toArray, List.set_cons_zero, List.set_cons_succ])
                    refine takeD (i := 7) (v := ?_) rfl rfl (by kernel_rfl) (by kernel_rfl) (by kernel_rfl) (fun _ _ _ h => h) (Or.inl ⟨by rfl, ?_⟩) hHeld ?_
                    rotate_left
                    · (intro v hv; (obtain ⟨q0, q1⟩ := hv; obtain ⟨w1a, w1b, w1c⟩ := HWR.out); go_simp; try (with_reducible rfl))
                    (try simp only [List.setIfInBounds_toArray, List.set_cons_zero, List.set_cons_succ])
                    refine takeD (i := 8) (v := (.slice (some ⟨gB, lo, none⟩) 64 (NC - lo))) rfl rfl (by kernel_rfl) (by kernel_rfl) (by kernel_rfl) (fun _ _ _ h => h) (Or.inl ⟨by rfl, ?_⟩) hHeld ?_
                    · (intro v hv; (obtain ⟨q0, q1⟩ := hv; have hsli := HSLI.out v); go_simp; try (with_reducible rfl))
                    (try simp only [List.setIfInBounds_toArray, List.set_cons_zero, List.set_cons_succ])
                    refine takeD (i := 9) (v := ?_) rfl rfl (by kernel_rfl) (by kernel_rfl) (by kernel_rfl) (fun _ _ _ h => h) (Or.inl ⟨by rfl, ?_⟩) hHeld ?_
                    rotate_left
                    · (intro v hv; (obtain ⟨q0, q1⟩ := hv; obtain ⟨w1a, w1b, w1c⟩ := HWR.out); go_simp; try (with_reducible rfl))
                    (try simp only [List.setIfInBounds_toArray, List.set_cons_zero, List.set_cons_succ])
                    refine takeD (i := 10) (v := ?_) rfl rfl (by kernel_rfl) (by kernel_rfl) (by kernel_rfl) (fun _ _ _ h => h) (Or.inl ⟨by rfl, ?_⟩) hHeld ?_
                    rotate_left
                    · (intro v hv; (obtain ⟨q0, q1⟩ := hv; obtain ⟨w1a, w1b, w1c⟩ := HWR.out); go_simp; try (with_reducible rfl))
                    (try simp only [List.setIfInBounds_toArray, List.set_cons_zero, List.set_cons_succ])
                    refine wpAnyH_ready (rs := [11]) (by kernel_rfl) (by simp) ?_
                    refine AllReadyH.cons rfl (fun K hK => ?_) AllReadyH.nil
                    go_simp
                    refine (patch_ok 0 sb _ (by have := HPN.out; omega)).mono ?_
                    rintro e v6 ⟨a5, rfl, ha5, hr6, h6⟩
                    have HX56 := Lib.hid (HXD5.out.trans h6)
                    have HR6P := Lib.hid hr6
                    have hg6 := (HRD.out.ext HX56.out)
                    refine hK.out _ _ ⟨(hg6.cell? 0).trans rfl, (hg6.cell? 1).trans rfl⟩ (fun hHeld => ?_)
                    clear hK ha5 hr6 h6 hg6
                    refine takeD (i := 12) (v := (.slice (some ⟨a5, 0, none⟩) 64 64)) rfl rfl (by kernel_rfl) (by kernel_rfl) (by kernel_rfl) (fun _ _ _ h => h) (Or.inl ⟨by rfl, ?_⟩) hHeld ?_
                    · (intro v hv; (have hfl := field_patch 0 sb a5 v); go_simp; try (with_reducible rfl))
                    (try simp only [List.setIfInBounds_toArray, List.set_cons_zero, List.set_cons_succ])
                    have hb6 : v6.heap[gB]? = some (.cells (ints .u8 V ++ Zs).toArray 5 (N, N + 1)) := (HX56.out.block gB ((Array.getElem?_eq_some_iff.1 HBD.out).1)).trans HBD.out
                    have hVl : V.length = 768 := by rw [HV.out]; exact nowB_len _
                    have hcp := copyF (P := Try.prog) v6 34 34 3 5 (o := lo) (NC - lo) 64 64 Try.underlying34 (show (Try.prog.info? 5).map (·.size) = some 1 by kernel_rfl) hb6 (by rw [List.length_append, ints_length, hVl, HN.out]) HR6P.out.sl0 (by rw [ints_length]; exact allB_len _) (by have := HN.out; have := HLO.out; have := HPNB.out; omega) (ints_oneCell' _ _)
                    obtain ⟨L7, hL7⟩ : ∃ z, z = splice (ints .u8 V ++ Zs) lo (ints .u8 (allB sb)) := ⟨_, rfl⟩
                    rw [← hL7] at hcp
                    have hspl : L7 = ints .u8 (nowB ((patchesP (P.take (q + 1))).foldl setS D.secs)) ++ Zs := by
                      rw [HVN.out, hL7]
                      have hZ : ((patchesP (P.take q)).foldl setS D.secs).length = 60 := by rw [fold_len]; exact HD60.out
                      have h2 := nowB_set hZ HPNB.out (allB_len sb) sb
                      dsimp only
                      rw [h2, ← HV.out]
                      have hlo := HLO.out.1
                      have hpb := HPNB.out
                      unfold splice
                      rw [List.take_append_of_le_length (by rw [ints_length, hVl]; omega), List.drop_append_of_le_length (by rw [ints_length, ints_length, hVl, allB_len]; omega), ints_length, allB_len, ints_take, ints_drop, hlo, ints_append, ints_append]
                      simp [List.append_assoc]
                    have hb7 : (v6.setRow gB L7.toArray).heap[gB]? = some (Obj.cells L7.toArray 5 (N, N + 1)) := Go.setRow_heap v6 gB _ _ _ _ hb6
                    have hX7 : Ext w6 (v6.setRow gB L7.toArray) := (HX.out.trans (HXD.out.trans HX56.out)).setRow (Nat.le_of_eq HGBN.out.symm) _
                    have hg7 := (HRD.out.ext HX56.out).setRow_other L7.toArray HGD.out
                    have HSPL := Lib.hid hspl
                    clear hspl hL7
                    refine wpAnyH_ready (rs := [13]) (by kernel_rfl) (by simp) ?_
                    refine AllReadyH.cons rfl (fun K hK => ?_) AllReadyH.nil
                    go_simp
                    refine hK.out _ _ ⟨(hg7.cell? 0).trans rfl, (hg7.cell? 1).trans rfl⟩ (fun hHeld => ?_)
                    clear hK hcp hb6 hVl hg7
                    refine wpAnyH_done (by kernel_rfl) ?_ _
                    have HBN := Lib.hid (hb7.trans (congrArg (fun l : List Value => some (Obj.cells l.toArray 5 (N, N + 1))) HSPL.out))
                    have HX7 := Lib.hid hX7
                    clear hHeld hb7 hX7
                    generalize v6.setRow gB L7.toArray = v7 at *
                    have hP40 := HK.out.1
                    go_wp2
                    go_roundw
                    case rel => exact ⟨q + 1, _, hlq, by go_num, rfl, HBN.out, HX7.out⟩
                    case measure => simp [intOf]; omega
                  · obtain rfl : q = P.length := by omega
                    have hcv2 := conv8 wr NC (sl_heap HBZ.out) (show V.length = 768 by rw [HV.out]; exact nowB_len _)
                    have hVE : V = nowB ((patchesP P).foldl setS D.secs) := by rw [HV.out, List.take_length]
                    have HA7 := Lib.hid (HA6.out.ext HX.out)
                    have HR7 := Lib.hid (HR6.out.ext HX.out)
                    have HO7 := Lib.hid (ownS_ext HO6.out HX.out)
                    rw [← hVE] at HI6
                    obtain ⟨SV, hSV⟩ : ∃ z, z = Ops.strOf V := ⟨_, rfl⟩
                    rw [← hSV] at hcv2
                    have HSV := Lib.hid hSV
                    clear hSV hVE
                    have HD8 := Lib.hid (show D6.waits = [] ∧ D6.secs.length = 60 ∧ Rest D6.secs s6 ∧ nowB D6.secs = V from by
                      rcases HI6.out.2 with h | h
                      · exact h.2
                      · exact absurd (HC0.out.symm.trans h.1) (by decide))
                    have HNO := Lib.hid (now_ok HA7.out HC0.out HD8.out.2.1)
                    rw [HD8.out.2.2.2, ← HSV.out] at HNO
                    have hq1 : (SV.toList == SV.toList) = true := by simp
                    go_wp2_with fail
                    refine HNO.out.mono ?_
                    rintro e w9 ⟨rfl, h9⟩
                    have HA9 := Lib.hid (HA7.out.ext h9)
                    have HR9 := Lib.hid (HR7.out.ext h9)
                    have HO9 := Lib.hid (ownS_ext HO7.out h9)
                    clear h9 hcv2 HNO
                    go_wp2
                    go_roundw
                    case rel => exact ⟨i + 1, gj, s6, D6, V, V, SV, SV, hlt, by go_num, rfl, rfl, rfl, HSV.out, HSV.out, HNA.out, HA9.out, HR9.out, HO9.out, HI6.out, Wf.mono HW6.out (by omega)⟩
                    case measure => simp [intOf]; omega
              · have HI6 := Lib.hid hai
                have HC0 := Lib.hid hdd
                have hcode : c6 = 6 := hc
                subst hcode
                clear hai hdd hc
                obtain ⟨Zs, hbz, hXc⟩ := bytes_row w6 5 HWB.out.1
                have hcv := Lib.run_convert_string_bytes (P := Try.prog) w6 9 34 5 SW Try.underlying9 Try.underlying34 Try.underlying5
                rw [← HSW.out] at hbz hXc
                have hsz : SW.size = 768 := by rw [HSW.out, Ops.strOf_size]; exact HWB.out.2
                have hge := grownCap_ge w6 SW.size 0 5
                rw [hsz] at hcv hge
                obtain ⟨NC, hNC⟩ : ∃ z, z = grownCap w6 768 0 5 := ⟨_, rfl⟩
                obtain ⟨gB, hgB⟩ : ∃ z, z = w6.heap.size := ⟨_, rfl⟩
                obtain ⟨wc, hwc⟩ : ∃ z, z = Lib.bytesWorld w6 5 SW := ⟨_, rfl⟩
                rw [← hNC] at hcv hge
                rw [← hgB] at hcv hbz
                rw [← hwc] at hcv hbz hXc
                have HBZ := Lib.hid hbz
                have HXC := Lib.hid hXc
                have HGE := Lib.hid hge
                have HGBN := Lib.hid hgB
                obtain ⟨N, hN⟩ : ∃ z, z = 768 + Zs.length := ⟨_, rfl⟩
                have HN := Lib.hid hN
                have hLW : (ints .u8 W ++ Zs).length = N := by rw [List.length_append, ints_length, HWB.out.2, hN]
                rw [hLW] at HBZ
                clear hbz hXc hsz hge hNC hgB hwc hN hLW
                go_wp2_with fail
                clear hcv
                go_loopw [97] (fun v wl => ∃ (q : Nat) (V : List Int), q ≤ P.length ∧ v = .int .i64 q ∧ V = nowB ((patchesP (P.take q)).foldl setS D.secs) ∧ wl.heap[gB]? = some (.cells (ints .u8 V ++ Zs).toArray 5 (N, N + 1)) ∧ Ext w6 wl) (fun v _ => P.length - (intOf v).toNat)
                case atStart => exact ⟨0, W, by omega, rfl, HWB0.out, HBZ.out, HXC.out⟩
                case round =>
                  obtain ⟨q, V, hq, rfl, hV, hbz, hX⟩ := hrel
                  have HV := Lib.hid hV
                  have HBZ := Lib.hid hbz
                  have HX := Lib.hid hX
                  clear hV hbz hX
                  by_cases hlq : q < P.length
                  · obtain ⟨gP, e, _, hr, _⟩ := ownS_elem setC_len (ownS_ext HPO6.out HX.out) rfl hlq
                    have hb := HK.out.2 _ (List.getElem_mem hlq)
                    have HVN := Lib.hid (patches_take hlq D.secs)
                    have k0 : wr.cell? ⟨gP, q * 2, none⟩ = some (.int .i64 P[q].1) := by simpa using hr 0 _ rfl
                    have k1 : wr.cell? ⟨gP, q * 2 + 1, none⟩ = some (.int .u8 P[q].2) := hr 1 _ rfl
                    generalize P[q] = sc2 at *
                    obtain ⟨sa, sb⟩ := sc2
                    dsimp only at k0 k1 hb
                    obtain ⟨pn, rfl⟩ : ∃ pn : Nat, sa = pn := ⟨sa.toNat, by omega⟩
                    have hzs := zeroSet
                    have hql : (q : Int) < P.length := by omega
                    have HPN := Lib.hid hb
                    have HPV := Lib.hid e
                    rw [e]
                    clear hr hb e
                    go_upto_region 26 with fail
                    obtain ⟨wd, hwd⟩ : ∃ z, z = wr.alloc (.cells #[.int .i64 pn, .int .u8 sb] 53) := ⟨_, rfl⟩
                    have hrd := Row.new wr 53 [.int .i64 pn, .int .u8 sb]
                    have hXd := (Ext.refl wr).alloc (.cells #[.int .i64 pn, .int .u8 sb] 53)
                    obtain ⟨gd, hgd⟩ : ∃ z, z = wr.heap.size := ⟨_, rfl⟩
                    have hrd : Row wd gd 53 [.int .i64 pn, .int .u8 sb] := by rw [hwd, hgd]; exact hrd
                    rw [← hwd] at hXd ⊢
                    rw [← hgd]
                    have hgBl : gB < wr.heap.size := (Array.getElem?_eq_some_iff.1 HBZ.out).1
                    have HGD := Lib.hid (show gd ≠ gB by omega)
                    have HXD := Lib.hid hXd
                    have HBD := Lib.hid ((hXd.block gB hgBl).trans HBZ.out)
                    have q0 : wd.cell? ⟨gd, 0, none⟩ = some (.int .i64 pn) := (hrd.cell? 0).trans rfl
                    have q1 : wd.cell? ⟨gd, 1, none⟩ = some (.int .u8 sb) := (hrd.cell? 1).trans rfl
                    have HRD := Lib.hid hrd
                    obtain ⟨lo, hlo⟩ : ∃ z, z = 64 * pn := ⟨_, rfl⟩
                    obtain ⟨p1, hp1⟩ : ∃ z, z = pn + 1 := ⟨_, rfl⟩
                    obtain ⟨hi64, hhi⟩ : ∃ z, z = 64 * pn + 64 := ⟨_, rfl⟩
                    have hpn := HPN.out
                    have HWR := Lib.hid (show IntKind.i64.wrap ((pn : Int) * 64) = (lo : Int) ∧ IntKind.i64.wrap ((pn : Int) + 1) = (p1 : Int) ∧ IntKind.i64.wrap ((p1 : Int) * 64) = (hi64 : Int) from by
                      refine ⟨?_, ?_, ?_⟩
                      · rw [IntWalk.i64_in _ (by omega)]; omega
                      · rw [IntWalk.i64_in _ (by omega)]; omega
                      · rw [IntWalk.i64_in _ (by omega)]; omega)
                    have HSLI := Lib.hid (fun v : World => run_slice_mid1 v gB 768 NC lo hi64 (by omega) (by have := HGE.out; omega) (by have := HGE.out; omega))
                    rw [show hi64 - lo = 64 by omega] at HSLI
                    have HLO := Lib.hid (And.intro hlo hhi)
                    have HPNB := Lib.hid (show pn < 12 by omega)
                    clear k0 k1 hwd hrd hXd hgd hgBl hlo hp1 hhi hpn hql
                    refine wp_region_held_drew (S := (fun v => v.cell? ⟨gd, 0, none⟩ = some (.int .i64 pn) ∧ v.cell? ⟨gd, 1, none⟩ = some (.int .u8 sb))) (by kernel_rfl) ⟨q0, q1⟩ (fun hHeld => ?_)
                    have HXD5 := Lib.hid (show Ext wd wd.drew from (Ext.refl _).drew)
                    generalize wd.drew = v5 at *
                    clear q0 q1
                    refine takeD (i := 0) (v := ?_) rfl rfl (by kernel_rfl) (by kernel_rfl) (by kernel_rfl) (fun _ _ _ h => h) (Or.inl ⟨by rfl, ?_⟩) hHeld ?_
                    rotate_left
                    · (intro v hv; (obtain ⟨q0, q1⟩ := hv; obtain ⟨w1a, w1b, w1c⟩ := HWR.out); go_simp; try (with_reducible rfl))
                    (try simp only [List.setIfInBounds_toArray, List.set_cons_zero, List.set_cons_succ])
                    refine takeD (i := 1) (v := ?_) rfl rfl (by kernel_rfl) (by kernel_rfl) (by kernel_rfl) (fun _ _ _ h => h) (Or.inl ⟨by rfl, ?_⟩) hHeld ?_
                    rotate_left
                    · (intro v hv; (obtain ⟨q0, q1⟩ := hv; obtain ⟨w1a, w1b, w1c⟩ := HWR.out); go_simp; try (with_reducible rfl))
                    (try simp only [List.setIfInBounds_toArray, List.set_cons_zero, List.set_cons_succ])
                    refine takeD (i := 2) (v := ?_) rfl rfl (by kernel_rfl) (by kernel_rfl) (by kernel_rfl) (fun _ _ _ h => h) (Or.inl ⟨by rfl, ?_⟩) hHeld ?_
                    rotate_left
                    · (intro v hv; (obtain ⟨q0, q1⟩ := hv; obtain ⟨w1a, w1b, w1c⟩ := HWR.out); go_simp; try (with_reducible rfl))
                    (try simp only [List.setIfInBounds_toArray, List.set_cons_zero, List.set_cons_succ])
                    refine takeD (i := 3) (v := ?_) rfl rfl (by kernel_rfl) (by kernel_rfl) (by kernel_rfl) (fun _ _ _ h => h) (Or.inl ⟨by rfl, ?_⟩) hHeld ?_
                    rotate_left
                    · (intro v hv; (obtain ⟨q0, q1⟩ := hv; obtain ⟨w1a, w1b, w1c⟩ := HWR.out); go_simp; try (with_reducible rfl))
                    (try simp only [List.setIfInBounds_toArray, List.set_cons_zero, List.set_cons_succ])
                    refine takeD (i := 4) (v := ?_) rfl rfl (by kernel_rfl) (by kernel_rfl) (by kernel_rfl) (fun _ _ _ h => h) (Or.inl ⟨by rfl, ?_⟩) hHeld ?_
                    rotate_left
                    · (intro v hv; (obtain ⟨q0, q1⟩ := hv; obtain ⟨w1a, w1b, w1c⟩ := HWR.out); go_simp; try (with_reducible rfl))
                    (try simp only [List.setIfInBounds_toArray, List.set_cons_zero, List.set_cons_succ])
                    refine takeD (i := 5) (v := ?_) rfl rfl (by kernel_rfl) (by kernel_rfl) (by kernel_rfl) (fun _ _ _ h => h) (Or.inl ⟨by rfl, ?_⟩) hHeld ?_
                    rotate_left
                    · (intro v hv; (obtain ⟨q0, q1⟩ := hv; obtain ⟨w1a, w1b, w1c⟩ := HWR.out); go_simp; try (with_reducible rfl))
                    (try simp only [List.setIfInBounds_toArray, List.set_cons_zero, List.set_cons_succ])
                    refine takeD (i := 6) (v := ?_) rfl rfl (by kernel_rfl) (by kernel_rfl) (by kernel_rfl) (fun _ _ _ h => h) (Or.inl ⟨by rfl, ?_⟩) hHeld ?_
                    rotate_left
                    · (intro v hv; (obtain ⟨q0, q1⟩ := hv; obtain ⟨w1a, w1b, w1c⟩ := HWR.out); go_simp; try (with_reducible rfl))
                    (try simp only [List.setIfInBounds_toArray, List.set_cons_zero, List.set_cons_succ])
                    refine takeD (i := 7) (v := ?_) rfl rfl (by kernel_rfl) (by kernel_rfl) (by kernel_rfl) (fun _ _ _ h => h) (Or.inl ⟨by rfl, ?_⟩) hHeld ?_
                    rotate_left
                    · (intro v hv; (obtain ⟨q0, q1⟩ := hv; obtain ⟨w1a, w1b, w1c⟩ := HWR.out); go_simp; try (with_reducible rfl))
                    (try simp only [List.setIfInBounds_toArray, List.set_cons_zero, List.set_cons_succ])
                    refine takeD (i := 8) (v := (.slice (some ⟨gB, lo, none⟩) 64 (NC - lo))) rfl rfl (by kernel_rfl) (by kernel_rfl) (by kernel_rfl) (fun _ _ _ h => h) (Or.inl ⟨by rfl, ?_⟩) hHeld ?_
                    · (intro v hv; (obtain ⟨q0, q1⟩ := hv; have hsli := HSLI.out v); go_simp; try (with_reducible rfl))
                    (try simp only [List.setIfInBounds_toArray, List.set_cons_zero, List.set_cons_succ])
                    refine takeD (i := 9) (v := ?_) rfl rfl (by kernel_rfl) (by kernel_rfl) (by kernel_rfl) (fun _ _ _ h => h) (Or.inl ⟨by rfl, ?_⟩) hHeld ?_
                    rotate_left
                    · (intro v hv; (obtain ⟨q0, q1⟩ := hv; obtain ⟨w1a, w1b, w1c⟩ := HWR.out); go_simp; try (with_reducible rfl))
                    (try simp only [List.setIfInBounds_toArray, List.set_cons_zero, List.set_cons_succ])
                    refine takeD (i := 10) (v := ?_) rfl rfl (by kernel_rfl) (by kernel_rfl) (by kernel_rfl) (fun _ _ _ h => h) (Or.inl ⟨by rfl, ?_⟩) hHeld ?_
                    rotate_left
                    · (intro v hv; (obtain ⟨q0, q1⟩ := hv; obtain ⟨w1a, w1b, w1c⟩ := HWR.out); go_simp; try (with_reducible rfl))
                    (try simp only [List.setIfInBounds_toArray, List.set_cons_zero, List.set_cons_succ])
                    refine wpAnyH_ready (rs := [11]) (by kernel_rfl) (by simp) ?_
                    refine AllReadyH.cons rfl (fun K hK => ?_) AllReadyH.nil
                    go_simp
                    refine (patch_ok 0 sb _ (by have := HPN.out; omega)).mono ?_
                    rintro e v6 ⟨a5, rfl, ha5, hr6, h6⟩
                    have HX56 := Lib.hid (HXD5.out.trans h6)
                    have HR6P := Lib.hid hr6
                    have hg6 := (HRD.out.ext HX56.out)
                    refine hK.out _ _ ⟨(hg6.cell? 0).trans rfl, (hg6.cell? 1).trans rfl⟩ (fun hHeld => ?_)
                    clear hK ha5 hr6 h6 hg6
                    refine takeD (i := 12) (v := (.slice (some ⟨a5, 0, none⟩) 64 64)) rfl rfl (by kernel_rfl) (by kernel_rfl) (by kernel_rfl) (fun _ _ _ h => h) (Or.inl ⟨by rfl, ?_⟩) hHeld ?_
                    · (intro v hv; (have hfl := field_patch 0 sb a5 v); go_simp; try (with_reducible rfl))
                    (try simp only [List.setIfInBounds_toArray, List.set_cons_zero, List.set_cons_succ])
                    have hb6 : v6.heap[gB]? = some (.cells (ints .u8 V ++ Zs).toArray 5 (N, N + 1)) := (HX56.out.block gB ((Array.getElem?_eq_some_iff.1 HBD.out).1)).trans HBD.out
                    have hVl : V.length = 768 := by rw [HV.out]; exact nowB_len _
                    have hcp := copyF (P := Try.prog) v6 34 34 3 5 (o := lo) (NC - lo) 64 64 Try.underlying34 (show (Try.prog.info? 5).map (·.size) = some 1 by kernel_rfl) hb6 (by rw [List.length_append, ints_length, hVl, HN.out]) HR6P.out.sl0 (by rw [ints_length]; exact allB_len _) (by have := HN.out; have := HLO.out; have := HPNB.out; omega) (ints_oneCell' _ _)
                    obtain ⟨L7, hL7⟩ : ∃ z, z = splice (ints .u8 V ++ Zs) lo (ints .u8 (allB sb)) := ⟨_, rfl⟩
                    rw [← hL7] at hcp
                    have hspl : L7 = ints .u8 (nowB ((patchesP (P.take (q + 1))).foldl setS D.secs)) ++ Zs := by
                      rw [HVN.out, hL7]
                      have hZ : ((patchesP (P.take q)).foldl setS D.secs).length = 60 := by rw [fold_len]; exact HD60.out
                      have h2 := nowB_set hZ HPNB.out (allB_len sb) sb
                      dsimp only
                      rw [h2, ← HV.out]
                      have hlo := HLO.out.1
                      have hpb := HPNB.out
                      unfold splice
                      rw [List.take_append_of_le_length (by rw [ints_length, hVl]; omega), List.drop_append_of_le_length (by rw [ints_length, ints_length, hVl, allB_len]; omega), ints_length, allB_len, ints_take, ints_drop, hlo, ints_append, ints_append]
                      simp [List.append_assoc]
                    have hb7 : (v6.setRow gB L7.toArray).heap[gB]? = some (Obj.cells L7.toArray 5 (N, N + 1)) := Go.setRow_heap v6 gB _ _ _ _ hb6
                    have hX7 : Ext w6 (v6.setRow gB L7.toArray) := (HX.out.trans (HXD.out.trans HX56.out)).setRow (Nat.le_of_eq HGBN.out.symm) _
                    have hg7 := (HRD.out.ext HX56.out).setRow_other L7.toArray HGD.out
                    have HSPL := Lib.hid hspl
                    clear hspl hL7
                    refine wpAnyH_ready (rs := [13]) (by kernel_rfl) (by simp) ?_
                    refine AllReadyH.cons rfl (fun K hK => ?_) AllReadyH.nil
                    go_simp
                    refine hK.out _ _ ⟨(hg7.cell? 0).trans rfl, (hg7.cell? 1).trans rfl⟩ (fun hHeld => ?_)
                    clear hK hcp hb6 hVl hg7
                    refine wpAnyH_done (by kernel_rfl) ?_ _
                    have HBN := Lib.hid (hb7.trans (congrArg (fun l : List Value => some (Obj.cells l.toArray 5 (N, N + 1))) HSPL.out))
                    have HX7 := Lib.hid hX7
                    clear hHeld hb7 hX7
                    generalize v6.setRow gB L7.toArray = v7 at *
                    have hP40 := HK.out.1
                    go_wp2
                    go_roundw
                    case rel => exact ⟨q + 1, _, hlq, by go_num, rfl, HBN.out, HX7.out⟩
                    case measure => simp [intOf]; omega
                  · obtain rfl : q = P.length := by omega
                    have hcv2 := conv8 wr NC (sl_heap HBZ.out) (show V.length = 768 by rw [HV.out]; exact nowB_len _)
                    have hVE : V = nowB ((patchesP P).foldl setS D.secs) := by rw [HV.out, List.take_length]
                    have HA7 := Lib.hid (HA6.out.ext HX.out)
                    have HR7 := Lib.hid (HR6.out.ext HX.out)
                    have HO7 := Lib.hid (ownS_ext HO6.out HX.out)
                    rw [← hVE] at HI6
                    obtain ⟨SV, hSV⟩ : ∃ z, z = Ops.strOf V := ⟨_, rfl⟩
                    rw [← hSV] at hcv2
                    have HSV := Lib.hid hSV
                    clear hSV hVE
                    have HDE := Lib.hid (Dead_atM HA7.out)
                    rw [HC0.out] at HDE
                    go_wp2_with fail
                    refine HDE.out.mono ?_
                    rintro e w' ⟨rfl, rfl⟩
                    clear hcv2 HDE
                    go_wp2
                    go_roundw
                    case rel => exact ⟨i + 1, gj, s6, D6, W, V, SW, SV, hlt, by go_num, rfl, rfl, rfl, HSW.out, HSV.out, HNA.out, HA7.out, HR7.out, HO7.out, HI6.out, Wf.mono HW6.out (by omega)⟩
                    case measure => simp [intOf]; omega
            · go_wp2
              go_roundw
              case rel => exact ⟨i + 1, gj, nn, D, W, M, SW, SM, hlt, by go_num, rfl, rfl, rfl, HSW.out, HSM.out, HNA.out, HAQ.out, HRJ.out.ext HXQ.out, ownS_ext HOB.out HXQ.out, HINV.out.more (by omega), Wf.mono HWF.out (by omega)⟩
              case measure => simp [intOf]; omega
      by_cases hk1 : kind % 6 = 1
      · have e0 : ((kind : Int) % 6 == 0) = false := by simp; omega
        have e1 : ((kind : Int) % 6 == 1) = true := by simp; omega
        have e2 : ((kind : Int) % 6 == 2) = false := by simp; omega
        clear hk0 hk1
        have HCU := Lib.hid (Cut_atM HAB.out pos)
        have HI6 := Lib.hid (ainv_cut HINV.out pos)
        have HW6 := Lib.hid (cutR_wf HWF.out HPOS.out)
        clear hza
        generalize cutR D pos = D6 at *
        go_wp2_with fail
        refine HCU.out.mono ?_
        rintro e w6 ⟨rfl, hA6, hs6⟩
        have HA6 := Lib.hid hA6
        have HR6 := Lib.hid (hs6.row HRJ.out (.inl rfl))
        have HO6 := Lib.hid (ownS_block HOB.out (fun ad e => by cases e; exact hs6.2 gA (.inr rfl)))
        clear hA6 hs6 HCU d0 d1 d2 d3 d4 d5
        go_wp2
        go_roundw
        case rel => exact ⟨i + 1, gj, nn, D6, W, M, SW, SM, hlt, by go_num, rfl, rfl, rfl, HSW.out, HSM.out, HNA.out, HA6.out, HR6.out, HO6.out, HI6.out.more (by omega), Wf.mono HW6.out (by omega)⟩
        case measure => simp [intOf]; omega
      by_cases hk2 : kind % 6 = 2
      · have e0 : ((kind : Int) % 6 == 0) = false := by simp; omega
        have e1 : ((kind : Int) % 6 == 1) = false := by simp; omega
        have e2 : ((kind : Int) % 6 == 2) = true := by simp; omega
        clear hk0 hk1 hk2
        obtain ⟨s5, V, hs5, hV, hd5, hw5, hE5⟩ := ainv_crash HINV.out there pos
        have HV := Lib.hid hV
        have HS5 := Lib.hid hs5
        have HD5 := Lib.hid (And.intro hd5 hw5)
        have HE5 := Lib.hid hE5
        have HW5 := Lib.hid (secs_crash_wf HWF.out there)
        have HW6 := Lib.hid (cutR_wf HW5.out HPOS.out)
        have HCR := Lib.hid (Crash_atM HAX.out HWF.out (by omega) there)
        clear hza hV hs5 hd5 hw5 hE5
        go_wp2_with fail
        refine HCR.out.mono ?_
        rintro e w5 ⟨rfl, hA5, hs5'⟩
        have HCU := Lib.hid (Cut_atM hA5 pos)
        have HRB5 := Lib.hid (hs5'.row HRB.out (.inr rfl))
        have HO5 := Lib.hid (ownS_block HOB.out (fun ad e => by cases e; exact hs5'.2 gA (.inl (.inr rfl))))
        have f2 : w5.cell? ⟨gb, 2, none⟩ = some (.int .i64 pos) := (HRB5.out.cell? 2).trans rfl
        clear hA5 hs5' HCR d0 d1 d2 d3 d4 d5
        generalize cutR (crashR D there) pos = D5 at *
        go_wp2_with fail
        refine HCU.out.mono ?_
        rintro e w6 ⟨rfl, hA6, hs6⟩
        have HA6 := Lib.hid hA6
        have HRB6 := Lib.hid (hs6.row HRB5.out (.inr rfl))
        have HO6 := Lib.hid (ownS_block HO5.out (fun ad e => by cases e; exact hs6.2 gA (.inl (.inr rfl))))
        have HOP := Lib.hid (open_ends_ok hA6 HW6.out (by omega) HD5.out.1 HD5.out.2 HE5.out (by have := HS5.out; omega))
        clear hA6 hs6 HCU f2 HRB5 HO5
        go_wp2_with fail
        refine HOP.out.mono ?_
        rintro e w7 ⟨gj6, D6, k6, c6, he, ho⟩
        have HOD := Lib.hid ho
        have HRB7 := Lib.hid (ho.same.row HRB6.out (.inr rfl))
        have HO7 := Lib.hid (ownS_block HO6.out (fun ad e => by cases e; exact ho.same.2 gA (.inl (.inr rfl))))
        have HNX := Lib.hid (show gj6 ≠ gA from by
          have h1 := ho.le
          have h2 := (ownS_lt HO6.out _ rfl).2
          dsimp only at h2
          omega)
        have hcode := ho.code
        clear ho HOP HO6 HRB6
        rcases hcode with hc | hc
        · subst hc
          rw [if_pos rfl] at he
          subst he
          have HAT := Lib.hid (HOD.out.at'.sub (Y := fun q => q = gj6 ∨ q = gA) (fun q hq => by
            rcases hq with hq | hq
            · exact .inr hq
            · exact .inl (.inl (.inr hq))))
          have HRT := Lib.hid HOD.out.row
          have HOT := Lib.hid HO7.out
          have HDX := Lib.hid (HOD.out.yes rfl)
          have HWX := Lib.hid HOD.out.wf
          have HSX := Lib.hid HS5.out
          clear HO7 HOD
          have HCT := Lib.hid (Cut_atM HAT.out (-1))
          obtain ⟨cd1, cd2, cd3, _⟩ := cut_dead D6 (-1)
          have HD8 := Lib.hid (show (cutR D6 (-1)).dead = false ∧ (cutR D6 (-1)).waits = [] ∧ (cutR D6 (-1)).secs.length = 60 ∧ Rest (cutR D6 (-1)).secs s5 ∧ nowB (cutR D6 (-1)).secs = V from by
            rw [cd1, cd2, cd3]
            exact HDX.out)
          have HW8 := Lib.hid (cutR_wf HWX.out (n := -1) (by decide))
          clear cd1 cd2 cd3 HDX HWX
          generalize cutR D6 (-1) = D8 at *
          go_wp2_with fail
          refine HCT.out.mono ?_
          rintro e w8 ⟨rfl, hA8, hs8⟩
          have HA8 := Lib.hid hA8
          have HR8 := Lib.hid (hs8.row HRT.out (.inl rfl))
          have HO8 := Lib.hid (ownS_block HOT.out (fun ad e => by cases e; exact hs8.2 gA (.inr rfl)))
          clear hA8 hs8 HCT HAT HRT HOT
          obtain ⟨SV, hSV⟩ : ∃ z, z = Ops.strOf V := ⟨_, rfl⟩
          have HNO := Lib.hid (now_ok HA8.out HD8.out.1 HD8.out.2.2.1)
          rw [HD8.out.2.2.2.2, ← hSV] at HNO
          have HSV := Lib.hid hSV
          have hb3 : (SV.toList == SW.toList) = true ∨ ((SV.toList == SW.toList) = false ∧ (SV.toList == SM.toList) = true) := by
            rcases HV.out with h | h
            · left
              rw [hSV, HSW.out, h]
              simp
            · cases hb : (SV.toList == SW.toList)
              · right
                refine ⟨rfl, ?_⟩
                rw [hSV, HSM.out, h]
                simp
              · exact .inl rfl
          clear hSV
          go_wp2_with fail
          refine HNO.out.mono ?_
          rintro e w9 ⟨rfl, h9⟩
          have HA9 := Lib.hid (HA8.out.ext h9)
          have HR9 := Lib.hid (HR8.out.ext h9)
          have HO9 := Lib.hid (ownS_ext HO8.out h9)
          have HNO2 := Lib.hid (now_ok HA9.out HD8.out.1 HD8.out.2.2.1)
          rw [HD8.out.2.2.2.2, ← HSV.out] at HNO2
          clear h9 HNO HA8 HR8 HO8
          rcases hb3 with hq1 | ⟨hq1, hq2⟩
          · go_wp2_with fail
            refine HNO2.out.mono ?_
            rintro e w10 ⟨rfl, h10⟩
            have HA10 := Lib.hid (HA9.out.ext h10)
            have HR10 := Lib.hid (HR9.out.ext h10)
            have HO10 := Lib.hid (ownS_ext HO9.out h10)
            clear h10
            go_wp2
            go_roundw
            case rel => exact ⟨i + 1, gj6, s5, D8, V, V, SV, SV, hlt, by go_num, rfl, rfl, rfl, HSV.out, HSV.out, HNX.out, HA10.out, HR10.out, HO10.out, ⟨by have := HSX.out; omega, .inl HD8.out⟩, Wf.mono HW8.out (by omega)⟩
            case measure => simp [intOf]; omega
          · go_wp2_with fail
            refine HNO2.out.mono ?_
            rintro e w10 ⟨rfl, h10⟩
            have HA10 := Lib.hid (HA9.out.ext h10)
            have HR10 := Lib.hid (HR9.out.ext h10)
            have HO10 := Lib.hid (ownS_ext HO9.out h10)
            clear h10
            go_wp2
            go_roundw
            case rel => exact ⟨i + 1, gj6, s5, D8, V, V, SV, SV, hlt, by go_num, rfl, rfl, rfl, HSV.out, HSV.out, HNX.out, HA10.out, HR10.out, HO10.out, ⟨by have := HSX.out; omega, .inl HD8.out⟩, Wf.mono HW8.out (by omega)⟩
            case measure => simp [intOf]; omega
        · subst hc
          rw [if_neg (by decide)] at he
          subst he
          have HNN := Lib.hid (HOD.out.no rfl)
          have HCA := Lib.hid (fun t => crash_again HOD.out.at' HOD.out.wf (by omega) HNN.out.2 t)
          have f5 : w7.cell? ⟨gb, 5, none⟩ = some (.int .u64 there) := (HRB7.out.cell? 5).trans rfl
          have hth := HTH.out
          go_wp2_with fail
          refine (HCA.out _).mono ?_
          rintro e w11 ⟨rfl, D11, s11, V11, hA11, hs11, hl11, hw11, hE11, hle11, hV11, hwf11⟩
          subst hV11
          have HOP2 := Lib.hid (open_on hA11 hwf11 (by omega) hl11 hw11 hE11 (by have := HS5.out; omega))
          have HO11 := Lib.hid (ownS_block HO7.out (fun ad e => by cases e; exact hs11.2 gA (.inl (.inl (.inr rfl)))))
          have HSX := Lib.hid (show s11 ≤ i from by have := HS5.out; omega)
          clear hA11 hs11 hl11 hw11 hE11 hle11 hwf11 f5 HCA HO7 HNX hth
          go_wp2_with fail
          refine HOP2.out.mono ?_
          rintro e w12 ⟨gj12, D12, k12, rfl, hg12, hA12, hr12, hs12, hwf12, hd12, _⟩
          have HNX := Lib.hid (show gj12 ≠ gA from by
            have h2 := (ownS_lt HO11.out _ rfl).2
            dsimp only at h2
            omega)
          have HAT := Lib.hid (hA12.sub (Y := fun q => q = gj12 ∨ q = gA) (fun q hq => by
            rcases hq with hq | hq
            · exact .inr hq
            · exact .inl (.inl (.inl (.inr hq)))))
          have HRT := Lib.hid hr12
          have HOT := Lib.hid (ownS_block HO11.out (fun ad e => by cases e; exact hs12.2 gA (.inl (.inl (.inr rfl)))))
          have HDX := Lib.hid (show D12.dead = false ∧ D12.waits = [] ∧ D12.secs.length = 60 ∧ Rest D12.secs s11 ∧ nowB D12.secs = V11 from ⟨hd12.1.1, hd12.2⟩)
          have HWX := Lib.hid hwf12
          clear hg12 hA12 hr12 hs12 hwf12 hd12 HOP2 HO11 HOD
          have HCT := Lib.hid (Cut_atM HAT.out (-1))
          obtain ⟨cd1, cd2, cd3, _⟩ := cut_dead D12 (-1)
          have HD8 := Lib.hid (show (cutR D12 (-1)).dead = false ∧ (cutR D12 (-1)).waits = [] ∧ (cutR D12 (-1)).secs.length = 60 ∧ Rest (cutR D12 (-1)).secs s11 ∧ nowB (cutR D12 (-1)).secs = V11 from by
            rw [cd1, cd2, cd3]
            exact HDX.out)
          have HW8 := Lib.hid (cutR_wf HWX.out (n := -1) (by decide))
          clear cd1 cd2 cd3 HDX HWX
          generalize cutR D12 (-1) = D8 at *
          go_wp2_with fail
          refine HCT.out.mono ?_
          rintro e w8 ⟨rfl, hA8, hs8⟩
          have HA8 := Lib.hid hA8
          have HR8 := Lib.hid (hs8.row HRT.out (.inl rfl))
          have HO8 := Lib.hid (ownS_block HOT.out (fun ad e => by cases e; exact hs8.2 gA (.inr rfl)))
          clear hA8 hs8 HCT HAT HRT HOT
          obtain ⟨SV, hSV⟩ : ∃ z, z = Ops.strOf V11 := ⟨_, rfl⟩
          have HNO := Lib.hid (now_ok HA8.out HD8.out.1 HD8.out.2.2.1)
          rw [HD8.out.2.2.2.2, ← hSV] at HNO
          have HSV := Lib.hid hSV
          have hb3 : (SV.toList == SW.toList) = true ∨ ((SV.toList == SW.toList) = false ∧ (SV.toList == SM.toList) = true) := by
            rcases HV.out with h | h
            · left
              rw [hSV, HSW.out, h]
              simp
            · cases hb : (SV.toList == SW.toList)
              · right
                refine ⟨rfl, ?_⟩
                rw [hSV, HSM.out, h]
                simp
              · exact .inl rfl
          clear hSV
          go_wp2_with fail
          refine HNO.out.mono ?_
          rintro e w9 ⟨rfl, h9⟩
          have HA9 := Lib.hid (HA8.out.ext h9)
          have HR9 := Lib.hid (HR8.out.ext h9)
          have HO9 := Lib.hid (ownS_ext HO8.out h9)
          have HNO2 := Lib.hid (now_ok HA9.out HD8.out.1 HD8.out.2.2.1)
          rw [HD8.out.2.2.2.2, ← HSV.out] at HNO2
          clear h9 HNO HA8 HR8 HO8
          rcases hb3 with hq1 | ⟨hq1, hq2⟩
          · go_wp2_with fail
            refine HNO2.out.mono ?_
            rintro e w10 ⟨rfl, h10⟩
            have HA10 := Lib.hid (HA9.out.ext h10)
            have HR10 := Lib.hid (HR9.out.ext h10)
            have HO10 := Lib.hid (ownS_ext HO9.out h10)
            clear h10
            go_wp2
            go_roundw
            case rel => exact ⟨i + 1, gj12, s11, D8, V11, V11, SV, SV, hlt, by go_num, rfl, rfl, rfl, HSV.out, HSV.out, HNX.out, HA10.out, HR10.out, HO10.out, ⟨by have := HSX.out; omega, .inl HD8.out⟩, Wf.mono HW8.out (by omega)⟩
            case measure => simp [intOf]; omega
          · go_wp2_with fail
            refine HNO2.out.mono ?_
            rintro e w10 ⟨rfl, h10⟩
            have HA10 := Lib.hid (HA9.out.ext h10)
            have HR10 := Lib.hid (HR9.out.ext h10)
            have HO10 := Lib.hid (ownS_ext HO9.out h10)
            clear h10
            go_wp2
            go_roundw
            case rel => exact ⟨i + 1, gj12, s11, D8, V11, V11, SV, SV, hlt, by go_num, rfl, rfl, rfl, HSV.out, HSV.out, HNX.out, HA10.out, HR10.out, HO10.out, ⟨by have := HSX.out; omega, .inl HD8.out⟩, Wf.mono HW8.out (by omega)⟩
            case measure => simp [intOf]; omega
      · have e0 : ((kind : Int) % 6 == 0) = false := by simp; omega
        have e1 : ((kind : Int) % 6 == 1) = false := by simp; omega
        have e2 : ((kind : Int) % 6 == 2) = false := by simp; omega
        clear hk0 hk1 hk2 hza
        go_wp2
        go_roundw
        case rel => exact ⟨i + 1, gj, nn, D, W, M, SW, SM, hlt, by go_num, rfl, rfl, rfl, HSW.out, HSM.out, HNA.out, HAB.out, HRJ.out, HOB.out, HINV.out.more (by omega), Wf.mono HWF.out (by omega)⟩
        case measure => simp [intOf]; omega
    · obtain rfl : i = m + 1 := by omega
      go_wp2
      go_ret
      exact ⟨rfl, HX1.out.trans HA.out.1⟩
theorem law_JournalAtomic {H : Type} {enc : TypeId × Value → H} {base : Nat} {d0 : DataW H} {p0 : List MemPlace} (v0 : Value) (w : World)
    (ho0 : Value.okWide Try.prog w .any base 43 v0) (h0 : DataW.Trod enc Try.prog w 0 (fun _ => true) true 43 v0 d0 p0) :
    Calls Try.prog 8 #[v0] w fun e w' => e = .returned (.bool true) ∧ Below w.heap.size w w' := by
  obtain ⟨a, n, cap, L, rfl, hn, hcm, hL⟩ := acts_in ho0 h0
  exact atomic_walk a n cap L w hn hcm hL (fun e => by subst e; exact acts_nil h0)
end Go.Proofs.Ytfodpphbdbeciaa.Jn
