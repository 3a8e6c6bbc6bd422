/- The law JournalNeeds. -/
import Derived.Test.YtfodpphbdbeciaaJnSh
import Derived.Deep.Slices
import Derived.Lib.SmallJoins
import Derived.ChangeSame
import Derived.OpenShut
namespace Go.Proofs.Ytfodpphbdbeciaa.Jn
open Go.RowKit Words Mem Plain Ops Agg OwnS Dk
open Go.Joins Go.ChangeShapes Go.WideShapes Go.Deep
set_option maxRecDepth 100000
set_option linter.ambiguousOpen false
set_option linter.unusedVariables false
set_option linter.unusedSimpArgs false

theorem room_need (k : Nat) (h : 3 ≤ k) : needN (roomN k) ≤ k - 1 ∧ (k : Int) - 1 < needN (roomN k + 1) ∧ 0 ≤ roomN k ∧ roomN k ≤ k := by
  unfold needN roomN
  have h1 : ¬ ((k : Int) - 1 - ((k : Int) - 1 + 15) / 16 < 1) := by omega
  have h2 : ¬ ((k : Int) - 1 - ((k : Int) - 1 + 15) / 16 + 1 < 1) := by omega
  rw [if_neg h1, if_neg h2]
  omega
theorem new_zero (k : Nat) (h : 0 < k) : readR (newD k) ((0 : Nat) : Int) = (List.replicate 64 0, 0) := by
  have hl : (newD k).secs.length = k := by simp [newD]
  unfold readR
  rw [getR_yes (D := newD k) (k := 0) (by rw [hl]; exact h) rfl]
  have : sg (newD k).secs 0 = zeroS := by
    rw [sg_eq _ _ (by rw [hl]; exact h)]
    simp [newD]
  rw [this]
  decide +kernel
set_option maxHeartbeats 8000000 in
theorem needs_walk (n : Int) (m : Nat) (w : World) (hn : -9223372036854775808 ≤ n ∧ n ≤ 9223372036854775807) (hm : m ≤ 65535) :
    Calls Try.prog 3 #[.int .i64 n, .int .u16 m] w fun e w' => e = .returned (.bool true) ∧ Ext w w' := by
  have HSH := Lib.hid (shown_ok w)
  go_enter Try.func3, Try.ntmps3
  go_wp2_with fail
  refine HSH.out.mono ?_
  rintro e w1 ⟨rfl, h1⟩
  have HX1 := Lib.hid h1
  clear h1 HSH
  by_cases hbig : 100000 < n
  · go_wp2
    go_ret
    exact ⟨rfl, HX1.out⟩
  have hq1 : (needN n == needN n) = true := by simp
  have hneed := Need_ok n w1 hn.1 (by omega)
  have hrneed := rNeed_ok n w1 hn.1 (by omega)
  obtain ⟨nn, hnn⟩ : ∃ z, z = needN n := ⟨_, rfl⟩
  rw [← hnn] at hneed hrneed hq1
  clear hnn
  go_wp2_with fail
  refine hneed.mono ?_
  rintro e w' ⟨rfl, rfl⟩
  go_wp2_with fail
  refine hrneed.mono ?_
  rintro e w' ⟨rfl, rfl⟩
  clear hneed hrneed
  obtain ⟨k, hk⟩ : ∃ z, z = 3 + m % 4094 := ⟨_, rfl⟩
  have hkk : (3 : Int) + (m : Int) % 4094 = (k : Int) := by omega
  have hk3 : 3 ≤ k ∧ k ≤ 4096 := by omega
  have HNEW := Lib.hid (New_atM k w1 hk3.2)
  clear hk
  go_wp2_with fail
  refine HNEW.out.mono ?_
  rintro e w2 ⟨g, gs, sc, rfl, hA⟩
  have hX2 : Ext w1 w2 := hA.1
  have HX2 := Lib.hid (HX1.out.trans hX2)
  have hop := Open_zero hA 0 k hk3 (by simp [newD]) (by simp [newD]; exact hk3.2) (new_zero k (by omega))
  have HOP := Lib.hid (show Calls Try.prog 13 #[.pointer (some ⟨g, 0, none⟩), .int .i64 0, .int .i64 k] w2 fun e w' => ∃ gj, e = .returned (.tuple #[.pointer (some ⟨gj, 0, none⟩), .int .i64 0, .int .i64 0]) ∧ w2.heap.size ≤ gj ∧ Row w' gj 67 (jRow g 0 k 0) ∧ Ext w2 w' from hop)
  clear hA hX2 hop HNEW hkk hq1 hbig
  go_wp2_with fail
  refine HOP.out.mono ?_
  rintro e w3 ⟨gj, rfl, hgj, hr3, h3⟩
  have HX3 := Lib.hid (HX2.out.trans h3)
  have hroom := Room_ok (w := w3) (gj := gj) (g := g) (f := 0) (s := 0) (k - 1) (by rw [show k - 1 + 1 = k by omega]; exact hr3) (by omega)
  rw [show k - 1 + 1 = k by omega] at hroom
  have hrn := room_need k hk3.1
  obtain ⟨rm, hrm⟩ : ∃ z, z = roomN k := ⟨_, rfl⟩
  rw [← hrm] at hroom hrn
  have HN1 := Lib.hid (Need_ok rm w3 (by omega) (by omega))
  have HN2 := Lib.hid (Need_ok (rm + 1) w3 (by omega) (by omega))
  have HROOM := Lib.hid hroom
  obtain ⟨n1, hn1⟩ : ∃ z, z = needN rm := ⟨_, rfl⟩
  obtain ⟨n2, hn2⟩ : ∃ z, z = needN (rm + 1) := ⟨_, rfl⟩
  rw [← hn1] at HN1 hrn
  rw [← hn2] at HN2 hrn
  obtain ⟨hr1, hr2, hr3', hr4⟩ := hrn
  have hw : IntKind.i64.wrap (rm + 1) = rm + 1 := IntWalk.i64_in _ (by omega)
  clear hroom hrm hn1 hn2 hr3 h3 hgj HOP
  go_wp2_with fail
  refine HROOM.out.mono ?_
  rintro e w' ⟨rfl, rfl⟩
  go_wp2_with fail
  refine HN1.out.mono ?_
  rintro e w' ⟨rfl, rfl⟩
  go_wp2_with fail
  refine HROOM.out.mono ?_
  rintro e w' ⟨rfl, rfl⟩
  go_wp2_with fail
  refine HN2.out.mono ?_
  rintro e w' ⟨rfl, rfl⟩
  go_wp2
  go_ret
  exact ⟨by first | rfl | simp [hr2], HX3.out⟩
theorem law_JournalNeeds {H : Type} {enc : TypeId × Value → H} {base : Nat} {d0 d1 : DataW H} {p0 p1 : List MemPlace} (v0 v1 : Value) (w : World)
    (ho0 : Value.okWide Try.prog w .any base 3 v0) (h0 : DataW.Trod enc Try.prog w 0 (fun _ => true) true 3 v0 d0 p0)
    (ho1 : Value.okWide Try.prog w .any base 22 v1) (h1 : DataW.Trod enc Try.prog w 0 (fun _ => true) true 22 v1 d1 p1) :
    Calls Try.prog 3 #[v0, v1] w fun e w' => e = .returned (.bool true) ∧ Below w.heap.size w w' := by
  obtain ⟨x, rfl, _, _, hx⟩ := open_int Try.underlying3 ho0 h0
  obtain ⟨y, rfl, _, _, hy⟩ := open_int Try.underlying22 ho1 h1
  have bx := bounds_i64 hx
  have b_y : 0 ≤ y ∧ y ≤ 65535 := by
    simp [Lit.wf, IntKind.has, IntKind.min, IntKind.max, IntKind.signed, IntKind.bits] at hy
    omega
  obtain ⟨m, rfl⟩ : ∃ n : Nat, y = n := ⟨y.toNat, by omega⟩
  exact needs_walk x m w (by omega) (by omega)
end Go.Proofs.Ytfodpphbdbeciaa.Jn
