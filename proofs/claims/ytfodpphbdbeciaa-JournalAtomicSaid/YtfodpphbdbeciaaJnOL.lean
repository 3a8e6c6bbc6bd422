/- Open of a journal with nothing to be done again (turned from JnO). -/
import Derived.Test.YtfodpphbdbeciaaJnBg
namespace Go.Proofs.Ytfodpphbdbeciaa.Jn
open Go.RowKit Words Mem Plain Ops Agg OwnS Dk
open Go.Proofs.Ytfodpphbdbeciaa.Field Go.Proofs.Ytfodpphbdbeciaa.Sum
set_option maxRecDepth 100000
set_option linter.ambiguousOpen false
set_option linter.unusedVariables false
set_option linter.unusedSimpArgs false

set_option maxHeartbeats 8000000 in
theorem Open_live {w0 u : World} {g gs sc : Nat} {X : Nat → Prop} {D : Dsk} (hA : AtM w0 g gs sc D X u) (f n : Nat) (hn : 3 ≤ n ∧ n ≤ 4096) (hfl : f + n ≤ D.secs.length) (hlen : D.secs.length ≤ 4096) (s : Int) (hs : 0 ≤ s ∧ s < 18446744073709551616) (B : List Int) (hB : (B = List.replicate 64 0 ∧ s = 0) ∨ B = headB s 0) (hz : readR D f = (B, 0)) :
    Calls Try.prog 13 #[.pointer (some ⟨g, 0, none⟩), .int .i64 f, .int .i64 n] u fun e w' => ∃ gj, e = .returned (.tuple #[.pointer (some ⟨gj, 0, none⟩), .int .i64 0, .int .i64 0]) ∧ u.heap.size ≤ gj ∧ Row w' gj 67 (jRow g f n s) ∧ Ext u w' := by
  have HA := Lib.hid hA
  have HLEN := Lib.hid (fun (v : World) (e : Ext u v) => Len_atM (hA.ext e))
  have hN : ∃ N : Nat, N = D.secs.length := ⟨_, rfl⟩
  obtain ⟨N, hN⟩ := hN
  rw [← hN] at HLEN hfl hlen
  have HN := Lib.hid hN
  have HRD := Lib.hid (fun (v : World) (e : Ext u v) => (show Calls Try.prog 26 #[.pointer (some ⟨g, 0, none⟩), .int .i64 f] v (Field.Gave .u8 5 v (B, 0)) from by rw [← hz]; exact Read_atM (hA.ext e) f))
  have HZ := Lib.hid hz
  have k1 : ¬ ((n : Int) < 3) := by omega
  have k2 : ¬ ((4096 : Int) < n) := by omega
  have k3 : ¬ ((f : Int) < 0) := by omega
  have k4 : ¬ ((N : Int) < f) := by omega
  have k5 : ¬ ((N : Int) - f < n) := by omega
  clear hA hz hN
  have hl1 := HLEN.out u (Ext.refl _)
  go_enter Try.func13, Try.ntmps13
  go_wp2_with (go_at_call 27; refine hl1.mono ?_; rintro e w' ⟨rfl, rfl⟩)
  have hX1 := (Ext.refl u).alloc (.cells #[.pointer (some ⟨g, 0, none⟩), .int .i64 f, .int .i64 n, .int .u64 0] 67)
  have hrow1 := Row.new u 67 [.pointer (some ⟨g, 0, none⟩), .int .i64 f, .int .i64 n, .int .u64 0]
  obtain ⟨gj, hgj⟩ : ∃ z, z = u.heap.size := ⟨_, rfl⟩
  obtain ⟨w1, hw1⟩ : ∃ z, z = u.alloc (.cells #[.pointer (some ⟨g, 0, none⟩), .int .i64 f, .int .i64 n, .int .u64 0] 67) := ⟨_, rfl⟩
  have hrow1 : Row w1 gj 67 (jRow g f n 0) := by rw [hw1, hgj]; exact hrow1
  rw [← hw1] at hX1 ⊢
  rw [← hgj]
  have HR1 := Lib.hid hrow1
  have HX1 := Lib.hid hX1
  have HG := Lib.hid (show u.heap.size ≤ gj by rw [hgj]; exact Nat.le_refl _)
  clear hX1 hrow1 hw1 hgj hl1 k1 k2 k3 k4 k5
  refine (HRD.out w1 HX1.out).mono ?_
  rintro e w2 ⟨a, c, rfl, ho, h2⟩
  dsimp only at ho ⊢
  have hBl : B.length = 64 := by
    rcases hB with ⟨h, _⟩ | h
    · rw [h]; rfl
    · rw [h]; exact headB_len _ _
  rw [hBl] at ho ⊢
  have HX2 := Lib.hid (HX1.out.trans h2)
  have HR2 := Lib.hid (HR1.out.ext h2)
  obtain ⟨nk, hnk⟩ : ∃ q, n = q + 1 := ⟨n - 1, by omega⟩
  have hcap := ownS_cap ho
  have hlt := ownS_lt ho
  have hgl := HR1.out.lt
  have HBG : Hid (Calls Try.prog 28 #[.pointer (some ⟨gj, 0, none⟩), .slice a 64 c] w2 fun e w' => e = .returned (.tuple #[.int .i64 0, .bool true]) ∧ Row w' gj 67 (jRow g f n s) ∧ Dk.Chg (fun k => k = gj) w2 w') := by
    rcases hB with ⟨h, h0⟩ | h
    · subst h h0
      exact Lib.hid ((begin_zero (.pointer (some ⟨gj, 0, none⟩)) a c w2 (ownS_sl ho)).mono fun e w' ⟨h1, h2⟩ => ⟨h1, HR2.out.ext h2, Dk.Chg.ofExt _ h2⟩)
    · subst h
      subst hnk
      exact Lib.hid (begin_head HR2.out (by omega) a c s 0 (ownS_sl ho) hs (by decide) (by unfold roomN; omega) hcap.1 hcap.2 (fun ad e => by have := hlt ad e; omega))
  have HUG := Lib.hid (show u.heap.size ≤ gj from HG.out)
  clear ho h2 hcap hlt hgl hB hBl hnk
  go_wp2_with fail
  refine HBG.out.mono ?_
  rintro e w3 ⟨rfl, hr3, h3⟩
  have HX3 := Lib.hid (Dk.Chg.ext HX2.out h3 (fun i hi => by rw [hi]; exact HUG.out))
  have HR3 := Lib.hid hr3
  clear h3 hr3
  go_wp2
  go_ret3
  exact ⟨gj, rfl, HG.out, HR3.out, HX3.out⟩
end Go.Proofs.Ytfodpphbdbeciaa.Jn
