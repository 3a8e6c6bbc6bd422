/- begin of bytes 0; Open of a new disk's sectors (printed by gen_jno.py). -/
import Derived.Test.YtfodpphbdbeciaaJnK
namespace Go.Proofs.Ytfodpphbdbeciaa.Jn
open Go.RowKit Words Mem Plain Ops Agg OwnS Dk
open Go.Proofs.Ytfodpphbdbeciaa.Field Go.Proofs.Ytfodpphbdbeciaa.Sum
set_option maxRecDepth 100000
set_option linter.ambiguousOpen false
set_option linter.unusedVariables false
set_option linter.unusedSimpArgs false

theorem conv8 (v : World) {a : Option Addr} {n : Nat} (c : Nat) {xs : List Int} (h : Sl v a (ints .u8 xs)) (hl : xs.length = n) : (convert 34 9 (.slice a n c)).run Try.prog v = .ok (.string (strOf xs)) v :=
  run_conv_str (P := Try.prog) v 34 9 5 Try.underlying34 Try.underlying5 Try.underlying9 c h hl
set_option maxHeartbeats 4000000 in
theorem begin_zero (p : Value) (a : Option Addr) (c : Nat) (u : World) (hs : Sl u a (ints .u8 (List.replicate 64 0))) :
    Calls Try.prog 28 #[p, .slice a 64 c] u fun e w' => e = .returned (.tuple #[.int .i64 0, .bool true]) ∧ Ext u w' := by
  obtain ⟨S0, hS0⟩ : ∃ q, q = strOf (List.replicate 64 0) := ⟨_, rfl⟩
  have HS0 := Lib.hid hS0
  have hq1 : (S0.toList == S0.toList) = true := by simp
  have HALL := Lib.hid (show ∀ v : World, Ext u v → (Ext u v ∧ (convert 34 9 (.slice a 64 c)).run Try.prog v = .ok (.string S0) v) from fun v hv => ⟨hv, by rw [hS0]; exact conv8 v c (hs.ext hv) (by simp)⟩)
  clear hS0 hs
  go_enter Try.func28, Try.ntmps28
  go_wp2_with fail
  refine wp_region_held_drew (S := (fun v => Ext u v ∧ (convert 34 9 (.slice a 64 c)).run Try.prog v = .ok (.string S0) v)) (by kernel_rfl) (HALL.out _ ((Ext.refl _).drew)) (fun hHeld => ?_)
  generalize u.drew = v0 at *
  refine takeD (i := 0) (v := ?_) rfl rfl (by kernel_rfl) (by kernel_rfl) (by kernel_rfl) (fun _ _ _ h => h) (Or.inl ⟨by rfl, ?_⟩) hHeld ?_
  rotate_left
  · (intro v hv; (try obtain ⟨hv0, hv1⟩ := hv); go_simp; try (with_reducible rfl))
  (try simp only [List.setIfInBounds_toArray, List.set_cons_zero, List.set_cons_succ])
  refine takeD (i := 1) (v := (.string S0)) rfl rfl (by kernel_rfl) (by kernel_rfl) (by kernel_rfl) (fun _ _ _ h => h) (Or.inl ⟨by rfl, ?_⟩) hHeld ?_
  · (intro v hv; (try obtain ⟨hv0, hv1⟩ := hv); go_simp; try (with_reducible rfl))
  (try simp only [List.setIfInBounds_toArray, List.set_cons_zero, List.set_cons_succ])
  have hmk := run_make_ints (P := Try.prog) v0 34 5 .u8 1 Try.underlying34 info8' .i64 .i64 64 64 rfl (by decide) (by decide)
  have hrow5 := Row.new v0 5 (ints .u8 (List.replicate 64 0))
  have hX5 := (Ext.refl v0).alloc (.cells (ints .u8 (List.replicate 64 0)).toArray 5)
  obtain ⟨b5, hb5⟩ : ∃ q, q = v0.heap.size := ⟨_, rfl⟩
  rw [← hb5] at hmk hrow5
  clear hb5
  generalize v0.alloc (.cells (ints .u8 (List.replicate 64 0)).toArray 5) = v1 at *
  have cv5 := conv8 v1 64 hrow5.sl0 (by simp : (List.replicate 64 (0 : Int)).length = 64)
  rw [← HS0.out] at cv5
  refine wpAnyH_ready (rs := [2]) (by kernel_rfl) (by simp) ?_
  refine AllReadyH.cons rfl (fun K hK => ?_) AllReadyH.nil
  go_simp
  refine hK.out _ _ (HALL.out _ (hHeld.1.trans hX5)) (fun hHeld => ?_)
  clear hK
  refine wpAnyH_ready (rs := [3]) (by kernel_rfl) (by simp) ?_
  refine AllReadyH.cons rfl (fun K hK => ?_) AllReadyH.nil
  go_simp
  refine hK.out _ _ hHeld (fun hHeld => ?_)
  clear hK
  refine takeD (i := 4) (v := ?_) rfl rfl (by kernel_rfl) (by kernel_rfl) (by kernel_rfl) (fun _ _ _ h => h) (Or.inl ⟨by rfl, ?_⟩) hHeld ?_
  rotate_left
  · (intro v hv; (try obtain ⟨hv0, hv1⟩ := hv); go_simp; try (with_reducible rfl))
  (try simp only [List.setIfInBounds_toArray, List.set_cons_zero, List.set_cons_succ])
  refine wpAnyH_done (by kernel_rfl) ?_ _
  have HH := Lib.hid hHeld
  clear hHeld hmk hrow5 hX5 cv5
  go_wp2
  go_ret2
  exact ⟨rfl, HH.out.1⟩
theorem Open_nil (f n : Int) (u : World) : Calls Try.prog 13 #[.pointer none, .int .i64 f, .int .i64 n] u fun e w' => e = .returned (.tuple #[.pointer none, .int .i64 0, .int .i64 2]) ∧ u = w' := by
  go_enter Try.func13, Try.ntmps13
  go_wp2
  go_ret3
  exact ⟨rfl, rfl⟩
set_option maxHeartbeats 8000000 in
theorem Open_zero {w0 u : World} {g gs sc : Nat} {X : Nat → Prop} {D : Dsk} (hA : AtM w0 g gs sc D X u) (f n : Nat) (hn : 3 ≤ n ∧ n ≤ 4096) (hfl : f + n ≤ D.secs.length) (hlen : D.secs.length ≤ 4096) (hz : readR D f = (List.replicate 64 0, 0)) :
    Calls Try.prog 13 #[.pointer (some ⟨g, 0, none⟩), .int .i64 f, .int .i64 n] u fun e w' => ∃ gj, e = .returned (.tuple #[.pointer (some ⟨gj, 0, none⟩), .int .i64 0, .int .i64 0]) ∧ u.heap.size ≤ gj ∧ Row w' gj 67 (jRow g f n 0) ∧ Ext u w' := by
  have HA := Lib.hid hA
  have HLEN := Lib.hid (fun (v : World) (e : Ext u v) => Len_atM (hA.ext e))
  have hN : ∃ N : Nat, N = D.secs.length := ⟨_, rfl⟩
  obtain ⟨N, hN⟩ := hN
  rw [← hN] at HLEN hfl hlen
  have HN := Lib.hid hN
  have HRD := Lib.hid (fun (v : World) (e : Ext u v) => (show Calls Try.prog 26 #[.pointer (some ⟨g, 0, none⟩), .int .i64 f] v (Field.Gave .u8 5 v (List.replicate 64 0, 0)) from by rw [← hz]; exact Read_atM (hA.ext e) f))
  have HZ := Lib.hid hz
  have k1 : ¬ ((n : Int) < 3) := by omega
  have k2 : ¬ ((4096 : Int) < n) := by omega
  have k3 : ¬ ((f : Int) < 0) := by omega
  have k4 : ¬ ((N : Int) < f) := by omega
  have k5 : ¬ ((N : Int) - f < n) := by omega
  clear hA hz hN
  have hl1 := HLEN.out u (Ext.refl _)
  go_enter Try.func13, Try.ntmps13
  go_wp2_with (go_at_call 27; refine hl1.mono ?_; rintro e w' ⟨rfl, rfl⟩)
  have hX1 := (Ext.refl u).alloc (.cells #[.pointer (some ⟨g, 0, none⟩), .int .i64 f, .int .i64 n, .int .u64 0] 67)
  have hrow1 := Row.new u 67 [.pointer (some ⟨g, 0, none⟩), .int .i64 f, .int .i64 n, .int .u64 0]
  obtain ⟨gj, hgj⟩ : ∃ z, z = u.heap.size := ⟨_, rfl⟩
  obtain ⟨w1, hw1⟩ : ∃ z, z = u.alloc (.cells #[.pointer (some ⟨g, 0, none⟩), .int .i64 f, .int .i64 n, .int .u64 0] 67) := ⟨_, rfl⟩
  have hrow1 : Row w1 gj 67 (jRow g f n 0) := by rw [hw1, hgj]; exact hrow1
  rw [← hw1] at hX1 ⊢
  rw [← hgj]
  have HR1 := Lib.hid hrow1
  have HX1 := Lib.hid hX1
  have HG := Lib.hid (show u.heap.size ≤ gj by rw [hgj]; exact Nat.le_refl _)
  clear hX1 hrow1 hw1 hgj hl1 k1 k2 k3 k4 k5
  refine (HRD.out w1 HX1.out).mono ?_
  rintro e w2 ⟨a, c, rfl, ho, h2⟩
  dsimp only at ho ⊢
  rw [List.length_replicate] at ho ⊢
  have HX2 := Lib.hid (HX1.out.trans h2)
  have HR2 := Lib.hid (HR1.out.ext h2)
  have HBG := Lib.hid (begin_zero (.pointer (some ⟨gj, 0, none⟩)) a c w2 (ownS_sl ho))
  clear ho h2
  go_wp2_with fail
  refine HBG.out.mono ?_
  rintro e w3 ⟨rfl, h3⟩
  have HX3 := Lib.hid (HX2.out.trans h3)
  have HR3 := Lib.hid (HR2.out.ext h3)
  clear h3
  go_wp2
  go_ret3
  exact ⟨gj, rfl, HG.out, HR3.out, HX3.out⟩
end Go.Proofs.Ytfodpphbdbeciaa.Jn
