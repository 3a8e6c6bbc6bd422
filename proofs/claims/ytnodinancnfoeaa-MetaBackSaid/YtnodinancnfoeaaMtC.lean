/- slices.Clone of four kinds, and meta.Copy. -/
import Derived.Test.YtnodinancnfoeaaMtS
import Derived.Test.YtnodinancnfoeaaGuard
import Derived.Lib.SliceRun
namespace Go.Proofs.Ytnodinancnfoeaa.Mt
open Go.RowKit Words Mem Plain Ops Agg OwnS Intern Ino
set_option linter.ambiguousOpen false
set_option linter.unusedVariables false
set_option linter.unusedSimpArgs false

theorem run_eql_slice_nil' (w : World) (t e : TypeId) (a : Option Addr) (n c : Nat) (h : Try.prog.underlying t = some (.slice e)) : (binOp .eql t (.slice a n c) (.slice none 0 0)).run Try.prog w = .ok (.bool a.isNone) w := Go.Lib.run_eql_slice_nil (P := Try.prog) w t e a n c 0 0 h
theorem infoBC : (Try.prog.info? 5).map (fun i => (i.zero, i.size, i.bytes)) = some (some (.int .u8 0), 1, 1) := by kernel_rfl
theorem CloneB_ok (a : Option Addr) (n cap : Nat) (xs : List Value) (w : World) (hl : xs.length = n * 1) (hs : Sl w a xs) (h1 : ∀ u ∈ xs, u.oneCell' = true) (hnil : a = none → n = 0 ∧ cap = 0) (hn : n ≤ 1000000) :
    Calls Try.prog 26 #[.slice a n cap] w fun e w' => ∃ a' c', e = .returned (.slice a' n c') ∧ w'.ownsRow w.heap.size 5 1 (.slice a' n c') n xs ∧ Ext w w' := by
  have hq := fun (v : World) => run_eql_slice_nil' v 26 _ a n cap Try.underlying26
  cases a with
  | none =>
    obtain ⟨rfl, rfl⟩ := hnil rfl
    obtain rfl : xs = [] := List.eq_nil_of_length_eq_zero (by simpa using hl)
    clear hl hs h1 hnil
    go_enter Try.func26, Try.ntmps26
    go_wp2
    go_ret
    exact ⟨none, 0, rfl, ownS_nil _ _ _ _, Ext.refl _⟩
  | some ad =>
    obtain ⟨a', c', w', hap, how, hx⟩ := run_clone_s (P := Try.prog) w 1 (by decide) 26 26 5 _ 1 Try.underlying26 infoBC (by rfl) cap hl hs hnil h1 (by omega) (by omega)
    have HO := Lib.hid how
    have HX := Lib.hid hx
    clear hl hs h1 hnil how hx
    go_enter Try.func26, Try.ntmps26
    go_wp2_with (at_builtin; refine Guard.wpList_append_want _ rfl _ _ _ _ rfl _ _ rfl rfl _ _ hap ?_)
    go_ret
    exact ⟨a', c', rfl, HO.out, HX.out⟩
theorem infoIC : (Try.prog.info? 3).map (fun i => (i.zero, i.size, i.bytes)) = some (some (.int .i64 0), 1, 8) := by kernel_rfl
theorem CloneI_ok (a : Option Addr) (n cap : Nat) (xs : List Value) (w : World) (hl : xs.length = n * 1) (hs : Sl w a xs) (h1 : ∀ u ∈ xs, u.oneCell' = true) (hnil : a = none → n = 0 ∧ cap = 0) (hn : n ≤ 1000000) :
    Calls Try.prog 39 #[.slice a n cap] w fun e w' => ∃ a' c', e = .returned (.slice a' n c') ∧ w'.ownsRow w.heap.size 3 1 (.slice a' n c') n xs ∧ Ext w w' := by
  have hq := fun (v : World) => run_eql_slice_nil' v 25 _ a n cap Try.underlying25
  cases a with
  | none =>
    obtain ⟨rfl, rfl⟩ := hnil rfl
    obtain rfl : xs = [] := List.eq_nil_of_length_eq_zero (by simpa using hl)
    clear hl hs h1 hnil
    go_enter Try.func39, Try.ntmps39
    go_wp2
    go_ret
    exact ⟨none, 0, rfl, ownS_nil _ _ _ _, Ext.refl _⟩
  | some ad =>
    obtain ⟨a', c', w', hap, how, hx⟩ := run_clone_s (P := Try.prog) w 1 (by decide) 25 25 3 _ 8 Try.underlying25 infoIC (by rfl) cap hl hs hnil h1 (by omega) (by omega)
    have HO := Lib.hid how
    have HX := Lib.hid hx
    clear hl hs h1 hnil how hx
    go_enter Try.func39, Try.ntmps39
    go_wp2_with (at_builtin; refine Guard.wpList_append_want _ rfl _ _ _ _ rfl _ _ rfl rfl _ _ hap ?_)
    go_ret
    exact ⟨a', c', rfl, HO.out, HX.out⟩
theorem infoRC : (Try.prog.info? 45).map (fun i => (i.zero, i.size, i.bytes)) = some (some (.agg #[.int .u16 0, .int .i64 0]), 2, 16) := by kernel_rfl
theorem CloneR_ok (a : Option Addr) (n cap : Nat) (xs : List Value) (w : World) (hl : xs.length = n * 2) (hs : Sl w a xs) (h1 : ∀ u ∈ xs, u.oneCell' = true) (hnil : a = none → n = 0 ∧ cap = 0) (hn : n ≤ 1000000) :
    Calls Try.prog 38 #[.slice a n cap] w fun e w' => ∃ a' c', e = .returned (.slice a' n c') ∧ w'.ownsRow w.heap.size 45 2 (.slice a' n c') n xs ∧ Ext w w' := by
  have hq := fun (v : World) => run_eql_slice_nil' v 24 _ a n cap Try.underlying24
  cases a with
  | none =>
    obtain ⟨rfl, rfl⟩ := hnil rfl
    obtain rfl : xs = [] := List.eq_nil_of_length_eq_zero (by simpa using hl)
    clear hl hs h1 hnil
    go_enter Try.func38, Try.ntmps38
    go_wp2
    go_ret
    exact ⟨none, 0, rfl, ownS_nil _ _ _ _, Ext.refl _⟩
  | some ad =>
    obtain ⟨a', c', w', hap, how, hx⟩ := run_clone_s (P := Try.prog) w 2 (by decide) 24 24 45 _ 16 Try.underlying24 infoRC (by rfl) cap hl hs hnil h1 (by omega) (by omega)
    have HO := Lib.hid how
    have HX := Lib.hid hx
    clear hl hs h1 hnil how hx
    go_enter Try.func38, Try.ntmps38
    go_wp2_with (at_builtin; refine Guard.wpList_append_want _ rfl _ _ _ _ rfl _ _ rfl rfl _ _ hap ?_)
    go_ret
    exact ⟨a', c', rfl, HO.out, HX.out⟩
theorem infoNC : (Try.prog.info? 48).map (fun i => (i.zero, i.size, i.bytes)) = some (some (.agg Ino.zero.cs), 14, 104) := by kernel_rfl
theorem CloneN_ok (a : Option Addr) (n cap : Nat) (xs : List Value) (w : World) (hl : xs.length = n * 14) (hs : Sl w a xs) (h1 : ∀ u ∈ xs, u.oneCell' = true) (hnil : a = none → n = 0 ∧ cap = 0) (hn : n ≤ 1000000) :
    Calls Try.prog 40 #[.slice a n cap] w fun e w' => ∃ a' c', e = .returned (.slice a' n c') ∧ w'.ownsRow w.heap.size 48 14 (.slice a' n c') n xs ∧ Ext w w' := by
  have hq := fun (v : World) => run_eql_slice_nil' v 27 _ a n cap Try.underlying27
  cases a with
  | none =>
    obtain ⟨rfl, rfl⟩ := hnil rfl
    obtain rfl : xs = [] := List.eq_nil_of_length_eq_zero (by simpa using hl)
    clear hl hs h1 hnil
    go_enter Try.func40, Try.ntmps40
    go_wp2
    go_ret
    exact ⟨none, 0, rfl, ownS_nil _ _ _ _, Ext.refl _⟩
  | some ad =>
    obtain ⟨a', c', w', hap, how, hx⟩ := run_clone_s (P := Try.prog) w 14 (by decide) 27 27 48 _ 104 Try.underlying27 infoNC (by rfl) cap hl hs hnil h1 (by omega) (by omega)
    have HO := Lib.hid how
    have HX := Lib.hid hx
    clear hl hs h1 hnil how hx
    go_enter Try.func40, Try.ntmps40
    go_wp2_with (at_builtin; refine Guard.wpList_append_want _ rfl _ _ _ _ rfl _ _ rfl rfl _ _ hap ?_)
    go_ret
    exact ⟨a', c', rfl, HO.out, HX.out⟩
end Go.Proofs.Ytnodinancnfoeaa.Mt
