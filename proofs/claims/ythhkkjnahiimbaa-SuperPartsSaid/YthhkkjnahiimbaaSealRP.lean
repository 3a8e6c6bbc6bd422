/- Contracts of the reference's Seal. -/
import Derived.Test.YthhkkjnahiimbaaSealP
import Derived.Test.YthhkkjnahiimbaaNum
namespace Go.Proofs.Ythhkkjnahiimbaa.Sum
open Go.RowKit Words Mem Plain Ops
open Go.Proofs.Ythhkkjnahiimbaa.Field
set_option linter.ambiguousOpen false
set_option linter.unusedVariables false
set_option linter.unusedSimpArgs false

set_option maxHeartbeats 2000000 in
theorem rSeal_ok (a : Option Addr) (n cap : Nat) (xs : List Int) (w : World) (hl : xs.length = n) (hn : n ≤ 1000000) (hb : isBytes xs) (hs : Sl w a (ints .u8 xs)) (hnil : a = none → n = 0 ∧ cap = 0) :
    Calls Try.prog 29 #[.slice a n cap] w (OwnB w (sealN xs)) := by
  have r0 := Row.new w 5 []
  have o0 := ownsRow_of (base := w.heap.size) (n := 0) r0 (Nat.le_refl _) rfl (by decide)
  have XA := (Ext.refl w).alloc (.cells (List.toArray []) 5)
  obtain ⟨a2, c2, w2, hrun2, hown2, hext2⟩ := run_append_sl (P := Try.prog) _ w.heap.size 36 36 5 (.int .u8 0) 1 Try.underlying36 info8 rfl o0 cap (by rw [ints_length]; exact hl) (hs.ext XA) hnil (ints_oneCell' _ _) (by omega) (by omega) XA.size
  have X2 := hext2 w XA (Nat.le_refl _)
  rw [Nat.zero_add] at hown2 hrun2
  rw [List.nil_append] at hown2
  have hs2 := hs.ext X2
  obtain ⟨S, hS⟩ : ∃ S, S = moreN 1 xs := ⟨_, rfl⟩
  have hSb := more_bd 1 xs
  have hse : sealN xs = xs ++ bytesOf 4 (moreN 1 xs) := rfl
  rw [← hS] at hSb hse
  have HS := Lib.hid hS; have HE := Lib.hid hse
  clear hS hse r0 o0 hext2 XA
  go_enter Try.func29, Try.ntmps29
  go_wp2_with (at_builtin; refine Lib.wpList_append_run _ rfl _ _ _ _ rfl _ _ rfl rfl _ _ hrun2 ?_)
  refine (rOf_ok a n cap xs w2 hl (by omega) hb hs2).mono ?_
  rintro e w' ⟨rfl, rfl⟩
  rw [← HS.out]
  clear hrun2
  go_wp2_with fail
  have k1 : Calls Try.prog 27 #[.int .u64 S, .int .i64 4] w2 _ := rNum_ok S 4 w2 hSb.1 (by omega) (by decide)
  refine k1.mono ?_
  rintro e w3 ⟨a3, c3, rfl, hown3, hX3⟩
  rw [length_bytesOf] at hown3
  rw [length_bytesOf]
  have hown2' : w3.ownsRow w.heap.size 5 1 (.slice a2 n c2) n (ints .u8 xs) := by
    refine ⟨hown2.1, ?_⟩
    rcases hown2.2 with hv | ⟨g, c, cur, hv, hbg, hg, r⟩
    · exact .inl hv
    · refine .inr ⟨g, c, cur, hv, hbg, ?_, r⟩
      have hlt : g < w2.heap.size := (Array.getElem?_eq_some_iff.1 hg).1
      exact (Below.block hX3 g hlt).trans hg
  have h3 := ownsRow_sl hown3
  have hnil3 : a3 = none → (4 : Nat) = 0 ∧ c3 = 0 := by
    rcases ownsRow_cases hown3 with ⟨h1, h2, h3, _⟩ | ⟨g, M, h1, _⟩
    · omega
    · intro e; rw [h1] at e; cases e
  have X3 := X2.trans hX3
  obtain ⟨a4, c4, w4, hrun4, hown4, hext4⟩ := run_append_sl (P := Try.prog) w3 w.heap.size 36 36 5 (.int .u8 0) 1 Try.underlying36 info8 rfl hown2' c3 (by rw [ints_length, length_bytesOf]) h3 hnil3 (ints_oneCell' _ _) (by omega) (by omega) X3.size
  have X4 := hext4 w X3 (Nat.le_refl _)
  rw [← ints_append, ← HE.out] at hown4
  clear hext4 k1 hown3 hown2 hown2'
  go_wp2_with (at_builtin; refine Lib.wpList_append_run _ rfl _ _ _ _ rfl _ _ rfl rfl _ _ hrun4 ?_)
  go_ret
  have hle : (sealN xs).length = n + 4 := by rw [length_seal, hl]
  exact ⟨a4, c4, by rw [hle]; rfl, by rw [hle]; exact hown4, X4⟩
end Go.Proofs.Ythhkkjnahiimbaa.Sum
