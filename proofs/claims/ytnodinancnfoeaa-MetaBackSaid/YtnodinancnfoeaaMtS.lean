/- Sectors: a slice of slices of bytes, in memory of the call's own. -/
import Derived.Test.YtnodinancnfoeaaMtR
namespace Go.Proofs.Ytnodinancnfoeaa.Mt
open Go.RowKit Words Mem Plain Ops Agg OwnS Intern Ino
set_option linter.ambiguousOpen false
set_option linter.unusedVariables false
set_option linter.unusedSimpArgs false

theorem ownS_ext {w w' : World} {base n s cap : Nat} {t : TypeId} {a : Option Addr} {xs : List Value} (h : w.ownsRow base t s (.slice a n cap) n xs) (e : Ext w w') : w'.ownsRow base t s (.slice a n cap) n xs :=
  ownS_block h (fun ad ha => e.block _ (ownS_lt h ad ha).2)
theorem infoSl : (Try.prog.info? 26).map (fun i => (i.zero, i.size, i.bytes)) = some (some (.slice none 0 0), 1, 24) := by kernel_rfl
abbrev slV (h : Nat × Nat) : Value := .slice (some ⟨h.1, 0, none⟩) 64 h.2
def slVs (H : List (Nat × Nat)) : List Value := H.map slV
theorem slVs_one (H : List (Nat × Nat)) : ∀ u ∈ slVs H, u.oneCell' = true := by
  intro u hu
  obtain ⟨h, _, rfl⟩ := List.mem_map.1 hu
  rfl
/-- One of the sectors. -/
structure InAt (w : World) (lo : Nat) (a : Option Addr) (h : Nat × Nat) (xs : List Int) : Prop where
  own : w.ownsRow lo 5 1 (slV h) 64 (ints .u8 xs)
  len : xs.length = 64
  ne : ∀ ad, a = some ad → h.1 ≠ ad.block
structure SecsAt (w : World) (lo : Nat) (a : Option Addr) (n cap : Nat) (L : List (List Int)) : Prop where
  len : L.length = n
  ex : ∃ H : List (Nat × Nat), H.length = n ∧ w.ownsRow lo 26 1 (.slice a n cap) n (slVs H) ∧ ∀ i (h : i < H.length) (h' : i < L.length), InAt w lo a H[i] L[i]
section
variable {w w' : World} {lo : Nat} {a : Option Addr} {n cap : Nat} {L : List (List Int)}
theorem SecsAt.ext (h : SecsAt w lo a n cap L) (e : Ext w w') : SecsAt w' lo a n cap L := by
  obtain ⟨h1, H, h2, h3, h4⟩ := h
  exact ⟨h1, H, h2, ownS_ext h3 e, fun i hi hi' => ⟨ownS_ext (h4 i hi hi').own e, (h4 i hi hi').len, (h4 i hi hi').ne⟩⟩
theorem SecsAt.low (h : SecsAt w lo a n cap L) {lo' : Nat} (hl : lo' ≤ lo) : SecsAt w lo' a n cap L := by
  obtain ⟨h1, H, h2, h3, h4⟩ := h
  exact ⟨h1, H, h2, ownS_base h3 hl, fun i hi hi' => ⟨ownS_base (h4 i hi hi').own hl, (h4 i hi hi').len, (h4 i hi hi').ne⟩⟩
/-- A sector more. -/
theorem SecsAt.more (h : SecsAt w lo a n cap L) (hn : n ≤ 100000) {b c : Nat} {xs : List Int} (hi : InAt w lo a (b, c) xs) (hlo : lo ≤ w.heap.size) {V : World} (hV : V = w.alloc (.cells #[.slice (some ⟨b, 0, none⟩) 64 c] 26)) :
    ∃ a' cap' w', (Builtin.append_ #[35, 35] 35 #[.slice a n cap, .slice (some ⟨w.heap.size, 0, none⟩) 1 1]).run Try.prog V = .ok (.slice a' (n + 1) cap') w' ∧
      SecsAt w' lo a' (n + 1) cap' (L ++ [xs]) ∧ ∀ w0, Ext w0 w → w0.heap.size ≤ lo → Ext w0 w' := by
  have hX := (Ext.refl w).alloc (.cells #[.slice (some ⟨b, 0, none⟩) 64 c] 26)
  have hrow := Row.new w 26 [slV (b, c)]
  rw [← hV] at hX
  have hrow : Row V w.heap.size 26 [slV (b, c)] := by rw [hV]; exact hrow
  obtain ⟨h1, H, h2, h3, h4⟩ := h
  have h3' := ownS_ext h3 hX
  obtain ⟨a', cap', w', hr, ho, hg, hside⟩ := run_append_s (P := Try.prog) V lo 1 (by decide) 35 35 26 _ 24 Try.underlying35 infoSl rfl h3' (m := 1) 1 (news := [slV (b, c)]) rfl hrow.sl0 (by simp) (by simp [Value.oneCell']) (by omega) (by omega) (Nat.le_trans hlo hX.size)
  refine ⟨a', cap', w', hr, ⟨by simp [h1], H ++ [(b, c)], by simp [h2], by simpa [slVs] using ho, fun i hi1 hi2 => ?_⟩, fun w0 h hb0 => ?_⟩
  · have key : ∀ (q : Nat × Nat) (ys : List Int), InAt w lo a q ys → InAt w' lo a' q ys := fun q ys hq => by
      have hq' := ownS_ext hq.own hX
      refine ⟨ownS_block hq' (fun ad e => hg.block _ (ownS_lt hq' ad e).2 (fun e2 => ?_)), hq.len, fun ad e => ?_⟩
      · cases e
        cases a with
        | none => simp [Value.ownBlock] at e2
        | some a0 =>
          simp [Value.ownBlock] at e2
          exact hq.ne a0 rfl e2
      · rcases hside with rfl | hside
        · exact hq.ne ad e
        · have := hside ad e
          have := (ownS_lt hq' ⟨q.1, 0, none⟩ rfl).2
          dsimp only at this
          omega
    simp only [List.length_append, List.length_cons, List.length_nil] at hi1 hi2
    by_cases hin : i < n
    · rw [List.getElem_append_left (by omega), List.getElem_append_left (by omega)]
      exact key _ _ (h4 i (by omega) (by omega))
    · obtain rfl : i = n := by omega
      have e1 : (H ++ [(b, c)])[i]'(by simp; omega) = (b, c) := by
        rw [List.getElem_append_right (by omega)]; simp
      have e2 : (L ++ [xs])[i]'(by simp; omega) = xs := by
        rw [List.getElem_append_right (by omega)]; simp
      rw [e1, e2]
      exact key _ _ hi
  · exact Ext_grown (h.trans hX) hb0 (Nat.le_trans hlo hX.size) hg (fun k hk => by
      cases a with
      | none => simp [Value.ownBlock] at hk
      | some a0 =>
        simp [Value.ownBlock] at hk
        subst hk
        exact (ownS_lt h3' a0 rfl).1)
end
end Go.Proofs.Ytnodinancnfoeaa.Mt
