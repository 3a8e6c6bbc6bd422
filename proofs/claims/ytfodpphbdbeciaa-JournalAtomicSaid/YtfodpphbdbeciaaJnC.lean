/- Commit. -/
import Derived.Test.YtfodpphbdbeciaaJnL
namespace Go.Proofs.Ytfodpphbdbeciaa.Jn
open Go.RowKit Words Mem Plain Ops Agg OwnS Dk
open Go.Proofs.Ytfodpphbdbeciaa.Field Go.Proofs.Ytfodpphbdbeciaa.Sum
set_option maxRecDepth 100000
set_option linter.ambiguousOpen false
set_option linter.unusedVariables false
set_option linter.unusedSimpArgs false

/-- One write behind the other, up to the first error. -/
def runR : Dsk → List (List PT) → Dsk × Int
  | D, [] => (D, 0)
  | D, P :: R => if (writesR D P).2 = 0 then runR (writesR D P).1 R else writesR D P
def headP (f s c : Int) : PT := ⟨f, headB s c, 0⟩
theorem headP_wf (f s c : Int) : (headP f s c).wf := ⟨headB_bytes s c, by show (0 : Int) ≤ 0; decide, by show (0 : Int) ≤ 65535; decide⟩
def partsP (f s : Int) (L : List PT) : List (List PT) := [layP f L, [headP f (s + 1) L.length], L, [headP f (s + 1) 0]]
/-- May a patch be committed? -/
def goodP (N : Nat) (f n : Int) (p : PT) : Bool := outB N f n p.sec && decide (p.bs.length = 64)
/-- Commit: the disk, the number, the answer. -/
def commitR (D : Dsk) (f n s : Int) (L : List PT) : Dsk × Int × Int :=
  if L = [] then (D, s, 0)
  else if roomN n < L.length then (D, s, 4)
  else if L.all (goodP D.secs.length f n) = false then (D, s, 1)
  else if s = 18446744073709551615 then (D, s, 1)
  else if (runR D (partsP f s L)).2 = 0 then ((runR D (partsP f s L)).1, s + 1, 0) else ((runR D (partsP f s L)).1, s, (runR D (partsP f s L)).2)
theorem PatsIn.mono {X Y : Nat → Prop} {u : World} {a : Option Addr} {n : Nat} {L : List PT} (h : PatsIn X u a n L) (hy : ∀ q, X q → Y q) : PatsIn Y u a n L := by
  refine ⟨h.1, h.2.1, fun h0 => ?_⟩
  obtain ⟨b, off, e, hb, hc⟩ := h.2.2 h0
  refine ⟨b, off, e, hy b hb, fun i hi => ?_⟩
  obtain ⟨x, c, hp⟩ := hc i hi
  exact ⟨x, c, hp.c0, hp.c1, hp.c2, hp.sl, fun ad e => hy _ (hp.ad ad e), hp.le⟩
/-- Items as patches. -/
theorem OutAt.pats {X : Nat → Prop} {lo : Nat} {w : World} {ao : Option Addr} {c : Nat} {O : List It} (h : OutAt X lo w ao c O) : PatsIn (fun q => X q ∨ (lo ≤ q ∧ q < w.heap.size)) w ao O.length (O.map (·.p)) := by
  refine ⟨by simp, fun p hp => ?_, fun h0 => ?_⟩
  · obtain ⟨t, ht, rfl⟩ := List.mem_map.1 hp
    exact (h.ok t ht).2.2.1
  · obtain ⟨g, rfl, hg, _, _⟩ := ownS_elem itC_len h.own rfl h0
    have hlt := ownS_lt h.own _ rfl
    refine ⟨g, 0, rfl, .inr ⟨hg, hlt.2⟩, fun i hi => ?_⟩
    have hi : i < O.length := by simpa using hi
    obtain ⟨g', e, _, hr, _⟩ := ownS_elem itC_len h.own rfl hi
    cases e
    have e2 : (O.map (·.p))[i]'(by simpa using hi) = O[i].p := by simp
    rw [e2]
    obtain ⟨h1, h2, h3, h4⟩ := h.ok _ (List.getElem_mem hi)
    rw [Nat.zero_add]
    refine ⟨O[i].x, O[i].c, by have := hr 0 _ rfl; simpa using this, by have := hr 1 _ rfl; simpa using this, by have := hr 2 _ rfl; simpa using this, h1, fun ad e => ?_, h2⟩
    obtain ⟨k1, k2, _⟩ := h4 ad e
    rcases k1 with k1 | k1
    · exact .inl k1
    · exact .inr ⟨k1, k2⟩
theorem writesR_wf : ∀ (L : List PT) {D : Dsk} {b : Nat}, D.Wf b → (∀ p ∈ L, p.wf) → (writesR D L).1.Wf (b + L.length + 1)
  | [], D, b, h, _ => flush_wf h
  | p :: L, D, b, h, hp => by
    have hw := hp p List.mem_cons_self
    have h1 := writeR_wf h p.sec hw.1 hw.2
    unfold writesR
    split
    · have := writesR_wf L h1 (fun q hq => hp q (List.mem_cons_of_mem _ hq))
      rw [show b + (p :: L).length + 1 = b + 1 + L.length + 1 by simp; omega]
      exact this
    · obtain ⟨k1, k2, k3, k4, k5, k6⟩ := h1
      exact ⟨k1, k2, k3, k4, ⟨k5.1, by have := k5.2; simp; omega⟩, by simp; omega⟩
theorem writeR_len (D : Dsk) (i : Int) (bs : List Int) (tag : Int) : (writeR D i bs tag).1.secs.length = D.secs.length := by
  unfold writeR
  split
  · rfl
  · split
    · simp
    · rw [(power_secs D).1]
theorem flushR_len (D : Dsk) : (flushR D).1.secs.length = D.secs.length := by
  unfold flushR
  split
  · rw [show ({ (powerR D).1 with waits := [] } : Dsk).secs = (powerR D).1.secs from rfl, (power_secs D).1]
  · rw [(power_secs D).1]
theorem writesR_len : ∀ (L : List PT) (D : Dsk), (writesR D L).1.secs.length = D.secs.length
  | [], D => flushR_len D
  | p :: L, D => by
    unfold writesR
    split
    · rw [writesR_len L, writeR_len]
    · exact writeR_len _ _ _ _
theorem layP_wf {f : Int} {L : List PT} (h : ∀ p ∈ L, p.wf) : ∀ p ∈ layP f L, p.wf := fun p hp => by
  unfold layP at hp
  obtain ⟨i, hi, rfl⟩ := List.getElem_of_mem hp
  rw [List.getElem_mapIdx]
  have hq := List.getElem_mem (by simpa using hi : i < (chunksP L ((L.length + 14) / 15)).length)
  have key : ∀ p ∈ chunksP L ((L.length + 14) / 15), p.wf := fun p hp => by
    obtain ⟨j, _, hj⟩ := List.mem_flatMap.1 hp
    rcases List.mem_cons.1 hj with rfl | hj
    · exact ⟨isBytes_filled _ _ (isBytes_layed _ _), by show (0 : Int) ≤ 0; decide, by show (0 : Int) ≤ 65535; decide⟩
    · exact h p (List.mem_of_mem_drop (List.mem_of_mem_take hj))
  have h3 := key _ hq
  exact ⟨h3.1, h3.2⟩
theorem chunksP_len (L : List PT) : ∀ q, (chunksP L q).length ≤ 16 * q
  | 0 => Nat.le_refl _
  | q + 1 => by
    have := chunksP_len L q
    rw [chunksP_succ, List.length_append, List.length_cons]
    have : (chunkP L q).length ≤ 15 := by unfold chunkP; rw [List.length_take]; omega
    omega
theorem layP_len (f : Int) (L : List PT) : (layP f L).length ≤ 16 * ((L.length + 14) / 15) := by
  unfold layP
  rw [List.length_mapIdx]
  exact chunksP_len _ _
theorem Wf.mono {D : Dsk} {b c : Nat} (h : D.Wf b) (hc : b ≤ c) : D.Wf c :=
  ⟨h.secs, h.waits, h.few, h.fuse, ⟨h.done.1, by have := h.done.2; omega⟩, by have := h.many; omega⟩
/-- One patch in a row of its own. -/
theorem one_pats {Y : Nat → Prop} {v : World} {g : Nat} {t : It} (h : Row v g 37 (itC t)) (hw : t.p.wf) (hs : Sl v t.x (ints .u8 t.p.bs)) (hl : t.p.bs.length ≤ t.c ∧ t.c ≤ 9223372036854775807) (hg : Y g) (hx : ∀ ad, t.x = some ad → Y ad.block) : PatsIn Y v (some ⟨g, 0, none⟩) 1 [t.p] := by
  refine ⟨rfl, fun p hp => ?_, fun _ => ⟨g, 0, rfl, hg, fun i hi => ?_⟩⟩
  · simp at hp; subst hp; exact hw
  · obtain rfl : i = 0 := by simpa using hi
    exact ⟨t.x, t.c, (h.cell? 0).trans rfl, (h.cell? 1).trans rfl, (h.cell? 2).trans rfl, hs, hx, hl⟩
end Go.Proofs.Ytfodpphbdbeciaa.Jn
