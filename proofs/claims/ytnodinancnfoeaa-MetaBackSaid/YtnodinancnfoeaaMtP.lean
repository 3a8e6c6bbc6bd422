/- What is known of a disk: plain, and how it lies. -/
import Derived.Test.YtnodinancnfoeaaILay
import Derived.Test.YtnodinancnfoeaaRwLay
import Derived.Test.YtnodinancnfoeaaBitB
import Derived.Test.YtnodinancnfoeaaGeo
import Derived.Test.YtnodinancnfoeaaOwnS
namespace Go.Proofs.Ytnodinancnfoeaa.Mt
open Go.RowKit Words Mem Plain Ops Agg OwnS Intern Ino
set_option linter.ambiguousOpen false
set_option linter.unusedVariables false
set_option linter.unusedSimpArgs false

structure MetaT where
  rows : List RowT
  owners : List Int
  used : List Int
  inodes : List Ino
structure Pl where
  ra : Option Addr
  rc : Nat
  oa : Option Addr
  oc : Nat
  ua : Option Addr
  uc : Nat
  ia : Option Addr
  ic : Nat
abbrev metaCs (p : Pl) (M : MetaT) : Array Value := #[.slice p.ra M.rows.length p.rc, .slice p.oa M.owners.length p.oc, .slice p.ua M.used.length p.uc, .slice p.ia M.inodes.length p.ic]
abbrev metaV (p : Pl) (M : MetaT) : Value := .agg (metaCs p M)
def inoC (n : Ino) : List Value := n.cs.toList
theorem inoC_len (n : Ino) : (inoC n).length = 14 := rfl
theorem inoC_one (n : Ino) : ∀ u ∈ inoC n, u.oneCell' = true := by
  intro u hu
  simp [inoC] at hu
  rcases hu with rfl | rfl | rfl | rfl | rfl | rfl | rfl | rfl | rfl | rfl | rfl | rfl | rfl | rfl <;> rfl
structure MetaIn (w : World) (p : Pl) (M : MetaT) : Prop where
  rows : Sl w p.ra (rowsC M.rows)
  owners : Sl w p.oa (ints .i64 M.owners)
  used : Sl w p.ua (ints .u8 M.used)
  inodes : Sl w p.ia (flat inoC M.inodes)
  wfr : wfR M.rows
  bu : isBytes M.used
  wfi : ∀ n ∈ M.inodes, n.wf
  few : M.rows.length ≤ 1000 ∧ M.owners.length ≤ 1000 ∧ M.used.length ≤ 1000 ∧ M.inodes.length ≤ 1000
  nil : (p.ra = none → M.rows.length = 0 ∧ p.rc = 0) ∧ (p.oa = none → M.owners.length = 0 ∧ p.oc = 0) ∧ (p.ua = none → M.used.length = 0 ∧ p.uc = 0) ∧ (p.ia = none → M.inodes.length = 0 ∧ p.ic = 0)
theorem MetaIn.ext {w w' : World} {p : Pl} {M : MetaT} (h : MetaIn w p M) (e : Ext w w') : MetaIn w' p M :=
  ⟨h.rows.ext e, h.owners.ext e, h.used.ext e, h.inodes.ext e, h.wfr, h.bu, h.wfi, h.few, h.nil⟩
def ownB (o : Int) : Bool := decide (0 ≤ o) && decide (o ≤ 16)
def rightM (J I G P : Int) (M : MetaT) : Bool :=
  Super.rightB J I G P && (Intern.rightB M.rows && (decide ((M.owners.length : Int) = G) && (decide ((M.used.length : Int) = 64) && (decide ((M.inodes.length : Int) = I) &&
    (M.owners.all ownB && (M.inodes.all Ino.rightB && decide (Bit.countN M.used (G * P) 512 = 0)))))))
/-- The two boxes at the head of the functions that take a parting and what is known. -/
def BoxAt (w : World) (bg bm : Nat) (J I G P : Int) (p : Pl) (M : MetaT) : Prop :=
  (w.cell? ⟨bg, 0, none⟩ = some (.int .i64 J) ∧ w.cell? ⟨bg, 1, none⟩ = some (.int .i64 I) ∧ w.cell? ⟨bg, 2, none⟩ = some (.int .i64 G) ∧ w.cell? ⟨bg, 3, none⟩ = some (.int .i64 P)) ∧
  (w.cell? ⟨bm, 0, none⟩ = some (.slice p.ra M.rows.length p.rc) ∧ w.cell? ⟨bm, 1, none⟩ = some (.slice p.oa M.owners.length p.oc) ∧ w.cell? ⟨bm, 2, none⟩ = some (.slice p.ua M.used.length p.uc) ∧ w.cell? ⟨bm, 3, none⟩ = some (.slice p.ia M.inodes.length p.ic))
theorem BoxAt.ext {w w' : World} {bg bm : Nat} {J I G P : Int} {p : Pl} {M : MetaT} (h : BoxAt w bg bm J I G P p M) (e : Ext w w') : BoxAt w' bg bm J I G P p M := by
  obtain ⟨⟨h0, h1, h2, h3⟩, k0, k1, k2, k3⟩ := h
  exact ⟨⟨e.keep h0, e.keep h1, e.keep h2, e.keep h3⟩, e.keep k0, e.keep k1, e.keep k2, e.keep k3⟩
abbrev boxW (w : World) (J I G P : Int) (p : Pl) (M : MetaT) : World := (w.alloc (.cells #[.int .i64 J, .int .i64 I, .int .i64 G, .int .i64 P] 23)).alloc (.cells #[.slice p.ra M.rows.length p.rc, .slice p.oa M.owners.length p.oc, .slice p.ua M.used.length p.uc, .slice p.ia M.inodes.length p.ic] 29)
theorem BoxAt.new (w : World) (J I G P : Int) (p : Pl) (M : MetaT) : BoxAt (boxW w J I G P p M) w.heap.size (w.heap.size + 1) J I G P p M ∧ Ext w (boxW w J I G P p M) := by
  have h1 := Row.new w 23 [.int .i64 J, .int .i64 I, .int .i64 G, .int .i64 P]
  have X1 := (Ext.refl w).alloc (.cells #[.int .i64 J, .int .i64 I, .int .i64 G, .int .i64 P] 23)
  have h2 := Row.new (w.alloc (.cells #[.int .i64 J, .int .i64 I, .int .i64 G, .int .i64 P] 23)) 29 [.slice p.ra M.rows.length p.rc, .slice p.oa M.owners.length p.oc, .slice p.ua M.used.length p.uc, .slice p.ia M.inodes.length p.ic]
  have X2 := (Ext.refl (w.alloc (.cells #[.int .i64 J, .int .i64 I, .int .i64 G, .int .i64 P] 23))).alloc (.cells #[.slice p.ra M.rows.length p.rc, .slice p.oa M.owners.length p.oc, .slice p.ua M.used.length p.uc, .slice p.ia M.inodes.length p.ic] 29)
  have h1' := h1.ext X2
  have hs : (w.alloc (.cells #[.int .i64 J, .int .i64 I, .int .i64 G, .int .i64 P] 23)).heap.size = w.heap.size + 1 := by simp
  rw [hs] at h2
  exact ⟨⟨⟨(h1'.cell? 0).trans rfl, (h1'.cell? 1).trans rfl, (h1'.cell? 2).trans rfl, (h1'.cell? 3).trans rfl⟩, (h2.cell? 0).trans rfl, (h2.cell? 1).trans rfl, (h2.cell? 2).trans rfl, (h2.cell? 3).trans rfl⟩, X1.trans X2⟩
end Go.Proofs.Ytnodinancnfoeaa.Mt
