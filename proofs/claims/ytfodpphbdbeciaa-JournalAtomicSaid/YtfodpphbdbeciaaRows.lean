/-
  No cell of these rows narrows 'for every input' (looked for: loops, veiled, ifaces, maps, wideKeys, modest, calm, conditions, laid).
  DERIVED. THE GIVEN ROWS OF THIS SEAT. 6 by the template 'for every input the law returns true; each argument reads behind the call as it read before'; 0 by the template 'total and deterministic' (their statements: YtfodpphbdbeciaaTotals.lean).
  GIVEN WITH THE SEED: the statements are not yours to turn. If you find one false, say at which input.
  Laid BY PROGRAM, IN A SANDBOX (cutbox-rows.mjs): the forced cells as the released guide's own fill.sh prints them over the translation 9a8d37a85596b160… (all of the seat's roots in one cut). By AI agents, Wed Nov 11 2026. No macro, syntax, notation, axiom, sorry.
-/
import Derived.Test.YtfodpphbdbeciaaChecked
import GoSem.Claim
import GoSem.ClaimJoined
import GoSem.ClaimMapViews
import Derived.JoinedTies
import Derived.KernelRfl
namespace Go.Proofs.Ytfodpphbdbeciaa
/- THE CELL 'sum', in the pinned program and in every row, IS THE sha256 OF THE DUMP (.gsa) THAT YtfodpphbdbeciaaProg.lean LOADS. Nothing in Lean hashes anything: it is a label: what it is worth is what the hold of that sum in a sandbox is worth. -/
noncomputable def Try.pinned : Pinned := { name := "ytfodpphbdbeciaa", sum := "9a8d37a85596b1603cd63cc7ba2b0a55c4951028dc6798f5e97c3d43d927c4da", checked := Try.checked }
namespace Rows
def none {H : Type} : Left H := { results := [], args := [] }

/-- 'moatlaw07.JournalNeeds': WHATEVER THE INPUT: true; the input reads as it did. -/
def journalNeedsSpec : ChangeSpec := { name := "journalNeeds", fn := fun _ => fun
  | [d1, d2] => { results := [.lit (.bool true)], args := [d1, d2] }
  | _ => none }
def journalNeedsRow : OpenClaim := { program := "ytfodpphbdbeciaa", sum := "9a8d37a85596b1603cd63cc7ba2b0a55c4951028dc6798f5e97c3d43d927c4da", func := "moat/moatlaw07.JournalNeeds", spec := "journalNeeds", apart := false }
def JournalNeedsSaid : Prop := journalNeedsRow.holds Try.pinned (OpenSpec.ofChange journalNeedsSpec)

/-- ITS FALSE NEIGHBOUR: 'it returns false'. Refute it at one input. -/
def journalNeedsWrong : ChangeSpec := { name := "journalNeeds", fn := fun _ => fun
  | [d1, d2] => { results := [.lit (.bool false)], args := [d1, d2] }
  | _ => none }
def JournalNeedsWrongFalsely : Prop := journalNeedsRow.holds Try.pinned (OpenSpec.ofChange journalNeedsWrong)

/-- 'moatlaw07.JournalNil': WHATEVER THE INPUT: true; the input reads as it did. -/
def journalNilSpec : ChangeSpec := { name := "journalNil", fn := fun _ => fun
  | [d] => { results := [.lit (.bool true)], args := [d] }
  | _ => none }
def journalNilRow : OpenClaim := { program := "ytfodpphbdbeciaa", sum := "9a8d37a85596b1603cd63cc7ba2b0a55c4951028dc6798f5e97c3d43d927c4da", func := "moat/moatlaw07.JournalNil", spec := "journalNil", apart := false }
def JournalNilSaid : Prop := journalNilRow.holds Try.pinned (OpenSpec.ofChange journalNilSpec)

/-- ITS FALSE NEIGHBOUR: 'it returns false'. Refute it at one input. -/
def journalNilWrong : ChangeSpec := { name := "journalNil", fn := fun _ => fun
  | [d] => { results := [.lit (.bool false)], args := [d] }
  | _ => none }
def JournalNilWrongFalsely : Prop := journalNilRow.holds Try.pinned (OpenSpec.ofChange journalNilWrong)

/-- 'moatlaw07.JournalSeqs': WHATEVER THE INPUT: true; the input reads as it did. -/
def journalSeqsSpec : ChangeSpec := { name := "journalSeqs", fn := fun _ => fun
  | [d] => { results := [.lit (.bool true)], args := [d] }
  | _ => none }
def journalSeqsRow : OpenClaim := { program := "ytfodpphbdbeciaa", sum := "9a8d37a85596b1603cd63cc7ba2b0a55c4951028dc6798f5e97c3d43d927c4da", func := "moat/moatlaw07.JournalSeqs", spec := "journalSeqs", apart := false }
def JournalSeqsSaid : Prop := journalSeqsRow.holds Try.pinned (OpenSpec.ofChange journalSeqsSpec)

/-- ITS FALSE NEIGHBOUR: 'it returns false'. Refute it at one input. -/
def journalSeqsWrong : ChangeSpec := { name := "journalSeqs", fn := fun _ => fun
  | [d] => { results := [.lit (.bool false)], args := [d] }
  | _ => none }
def JournalSeqsWrongFalsely : Prop := journalSeqsRow.holds Try.pinned (OpenSpec.ofChange journalSeqsWrong)

/-- 'moatlaw07.JournalTags': WHATEVER THE INPUT: true; the input reads as it did. -/
def journalTagsSpec : ChangeSpec := { name := "journalTags", fn := fun _ => fun
  | [d] => { results := [.lit (.bool true)], args := [d] }
  | _ => none }
def journalTagsRow : OpenClaim := { program := "ytfodpphbdbeciaa", sum := "9a8d37a85596b1603cd63cc7ba2b0a55c4951028dc6798f5e97c3d43d927c4da", func := "moat/moatlaw07.JournalTags", spec := "journalTags", apart := false }
def JournalTagsSaid : Prop := journalTagsRow.holds Try.pinned (OpenSpec.ofChange journalTagsSpec)

/-- ITS FALSE NEIGHBOUR: 'it returns false'. Refute it at one input. -/
def journalTagsWrong : ChangeSpec := { name := "journalTags", fn := fun _ => fun
  | [d] => { results := [.lit (.bool false)], args := [d] }
  | _ => none }
def JournalTagsWrongFalsely : Prop := journalTagsRow.holds Try.pinned (OpenSpec.ofChange journalTagsWrong)

/-- 'moatlaw07.JournalAgain': WHATEVER THE INPUT: true; the input reads as it did. -/
def journalAgainSpec : ChangeSpec := { name := "journalAgain", fn := fun _ => fun
  | [d] => { results := [.lit (.bool true)], args := [d] }
  | _ => none }
def journalAgainRow : OpenClaim := { program := "ytfodpphbdbeciaa", sum := "9a8d37a85596b1603cd63cc7ba2b0a55c4951028dc6798f5e97c3d43d927c4da", func := "moat/moatlaw07.JournalAgain", spec := "journalAgain", apart := false }
def JournalAgainSaid : Prop := journalAgainRow.holds Try.pinned (OpenSpec.ofChange journalAgainSpec)

/-- ITS FALSE NEIGHBOUR: 'it returns false'. Refute it at one input. -/
def journalAgainWrong : ChangeSpec := { name := "journalAgain", fn := fun _ => fun
  | [d] => { results := [.lit (.bool false)], args := [d] }
  | _ => none }
def JournalAgainWrongFalsely : Prop := journalAgainRow.holds Try.pinned (OpenSpec.ofChange journalAgainWrong)

/-- 'moatlaw07.JournalAtomic': WHATEVER THE INPUT: true; the input reads as it did. -/
def journalAtomicSpec : ChangeSpec := { name := "journalAtomic", fn := fun _ => fun
  | [d] => { results := [.lit (.bool true)], args := [d] }
  | _ => none }
def journalAtomicRow : OpenClaim := { program := "ytfodpphbdbeciaa", sum := "9a8d37a85596b1603cd63cc7ba2b0a55c4951028dc6798f5e97c3d43d927c4da", func := "moat/moatlaw07.JournalAtomic", spec := "journalAtomic", apart := false }
def JournalAtomicSaid : Prop := journalAtomicRow.holds Try.pinned (OpenSpec.ofChange journalAtomicSpec)

/-- ITS FALSE NEIGHBOUR: 'it returns false'. Refute it at one input. -/
def journalAtomicWrong : ChangeSpec := { name := "journalAtomic", fn := fun _ => fun
  | [d] => { results := [.lit (.bool false)], args := [d] }
  | _ => none }
def JournalAtomicWrongFalsely : Prop := journalAtomicRow.holds Try.pinned (OpenSpec.ofChange journalAtomicWrong)

/- THE SECOND FORM. 'bulk': how many values and letters a reading holds, each counted each time it is reached (what is shared counts as often as it is met; a slice's spare places count too). A statement '..UptoSaid' is the law's where the arguments, and the package variables that the reading takes, are together of bulk at most 1048576: NARROWER than '..Said'. Prove '..Said' where nothing that the law and all that it calls make is longer than what came in: it says more and counts as full. Else prove '..UptoSaid'. A law counts once. -/
mutual
def uptoBulk {H : Type} : DataW H → Nat
  | .lit (.string bytes) => bytes.length + 1
  | .lit _ => 1
  | .nil => 1
  | .ptr d => uptoBulk d + 1
  | .slice elems spare => uptoBulkAll elems + uptoBulkAll spare + 1
  | .agg parts => uptoBulkAll parts + 1
  | .iface _ d => uptoBulk d + 1
  | .map entries => uptoBulkEntries entries + 1
  | .held _ => 1
def uptoBulkAll {H : Type} : List (DataW H) → Nat
  | [] => 0
  | d :: r => uptoBulk d + uptoBulkAll r
def uptoBulkEntries {H : Type} : List (Lit × DataW H) → Nat
  | [] => 0
  | x :: r => uptoBulkEntry x + uptoBulkEntries r
def uptoBulkEntry {H : Type} : Lit × DataW H → Nat
  | (.string bytes, d) => bytes.length + uptoBulk d + 1
  | (_, d) => uptoBulk d + 1
 end
def uptoSmall : (H : Type) → List (DataW H) → Bool := fun _ ds => decide (uptoBulkAll ds ≤ 1048576)
def OpenSpec.upto (s : _root_.Go.ChangeSpec) : _root_.Go.OpenSpec := { _root_.Go.OpenSpec.ofChange s with cond := some uptoSmall }

/-- 'moatlaw07.JournalNeeds', WHERE WHAT IT READS IS OF BULK AT MOST 1048576: true; the input reads as it did. -/
def journalNeedsUptoRow : OpenClaim := { program := "ytfodpphbdbeciaa", sum := "9a8d37a85596b1603cd63cc7ba2b0a55c4951028dc6798f5e97c3d43d927c4da", func := "moat/moatlaw07.JournalNeeds", spec := "journalNeeds", apart := false, narrowed := true }
def JournalNeedsUptoSaid : Prop := journalNeedsUptoRow.holds Try.pinned (OpenSpec.upto journalNeedsSpec)

/-- 'moatlaw07.JournalNil', WHERE WHAT IT READS IS OF BULK AT MOST 1048576: true; the input reads as it did. -/
def journalNilUptoRow : OpenClaim := { program := "ytfodpphbdbeciaa", sum := "9a8d37a85596b1603cd63cc7ba2b0a55c4951028dc6798f5e97c3d43d927c4da", func := "moat/moatlaw07.JournalNil", spec := "journalNil", apart := false, narrowed := true }
def JournalNilUptoSaid : Prop := journalNilUptoRow.holds Try.pinned (OpenSpec.upto journalNilSpec)

/-- 'moatlaw07.JournalSeqs', WHERE WHAT IT READS IS OF BULK AT MOST 1048576: true; the input reads as it did. -/
def journalSeqsUptoRow : OpenClaim := { program := "ytfodpphbdbeciaa", sum := "9a8d37a85596b1603cd63cc7ba2b0a55c4951028dc6798f5e97c3d43d927c4da", func := "moat/moatlaw07.JournalSeqs", spec := "journalSeqs", apart := false, narrowed := true }
def JournalSeqsUptoSaid : Prop := journalSeqsUptoRow.holds Try.pinned (OpenSpec.upto journalSeqsSpec)

/-- 'moatlaw07.JournalTags', WHERE WHAT IT READS IS OF BULK AT MOST 1048576: true; the input reads as it did. -/
def journalTagsUptoRow : OpenClaim := { program := "ytfodpphbdbeciaa", sum := "9a8d37a85596b1603cd63cc7ba2b0a55c4951028dc6798f5e97c3d43d927c4da", func := "moat/moatlaw07.JournalTags", spec := "journalTags", apart := false, narrowed := true }
def JournalTagsUptoSaid : Prop := journalTagsUptoRow.holds Try.pinned (OpenSpec.upto journalTagsSpec)

/-- 'moatlaw07.JournalAgain', WHERE WHAT IT READS IS OF BULK AT MOST 1048576: true; the input reads as it did. -/
def journalAgainUptoRow : OpenClaim := { program := "ytfodpphbdbeciaa", sum := "9a8d37a85596b1603cd63cc7ba2b0a55c4951028dc6798f5e97c3d43d927c4da", func := "moat/moatlaw07.JournalAgain", spec := "journalAgain", apart := false, narrowed := true }
def JournalAgainUptoSaid : Prop := journalAgainUptoRow.holds Try.pinned (OpenSpec.upto journalAgainSpec)

/-- 'moatlaw07.JournalAtomic', WHERE WHAT IT READS IS OF BULK AT MOST 1048576: true; the input reads as it did. -/
def journalAtomicUptoRow : OpenClaim := { program := "ytfodpphbdbeciaa", sum := "9a8d37a85596b1603cd63cc7ba2b0a55c4951028dc6798f5e97c3d43d927c4da", func := "moat/moatlaw07.JournalAtomic", spec := "journalAtomic", apart := false, narrowed := true }
def JournalAtomicUptoSaid : Prop := journalAtomicUptoRow.holds Try.pinned (OpenSpec.upto journalAtomicSpec)

end Rows
end Go.Proofs.Ytfodpphbdbeciaa
