/-
  No cell of these rows narrows 'for every input' (looked for: loops, veiled, ifaces, maps, wideKeys, modest, calm, conditions, laid).
  DERIVED. THE GIVEN ROWS OF THIS SEAT. 7 by the template 'for every input the law returns true; each argument reads behind the call as it read before'; 0 by the template 'total and deterministic' (their statements: YtafkpjgkghnipaaTotals.lean).
  GIVEN WITH THE SEED: the statements are not yours to turn. If you find one false, say at which input.
  Laid BY PROGRAM, IN A SANDBOX (cutbox-rows.mjs): the forced cells as the released guide's own fill.sh prints them over the translation 03f45babc8cc91d7… (all of the seat's roots in one cut). By AI agents, Wed Nov 11 2026. No macro, syntax, notation, axiom, sorry.
-/
import Derived.Test.YtafkpjgkghnipaaChecked
import GoSem.Claim
import GoSem.ClaimJoined
import GoSem.ClaimMapViews
import Derived.JoinedTies
import Derived.KernelRfl
namespace Go.Proofs.Ytafkpjgkghnipaa
/- THE CELL 'sum', in the pinned program and in every row, IS THE sha256 OF THE DUMP (.gsa) THAT YtafkpjgkghnipaaProg.lean LOADS. Nothing in Lean hashes anything: it is a label: what it is worth is what the hold of that sum in a sandbox is worth. -/
noncomputable def Try.pinned : Pinned := { name := "ytafkpjgkghnipaa", sum := "03f45babc8cc91d75afe3f5709e738a5bf3fc14fc052d57f70855f4d1b7bc32f", checked := Try.checked }
namespace Rows
def none {H : Type} : Left H := { results := [], args := [] }

/-- 'moatlaw03.SumOfs': WHATEVER THE INPUT: true; the input reads as it did. -/
def sumOfsSpec : ChangeSpec := { name := "sumOfs", fn := fun _ => fun
  | [d1, d2] => { results := [.lit (.bool true)], args := [d1, d2] }
  | _ => none }
def sumOfsRow : OpenClaim := { program := "ytafkpjgkghnipaa", sum := "03f45babc8cc91d75afe3f5709e738a5bf3fc14fc052d57f70855f4d1b7bc32f", func := "moat/moatlaw03.SumOfs", spec := "sumOfs", apart := false }
def SumOfsSaid : Prop := sumOfsRow.holds Try.pinned (OpenSpec.ofChange sumOfsSpec)

/-- ITS FALSE NEIGHBOUR: 'it returns false'. Refute it at one input. -/
def sumOfsWrong : ChangeSpec := { name := "sumOfs", fn := fun _ => fun
  | [d1, d2] => { results := [.lit (.bool false)], args := [d1, d2] }
  | _ => none }
def SumOfsWrongFalsely : Prop := sumOfsRow.holds Try.pinned (OpenSpec.ofChange sumOfsWrong)

/-- 'moatlaw03.SumParts': WHATEVER THE INPUT: true; the input reads as it did. -/
def sumPartsSpec : ChangeSpec := { name := "sumParts", fn := fun _ => fun
  | [d1, d2] => { results := [.lit (.bool true)], args := [d1, d2] }
  | _ => none }
def sumPartsRow : OpenClaim := { program := "ytafkpjgkghnipaa", sum := "03f45babc8cc91d75afe3f5709e738a5bf3fc14fc052d57f70855f4d1b7bc32f", func := "moat/moatlaw03.SumParts", spec := "sumParts", apart := false }
def SumPartsSaid : Prop := sumPartsRow.holds Try.pinned (OpenSpec.ofChange sumPartsSpec)

/-- ITS FALSE NEIGHBOUR: 'it returns false'. Refute it at one input. -/
def sumPartsWrong : ChangeSpec := { name := "sumParts", fn := fun _ => fun
  | [d1, d2] => { results := [.lit (.bool false)], args := [d1, d2] }
  | _ => none }
def SumPartsWrongFalsely : Prop := sumPartsRow.holds Try.pinned (OpenSpec.ofChange sumPartsWrong)

/-- 'moatlaw03.SumZeros': WHATEVER THE INPUT: true; the input reads as it did. -/
def sumZerosSpec : ChangeSpec := { name := "sumZeros", fn := fun _ => fun
  | [d1, d2] => { results := [.lit (.bool true)], args := [d1, d2] }
  | _ => none }
def sumZerosRow : OpenClaim := { program := "ytafkpjgkghnipaa", sum := "03f45babc8cc91d75afe3f5709e738a5bf3fc14fc052d57f70855f4d1b7bc32f", func := "moat/moatlaw03.SumZeros", spec := "sumZeros", apart := false }
def SumZerosSaid : Prop := sumZerosRow.holds Try.pinned (OpenSpec.ofChange sumZerosSpec)

/-- ITS FALSE NEIGHBOUR: 'it returns false'. Refute it at one input. -/
def sumZerosWrong : ChangeSpec := { name := "sumZeros", fn := fun _ => fun
  | [d1, d2] => { results := [.lit (.bool false)], args := [d1, d2] }
  | _ => none }
def SumZerosWrongFalsely : Prop := sumZerosRow.holds Try.pinned (OpenSpec.ofChange sumZerosWrong)

/-- 'moatlaw03.SumPieces': WHATEVER THE INPUT: true; the input reads as it did. -/
def sumPiecesSpec : ChangeSpec := { name := "sumPieces", fn := fun _ => fun
  | [d1, d2] => { results := [.lit (.bool true)], args := [d1, d2] }
  | _ => none }
def sumPiecesRow : OpenClaim := { program := "ytafkpjgkghnipaa", sum := "03f45babc8cc91d75afe3f5709e738a5bf3fc14fc052d57f70855f4d1b7bc32f", func := "moat/moatlaw03.SumPieces", spec := "sumPieces", apart := false }
def SumPiecesSaid : Prop := sumPiecesRow.holds Try.pinned (OpenSpec.ofChange sumPiecesSpec)

/-- ITS FALSE NEIGHBOUR: 'it returns false'. Refute it at one input. -/
def sumPiecesWrong : ChangeSpec := { name := "sumPieces", fn := fun _ => fun
  | [d1, d2] => { results := [.lit (.bool false)], args := [d1, d2] }
  | _ => none }
def SumPiecesWrongFalsely : Prop := sumPiecesRow.holds Try.pinned (OpenSpec.ofChange sumPiecesWrong)

/-- 'moatlaw03.SumSeals': WHATEVER THE INPUT: true; the input reads as it did. -/
def sumSealsSpec : ChangeSpec := { name := "sumSeals", fn := fun _ => fun
  | [d] => { results := [.lit (.bool true)], args := [d] }
  | _ => none }
def sumSealsRow : OpenClaim := { program := "ytafkpjgkghnipaa", sum := "03f45babc8cc91d75afe3f5709e738a5bf3fc14fc052d57f70855f4d1b7bc32f", func := "moat/moatlaw03.SumSeals", spec := "sumSeals", apart := false }
def SumSealsSaid : Prop := sumSealsRow.holds Try.pinned (OpenSpec.ofChange sumSealsSpec)

/-- ITS FALSE NEIGHBOUR: 'it returns false'. Refute it at one input. -/
def sumSealsWrong : ChangeSpec := { name := "sumSeals", fn := fun _ => fun
  | [d] => { results := [.lit (.bool false)], args := [d] }
  | _ => none }
def SumSealsWrongFalsely : Prop := sumSealsRow.holds Try.pinned (OpenSpec.ofChange sumSealsWrong)

/-- 'moatlaw03.SumBack': WHATEVER THE INPUT: true; the input reads as it did. -/
def sumBackSpec : ChangeSpec := { name := "sumBack", fn := fun _ => fun
  | [d1, d2] => { results := [.lit (.bool true)], args := [d1, d2] }
  | _ => none }
def sumBackRow : OpenClaim := { program := "ytafkpjgkghnipaa", sum := "03f45babc8cc91d75afe3f5709e738a5bf3fc14fc052d57f70855f4d1b7bc32f", func := "moat/moatlaw03.SumBack", spec := "sumBack", apart := false }
def SumBackSaid : Prop := sumBackRow.holds Try.pinned (OpenSpec.ofChange sumBackSpec)

/-- ITS FALSE NEIGHBOUR: 'it returns false'. Refute it at one input. -/
def sumBackWrong : ChangeSpec := { name := "sumBack", fn := fun _ => fun
  | [d1, d2] => { results := [.lit (.bool false)], args := [d1, d2] }
  | _ => none }
def SumBackWrongFalsely : Prop := sumBackRow.holds Try.pinned (OpenSpec.ofChange sumBackWrong)

/-- 'moatlaw03.SumTells': WHATEVER THE INPUT: true; the input reads as it did. -/
def sumTellsSpec : ChangeSpec := { name := "sumTells", fn := fun _ => fun
  | [d1, d2, d3] => { results := [.lit (.bool true)], args := [d1, d2, d3] }
  | _ => none }
def sumTellsRow : OpenClaim := { program := "ytafkpjgkghnipaa", sum := "03f45babc8cc91d75afe3f5709e738a5bf3fc14fc052d57f70855f4d1b7bc32f", func := "moat/moatlaw03.SumTells", spec := "sumTells", apart := false }
def SumTellsSaid : Prop := sumTellsRow.holds Try.pinned (OpenSpec.ofChange sumTellsSpec)

/-- ITS FALSE NEIGHBOUR: 'it returns false'. Refute it at one input. -/
def sumTellsWrong : ChangeSpec := { name := "sumTells", fn := fun _ => fun
  | [d1, d2, d3] => { results := [.lit (.bool false)], args := [d1, d2, d3] }
  | _ => none }
def SumTellsWrongFalsely : Prop := sumTellsRow.holds Try.pinned (OpenSpec.ofChange sumTellsWrong)

/- THE SECOND FORM. 'bulk': how many values and letters a reading holds, each counted each time it is reached (what is shared counts as often as it is met; a slice's spare places count too). A statement '..UptoSaid' is the law's where the arguments, and the package variables that the reading takes, are together of bulk at most 1048576: NARROWER than '..Said'. Prove '..Said' where nothing that the law and all that it calls make is longer than what came in: it says more and counts as full. Else prove '..UptoSaid'. A law counts once. -/
mutual
def uptoBulk {H : Type} : DataW H → Nat
  | .lit (.string bytes) => bytes.length + 1
  | .lit _ => 1
  | .nil => 1
  | .ptr d => uptoBulk d + 1
  | .slice elems spare => uptoBulkAll elems + uptoBulkAll spare + 1
  | .agg parts => uptoBulkAll parts + 1
  | .iface _ d => uptoBulk d + 1
  | .map entries => uptoBulkEntries entries + 1
  | .held _ => 1
def uptoBulkAll {H : Type} : List (DataW H) → Nat
  | [] => 0
  | d :: r => uptoBulk d + uptoBulkAll r
def uptoBulkEntries {H : Type} : List (Lit × DataW H) → Nat
  | [] => 0
  | x :: r => uptoBulkEntry x + uptoBulkEntries r
def uptoBulkEntry {H : Type} : Lit × DataW H → Nat
  | (.string bytes, d) => bytes.length + uptoBulk d + 1
  | (_, d) => uptoBulk d + 1
 end
def uptoSmall : (H : Type) → List (DataW H) → Bool := fun _ ds => decide (uptoBulkAll ds ≤ 1048576)
def OpenSpec.upto (s : _root_.Go.ChangeSpec) : _root_.Go.OpenSpec := { _root_.Go.OpenSpec.ofChange s with cond := some uptoSmall }

/-- 'moatlaw03.SumOfs', WHERE WHAT IT READS IS OF BULK AT MOST 1048576: true; the input reads as it did. -/
def sumOfsUptoRow : OpenClaim := { program := "ytafkpjgkghnipaa", sum := "03f45babc8cc91d75afe3f5709e738a5bf3fc14fc052d57f70855f4d1b7bc32f", func := "moat/moatlaw03.SumOfs", spec := "sumOfs", apart := false, narrowed := true }
def SumOfsUptoSaid : Prop := sumOfsUptoRow.holds Try.pinned (OpenSpec.upto sumOfsSpec)

/-- 'moatlaw03.SumParts', WHERE WHAT IT READS IS OF BULK AT MOST 1048576: true; the input reads as it did. -/
def sumPartsUptoRow : OpenClaim := { program := "ytafkpjgkghnipaa", sum := "03f45babc8cc91d75afe3f5709e738a5bf3fc14fc052d57f70855f4d1b7bc32f", func := "moat/moatlaw03.SumParts", spec := "sumParts", apart := false, narrowed := true }
def SumPartsUptoSaid : Prop := sumPartsUptoRow.holds Try.pinned (OpenSpec.upto sumPartsSpec)

/-- 'moatlaw03.SumZeros', WHERE WHAT IT READS IS OF BULK AT MOST 1048576: true; the input reads as it did. -/
def sumZerosUptoRow : OpenClaim := { program := "ytafkpjgkghnipaa", sum := "03f45babc8cc91d75afe3f5709e738a5bf3fc14fc052d57f70855f4d1b7bc32f", func := "moat/moatlaw03.SumZeros", spec := "sumZeros", apart := false, narrowed := true }
def SumZerosUptoSaid : Prop := sumZerosUptoRow.holds Try.pinned (OpenSpec.upto sumZerosSpec)

/-- 'moatlaw03.SumPieces', WHERE WHAT IT READS IS OF BULK AT MOST 1048576: true; the input reads as it did. -/
def sumPiecesUptoRow : OpenClaim := { program := "ytafkpjgkghnipaa", sum := "03f45babc8cc91d75afe3f5709e738a5bf3fc14fc052d57f70855f4d1b7bc32f", func := "moat/moatlaw03.SumPieces", spec := "sumPieces", apart := false, narrowed := true }
def SumPiecesUptoSaid : Prop := sumPiecesUptoRow.holds Try.pinned (OpenSpec.upto sumPiecesSpec)

/-- 'moatlaw03.SumSeals', WHERE WHAT IT READS IS OF BULK AT MOST 1048576: true; the input reads as it did. -/
def sumSealsUptoRow : OpenClaim := { program := "ytafkpjgkghnipaa", sum := "03f45babc8cc91d75afe3f5709e738a5bf3fc14fc052d57f70855f4d1b7bc32f", func := "moat/moatlaw03.SumSeals", spec := "sumSeals", apart := false, narrowed := true }
def SumSealsUptoSaid : Prop := sumSealsUptoRow.holds Try.pinned (OpenSpec.upto sumSealsSpec)

/-- 'moatlaw03.SumBack', WHERE WHAT IT READS IS OF BULK AT MOST 1048576: true; the input reads as it did. -/
def sumBackUptoRow : OpenClaim := { program := "ytafkpjgkghnipaa", sum := "03f45babc8cc91d75afe3f5709e738a5bf3fc14fc052d57f70855f4d1b7bc32f", func := "moat/moatlaw03.SumBack", spec := "sumBack", apart := false, narrowed := true }
def SumBackUptoSaid : Prop := sumBackUptoRow.holds Try.pinned (OpenSpec.upto sumBackSpec)

/-- 'moatlaw03.SumTells', WHERE WHAT IT READS IS OF BULK AT MOST 1048576: true; the input reads as it did. -/
def sumTellsUptoRow : OpenClaim := { program := "ytafkpjgkghnipaa", sum := "03f45babc8cc91d75afe3f5709e738a5bf3fc14fc052d57f70855f4d1b7bc32f", func := "moat/moatlaw03.SumTells", spec := "sumTells", apart := false, narrowed := true }
def SumTellsUptoSaid : Prop := sumTellsUptoRow.holds Try.pinned (OpenSpec.upto sumTellsSpec)

end Rows
end Go.Proofs.Ytafkpjgkghnipaa
