/-
  No cell of these rows narrows 'for every input' (looked for: loops, veiled, ifaces, maps, wideKeys, modest, calm, conditions, laid).
  DERIVED. THE GIVEN ROWS OF THIS SEAT. 7 by the template 'for every input the law returns true; each argument reads behind the call as it read before'; 0 by the template 'total and deterministic' (their statements: YtgflpbbdohmhiaaTotals.lean).
  GIVEN WITH THE SEED: the statements are not yours to turn. If you find one false, say at which input.
  Laid BY PROGRAM, IN A SANDBOX (cutbox-rows.mjs): the forced cells as the released guide's own fill.sh prints them over the translation 6789d2e5db62892a… (all of the seat's roots in one cut). By AI agents, Wed Nov 11 2026. No macro, syntax, notation, axiom, sorry.
-/
import Derived.Test.YtgflpbbdohmhiaaChecked
import GoSem.Claim
import GoSem.ClaimJoined
import GoSem.ClaimMapViews
import Derived.JoinedTies
import Derived.KernelRfl
namespace Go.Proofs.Ytgflpbbdohmhiaa
/- THE CELL 'sum', in the pinned program and in every row, IS THE sha256 OF THE DUMP (.gsa) THAT YtgflpbbdohmhiaaProg.lean LOADS. Nothing in Lean hashes anything: it is a label: what it is worth is what the hold of that sum in a sandbox is worth. -/
noncomputable def Try.pinned : Pinned := { name := "ytgflpbbdohmhiaa", sum := "6789d2e5db62892a795996de9a5c6d2b698aa5a83aa480cb82dd634f3cc86445", checked := Try.checked }
namespace Rows
def none {H : Type} : Left H := { results := [], args := [] }

/-- 'moatlaw01.FieldGets': WHATEVER THE INPUT: true; the input reads as it did. -/
def fieldGetsSpec : ChangeSpec := { name := "fieldGets", fn := fun _ => fun
  | [d1, d2, d3, d4] => { results := [.lit (.bool true)], args := [d1, d2, d3, d4] }
  | _ => none }
def fieldGetsRow : OpenClaim := { program := "ytgflpbbdohmhiaa", sum := "6789d2e5db62892a795996de9a5c6d2b698aa5a83aa480cb82dd634f3cc86445", func := "moat/moatlaw01.FieldGets", spec := "fieldGets", apart := false }
def FieldGetsSaid : Prop := fieldGetsRow.holds Try.pinned (OpenSpec.ofChange fieldGetsSpec)

/-- ITS FALSE NEIGHBOUR: 'it returns false'. Refute it at one input. -/
def fieldGetsWrong : ChangeSpec := { name := "fieldGets", fn := fun _ => fun
  | [d1, d2, d3, d4] => { results := [.lit (.bool false)], args := [d1, d2, d3, d4] }
  | _ => none }
def FieldGetsWrongFalsely : Prop := fieldGetsRow.holds Try.pinned (OpenSpec.ofChange fieldGetsWrong)

/-- 'moatlaw01.FieldLays': WHATEVER THE INPUT: true; the input reads as it did. -/
def fieldLaysSpec : ChangeSpec := { name := "fieldLays", fn := fun _ => fun
  | [d1, d2] => { results := [.lit (.bool true)], args := [d1, d2] }
  | _ => none }
def fieldLaysRow : OpenClaim := { program := "ytgflpbbdohmhiaa", sum := "6789d2e5db62892a795996de9a5c6d2b698aa5a83aa480cb82dd634f3cc86445", func := "moat/moatlaw01.FieldLays", spec := "fieldLays", apart := false }
def FieldLaysSaid : Prop := fieldLaysRow.holds Try.pinned (OpenSpec.ofChange fieldLaysSpec)

/-- ITS FALSE NEIGHBOUR: 'it returns false'. Refute it at one input. -/
def fieldLaysWrong : ChangeSpec := { name := "fieldLays", fn := fun _ => fun
  | [d1, d2] => { results := [.lit (.bool false)], args := [d1, d2] }
  | _ => none }
def FieldLaysWrongFalsely : Prop := fieldLaysRow.holds Try.pinned (OpenSpec.ofChange fieldLaysWrong)

/-- 'moatlaw01.FieldApart': WHATEVER THE INPUT: true; the input reads as it did. -/
def fieldApartSpec : ChangeSpec := { name := "fieldApart", fn := fun _ => fun
  | [d1, d2, d3, d4, d5] => { results := [.lit (.bool true)], args := [d1, d2, d3, d4, d5] }
  | _ => none }
def fieldApartRow : OpenClaim := { program := "ytgflpbbdohmhiaa", sum := "6789d2e5db62892a795996de9a5c6d2b698aa5a83aa480cb82dd634f3cc86445", func := "moat/moatlaw01.FieldApart", spec := "fieldApart", apart := false }
def FieldApartSaid : Prop := fieldApartRow.holds Try.pinned (OpenSpec.ofChange fieldApartSpec)

/-- ITS FALSE NEIGHBOUR: 'it returns false'. Refute it at one input. -/
def fieldApartWrong : ChangeSpec := { name := "fieldApart", fn := fun _ => fun
  | [d1, d2, d3, d4, d5] => { results := [.lit (.bool false)], args := [d1, d2, d3, d4, d5] }
  | _ => none }
def FieldApartWrongFalsely : Prop := fieldApartRow.holds Try.pinned (OpenSpec.ofChange fieldApartWrong)

/-- 'moatlaw01.FieldParts': WHATEVER THE INPUT: true; the input reads as it did. -/
def fieldPartsSpec : ChangeSpec := { name := "fieldParts", fn := fun _ => fun
  | [d1, d2, d3] => { results := [.lit (.bool true)], args := [d1, d2, d3] }
  | _ => none }
def fieldPartsRow : OpenClaim := { program := "ytgflpbbdohmhiaa", sum := "6789d2e5db62892a795996de9a5c6d2b698aa5a83aa480cb82dd634f3cc86445", func := "moat/moatlaw01.FieldParts", spec := "fieldParts", apart := false }
def FieldPartsSaid : Prop := fieldPartsRow.holds Try.pinned (OpenSpec.ofChange fieldPartsSpec)

/-- ITS FALSE NEIGHBOUR: 'it returns false'. Refute it at one input. -/
def fieldPartsWrong : ChangeSpec := { name := "fieldParts", fn := fun _ => fun
  | [d1, d2, d3] => { results := [.lit (.bool false)], args := [d1, d2, d3] }
  | _ => none }
def FieldPartsWrongFalsely : Prop := fieldPartsRow.holds Try.pinned (OpenSpec.ofChange fieldPartsWrong)

/-- 'moatlaw01.FieldFills': WHATEVER THE INPUT: true; the input reads as it did. -/
def fieldFillsSpec : ChangeSpec := { name := "fieldFills", fn := fun _ => fun
  | [d1, d2] => { results := [.lit (.bool true)], args := [d1, d2] }
  | _ => none }
def fieldFillsRow : OpenClaim := { program := "ytgflpbbdohmhiaa", sum := "6789d2e5db62892a795996de9a5c6d2b698aa5a83aa480cb82dd634f3cc86445", func := "moat/moatlaw01.FieldFills", spec := "fieldFills", apart := false }
def FieldFillsSaid : Prop := fieldFillsRow.holds Try.pinned (OpenSpec.ofChange fieldFillsSpec)

/-- ITS FALSE NEIGHBOUR: 'it returns false'. Refute it at one input. -/
def fieldFillsWrong : ChangeSpec := { name := "fieldFills", fn := fun _ => fun
  | [d1, d2] => { results := [.lit (.bool false)], args := [d1, d2] }
  | _ => none }
def FieldFillsWrongFalsely : Prop := fieldFillsRow.holds Try.pinned (OpenSpec.ofChange fieldFillsWrong)

/-- 'moatlaw01.FieldTakes': WHATEVER THE INPUT: true; the input reads as it did. -/
def fieldTakesSpec : ChangeSpec := { name := "fieldTakes", fn := fun _ => fun
  | [d1, d2] => { results := [.lit (.bool true)], args := [d1, d2] }
  | _ => none }
def fieldTakesRow : OpenClaim := { program := "ytgflpbbdohmhiaa", sum := "6789d2e5db62892a795996de9a5c6d2b698aa5a83aa480cb82dd634f3cc86445", func := "moat/moatlaw01.FieldTakes", spec := "fieldTakes", apart := false }
def FieldTakesSaid : Prop := fieldTakesRow.holds Try.pinned (OpenSpec.ofChange fieldTakesSpec)

/-- ITS FALSE NEIGHBOUR: 'it returns false'. Refute it at one input. -/
def fieldTakesWrong : ChangeSpec := { name := "fieldTakes", fn := fun _ => fun
  | [d1, d2] => { results := [.lit (.bool false)], args := [d1, d2] }
  | _ => none }
def FieldTakesWrongFalsely : Prop := fieldTakesRow.holds Try.pinned (OpenSpec.ofChange fieldTakesWrong)

/-- 'moatlaw01.FieldBack': WHATEVER THE INPUT: true; the input reads as it did. -/
def fieldBackSpec : ChangeSpec := { name := "fieldBack", fn := fun _ => fun
  | [d1, d2, d3, d4] => { results := [.lit (.bool true)], args := [d1, d2, d3, d4] }
  | _ => none }
def fieldBackRow : OpenClaim := { program := "ytgflpbbdohmhiaa", sum := "6789d2e5db62892a795996de9a5c6d2b698aa5a83aa480cb82dd634f3cc86445", func := "moat/moatlaw01.FieldBack", spec := "fieldBack", apart := false }
def FieldBackSaid : Prop := fieldBackRow.holds Try.pinned (OpenSpec.ofChange fieldBackSpec)

/-- ITS FALSE NEIGHBOUR: 'it returns false'. Refute it at one input. -/
def fieldBackWrong : ChangeSpec := { name := "fieldBack", fn := fun _ => fun
  | [d1, d2, d3, d4] => { results := [.lit (.bool false)], args := [d1, d2, d3, d4] }
  | _ => none }
def FieldBackWrongFalsely : Prop := fieldBackRow.holds Try.pinned (OpenSpec.ofChange fieldBackWrong)

/- THE SECOND FORM. 'bulk': how many values and letters a reading holds, each counted each time it is reached (what is shared counts as often as it is met; a slice's spare places count too). A statement '..UptoSaid' is the law's where the arguments, and the package variables that the reading takes, are together of bulk at most 1048576: NARROWER than '..Said'. Prove '..Said' where nothing that the law and all that it calls make is longer than what came in: it says more and counts as full. Else prove '..UptoSaid'. A law counts once. -/
mutual
def uptoBulk {H : Type} : DataW H → Nat
  | .lit (.string bytes) => bytes.length + 1
  | .lit _ => 1
  | .nil => 1
  | .ptr d => uptoBulk d + 1
  | .slice elems spare => uptoBulkAll elems + uptoBulkAll spare + 1
  | .agg parts => uptoBulkAll parts + 1
  | .iface _ d => uptoBulk d + 1
  | .map entries => uptoBulkEntries entries + 1
  | .held _ => 1
def uptoBulkAll {H : Type} : List (DataW H) → Nat
  | [] => 0
  | d :: r => uptoBulk d + uptoBulkAll r
def uptoBulkEntries {H : Type} : List (Lit × DataW H) → Nat
  | [] => 0
  | x :: r => uptoBulkEntry x + uptoBulkEntries r
def uptoBulkEntry {H : Type} : Lit × DataW H → Nat
  | (.string bytes, d) => bytes.length + uptoBulk d + 1
  | (_, d) => uptoBulk d + 1
 end
def uptoSmall : (H : Type) → List (DataW H) → Bool := fun _ ds => decide (uptoBulkAll ds ≤ 1048576)
def OpenSpec.upto (s : _root_.Go.ChangeSpec) : _root_.Go.OpenSpec := { _root_.Go.OpenSpec.ofChange s with cond := some uptoSmall }

/-- 'moatlaw01.FieldGets', WHERE WHAT IT READS IS OF BULK AT MOST 1048576: true; the input reads as it did. -/
def fieldGetsUptoRow : OpenClaim := { program := "ytgflpbbdohmhiaa", sum := "6789d2e5db62892a795996de9a5c6d2b698aa5a83aa480cb82dd634f3cc86445", func := "moat/moatlaw01.FieldGets", spec := "fieldGets", apart := false, narrowed := true }
def FieldGetsUptoSaid : Prop := fieldGetsUptoRow.holds Try.pinned (OpenSpec.upto fieldGetsSpec)

/-- 'moatlaw01.FieldLays', WHERE WHAT IT READS IS OF BULK AT MOST 1048576: true; the input reads as it did. -/
def fieldLaysUptoRow : OpenClaim := { program := "ytgflpbbdohmhiaa", sum := "6789d2e5db62892a795996de9a5c6d2b698aa5a83aa480cb82dd634f3cc86445", func := "moat/moatlaw01.FieldLays", spec := "fieldLays", apart := false, narrowed := true }
def FieldLaysUptoSaid : Prop := fieldLaysUptoRow.holds Try.pinned (OpenSpec.upto fieldLaysSpec)

/-- 'moatlaw01.FieldApart', WHERE WHAT IT READS IS OF BULK AT MOST 1048576: true; the input reads as it did. -/
def fieldApartUptoRow : OpenClaim := { program := "ytgflpbbdohmhiaa", sum := "6789d2e5db62892a795996de9a5c6d2b698aa5a83aa480cb82dd634f3cc86445", func := "moat/moatlaw01.FieldApart", spec := "fieldApart", apart := false, narrowed := true }
def FieldApartUptoSaid : Prop := fieldApartUptoRow.holds Try.pinned (OpenSpec.upto fieldApartSpec)

/-- 'moatlaw01.FieldParts', WHERE WHAT IT READS IS OF BULK AT MOST 1048576: true; the input reads as it did. -/
def fieldPartsUptoRow : OpenClaim := { program := "ytgflpbbdohmhiaa", sum := "6789d2e5db62892a795996de9a5c6d2b698aa5a83aa480cb82dd634f3cc86445", func := "moat/moatlaw01.FieldParts", spec := "fieldParts", apart := false, narrowed := true }
def FieldPartsUptoSaid : Prop := fieldPartsUptoRow.holds Try.pinned (OpenSpec.upto fieldPartsSpec)

/-- 'moatlaw01.FieldFills', WHERE WHAT IT READS IS OF BULK AT MOST 1048576: true; the input reads as it did. -/
def fieldFillsUptoRow : OpenClaim := { program := "ytgflpbbdohmhiaa", sum := "6789d2e5db62892a795996de9a5c6d2b698aa5a83aa480cb82dd634f3cc86445", func := "moat/moatlaw01.FieldFills", spec := "fieldFills", apart := false, narrowed := true }
def FieldFillsUptoSaid : Prop := fieldFillsUptoRow.holds Try.pinned (OpenSpec.upto fieldFillsSpec)

/-- 'moatlaw01.FieldTakes', WHERE WHAT IT READS IS OF BULK AT MOST 1048576: true; the input reads as it did. -/
def fieldTakesUptoRow : OpenClaim := { program := "ytgflpbbdohmhiaa", sum := "6789d2e5db62892a795996de9a5c6d2b698aa5a83aa480cb82dd634f3cc86445", func := "moat/moatlaw01.FieldTakes", spec := "fieldTakes", apart := false, narrowed := true }
def FieldTakesUptoSaid : Prop := fieldTakesUptoRow.holds Try.pinned (OpenSpec.upto fieldTakesSpec)

/-- 'moatlaw01.FieldBack', WHERE WHAT IT READS IS OF BULK AT MOST 1048576: true; the input reads as it did. -/
def fieldBackUptoRow : OpenClaim := { program := "ytgflpbbdohmhiaa", sum := "6789d2e5db62892a795996de9a5c6d2b698aa5a83aa480cb82dd634f3cc86445", func := "moat/moatlaw01.FieldBack", spec := "fieldBack", apart := false, narrowed := true }
def FieldBackUptoSaid : Prop := fieldBackUptoRow.holds Try.pinned (OpenSpec.upto fieldBackSpec)

end Rows
end Go.Proofs.Ytgflpbbdohmhiaa
