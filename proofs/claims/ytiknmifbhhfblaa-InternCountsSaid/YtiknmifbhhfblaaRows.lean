/-
  No cell of these rows narrows 'for every input' (looked for: loops, veiled, ifaces, maps, wideKeys, modest, calm, conditions, laid).
  DERIVED. THE GIVEN ROWS OF THIS SEAT. 6 by the template 'for every input the law returns true; each argument reads behind the call as it read before'; 0 by the template 'total and deterministic' (their statements: YtiknmifbhhfblaaTotals.lean).
  GIVEN WITH THE SEED: the statements are not yours to turn. If you find one false, say at which input.
  Laid BY PROGRAM, IN A SANDBOX (cutbox-rows.mjs): the forced cells as the released guide's own fill.sh prints them over the translation 3bbc4bb6bcd1a4ad… (all of the seat's roots in one cut). By AI agents, Wed Nov 11 2026. No macro, syntax, notation, axiom, sorry.
-/
import Derived.Test.YtiknmifbhhfblaaChecked
import GoSem.Claim
import GoSem.ClaimJoined
import GoSem.ClaimMapViews
import Derived.JoinedTies
import Derived.KernelRfl
namespace Go.Proofs.Ytiknmifbhhfblaa
/- THE CELL 'sum', in the pinned program and in every row, IS THE sha256 OF THE DUMP (.gsa) THAT YtiknmifbhhfblaaProg.lean LOADS. Nothing in Lean hashes anything: it is a label: what it is worth is what the hold of that sum in a sandbox is worth. -/
noncomputable def Try.pinned : Pinned := { name := "ytiknmifbhhfblaa", sum := "3bbc4bb6bcd1a4ad737162cd7912e27f361f95caf65efe2ab773f8440393a028", checked := Try.checked }
namespace Rows
def none {H : Type} : Left H := { results := [], args := [] }

/-- 'moatlaw10.InternRows': WHATEVER THE INPUT: true; the input reads as it did. -/
def internRowsSpec : ChangeSpec := { name := "internRows", fn := fun _ => fun
  | [d1, d2, d3] => { results := [.lit (.bool true)], args := [d1, d2, d3] }
  | _ => none }
def internRowsRow : OpenClaim := { program := "ytiknmifbhhfblaa", sum := "3bbc4bb6bcd1a4ad737162cd7912e27f361f95caf65efe2ab773f8440393a028", func := "moat/moatlaw10.InternRows", spec := "internRows", unfollowed := true, recurses := true, apart := false }
def InternRowsSaid : Prop := internRowsRow.holds Try.pinned (OpenSpec.ofChange internRowsSpec)

/-- ITS FALSE NEIGHBOUR: 'it returns false'. Refute it at one input. -/
def internRowsWrong : ChangeSpec := { name := "internRows", fn := fun _ => fun
  | [d1, d2, d3] => { results := [.lit (.bool false)], args := [d1, d2, d3] }
  | _ => none }
def InternRowsWrongFalsely : Prop := internRowsRow.holds Try.pinned (OpenSpec.ofChange internRowsWrong)

/-- 'moatlaw10.InternCounts': WHATEVER THE INPUT: true; the input reads as it did. -/
def internCountsSpec : ChangeSpec := { name := "internCounts", fn := fun _ => fun
  | [d] => { results := [.lit (.bool true)], args := [d] }
  | _ => none }
def internCountsRow : OpenClaim := { program := "ytiknmifbhhfblaa", sum := "3bbc4bb6bcd1a4ad737162cd7912e27f361f95caf65efe2ab773f8440393a028", func := "moat/moatlaw10.InternCounts", spec := "internCounts", unfollowed := true, recurses := true, apart := false }
def InternCountsSaid : Prop := internCountsRow.holds Try.pinned (OpenSpec.ofChange internCountsSpec)

/-- ITS FALSE NEIGHBOUR: 'it returns false'. Refute it at one input. -/
def internCountsWrong : ChangeSpec := { name := "internCounts", fn := fun _ => fun
  | [d] => { results := [.lit (.bool false)], args := [d] }
  | _ => none }
def InternCountsWrongFalsely : Prop := internCountsRow.holds Try.pinned (OpenSpec.ofChange internCountsWrong)

/-- 'moatlaw10.InternUndo': WHATEVER THE INPUT: true; the input reads as it did. -/
def internUndoSpec : ChangeSpec := { name := "internUndo", fn := fun _ => fun
  | [d1, d2] => { results := [.lit (.bool true)], args := [d1, d2] }
  | _ => none }
def internUndoRow : OpenClaim := { program := "ytiknmifbhhfblaa", sum := "3bbc4bb6bcd1a4ad737162cd7912e27f361f95caf65efe2ab773f8440393a028", func := "moat/moatlaw10.InternUndo", spec := "internUndo", unfollowed := true, recurses := true, apart := false }
def InternUndoSaid : Prop := internUndoRow.holds Try.pinned (OpenSpec.ofChange internUndoSpec)

/-- ITS FALSE NEIGHBOUR: 'it returns false'. Refute it at one input. -/
def internUndoWrong : ChangeSpec := { name := "internUndo", fn := fun _ => fun
  | [d1, d2] => { results := [.lit (.bool false)], args := [d1, d2] }
  | _ => none }
def InternUndoWrongFalsely : Prop := internUndoRow.holds Try.pinned (OpenSpec.ofChange internUndoWrong)

/-- 'moatlaw10.InternLays': WHATEVER THE INPUT: true; the input reads as it did. -/
def internLaysSpec : ChangeSpec := { name := "internLays", fn := fun _ => fun
  | [d] => { results := [.lit (.bool true)], args := [d] }
  | _ => none }
def internLaysRow : OpenClaim := { program := "ytiknmifbhhfblaa", sum := "3bbc4bb6bcd1a4ad737162cd7912e27f361f95caf65efe2ab773f8440393a028", func := "moat/moatlaw10.InternLays", spec := "internLays", unfollowed := true, recurses := true, apart := false }
def InternLaysSaid : Prop := internLaysRow.holds Try.pinned (OpenSpec.ofChange internLaysSpec)

/-- ITS FALSE NEIGHBOUR: 'it returns false'. Refute it at one input. -/
def internLaysWrong : ChangeSpec := { name := "internLays", fn := fun _ => fun
  | [d] => { results := [.lit (.bool false)], args := [d] }
  | _ => none }
def InternLaysWrongFalsely : Prop := internLaysRow.holds Try.pinned (OpenSpec.ofChange internLaysWrong)

/-- 'moatlaw10.InternTakes': WHATEVER THE INPUT: true; the input reads as it did. -/
def internTakesSpec : ChangeSpec := { name := "internTakes", fn := fun _ => fun
  | [d] => { results := [.lit (.bool true)], args := [d] }
  | _ => none }
def internTakesRow : OpenClaim := { program := "ytiknmifbhhfblaa", sum := "3bbc4bb6bcd1a4ad737162cd7912e27f361f95caf65efe2ab773f8440393a028", func := "moat/moatlaw10.InternTakes", spec := "internTakes", unfollowed := true, recurses := true, apart := false }
def InternTakesSaid : Prop := internTakesRow.holds Try.pinned (OpenSpec.ofChange internTakesSpec)

/-- ITS FALSE NEIGHBOUR: 'it returns false'. Refute it at one input. -/
def internTakesWrong : ChangeSpec := { name := "internTakes", fn := fun _ => fun
  | [d] => { results := [.lit (.bool false)], args := [d] }
  | _ => none }
def InternTakesWrongFalsely : Prop := internTakesRow.holds Try.pinned (OpenSpec.ofChange internTakesWrong)

/-- 'moatlaw10.InternBack': WHATEVER THE INPUT: true; the input reads as it did. -/
def internBackSpec : ChangeSpec := { name := "internBack", fn := fun _ => fun
  | [d1, d2] => { results := [.lit (.bool true)], args := [d1, d2] }
  | _ => none }
def internBackRow : OpenClaim := { program := "ytiknmifbhhfblaa", sum := "3bbc4bb6bcd1a4ad737162cd7912e27f361f95caf65efe2ab773f8440393a028", func := "moat/moatlaw10.InternBack", spec := "internBack", unfollowed := true, recurses := true, apart := false }
def InternBackSaid : Prop := internBackRow.holds Try.pinned (OpenSpec.ofChange internBackSpec)

/-- ITS FALSE NEIGHBOUR: 'it returns false'. Refute it at one input. -/
def internBackWrong : ChangeSpec := { name := "internBack", fn := fun _ => fun
  | [d1, d2] => { results := [.lit (.bool false)], args := [d1, d2] }
  | _ => none }
def InternBackWrongFalsely : Prop := internBackRow.holds Try.pinned (OpenSpec.ofChange internBackWrong)

/- THE SECOND FORM. 'bulk': how many values and letters a reading holds, each counted each time it is reached (what is shared counts as often as it is met; a slice's spare places count too). A statement '..UptoSaid' is the law's where the arguments, and the package variables that the reading takes, are together of bulk at most 1048576: NARROWER than '..Said'. Prove '..Said' where nothing that the law and all that it calls make is longer than what came in: it says more and counts as full. Else prove '..UptoSaid'. A law counts once. -/
mutual
def uptoBulk {H : Type} : DataW H → Nat
  | .lit (.string bytes) => bytes.length + 1
  | .lit _ => 1
  | .nil => 1
  | .ptr d => uptoBulk d + 1
  | .slice elems spare => uptoBulkAll elems + uptoBulkAll spare + 1
  | .agg parts => uptoBulkAll parts + 1
  | .iface _ d => uptoBulk d + 1
  | .map entries => uptoBulkEntries entries + 1
  | .held _ => 1
def uptoBulkAll {H : Type} : List (DataW H) → Nat
  | [] => 0
  | d :: r => uptoBulk d + uptoBulkAll r
def uptoBulkEntries {H : Type} : List (Lit × DataW H) → Nat
  | [] => 0
  | x :: r => uptoBulkEntry x + uptoBulkEntries r
def uptoBulkEntry {H : Type} : Lit × DataW H → Nat
  | (.string bytes, d) => bytes.length + uptoBulk d + 1
  | (_, d) => uptoBulk d + 1
 end
def uptoSmall : (H : Type) → List (DataW H) → Bool := fun _ ds => decide (uptoBulkAll ds ≤ 1048576)
def OpenSpec.upto (s : _root_.Go.ChangeSpec) : _root_.Go.OpenSpec := { _root_.Go.OpenSpec.ofChange s with cond := some uptoSmall }

/-- 'moatlaw10.InternRows', WHERE WHAT IT READS IS OF BULK AT MOST 1048576: true; the input reads as it did. -/
def internRowsUptoRow : OpenClaim := { program := "ytiknmifbhhfblaa", sum := "3bbc4bb6bcd1a4ad737162cd7912e27f361f95caf65efe2ab773f8440393a028", func := "moat/moatlaw10.InternRows", spec := "internRows", unfollowed := true, recurses := true, apart := false, narrowed := true }
def InternRowsUptoSaid : Prop := internRowsUptoRow.holds Try.pinned (OpenSpec.upto internRowsSpec)

/-- 'moatlaw10.InternCounts', WHERE WHAT IT READS IS OF BULK AT MOST 1048576: true; the input reads as it did. -/
def internCountsUptoRow : OpenClaim := { program := "ytiknmifbhhfblaa", sum := "3bbc4bb6bcd1a4ad737162cd7912e27f361f95caf65efe2ab773f8440393a028", func := "moat/moatlaw10.InternCounts", spec := "internCounts", unfollowed := true, recurses := true, apart := false, narrowed := true }
def InternCountsUptoSaid : Prop := internCountsUptoRow.holds Try.pinned (OpenSpec.upto internCountsSpec)

/-- 'moatlaw10.InternUndo', WHERE WHAT IT READS IS OF BULK AT MOST 1048576: true; the input reads as it did. -/
def internUndoUptoRow : OpenClaim := { program := "ytiknmifbhhfblaa", sum := "3bbc4bb6bcd1a4ad737162cd7912e27f361f95caf65efe2ab773f8440393a028", func := "moat/moatlaw10.InternUndo", spec := "internUndo", unfollowed := true, recurses := true, apart := false, narrowed := true }
def InternUndoUptoSaid : Prop := internUndoUptoRow.holds Try.pinned (OpenSpec.upto internUndoSpec)

/-- 'moatlaw10.InternLays', WHERE WHAT IT READS IS OF BULK AT MOST 1048576: true; the input reads as it did. -/
def internLaysUptoRow : OpenClaim := { program := "ytiknmifbhhfblaa", sum := "3bbc4bb6bcd1a4ad737162cd7912e27f361f95caf65efe2ab773f8440393a028", func := "moat/moatlaw10.InternLays", spec := "internLays", unfollowed := true, recurses := true, apart := false, narrowed := true }
def InternLaysUptoSaid : Prop := internLaysUptoRow.holds Try.pinned (OpenSpec.upto internLaysSpec)

/-- 'moatlaw10.InternTakes', WHERE WHAT IT READS IS OF BULK AT MOST 1048576: true; the input reads as it did. -/
def internTakesUptoRow : OpenClaim := { program := "ytiknmifbhhfblaa", sum := "3bbc4bb6bcd1a4ad737162cd7912e27f361f95caf65efe2ab773f8440393a028", func := "moat/moatlaw10.InternTakes", spec := "internTakes", unfollowed := true, recurses := true, apart := false, narrowed := true }
def InternTakesUptoSaid : Prop := internTakesUptoRow.holds Try.pinned (OpenSpec.upto internTakesSpec)

/-- 'moatlaw10.InternBack', WHERE WHAT IT READS IS OF BULK AT MOST 1048576: true; the input reads as it did. -/
def internBackUptoRow : OpenClaim := { program := "ytiknmifbhhfblaa", sum := "3bbc4bb6bcd1a4ad737162cd7912e27f361f95caf65efe2ab773f8440393a028", func := "moat/moatlaw10.InternBack", spec := "internBack", unfollowed := true, recurses := true, apart := false, narrowed := true }
def InternBackUptoSaid : Prop := internBackUptoRow.holds Try.pinned (OpenSpec.upto internBackSpec)

end Rows
end Go.Proofs.Ytiknmifbhhfblaa
