/-
  No cell of these rows narrows 'for every input' (looked for: loops, veiled, ifaces, maps, wideKeys, modest, calm, conditions, laid).
  DERIVED. THE GIVEN ROWS OF THIS SEAT. 6 by the template 'for every input the law returns true; each argument reads behind the call as it read before'; 0 by the template 'total and deterministic' (their statements: YtcepelagadpcnaaTotals.lean).
  GIVEN WITH THE SEED: the statements are not yours to turn. If you find one false, say at which input.
  Laid BY PROGRAM, IN A SANDBOX (cutbox-rows.mjs): the forced cells as the released guide's own fill.sh prints them over the translation 55ea169d2b68c747… (all of the seat's roots in one cut). By AI agents, Wed Nov 11 2026. No macro, syntax, notation, axiom, sorry.
-/
import Derived.Test.YtcepelagadpcnaaChecked
import GoSem.Claim
import GoSem.ClaimJoined
import GoSem.ClaimMapViews
import Derived.JoinedTies
import Derived.KernelRfl
namespace Go.Proofs.Ytcepelagadpcnaa
/- THE CELL 'sum', in the pinned program and in every row, IS THE sha256 OF THE DUMP (.gsa) THAT YtcepelagadpcnaaProg.lean LOADS. Nothing in Lean hashes anything: it is a label: what it is worth is what the hold of that sum in a sandbox is worth. -/
noncomputable def Try.pinned : Pinned := { name := "ytcepelagadpcnaa", sum := "55ea169d2b68c747026d4f26fd9ebe7aec6cbf1ba32e06c6f47ea4d84cbfdb49", checked := Try.checked }
namespace Rows
def none {H : Type} : Left H := { results := [], args := [] }

/-- 'moatlaw08.BitsHas': WHATEVER THE INPUT: true; the input reads as it did. -/
def bitsHasSpec : ChangeSpec := { name := "bitsHas", fn := fun _ => fun
  | [d1, d2, d3] => { results := [.lit (.bool true)], args := [d1, d2, d3] }
  | _ => none }
def bitsHasRow : OpenClaim := { program := "ytcepelagadpcnaa", sum := "55ea169d2b68c747026d4f26fd9ebe7aec6cbf1ba32e06c6f47ea4d84cbfdb49", func := "moat/moatlaw08.BitsHas", spec := "bitsHas", apart := false }
def BitsHasSaid : Prop := bitsHasRow.holds Try.pinned (OpenSpec.ofChange bitsHasSpec)

/-- ITS FALSE NEIGHBOUR: 'it returns false'. Refute it at one input. -/
def bitsHasWrong : ChangeSpec := { name := "bitsHas", fn := fun _ => fun
  | [d1, d2, d3] => { results := [.lit (.bool false)], args := [d1, d2, d3] }
  | _ => none }
def BitsHasWrongFalsely : Prop := bitsHasRow.holds Try.pinned (OpenSpec.ofChange bitsHasWrong)

/-- 'moatlaw08.BitsBack': WHATEVER THE INPUT: true; the input reads as it did. -/
def bitsBackSpec : ChangeSpec := { name := "bitsBack", fn := fun _ => fun
  | [d1, d2, d3, d4] => { results := [.lit (.bool true)], args := [d1, d2, d3, d4] }
  | _ => none }
def bitsBackRow : OpenClaim := { program := "ytcepelagadpcnaa", sum := "55ea169d2b68c747026d4f26fd9ebe7aec6cbf1ba32e06c6f47ea4d84cbfdb49", func := "moat/moatlaw08.BitsBack", spec := "bitsBack", apart := false }
def BitsBackSaid : Prop := bitsBackRow.holds Try.pinned (OpenSpec.ofChange bitsBackSpec)

/-- ITS FALSE NEIGHBOUR: 'it returns false'. Refute it at one input. -/
def bitsBackWrong : ChangeSpec := { name := "bitsBack", fn := fun _ => fun
  | [d1, d2, d3, d4] => { results := [.lit (.bool false)], args := [d1, d2, d3, d4] }
  | _ => none }
def BitsBackWrongFalsely : Prop := bitsBackRow.holds Try.pinned (OpenSpec.ofChange bitsBackWrong)

/-- 'moatlaw08.BitsCounts': WHATEVER THE INPUT: true; the input reads as it did. -/
def bitsCountsSpec : ChangeSpec := { name := "bitsCounts", fn := fun _ => fun
  | [d1, d2, d3, d4] => { results := [.lit (.bool true)], args := [d1, d2, d3, d4] }
  | _ => none }
def bitsCountsRow : OpenClaim := { program := "ytcepelagadpcnaa", sum := "55ea169d2b68c747026d4f26fd9ebe7aec6cbf1ba32e06c6f47ea4d84cbfdb49", func := "moat/moatlaw08.BitsCounts", spec := "bitsCounts", apart := false }
def BitsCountsSaid : Prop := bitsCountsRow.holds Try.pinned (OpenSpec.ofChange bitsCountsSpec)

/-- ITS FALSE NEIGHBOUR: 'it returns false'. Refute it at one input. -/
def bitsCountsWrong : ChangeSpec := { name := "bitsCounts", fn := fun _ => fun
  | [d1, d2, d3, d4] => { results := [.lit (.bool false)], args := [d1, d2, d3, d4] }
  | _ => none }
def BitsCountsWrongFalsely : Prop := bitsCountsRow.holds Try.pinned (OpenSpec.ofChange bitsCountsWrong)

/-- 'moatlaw08.BitsList': WHATEVER THE INPUT: true; the input reads as it did. -/
def bitsListSpec : ChangeSpec := { name := "bitsList", fn := fun _ => fun
  | [d1, d2, d3] => { results := [.lit (.bool true)], args := [d1, d2, d3] }
  | _ => none }
def bitsListRow : OpenClaim := { program := "ytcepelagadpcnaa", sum := "55ea169d2b68c747026d4f26fd9ebe7aec6cbf1ba32e06c6f47ea4d84cbfdb49", func := "moat/moatlaw08.BitsList", spec := "bitsList", apart := false }
def BitsListSaid : Prop := bitsListRow.holds Try.pinned (OpenSpec.ofChange bitsListSpec)

/-- ITS FALSE NEIGHBOUR: 'it returns false'. Refute it at one input. -/
def bitsListWrong : ChangeSpec := { name := "bitsList", fn := fun _ => fun
  | [d1, d2, d3] => { results := [.lit (.bool false)], args := [d1, d2, d3] }
  | _ => none }
def BitsListWrongFalsely : Prop := bitsListRow.holds Try.pinned (OpenSpec.ofChange bitsListWrong)

/-- 'moatlaw08.BitsFull': WHATEVER THE INPUT: true; the input reads as it did. -/
def bitsFullSpec : ChangeSpec := { name := "bitsFull", fn := fun _ => fun
  | [d] => { results := [.lit (.bool true)], args := [d] }
  | _ => none }
def bitsFullRow : OpenClaim := { program := "ytcepelagadpcnaa", sum := "55ea169d2b68c747026d4f26fd9ebe7aec6cbf1ba32e06c6f47ea4d84cbfdb49", func := "moat/moatlaw08.BitsFull", spec := "bitsFull", apart := false }
def BitsFullSaid : Prop := bitsFullRow.holds Try.pinned (OpenSpec.ofChange bitsFullSpec)

/-- ITS FALSE NEIGHBOUR: 'it returns false'. Refute it at one input. -/
def bitsFullWrong : ChangeSpec := { name := "bitsFull", fn := fun _ => fun
  | [d] => { results := [.lit (.bool false)], args := [d] }
  | _ => none }
def BitsFullWrongFalsely : Prop := bitsFullRow.holds Try.pinned (OpenSpec.ofChange bitsFullWrong)

/-- 'moatlaw08.BitsThere': WHATEVER THE INPUT: true; the input reads as it did. -/
def bitsThereSpec : ChangeSpec := { name := "bitsThere", fn := fun _ => fun
  | [d1, d2] => { results := [.lit (.bool true)], args := [d1, d2] }
  | _ => none }
def bitsThereRow : OpenClaim := { program := "ytcepelagadpcnaa", sum := "55ea169d2b68c747026d4f26fd9ebe7aec6cbf1ba32e06c6f47ea4d84cbfdb49", func := "moat/moatlaw08.BitsThere", spec := "bitsThere", apart := false }
def BitsThereSaid : Prop := bitsThereRow.holds Try.pinned (OpenSpec.ofChange bitsThereSpec)

/-- ITS FALSE NEIGHBOUR: 'it returns false'. Refute it at one input. -/
def bitsThereWrong : ChangeSpec := { name := "bitsThere", fn := fun _ => fun
  | [d1, d2] => { results := [.lit (.bool false)], args := [d1, d2] }
  | _ => none }
def BitsThereWrongFalsely : Prop := bitsThereRow.holds Try.pinned (OpenSpec.ofChange bitsThereWrong)

/- THE SECOND FORM. 'bulk': how many values and letters a reading holds, each counted each time it is reached (what is shared counts as often as it is met; a slice's spare places count too). A statement '..UptoSaid' is the law's where the arguments, and the package variables that the reading takes, are together of bulk at most 1048576: NARROWER than '..Said'. Prove '..Said' where nothing that the law and all that it calls make is longer than what came in: it says more and counts as full. Else prove '..UptoSaid'. A law counts once. -/
mutual
def uptoBulk {H : Type} : DataW H → Nat
  | .lit (.string bytes) => bytes.length + 1
  | .lit _ => 1
  | .nil => 1
  | .ptr d => uptoBulk d + 1
  | .slice elems spare => uptoBulkAll elems + uptoBulkAll spare + 1
  | .agg parts => uptoBulkAll parts + 1
  | .iface _ d => uptoBulk d + 1
  | .map entries => uptoBulkEntries entries + 1
  | .held _ => 1
def uptoBulkAll {H : Type} : List (DataW H) → Nat
  | [] => 0
  | d :: r => uptoBulk d + uptoBulkAll r
def uptoBulkEntries {H : Type} : List (Lit × DataW H) → Nat
  | [] => 0
  | x :: r => uptoBulkEntry x + uptoBulkEntries r
def uptoBulkEntry {H : Type} : Lit × DataW H → Nat
  | (.string bytes, d) => bytes.length + uptoBulk d + 1
  | (_, d) => uptoBulk d + 1
 end
def uptoSmall : (H : Type) → List (DataW H) → Bool := fun _ ds => decide (uptoBulkAll ds ≤ 1048576)
def OpenSpec.upto (s : _root_.Go.ChangeSpec) : _root_.Go.OpenSpec := { _root_.Go.OpenSpec.ofChange s with cond := some uptoSmall }

/-- 'moatlaw08.BitsHas', WHERE WHAT IT READS IS OF BULK AT MOST 1048576: true; the input reads as it did. -/
def bitsHasUptoRow : OpenClaim := { program := "ytcepelagadpcnaa", sum := "55ea169d2b68c747026d4f26fd9ebe7aec6cbf1ba32e06c6f47ea4d84cbfdb49", func := "moat/moatlaw08.BitsHas", spec := "bitsHas", apart := false, narrowed := true }
def BitsHasUptoSaid : Prop := bitsHasUptoRow.holds Try.pinned (OpenSpec.upto bitsHasSpec)

/-- 'moatlaw08.BitsBack', WHERE WHAT IT READS IS OF BULK AT MOST 1048576: true; the input reads as it did. -/
def bitsBackUptoRow : OpenClaim := { program := "ytcepelagadpcnaa", sum := "55ea169d2b68c747026d4f26fd9ebe7aec6cbf1ba32e06c6f47ea4d84cbfdb49", func := "moat/moatlaw08.BitsBack", spec := "bitsBack", apart := false, narrowed := true }
def BitsBackUptoSaid : Prop := bitsBackUptoRow.holds Try.pinned (OpenSpec.upto bitsBackSpec)

/-- 'moatlaw08.BitsCounts', WHERE WHAT IT READS IS OF BULK AT MOST 1048576: true; the input reads as it did. -/
def bitsCountsUptoRow : OpenClaim := { program := "ytcepelagadpcnaa", sum := "55ea169d2b68c747026d4f26fd9ebe7aec6cbf1ba32e06c6f47ea4d84cbfdb49", func := "moat/moatlaw08.BitsCounts", spec := "bitsCounts", apart := false, narrowed := true }
def BitsCountsUptoSaid : Prop := bitsCountsUptoRow.holds Try.pinned (OpenSpec.upto bitsCountsSpec)

/-- 'moatlaw08.BitsList', WHERE WHAT IT READS IS OF BULK AT MOST 1048576: true; the input reads as it did. -/
def bitsListUptoRow : OpenClaim := { program := "ytcepelagadpcnaa", sum := "55ea169d2b68c747026d4f26fd9ebe7aec6cbf1ba32e06c6f47ea4d84cbfdb49", func := "moat/moatlaw08.BitsList", spec := "bitsList", apart := false, narrowed := true }
def BitsListUptoSaid : Prop := bitsListUptoRow.holds Try.pinned (OpenSpec.upto bitsListSpec)

/-- 'moatlaw08.BitsFull', WHERE WHAT IT READS IS OF BULK AT MOST 1048576: true; the input reads as it did. -/
def bitsFullUptoRow : OpenClaim := { program := "ytcepelagadpcnaa", sum := "55ea169d2b68c747026d4f26fd9ebe7aec6cbf1ba32e06c6f47ea4d84cbfdb49", func := "moat/moatlaw08.BitsFull", spec := "bitsFull", apart := false, narrowed := true }
def BitsFullUptoSaid : Prop := bitsFullUptoRow.holds Try.pinned (OpenSpec.upto bitsFullSpec)

/-- 'moatlaw08.BitsThere', WHERE WHAT IT READS IS OF BULK AT MOST 1048576: true; the input reads as it did. -/
def bitsThereUptoRow : OpenClaim := { program := "ytcepelagadpcnaa", sum := "55ea169d2b68c747026d4f26fd9ebe7aec6cbf1ba32e06c6f47ea4d84cbfdb49", func := "moat/moatlaw08.BitsThere", spec := "bitsThere", apart := false, narrowed := true }
def BitsThereUptoSaid : Prop := bitsThereUptoRow.holds Try.pinned (OpenSpec.upto bitsThereSpec)

end Rows
end Go.Proofs.Ytcepelagadpcnaa
