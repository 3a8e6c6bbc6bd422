/-
  No cell of these rows narrows 'for every input' (looked for: loops, veiled, ifaces, maps, wideKeys, modest, calm, conditions, laid).
  DERIVED. THE GIVEN ROWS OF THIS SEAT. 7 by the template 'for every input the law returns true; each argument reads behind the call as it read before'; 0 by the template 'total and deterministic' (their statements: YtdimnnnklhjnfaaTotals.lean).
  GIVEN WITH THE SEED: the statements are not yours to turn. If you find one false, say at which input.
  Laid BY PROGRAM, IN A SANDBOX (cutbox-rows.mjs): the forced cells as the released guide's own fill.sh prints them over the translation 4135773e32667e73… (all of the seat's roots in one cut). By AI agents, Wed Nov 11 2026. No macro, syntax, notation, axiom, sorry.
-/
import Derived.Test.YtdimnnnklhjnfaaChecked
import GoSem.Claim
import GoSem.ClaimJoined
import GoSem.ClaimMapViews
import Derived.JoinedTies
import Derived.KernelRfl
namespace Go.Proofs.Ytdimnnnklhjnfaa
/- THE CELL 'sum', in the pinned program and in every row, IS THE sha256 OF THE DUMP (.gsa) THAT YtdimnnnklhjnfaaProg.lean LOADS. Nothing in Lean hashes anything: it is a label: what it is worth is what the hold of that sum in a sandbox is worth. -/
noncomputable def Try.pinned : Pinned := { name := "ytdimnnnklhjnfaa", sum := "4135773e32667e7330ac2fe532f113efffc79c4d95086801f84d7a905d7a9415", checked := Try.checked }
namespace Rows
def none {H : Type} : Left H := { results := [], args := [] }

/-- 'moatlaw11.InodeApart': WHATEVER THE INPUT: true; the input reads as it did. -/
def inodeApartSpec : ChangeSpec := { name := "inodeApart", fn := fun _ => fun
  | [d1, d2] => { results := [.lit (.bool true)], args := [d1, d2] }
  | _ => none }
def inodeApartRow : OpenClaim := { program := "ytdimnnnklhjnfaa", sum := "4135773e32667e7330ac2fe532f113efffc79c4d95086801f84d7a905d7a9415", func := "moat/moatlaw11.InodeApart", spec := "inodeApart", apart := false }
def InodeApartSaid : Prop := inodeApartRow.holds Try.pinned (OpenSpec.ofChange inodeApartSpec)

/-- ITS FALSE NEIGHBOUR: 'it returns false'. Refute it at one input. -/
def inodeApartWrong : ChangeSpec := { name := "inodeApart", fn := fun _ => fun
  | [d1, d2] => { results := [.lit (.bool false)], args := [d1, d2] }
  | _ => none }
def InodeApartWrongFalsely : Prop := inodeApartRow.holds Try.pinned (OpenSpec.ofChange inodeApartWrong)

/-- 'moatlaw11.InodeMore': WHATEVER THE INPUT: true; the input reads as it did. -/
def inodeMoreSpec : ChangeSpec := { name := "inodeMore", fn := fun _ => fun
  | [d1, d2] => { results := [.lit (.bool true)], args := [d1, d2] }
  | _ => none }
def inodeMoreRow : OpenClaim := { program := "ytdimnnnklhjnfaa", sum := "4135773e32667e7330ac2fe532f113efffc79c4d95086801f84d7a905d7a9415", func := "moat/moatlaw11.InodeMore", spec := "inodeMore", apart := false }
def InodeMoreSaid : Prop := inodeMoreRow.holds Try.pinned (OpenSpec.ofChange inodeMoreSpec)

/-- ITS FALSE NEIGHBOUR: 'it returns false'. Refute it at one input. -/
def inodeMoreWrong : ChangeSpec := { name := "inodeMore", fn := fun _ => fun
  | [d1, d2] => { results := [.lit (.bool false)], args := [d1, d2] }
  | _ => none }
def InodeMoreWrongFalsely : Prop := inodeMoreRow.holds Try.pinned (OpenSpec.ofChange inodeMoreWrong)

/-- 'moatlaw11.InodeWays': WHATEVER THE INPUT: true; the input reads as it did. -/
def inodeWaysSpec : ChangeSpec := { name := "inodeWays", fn := fun _ => fun
  | [d1, d2] => { results := [.lit (.bool true)], args := [d1, d2] }
  | _ => none }
def inodeWaysRow : OpenClaim := { program := "ytdimnnnklhjnfaa", sum := "4135773e32667e7330ac2fe532f113efffc79c4d95086801f84d7a905d7a9415", func := "moat/moatlaw11.InodeWays", spec := "inodeWays", apart := false }
def InodeWaysSaid : Prop := inodeWaysRow.holds Try.pinned (OpenSpec.ofChange inodeWaysSpec)

/-- ITS FALSE NEIGHBOUR: 'it returns false'. Refute it at one input. -/
def inodeWaysWrong : ChangeSpec := { name := "inodeWays", fn := fun _ => fun
  | [d1, d2] => { results := [.lit (.bool false)], args := [d1, d2] }
  | _ => none }
def InodeWaysWrongFalsely : Prop := inodeWaysRow.holds Try.pinned (OpenSpec.ofChange inodeWaysWrong)

/-- 'moatlaw11.InodeLays': WHATEVER THE INPUT: true; the input reads as it did. -/
def inodeLaysSpec : ChangeSpec := { name := "inodeLays", fn := fun _ => fun
  | [d] => { results := [.lit (.bool true)], args := [d] }
  | _ => none }
def inodeLaysRow : OpenClaim := { program := "ytdimnnnklhjnfaa", sum := "4135773e32667e7330ac2fe532f113efffc79c4d95086801f84d7a905d7a9415", func := "moat/moatlaw11.InodeLays", spec := "inodeLays", apart := false }
def InodeLaysSaid : Prop := inodeLaysRow.holds Try.pinned (OpenSpec.ofChange inodeLaysSpec)

/-- ITS FALSE NEIGHBOUR: 'it returns false'. Refute it at one input. -/
def inodeLaysWrong : ChangeSpec := { name := "inodeLays", fn := fun _ => fun
  | [d] => { results := [.lit (.bool false)], args := [d] }
  | _ => none }
def InodeLaysWrongFalsely : Prop := inodeLaysRow.holds Try.pinned (OpenSpec.ofChange inodeLaysWrong)

/-- 'moatlaw11.InodeBlocks': WHATEVER THE INPUT: true; the input reads as it did. -/
def inodeBlocksSpec : ChangeSpec := { name := "inodeBlocks", fn := fun _ => fun
  | [d1, d2] => { results := [.lit (.bool true)], args := [d1, d2] }
  | _ => none }
def inodeBlocksRow : OpenClaim := { program := "ytdimnnnklhjnfaa", sum := "4135773e32667e7330ac2fe532f113efffc79c4d95086801f84d7a905d7a9415", func := "moat/moatlaw11.InodeBlocks", spec := "inodeBlocks", apart := false }
def InodeBlocksSaid : Prop := inodeBlocksRow.holds Try.pinned (OpenSpec.ofChange inodeBlocksSpec)

/-- ITS FALSE NEIGHBOUR: 'it returns false'. Refute it at one input. -/
def inodeBlocksWrong : ChangeSpec := { name := "inodeBlocks", fn := fun _ => fun
  | [d1, d2] => { results := [.lit (.bool false)], args := [d1, d2] }
  | _ => none }
def InodeBlocksWrongFalsely : Prop := inodeBlocksRow.holds Try.pinned (OpenSpec.ofChange inodeBlocksWrong)

/-- 'moatlaw11.InodeTakes': WHATEVER THE INPUT: true; the input reads as it did. -/
def inodeTakesSpec : ChangeSpec := { name := "inodeTakes", fn := fun _ => fun
  | [d] => { results := [.lit (.bool true)], args := [d] }
  | _ => none }
def inodeTakesRow : OpenClaim := { program := "ytdimnnnklhjnfaa", sum := "4135773e32667e7330ac2fe532f113efffc79c4d95086801f84d7a905d7a9415", func := "moat/moatlaw11.InodeTakes", spec := "inodeTakes", unfollowed := true, recurses := true, apart := false }
def InodeTakesSaid : Prop := inodeTakesRow.holds Try.pinned (OpenSpec.ofChange inodeTakesSpec)

/-- ITS FALSE NEIGHBOUR: 'it returns false'. Refute it at one input. -/
def inodeTakesWrong : ChangeSpec := { name := "inodeTakes", fn := fun _ => fun
  | [d] => { results := [.lit (.bool false)], args := [d] }
  | _ => none }
def InodeTakesWrongFalsely : Prop := inodeTakesRow.holds Try.pinned (OpenSpec.ofChange inodeTakesWrong)

/-- 'moatlaw11.InodeBack': WHATEVER THE INPUT: true; the input reads as it did. -/
def inodeBackSpec : ChangeSpec := { name := "inodeBack", fn := fun _ => fun
  | [d1, d2] => { results := [.lit (.bool true)], args := [d1, d2] }
  | _ => none }
def inodeBackRow : OpenClaim := { program := "ytdimnnnklhjnfaa", sum := "4135773e32667e7330ac2fe532f113efffc79c4d95086801f84d7a905d7a9415", func := "moat/moatlaw11.InodeBack", spec := "inodeBack", unfollowed := true, recurses := true, apart := false }
def InodeBackSaid : Prop := inodeBackRow.holds Try.pinned (OpenSpec.ofChange inodeBackSpec)

/-- ITS FALSE NEIGHBOUR: 'it returns false'. Refute it at one input. -/
def inodeBackWrong : ChangeSpec := { name := "inodeBack", fn := fun _ => fun
  | [d1, d2] => { results := [.lit (.bool false)], args := [d1, d2] }
  | _ => none }
def InodeBackWrongFalsely : Prop := inodeBackRow.holds Try.pinned (OpenSpec.ofChange inodeBackWrong)

/- THE SECOND FORM. 'bulk': how many values and letters a reading holds, each counted each time it is reached (what is shared counts as often as it is met; a slice's spare places count too). A statement '..UptoSaid' is the law's where the arguments, and the package variables that the reading takes, are together of bulk at most 1048576: NARROWER than '..Said'. Prove '..Said' where nothing that the law and all that it calls make is longer than what came in: it says more and counts as full. Else prove '..UptoSaid'. A law counts once. -/
mutual
def uptoBulk {H : Type} : DataW H → Nat
  | .lit (.string bytes) => bytes.length + 1
  | .lit _ => 1
  | .nil => 1
  | .ptr d => uptoBulk d + 1
  | .slice elems spare => uptoBulkAll elems + uptoBulkAll spare + 1
  | .agg parts => uptoBulkAll parts + 1
  | .iface _ d => uptoBulk d + 1
  | .map entries => uptoBulkEntries entries + 1
  | .held _ => 1
def uptoBulkAll {H : Type} : List (DataW H) → Nat
  | [] => 0
  | d :: r => uptoBulk d + uptoBulkAll r
def uptoBulkEntries {H : Type} : List (Lit × DataW H) → Nat
  | [] => 0
  | x :: r => uptoBulkEntry x + uptoBulkEntries r
def uptoBulkEntry {H : Type} : Lit × DataW H → Nat
  | (.string bytes, d) => bytes.length + uptoBulk d + 1
  | (_, d) => uptoBulk d + 1
 end
def uptoSmall : (H : Type) → List (DataW H) → Bool := fun _ ds => decide (uptoBulkAll ds ≤ 1048576)
def OpenSpec.upto (s : _root_.Go.ChangeSpec) : _root_.Go.OpenSpec := { _root_.Go.OpenSpec.ofChange s with cond := some uptoSmall }

/-- 'moatlaw11.InodeApart', WHERE WHAT IT READS IS OF BULK AT MOST 1048576: true; the input reads as it did. -/
def inodeApartUptoRow : OpenClaim := { program := "ytdimnnnklhjnfaa", sum := "4135773e32667e7330ac2fe532f113efffc79c4d95086801f84d7a905d7a9415", func := "moat/moatlaw11.InodeApart", spec := "inodeApart", apart := false, narrowed := true }
def InodeApartUptoSaid : Prop := inodeApartUptoRow.holds Try.pinned (OpenSpec.upto inodeApartSpec)

/-- 'moatlaw11.InodeMore', WHERE WHAT IT READS IS OF BULK AT MOST 1048576: true; the input reads as it did. -/
def inodeMoreUptoRow : OpenClaim := { program := "ytdimnnnklhjnfaa", sum := "4135773e32667e7330ac2fe532f113efffc79c4d95086801f84d7a905d7a9415", func := "moat/moatlaw11.InodeMore", spec := "inodeMore", apart := false, narrowed := true }
def InodeMoreUptoSaid : Prop := inodeMoreUptoRow.holds Try.pinned (OpenSpec.upto inodeMoreSpec)

/-- 'moatlaw11.InodeWays', WHERE WHAT IT READS IS OF BULK AT MOST 1048576: true; the input reads as it did. -/
def inodeWaysUptoRow : OpenClaim := { program := "ytdimnnnklhjnfaa", sum := "4135773e32667e7330ac2fe532f113efffc79c4d95086801f84d7a905d7a9415", func := "moat/moatlaw11.InodeWays", spec := "inodeWays", apart := false, narrowed := true }
def InodeWaysUptoSaid : Prop := inodeWaysUptoRow.holds Try.pinned (OpenSpec.upto inodeWaysSpec)

/-- 'moatlaw11.InodeLays', WHERE WHAT IT READS IS OF BULK AT MOST 1048576: true; the input reads as it did. -/
def inodeLaysUptoRow : OpenClaim := { program := "ytdimnnnklhjnfaa", sum := "4135773e32667e7330ac2fe532f113efffc79c4d95086801f84d7a905d7a9415", func := "moat/moatlaw11.InodeLays", spec := "inodeLays", apart := false, narrowed := true }
def InodeLaysUptoSaid : Prop := inodeLaysUptoRow.holds Try.pinned (OpenSpec.upto inodeLaysSpec)

/-- 'moatlaw11.InodeBlocks', WHERE WHAT IT READS IS OF BULK AT MOST 1048576: true; the input reads as it did. -/
def inodeBlocksUptoRow : OpenClaim := { program := "ytdimnnnklhjnfaa", sum := "4135773e32667e7330ac2fe532f113efffc79c4d95086801f84d7a905d7a9415", func := "moat/moatlaw11.InodeBlocks", spec := "inodeBlocks", apart := false, narrowed := true }
def InodeBlocksUptoSaid : Prop := inodeBlocksUptoRow.holds Try.pinned (OpenSpec.upto inodeBlocksSpec)

/-- 'moatlaw11.InodeTakes', WHERE WHAT IT READS IS OF BULK AT MOST 1048576: true; the input reads as it did. -/
def inodeTakesUptoRow : OpenClaim := { program := "ytdimnnnklhjnfaa", sum := "4135773e32667e7330ac2fe532f113efffc79c4d95086801f84d7a905d7a9415", func := "moat/moatlaw11.InodeTakes", spec := "inodeTakes", unfollowed := true, recurses := true, apart := false, narrowed := true }
def InodeTakesUptoSaid : Prop := inodeTakesUptoRow.holds Try.pinned (OpenSpec.upto inodeTakesSpec)

/-- 'moatlaw11.InodeBack', WHERE WHAT IT READS IS OF BULK AT MOST 1048576: true; the input reads as it did. -/
def inodeBackUptoRow : OpenClaim := { program := "ytdimnnnklhjnfaa", sum := "4135773e32667e7330ac2fe532f113efffc79c4d95086801f84d7a905d7a9415", func := "moat/moatlaw11.InodeBack", spec := "inodeBack", unfollowed := true, recurses := true, apart := false, narrowed := true }
def InodeBackUptoSaid : Prop := inodeBackUptoRow.holds Try.pinned (OpenSpec.upto inodeBackSpec)

end Rows
end Go.Proofs.Ytdimnnnklhjnfaa
