/-
  No cell of these rows narrows 'for every input' (looked for: loops, veiled, ifaces, maps, wideKeys, modest, calm, conditions, laid).
  DERIVED. THE GIVEN ROWS OF THIS SEAT. 6 by the template 'for every input the law returns true; each argument reads behind the call as it read before'; 0 by the template 'total and deterministic' (their statements: YtnodinancnfoeaaTotals.lean).
  GIVEN WITH THE SEED: the statements are not yours to turn. If you find one false, say at which input.
  Laid BY PROGRAM, IN A SANDBOX (cutbox-rows.mjs): the forced cells as the released guide's own fill.sh prints them over the translation b317dd3efd1387c1… (all of the seat's roots in one cut). By AI agents, Wed Nov 11 2026. No macro, syntax, notation, axiom, sorry.
-/
import Derived.Test.YtnodinancnfoeaaChecked
import GoSem.Claim
import GoSem.ClaimJoined
import GoSem.ClaimMapViews
import Derived.JoinedTies
import Derived.KernelRfl
namespace Go.Proofs.Ytnodinancnfoeaa
/- THE CELL 'sum', in the pinned program and in every row, IS THE sha256 OF THE DUMP (.gsa) THAT YtnodinancnfoeaaProg.lean LOADS. Nothing in Lean hashes anything: it is a label: what it is worth is what the hold of that sum in a sandbox is worth. -/
noncomputable def Try.pinned : Pinned := { name := "ytnodinancnfoeaa", sum := "b317dd3efd1387c135a7dc71d8b97d7691d6317d052261d60f81229ae333c4a2", checked := Try.checked }
namespace Rows
def none {H : Type} : Left H := { results := [], args := [] }

/-- 'moatlaw14.MetaLays': WHATEVER THE INPUT: true; the input reads as it did. -/
def metaLaysSpec : ChangeSpec := { name := "metaLays", fn := fun _ => fun
  | [d1, d2] => { results := [.lit (.bool true)], args := [d1, d2] }
  | _ => none }
def metaLaysRow : OpenClaim := { program := "ytnodinancnfoeaa", sum := "b317dd3efd1387c135a7dc71d8b97d7691d6317d052261d60f81229ae333c4a2", func := "moat/moatlaw14.MetaLays", spec := "metaLays", apart := false }
def MetaLaysSaid : Prop := metaLaysRow.holds Try.pinned (OpenSpec.ofChange metaLaysSpec)

/-- ITS FALSE NEIGHBOUR: 'it returns false'. Refute it at one input. -/
def metaLaysWrong : ChangeSpec := { name := "metaLays", fn := fun _ => fun
  | [d1, d2] => { results := [.lit (.bool false)], args := [d1, d2] }
  | _ => none }
def MetaLaysWrongFalsely : Prop := metaLaysRow.holds Try.pinned (OpenSpec.ofChange metaLaysWrong)

/-- 'moatlaw14.MetaOwn': WHATEVER THE INPUT: true; the input reads as it did. -/
def metaOwnSpec : ChangeSpec := { name := "metaOwn", fn := fun _ => fun
  | [d1, d2] => { results := [.lit (.bool true)], args := [d1, d2] }
  | _ => none }
def metaOwnRow : OpenClaim := { program := "ytnodinancnfoeaa", sum := "b317dd3efd1387c135a7dc71d8b97d7691d6317d052261d60f81229ae333c4a2", func := "moat/moatlaw14.MetaOwn", spec := "metaOwn", apart := false }
def MetaOwnSaid : Prop := metaOwnRow.holds Try.pinned (OpenSpec.ofChange metaOwnSpec)

/-- ITS FALSE NEIGHBOUR: 'it returns false'. Refute it at one input. -/
def metaOwnWrong : ChangeSpec := { name := "metaOwn", fn := fun _ => fun
  | [d1, d2] => { results := [.lit (.bool false)], args := [d1, d2] }
  | _ => none }
def MetaOwnWrongFalsely : Prop := metaOwnRow.holds Try.pinned (OpenSpec.ofChange metaOwnWrong)

/-- 'moatlaw14.MetaOne': WHATEVER THE INPUT: true; the input reads as it did. -/
def metaOneSpec : ChangeSpec := { name := "metaOne", fn := fun _ => fun
  | [d1, d2, d3, d4] => { results := [.lit (.bool true)], args := [d1, d2, d3, d4] }
  | _ => none }
def metaOneRow : OpenClaim := { program := "ytnodinancnfoeaa", sum := "b317dd3efd1387c135a7dc71d8b97d7691d6317d052261d60f81229ae333c4a2", func := "moat/moatlaw14.MetaOne", spec := "metaOne", apart := false }
def MetaOneSaid : Prop := metaOneRow.holds Try.pinned (OpenSpec.ofChange metaOneSpec)

/-- ITS FALSE NEIGHBOUR: 'it returns false'. Refute it at one input. -/
def metaOneWrong : ChangeSpec := { name := "metaOne", fn := fun _ => fun
  | [d1, d2, d3, d4] => { results := [.lit (.bool false)], args := [d1, d2, d3, d4] }
  | _ => none }
def MetaOneWrongFalsely : Prop := metaOneRow.holds Try.pinned (OpenSpec.ofChange metaOneWrong)

/-- 'moatlaw14.MetaTakes': WHATEVER THE INPUT: true; the input reads as it did. -/
def metaTakesSpec : ChangeSpec := { name := "metaTakes", fn := fun _ => fun
  | [d1, d2] => { results := [.lit (.bool true)], args := [d1, d2] }
  | _ => none }
def metaTakesRow : OpenClaim := { program := "ytnodinancnfoeaa", sum := "b317dd3efd1387c135a7dc71d8b97d7691d6317d052261d60f81229ae333c4a2", func := "moat/moatlaw14.MetaTakes", spec := "metaTakes", unfollowed := true, recurses := true, apart := false }
def MetaTakesSaid : Prop := metaTakesRow.holds Try.pinned (OpenSpec.ofChange metaTakesSpec)

/-- ITS FALSE NEIGHBOUR: 'it returns false'. Refute it at one input. -/
def metaTakesWrong : ChangeSpec := { name := "metaTakes", fn := fun _ => fun
  | [d1, d2] => { results := [.lit (.bool false)], args := [d1, d2] }
  | _ => none }
def MetaTakesWrongFalsely : Prop := metaTakesRow.holds Try.pinned (OpenSpec.ofChange metaTakesWrong)

/-- 'moatlaw14.MetaBack': WHATEVER THE INPUT: true; the input reads as it did. -/
def metaBackSpec : ChangeSpec := { name := "metaBack", fn := fun _ => fun
  | [d1, d2, d3] => { results := [.lit (.bool true)], args := [d1, d2, d3] }
  | _ => none }
def metaBackRow : OpenClaim := { program := "ytnodinancnfoeaa", sum := "b317dd3efd1387c135a7dc71d8b97d7691d6317d052261d60f81229ae333c4a2", func := "moat/moatlaw14.MetaBack", spec := "metaBack", unfollowed := true, recurses := true, apart := false }
def MetaBackSaid : Prop := metaBackRow.holds Try.pinned (OpenSpec.ofChange metaBackSpec)

/-- ITS FALSE NEIGHBOUR: 'it returns false'. Refute it at one input. -/
def metaBackWrong : ChangeSpec := { name := "metaBack", fn := fun _ => fun
  | [d1, d2, d3] => { results := [.lit (.bool false)], args := [d1, d2, d3] }
  | _ => none }
def MetaBackWrongFalsely : Prop := metaBackRow.holds Try.pinned (OpenSpec.ofChange metaBackWrong)

/-- 'moatlaw14.MetaNew': WHATEVER THE INPUT: true; the input reads as it did. -/
def metaNewSpec : ChangeSpec := { name := "metaNew", fn := fun _ => fun
  | [d] => { results := [.lit (.bool true)], args := [d] }
  | _ => none }
def metaNewRow : OpenClaim := { program := "ytnodinancnfoeaa", sum := "b317dd3efd1387c135a7dc71d8b97d7691d6317d052261d60f81229ae333c4a2", func := "moat/moatlaw14.MetaNew", spec := "metaNew", unfollowed := true, recurses := true, apart := false }
def MetaNewSaid : Prop := metaNewRow.holds Try.pinned (OpenSpec.ofChange metaNewSpec)

/-- ITS FALSE NEIGHBOUR: 'it returns false'. Refute it at one input. -/
def metaNewWrong : ChangeSpec := { name := "metaNew", fn := fun _ => fun
  | [d] => { results := [.lit (.bool false)], args := [d] }
  | _ => none }
def MetaNewWrongFalsely : Prop := metaNewRow.holds Try.pinned (OpenSpec.ofChange metaNewWrong)

/- THE SECOND FORM. 'bulk': how many values and letters a reading holds, each counted each time it is reached (what is shared counts as often as it is met; a slice's spare places count too). A statement '..UptoSaid' is the law's where the arguments, and the package variables that the reading takes, are together of bulk at most 1048576: NARROWER than '..Said'. Prove '..Said' where nothing that the law and all that it calls make is longer than what came in: it says more and counts as full. Else prove '..UptoSaid'. A law counts once. -/
mutual
def uptoBulk {H : Type} : DataW H → Nat
  | .lit (.string bytes) => bytes.length + 1
  | .lit _ => 1
  | .nil => 1
  | .ptr d => uptoBulk d + 1
  | .slice elems spare => uptoBulkAll elems + uptoBulkAll spare + 1
  | .agg parts => uptoBulkAll parts + 1
  | .iface _ d => uptoBulk d + 1
  | .map entries => uptoBulkEntries entries + 1
  | .held _ => 1
def uptoBulkAll {H : Type} : List (DataW H) → Nat
  | [] => 0
  | d :: r => uptoBulk d + uptoBulkAll r
def uptoBulkEntries {H : Type} : List (Lit × DataW H) → Nat
  | [] => 0
  | x :: r => uptoBulkEntry x + uptoBulkEntries r
def uptoBulkEntry {H : Type} : Lit × DataW H → Nat
  | (.string bytes, d) => bytes.length + uptoBulk d + 1
  | (_, d) => uptoBulk d + 1
 end
def uptoSmall : (H : Type) → List (DataW H) → Bool := fun _ ds => decide (uptoBulkAll ds ≤ 1048576)
def OpenSpec.upto (s : _root_.Go.ChangeSpec) : _root_.Go.OpenSpec := { _root_.Go.OpenSpec.ofChange s with cond := some uptoSmall }

/-- 'moatlaw14.MetaLays', WHERE WHAT IT READS IS OF BULK AT MOST 1048576: true; the input reads as it did. -/
def metaLaysUptoRow : OpenClaim := { program := "ytnodinancnfoeaa", sum := "b317dd3efd1387c135a7dc71d8b97d7691d6317d052261d60f81229ae333c4a2", func := "moat/moatlaw14.MetaLays", spec := "metaLays", apart := false, narrowed := true }
def MetaLaysUptoSaid : Prop := metaLaysUptoRow.holds Try.pinned (OpenSpec.upto metaLaysSpec)

/-- 'moatlaw14.MetaOwn', WHERE WHAT IT READS IS OF BULK AT MOST 1048576: true; the input reads as it did. -/
def metaOwnUptoRow : OpenClaim := { program := "ytnodinancnfoeaa", sum := "b317dd3efd1387c135a7dc71d8b97d7691d6317d052261d60f81229ae333c4a2", func := "moat/moatlaw14.MetaOwn", spec := "metaOwn", apart := false, narrowed := true }
def MetaOwnUptoSaid : Prop := metaOwnUptoRow.holds Try.pinned (OpenSpec.upto metaOwnSpec)

/-- 'moatlaw14.MetaOne', WHERE WHAT IT READS IS OF BULK AT MOST 1048576: true; the input reads as it did. -/
def metaOneUptoRow : OpenClaim := { program := "ytnodinancnfoeaa", sum := "b317dd3efd1387c135a7dc71d8b97d7691d6317d052261d60f81229ae333c4a2", func := "moat/moatlaw14.MetaOne", spec := "metaOne", apart := false, narrowed := true }
def MetaOneUptoSaid : Prop := metaOneUptoRow.holds Try.pinned (OpenSpec.upto metaOneSpec)

/-- 'moatlaw14.MetaTakes', WHERE WHAT IT READS IS OF BULK AT MOST 1048576: true; the input reads as it did. -/
def metaTakesUptoRow : OpenClaim := { program := "ytnodinancnfoeaa", sum := "b317dd3efd1387c135a7dc71d8b97d7691d6317d052261d60f81229ae333c4a2", func := "moat/moatlaw14.MetaTakes", spec := "metaTakes", unfollowed := true, recurses := true, apart := false, narrowed := true }
def MetaTakesUptoSaid : Prop := metaTakesUptoRow.holds Try.pinned (OpenSpec.upto metaTakesSpec)

/-- 'moatlaw14.MetaBack', WHERE WHAT IT READS IS OF BULK AT MOST 1048576: true; the input reads as it did. -/
def metaBackUptoRow : OpenClaim := { program := "ytnodinancnfoeaa", sum := "b317dd3efd1387c135a7dc71d8b97d7691d6317d052261d60f81229ae333c4a2", func := "moat/moatlaw14.MetaBack", spec := "metaBack", unfollowed := true, recurses := true, apart := false, narrowed := true }
def MetaBackUptoSaid : Prop := metaBackUptoRow.holds Try.pinned (OpenSpec.upto metaBackSpec)

/-- 'moatlaw14.MetaNew', WHERE WHAT IT READS IS OF BULK AT MOST 1048576: true; the input reads as it did. -/
def metaNewUptoRow : OpenClaim := { program := "ytnodinancnfoeaa", sum := "b317dd3efd1387c135a7dc71d8b97d7691d6317d052261d60f81229ae333c4a2", func := "moat/moatlaw14.MetaNew", spec := "metaNew", unfollowed := true, recurses := true, apart := false, narrowed := true }
def MetaNewUptoSaid : Prop := metaNewUptoRow.holds Try.pinned (OpenSpec.upto metaNewSpec)

end Rows
end Go.Proofs.Ytnodinancnfoeaa
