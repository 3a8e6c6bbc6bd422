/-
  No cell of these rows narrows 'for every input' (looked for: loops, veiled, ifaces, maps, wideKeys, modest, calm, conditions, laid).
  DERIVED. THE GIVEN ROWS OF THIS SEAT. 6 by the template 'for every input the law returns true; each argument reads behind the call as it read before'; 0 by the template 'total and deterministic' (their statements: YthhkkjnahiimbaaTotals.lean).
  GIVEN WITH THE SEED: the statements are not yours to turn. If you find one false, say at which input.
  Laid BY PROGRAM, IN A SANDBOX (cutbox-rows.mjs): the forced cells as the released guide's own fill.sh prints them over the translation a1d02ee2bf2abecf… (all of the seat's roots in one cut). By AI agents, Wed Nov 11 2026. No macro, syntax, notation, axiom, sorry.
-/
import Derived.Test.YthhkkjnahiimbaaChecked
import GoSem.Claim
import GoSem.ClaimJoined
import GoSem.ClaimMapViews
import Derived.JoinedTies
import Derived.KernelRfl
namespace Go.Proofs.Ythhkkjnahiimbaa
/- THE CELL 'sum', in the pinned program and in every row, IS THE sha256 OF THE DUMP (.gsa) THAT YthhkkjnahiimbaaProg.lean LOADS. Nothing in Lean hashes anything: it is a label: what it is worth is what the hold of that sum in a sandbox is worth. -/
noncomputable def Try.pinned : Pinned := { name := "ythhkkjnahiimbaa", sum := "a1d02ee2bf2abecfef6c7ac58a7b0dae2f7022b6f39ef50d94465ef00be46393", checked := Try.checked }
namespace Rows
def none {H : Type} : Left H := { results := [], args := [] }

/-- 'moatlaw09.SuperMore': WHATEVER THE INPUT: true; the input reads as it did. -/
def superMoreSpec : ChangeSpec := { name := "superMore", fn := fun _ => fun
  | [d] => { results := [.lit (.bool true)], args := [d] }
  | _ => none }
def superMoreRow : OpenClaim := { program := "ythhkkjnahiimbaa", sum := "a1d02ee2bf2abecfef6c7ac58a7b0dae2f7022b6f39ef50d94465ef00be46393", func := "moat/moatlaw09.SuperMore", spec := "superMore", unfollowed := true, recurses := true, apart := false }
def SuperMoreSaid : Prop := superMoreRow.holds Try.pinned (OpenSpec.ofChange superMoreSpec)

/-- ITS FALSE NEIGHBOUR: 'it returns false'. Refute it at one input. -/
def superMoreWrong : ChangeSpec := { name := "superMore", fn := fun _ => fun
  | [d] => { results := [.lit (.bool false)], args := [d] }
  | _ => none }
def SuperMoreWrongFalsely : Prop := superMoreRow.holds Try.pinned (OpenSpec.ofChange superMoreWrong)

/-- 'moatlaw09.SuperPlans': WHATEVER THE INPUT: true; the input reads as it did. -/
def superPlansSpec : ChangeSpec := { name := "superPlans", fn := fun _ => fun
  | [d1, d2] => { results := [.lit (.bool true)], args := [d1, d2] }
  | _ => none }
def superPlansRow : OpenClaim := { program := "ythhkkjnahiimbaa", sum := "a1d02ee2bf2abecfef6c7ac58a7b0dae2f7022b6f39ef50d94465ef00be46393", func := "moat/moatlaw09.SuperPlans", spec := "superPlans", unfollowed := true, recurses := true, apart := false }
def SuperPlansSaid : Prop := superPlansRow.holds Try.pinned (OpenSpec.ofChange superPlansSpec)

/-- ITS FALSE NEIGHBOUR: 'it returns false'. Refute it at one input. -/
def superPlansWrong : ChangeSpec := { name := "superPlans", fn := fun _ => fun
  | [d1, d2] => { results := [.lit (.bool false)], args := [d1, d2] }
  | _ => none }
def SuperPlansWrongFalsely : Prop := superPlansRow.holds Try.pinned (OpenSpec.ofChange superPlansWrong)

/-- 'moatlaw09.SuperParts': WHATEVER THE INPUT: true; the input reads as it did. -/
def superPartsSpec : ChangeSpec := { name := "superParts", fn := fun _ => fun
  | [d] => { results := [.lit (.bool true)], args := [d] }
  | _ => none }
def superPartsRow : OpenClaim := { program := "ythhkkjnahiimbaa", sum := "a1d02ee2bf2abecfef6c7ac58a7b0dae2f7022b6f39ef50d94465ef00be46393", func := "moat/moatlaw09.SuperParts", spec := "superParts", unfollowed := true, recurses := true, apart := false }
def SuperPartsSaid : Prop := superPartsRow.holds Try.pinned (OpenSpec.ofChange superPartsSpec)

/-- ITS FALSE NEIGHBOUR: 'it returns false'. Refute it at one input. -/
def superPartsWrong : ChangeSpec := { name := "superParts", fn := fun _ => fun
  | [d] => { results := [.lit (.bool false)], args := [d] }
  | _ => none }
def SuperPartsWrongFalsely : Prop := superPartsRow.holds Try.pinned (OpenSpec.ofChange superPartsWrong)

/-- 'moatlaw09.SuperLays': WHATEVER THE INPUT: true; the input reads as it did. -/
def superLaysSpec : ChangeSpec := { name := "superLays", fn := fun _ => fun
  | [d] => { results := [.lit (.bool true)], args := [d] }
  | _ => none }
def superLaysRow : OpenClaim := { program := "ythhkkjnahiimbaa", sum := "a1d02ee2bf2abecfef6c7ac58a7b0dae2f7022b6f39ef50d94465ef00be46393", func := "moat/moatlaw09.SuperLays", spec := "superLays", unfollowed := true, recurses := true, apart := false }
def SuperLaysSaid : Prop := superLaysRow.holds Try.pinned (OpenSpec.ofChange superLaysSpec)

/-- ITS FALSE NEIGHBOUR: 'it returns false'. Refute it at one input. -/
def superLaysWrong : ChangeSpec := { name := "superLays", fn := fun _ => fun
  | [d] => { results := [.lit (.bool false)], args := [d] }
  | _ => none }
def SuperLaysWrongFalsely : Prop := superLaysRow.holds Try.pinned (OpenSpec.ofChange superLaysWrong)

/-- 'moatlaw09.SuperTakes': WHATEVER THE INPUT: true; the input reads as it did. -/
def superTakesSpec : ChangeSpec := { name := "superTakes", fn := fun _ => fun
  | [d] => { results := [.lit (.bool true)], args := [d] }
  | _ => none }
def superTakesRow : OpenClaim := { program := "ythhkkjnahiimbaa", sum := "a1d02ee2bf2abecfef6c7ac58a7b0dae2f7022b6f39ef50d94465ef00be46393", func := "moat/moatlaw09.SuperTakes", spec := "superTakes", unfollowed := true, recurses := true, apart := false }
def SuperTakesSaid : Prop := superTakesRow.holds Try.pinned (OpenSpec.ofChange superTakesSpec)

/-- ITS FALSE NEIGHBOUR: 'it returns false'. Refute it at one input. -/
def superTakesWrong : ChangeSpec := { name := "superTakes", fn := fun _ => fun
  | [d] => { results := [.lit (.bool false)], args := [d] }
  | _ => none }
def SuperTakesWrongFalsely : Prop := superTakesRow.holds Try.pinned (OpenSpec.ofChange superTakesWrong)

/-- 'moatlaw09.SuperBack': WHATEVER THE INPUT: true; the input reads as it did. -/
def superBackSpec : ChangeSpec := { name := "superBack", fn := fun _ => fun
  | [d1, d2] => { results := [.lit (.bool true)], args := [d1, d2] }
  | _ => none }
def superBackRow : OpenClaim := { program := "ythhkkjnahiimbaa", sum := "a1d02ee2bf2abecfef6c7ac58a7b0dae2f7022b6f39ef50d94465ef00be46393", func := "moat/moatlaw09.SuperBack", spec := "superBack", unfollowed := true, recurses := true, apart := false }
def SuperBackSaid : Prop := superBackRow.holds Try.pinned (OpenSpec.ofChange superBackSpec)

/-- ITS FALSE NEIGHBOUR: 'it returns false'. Refute it at one input. -/
def superBackWrong : ChangeSpec := { name := "superBack", fn := fun _ => fun
  | [d1, d2] => { results := [.lit (.bool false)], args := [d1, d2] }
  | _ => none }
def SuperBackWrongFalsely : Prop := superBackRow.holds Try.pinned (OpenSpec.ofChange superBackWrong)

/- THE SECOND FORM. 'bulk': how many values and letters a reading holds, each counted each time it is reached (what is shared counts as often as it is met; a slice's spare places count too). A statement '..UptoSaid' is the law's where the arguments, and the package variables that the reading takes, are together of bulk at most 1048576: NARROWER than '..Said'. Prove '..Said' where nothing that the law and all that it calls make is longer than what came in: it says more and counts as full. Else prove '..UptoSaid'. A law counts once. -/
mutual
def uptoBulk {H : Type} : DataW H → Nat
  | .lit (.string bytes) => bytes.length + 1
  | .lit _ => 1
  | .nil => 1
  | .ptr d => uptoBulk d + 1
  | .slice elems spare => uptoBulkAll elems + uptoBulkAll spare + 1
  | .agg parts => uptoBulkAll parts + 1
  | .iface _ d => uptoBulk d + 1
  | .map entries => uptoBulkEntries entries + 1
  | .held _ => 1
def uptoBulkAll {H : Type} : List (DataW H) → Nat
  | [] => 0
  | d :: r => uptoBulk d + uptoBulkAll r
def uptoBulkEntries {H : Type} : List (Lit × DataW H) → Nat
  | [] => 0
  | x :: r => uptoBulkEntry x + uptoBulkEntries r
def uptoBulkEntry {H : Type} : Lit × DataW H → Nat
  | (.string bytes, d) => bytes.length + uptoBulk d + 1
  | (_, d) => uptoBulk d + 1
 end
def uptoSmall : (H : Type) → List (DataW H) → Bool := fun _ ds => decide (uptoBulkAll ds ≤ 1048576)
def OpenSpec.upto (s : _root_.Go.ChangeSpec) : _root_.Go.OpenSpec := { _root_.Go.OpenSpec.ofChange s with cond := some uptoSmall }

/-- 'moatlaw09.SuperMore', WHERE WHAT IT READS IS OF BULK AT MOST 1048576: true; the input reads as it did. -/
def superMoreUptoRow : OpenClaim := { program := "ythhkkjnahiimbaa", sum := "a1d02ee2bf2abecfef6c7ac58a7b0dae2f7022b6f39ef50d94465ef00be46393", func := "moat/moatlaw09.SuperMore", spec := "superMore", unfollowed := true, recurses := true, apart := false, narrowed := true }
def SuperMoreUptoSaid : Prop := superMoreUptoRow.holds Try.pinned (OpenSpec.upto superMoreSpec)

/-- 'moatlaw09.SuperPlans', WHERE WHAT IT READS IS OF BULK AT MOST 1048576: true; the input reads as it did. -/
def superPlansUptoRow : OpenClaim := { program := "ythhkkjnahiimbaa", sum := "a1d02ee2bf2abecfef6c7ac58a7b0dae2f7022b6f39ef50d94465ef00be46393", func := "moat/moatlaw09.SuperPlans", spec := "superPlans", unfollowed := true, recurses := true, apart := false, narrowed := true }
def SuperPlansUptoSaid : Prop := superPlansUptoRow.holds Try.pinned (OpenSpec.upto superPlansSpec)

/-- 'moatlaw09.SuperParts', WHERE WHAT IT READS IS OF BULK AT MOST 1048576: true; the input reads as it did. -/
def superPartsUptoRow : OpenClaim := { program := "ythhkkjnahiimbaa", sum := "a1d02ee2bf2abecfef6c7ac58a7b0dae2f7022b6f39ef50d94465ef00be46393", func := "moat/moatlaw09.SuperParts", spec := "superParts", unfollowed := true, recurses := true, apart := false, narrowed := true }
def SuperPartsUptoSaid : Prop := superPartsUptoRow.holds Try.pinned (OpenSpec.upto superPartsSpec)

/-- 'moatlaw09.SuperLays', WHERE WHAT IT READS IS OF BULK AT MOST 1048576: true; the input reads as it did. -/
def superLaysUptoRow : OpenClaim := { program := "ythhkkjnahiimbaa", sum := "a1d02ee2bf2abecfef6c7ac58a7b0dae2f7022b6f39ef50d94465ef00be46393", func := "moat/moatlaw09.SuperLays", spec := "superLays", unfollowed := true, recurses := true, apart := false, narrowed := true }
def SuperLaysUptoSaid : Prop := superLaysUptoRow.holds Try.pinned (OpenSpec.upto superLaysSpec)

/-- 'moatlaw09.SuperTakes', WHERE WHAT IT READS IS OF BULK AT MOST 1048576: true; the input reads as it did. -/
def superTakesUptoRow : OpenClaim := { program := "ythhkkjnahiimbaa", sum := "a1d02ee2bf2abecfef6c7ac58a7b0dae2f7022b6f39ef50d94465ef00be46393", func := "moat/moatlaw09.SuperTakes", spec := "superTakes", unfollowed := true, recurses := true, apart := false, narrowed := true }
def SuperTakesUptoSaid : Prop := superTakesUptoRow.holds Try.pinned (OpenSpec.upto superTakesSpec)

/-- 'moatlaw09.SuperBack', WHERE WHAT IT READS IS OF BULK AT MOST 1048576: true; the input reads as it did. -/
def superBackUptoRow : OpenClaim := { program := "ythhkkjnahiimbaa", sum := "a1d02ee2bf2abecfef6c7ac58a7b0dae2f7022b6f39ef50d94465ef00be46393", func := "moat/moatlaw09.SuperBack", spec := "superBack", unfollowed := true, recurses := true, apart := false, narrowed := true }
def SuperBackUptoSaid : Prop := superBackUptoRow.holds Try.pinned (OpenSpec.upto superBackSpec)

end Rows
end Go.Proofs.Ythhkkjnahiimbaa
