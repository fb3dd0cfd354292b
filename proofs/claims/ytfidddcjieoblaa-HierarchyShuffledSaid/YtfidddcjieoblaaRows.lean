/-
  No cell of these rows narrows 'for every input' (looked for: loops, veiled, ifaces, maps, wideKeys, modest, calm, conditions, laid).
  DERIVED. THE GIVEN ROWS OF THIS SEAT. 4 by the template 'for every input the law returns true; each argument reads behind the call as it read before'; 0 by the template 'total and deterministic' (their statements: YtfidddcjieoblaaTotals.lean).
  GIVEN WITH THE SEED: the statements are not yours to turn. If you find one false, say at which input.
  Laid BY PROGRAM, IN A SANDBOX (cutbox-rows.mjs): the forced cells as the released guide's own fill.sh prints them over the translation 06ca5e9d7a863e1c… (all of the seat's roots in one cut). By AI agents, Wed Nov 11 2026. No macro, syntax, notation, axiom, sorry.
-/
import Derived.Test.YtfidddcjieoblaaChecked
import GoSem.Claim
import GoSem.ClaimJoined
import GoSem.ClaimMapViews
import Derived.JoinedTies
import Derived.KernelRfl
namespace Go.Proofs.Ytfidddcjieoblaa
/- THE CELL 'sum', in the pinned program and in every row, IS THE sha256 OF THE DUMP (.gsa) THAT YtfidddcjieoblaaProg.lean LOADS. Nothing in Lean hashes anything: it is a label: what it is worth is what the hold of that sum in a sandbox is worth. -/
noncomputable def Try.pinned : Pinned := { name := "ytfidddcjieoblaa", sum := "06ca5e9d7a863e1cb0c7b5173beab51f1b98a3dba213aff23570bf2d160ae753", checked := Try.checked }
namespace Rows
def none {H : Type} : Left H := { results := [], args := [] }

/-- 'credencelaw16.HierarchyWitness': WHATEVER THE INPUT: true; the input reads as it did. -/
def hierarchyWitnessSpec : ChangeSpec := { name := "hierarchyWitness", fn := fun _ => fun
  | [d] => { results := [.lit (.bool true)], args := [d] }
  | _ => none }
def hierarchyWitnessRow : OpenClaim := { program := "ytfidddcjieoblaa", sum := "06ca5e9d7a863e1cb0c7b5173beab51f1b98a3dba213aff23570bf2d160ae753", func := "credence/credencelaw16.HierarchyWitness", spec := "hierarchyWitness", unfollowed := true, recurses := true, apart := false }
def HierarchyWitnessSaid : Prop := hierarchyWitnessRow.holds Try.pinned (OpenSpec.ofChange hierarchyWitnessSpec)

/-- ITS FALSE NEIGHBOUR: 'it returns false'. Refute it at one input. -/
def hierarchyWitnessWrong : ChangeSpec := { name := "hierarchyWitness", fn := fun _ => fun
  | [d] => { results := [.lit (.bool false)], args := [d] }
  | _ => none }
def HierarchyWitnessWrongFalsely : Prop := hierarchyWitnessRow.holds Try.pinned (OpenSpec.ofChange hierarchyWitnessWrong)

/-- 'credencelaw16.HierarchyParts': WHATEVER THE INPUT: true; the input reads as it did. -/
def hierarchyPartsSpec : ChangeSpec := { name := "hierarchyParts", fn := fun _ => fun
  | [d] => { results := [.lit (.bool true)], args := [d] }
  | _ => none }
def hierarchyPartsRow : OpenClaim := { program := "ytfidddcjieoblaa", sum := "06ca5e9d7a863e1cb0c7b5173beab51f1b98a3dba213aff23570bf2d160ae753", func := "credence/credencelaw16.HierarchyParts", spec := "hierarchyParts", unfollowed := true, recurses := true, apart := false }
def HierarchyPartsSaid : Prop := hierarchyPartsRow.holds Try.pinned (OpenSpec.ofChange hierarchyPartsSpec)

/-- ITS FALSE NEIGHBOUR: 'it returns false'. Refute it at one input. -/
def hierarchyPartsWrong : ChangeSpec := { name := "hierarchyParts", fn := fun _ => fun
  | [d] => { results := [.lit (.bool false)], args := [d] }
  | _ => none }
def HierarchyPartsWrongFalsely : Prop := hierarchyPartsRow.holds Try.pinned (OpenSpec.ofChange hierarchyPartsWrong)

/-- 'credencelaw16.HierarchyRoot': WHATEVER THE INPUT: true; the input reads as it did. -/
def hierarchyRootSpec : ChangeSpec := { name := "hierarchyRoot", fn := fun _ => fun
  | [d] => { results := [.lit (.bool true)], args := [d] }
  | _ => none }
def hierarchyRootRow : OpenClaim := { program := "ytfidddcjieoblaa", sum := "06ca5e9d7a863e1cb0c7b5173beab51f1b98a3dba213aff23570bf2d160ae753", func := "credence/credencelaw16.HierarchyRoot", spec := "hierarchyRoot", unfollowed := true, recurses := true, apart := false }
def HierarchyRootSaid : Prop := hierarchyRootRow.holds Try.pinned (OpenSpec.ofChange hierarchyRootSpec)

/-- ITS FALSE NEIGHBOUR: 'it returns false'. Refute it at one input. -/
def hierarchyRootWrong : ChangeSpec := { name := "hierarchyRoot", fn := fun _ => fun
  | [d] => { results := [.lit (.bool false)], args := [d] }
  | _ => none }
def HierarchyRootWrongFalsely : Prop := hierarchyRootRow.holds Try.pinned (OpenSpec.ofChange hierarchyRootWrong)

/-- 'credencelaw16.HierarchyShuffled': WHATEVER THE INPUT: true; the input reads as it did. -/
def hierarchyShuffledSpec : ChangeSpec := { name := "hierarchyShuffled", fn := fun _ => fun
  | [d] => { results := [.lit (.bool true)], args := [d] }
  | _ => none }
def hierarchyShuffledRow : OpenClaim := { program := "ytfidddcjieoblaa", sum := "06ca5e9d7a863e1cb0c7b5173beab51f1b98a3dba213aff23570bf2d160ae753", func := "credence/credencelaw16.HierarchyShuffled", spec := "hierarchyShuffled", unfollowed := true, recurses := true, apart := false }
def HierarchyShuffledSaid : Prop := hierarchyShuffledRow.holds Try.pinned (OpenSpec.ofChange hierarchyShuffledSpec)

/-- ITS FALSE NEIGHBOUR: 'it returns false'. Refute it at one input. -/
def hierarchyShuffledWrong : ChangeSpec := { name := "hierarchyShuffled", fn := fun _ => fun
  | [d] => { results := [.lit (.bool false)], args := [d] }
  | _ => none }
def HierarchyShuffledWrongFalsely : Prop := hierarchyShuffledRow.holds Try.pinned (OpenSpec.ofChange hierarchyShuffledWrong)

/- THE SECOND FORM. 'bulk': how many values and letters a reading holds, each counted each time it is reached (what is shared counts as often as it is met; a slice's spare places count too). A statement '..UptoSaid' is the law's where the arguments, and the package variables that the reading takes, are together of bulk at most 1048576: NARROWER than '..Said'. Prove '..Said' where nothing that the law and all that it calls make is longer than what came in: it says more and counts as full. Else prove '..UptoSaid'. A law counts once. -/
mutual
def uptoBulk {H : Type} : DataW H → Nat
  | .lit (.string bytes) => bytes.length + 1
  | .lit _ => 1
  | .nil => 1
  | .ptr d => uptoBulk d + 1
  | .slice elems spare => uptoBulkAll elems + uptoBulkAll spare + 1
  | .agg parts => uptoBulkAll parts + 1
  | .iface _ d => uptoBulk d + 1
  | .map entries => uptoBulkEntries entries + 1
  | .held _ => 1
def uptoBulkAll {H : Type} : List (DataW H) → Nat
  | [] => 0
  | d :: r => uptoBulk d + uptoBulkAll r
def uptoBulkEntries {H : Type} : List (Lit × DataW H) → Nat
  | [] => 0
  | x :: r => uptoBulkEntry x + uptoBulkEntries r
def uptoBulkEntry {H : Type} : Lit × DataW H → Nat
  | (.string bytes, d) => bytes.length + uptoBulk d + 1
  | (_, d) => uptoBulk d + 1
 end
def uptoSmall : (H : Type) → List (DataW H) → Bool := fun _ ds => decide (uptoBulkAll ds ≤ 1048576)
def OpenSpec.upto (s : _root_.Go.ChangeSpec) : _root_.Go.OpenSpec := { _root_.Go.OpenSpec.ofChange s with cond := some uptoSmall }

/-- 'credencelaw16.HierarchyWitness', WHERE WHAT IT READS IS OF BULK AT MOST 1048576: true; the input reads as it did. -/
def hierarchyWitnessUptoRow : OpenClaim := { program := "ytfidddcjieoblaa", sum := "06ca5e9d7a863e1cb0c7b5173beab51f1b98a3dba213aff23570bf2d160ae753", func := "credence/credencelaw16.HierarchyWitness", spec := "hierarchyWitness", unfollowed := true, recurses := true, apart := false, narrowed := true }
def HierarchyWitnessUptoSaid : Prop := hierarchyWitnessUptoRow.holds Try.pinned (OpenSpec.upto hierarchyWitnessSpec)

/-- 'credencelaw16.HierarchyParts', WHERE WHAT IT READS IS OF BULK AT MOST 1048576: true; the input reads as it did. -/
def hierarchyPartsUptoRow : OpenClaim := { program := "ytfidddcjieoblaa", sum := "06ca5e9d7a863e1cb0c7b5173beab51f1b98a3dba213aff23570bf2d160ae753", func := "credence/credencelaw16.HierarchyParts", spec := "hierarchyParts", unfollowed := true, recurses := true, apart := false, narrowed := true }
def HierarchyPartsUptoSaid : Prop := hierarchyPartsUptoRow.holds Try.pinned (OpenSpec.upto hierarchyPartsSpec)

/-- 'credencelaw16.HierarchyRoot', WHERE WHAT IT READS IS OF BULK AT MOST 1048576: true; the input reads as it did. -/
def hierarchyRootUptoRow : OpenClaim := { program := "ytfidddcjieoblaa", sum := "06ca5e9d7a863e1cb0c7b5173beab51f1b98a3dba213aff23570bf2d160ae753", func := "credence/credencelaw16.HierarchyRoot", spec := "hierarchyRoot", unfollowed := true, recurses := true, apart := false, narrowed := true }
def HierarchyRootUptoSaid : Prop := hierarchyRootUptoRow.holds Try.pinned (OpenSpec.upto hierarchyRootSpec)

/-- 'credencelaw16.HierarchyShuffled', WHERE WHAT IT READS IS OF BULK AT MOST 1048576: true; the input reads as it did. -/
def hierarchyShuffledUptoRow : OpenClaim := { program := "ytfidddcjieoblaa", sum := "06ca5e9d7a863e1cb0c7b5173beab51f1b98a3dba213aff23570bf2d160ae753", func := "credence/credencelaw16.HierarchyShuffled", spec := "hierarchyShuffled", unfollowed := true, recurses := true, apart := false, narrowed := true }
def HierarchyShuffledUptoSaid : Prop := hierarchyShuffledUptoRow.holds Try.pinned (OpenSpec.upto hierarchyShuffledSpec)

end Rows
end Go.Proofs.Ytfidddcjieoblaa
