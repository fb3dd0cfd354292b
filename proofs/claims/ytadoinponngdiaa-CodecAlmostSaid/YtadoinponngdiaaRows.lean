/-
  No cell of these rows narrows 'for every input' (looked for: loops, veiled, ifaces, maps, wideKeys, modest, calm, conditions, laid).
  DERIVED. THE GIVEN ROWS OF THIS SEAT. 6 by the template 'for every input the law returns true; each argument reads behind the call as it read before'; 0 by the template 'total and deterministic' (their statements: YtadoinponngdiaaTotals.lean).
  GIVEN WITH THE SEED: the statements are not yours to turn. If you find one false, say at which input.
  Laid BY PROGRAM, IN A SANDBOX (cutbox-rows.mjs): the forced cells as the released guide's own fill.sh prints them over the translation 765f80b9da69096d… (all of the seat's roots in one cut). By AI agents, Wed Nov 11 2026. No macro, syntax, notation, axiom, sorry.
-/
import Derived.Test.YtadoinponngdiaaChecked
import GoSem.Claim
import GoSem.ClaimJoined
import GoSem.ClaimMapViews
import Derived.JoinedTies
import Derived.KernelRfl
namespace Go.Proofs.Ytadoinponngdiaa
/- THE CELL 'sum', in the pinned program and in every row, IS THE sha256 OF THE DUMP (.gsa) THAT YtadoinponngdiaaProg.lean LOADS. Nothing in Lean hashes anything: it is a label: what it is worth is what the hold of that sum in a sandbox is worth. -/
noncomputable def Try.pinned : Pinned := { name := "ytadoinponngdiaa", sum := "765f80b9da69096d51e5359bbd3d18a9b4b589f182134ad66bee7bb9512de216", checked := Try.checked }
namespace Rows
def none {H : Type} : Left H := { results := [], args := [] }

/-- 'credencelaw4.CodecEncodes': WHATEVER THE INPUT: true; the input reads as it did. -/
def codecEncodesSpec : ChangeSpec := { name := "codecEncodes", fn := fun _ => fun
  | [d1, d2, d3, d4, d5] => { results := [.lit (.bool true)], args := [d1, d2, d3, d4, d5] }
  | _ => none }
def codecEncodesRow : OpenClaim := { program := "ytadoinponngdiaa", sum := "765f80b9da69096d51e5359bbd3d18a9b4b589f182134ad66bee7bb9512de216", func := "credence/credencelaw4.CodecEncodes", spec := "codecEncodes", apart := false }
def CodecEncodesSaid : Prop := codecEncodesRow.holds Try.pinned (OpenSpec.ofChange codecEncodesSpec)

/-- ITS FALSE NEIGHBOUR: 'it returns false'. Refute it at one input. -/
def codecEncodesWrong : ChangeSpec := { name := "codecEncodes", fn := fun _ => fun
  | [d1, d2, d3, d4, d5] => { results := [.lit (.bool false)], args := [d1, d2, d3, d4, d5] }
  | _ => none }
def CodecEncodesWrongFalsely : Prop := codecEncodesRow.holds Try.pinned (OpenSpec.ofChange codecEncodesWrong)

/-- 'credencelaw4.CodecReads': WHATEVER THE INPUT: true; the input reads as it did. -/
def codecReadsSpec : ChangeSpec := { name := "codecReads", fn := fun _ => fun
  | [d1, d2] => { results := [.lit (.bool true)], args := [d1, d2] }
  | _ => none }
def codecReadsRow : OpenClaim := { program := "ytadoinponngdiaa", sum := "765f80b9da69096d51e5359bbd3d18a9b4b589f182134ad66bee7bb9512de216", func := "credence/credencelaw4.CodecReads", spec := "codecReads", apart := false }
def CodecReadsSaid : Prop := codecReadsRow.holds Try.pinned (OpenSpec.ofChange codecReadsSpec)

/-- ITS FALSE NEIGHBOUR: 'it returns false'. Refute it at one input. -/
def codecReadsWrong : ChangeSpec := { name := "codecReads", fn := fun _ => fun
  | [d1, d2] => { results := [.lit (.bool false)], args := [d1, d2] }
  | _ => none }
def CodecReadsWrongFalsely : Prop := codecReadsRow.holds Try.pinned (OpenSpec.ofChange codecReadsWrong)

/-- 'credencelaw4.CodecAlmost': WHATEVER THE INPUT: true; the input reads as it did. -/
def codecAlmostSpec : ChangeSpec := { name := "codecAlmost", fn := fun _ => fun
  | [d1, d2, d3, d4, d5, d6, d7] => { results := [.lit (.bool true)], args := [d1, d2, d3, d4, d5, d6, d7] }
  | _ => none }
def codecAlmostRow : OpenClaim := { program := "ytadoinponngdiaa", sum := "765f80b9da69096d51e5359bbd3d18a9b4b589f182134ad66bee7bb9512de216", func := "credence/credencelaw4.CodecAlmost", spec := "codecAlmost", apart := false }
def CodecAlmostSaid : Prop := codecAlmostRow.holds Try.pinned (OpenSpec.ofChange codecAlmostSpec)

/-- ITS FALSE NEIGHBOUR: 'it returns false'. Refute it at one input. -/
def codecAlmostWrong : ChangeSpec := { name := "codecAlmost", fn := fun _ => fun
  | [d1, d2, d3, d4, d5, d6, d7] => { results := [.lit (.bool false)], args := [d1, d2, d3, d4, d5, d6, d7] }
  | _ => none }
def CodecAlmostWrongFalsely : Prop := codecAlmostRow.holds Try.pinned (OpenSpec.ofChange codecAlmostWrong)

/-- 'credencelaw4.CodecRoundTrip': WHATEVER THE INPUT: true; the input reads as it did. -/
def codecRoundTripSpec : ChangeSpec := { name := "codecRoundTrip", fn := fun _ => fun
  | [d1, d2, d3, d4, d5] => { results := [.lit (.bool true)], args := [d1, d2, d3, d4, d5] }
  | _ => none }
def codecRoundTripRow : OpenClaim := { program := "ytadoinponngdiaa", sum := "765f80b9da69096d51e5359bbd3d18a9b4b589f182134ad66bee7bb9512de216", func := "credence/credencelaw4.CodecRoundTrip", spec := "codecRoundTrip", apart := false }
def CodecRoundTripSaid : Prop := codecRoundTripRow.holds Try.pinned (OpenSpec.ofChange codecRoundTripSpec)

/-- ITS FALSE NEIGHBOUR: 'it returns false'. Refute it at one input. -/
def codecRoundTripWrong : ChangeSpec := { name := "codecRoundTrip", fn := fun _ => fun
  | [d1, d2, d3, d4, d5] => { results := [.lit (.bool false)], args := [d1, d2, d3, d4, d5] }
  | _ => none }
def CodecRoundTripWrongFalsely : Prop := codecRoundTripRow.holds Try.pinned (OpenSpec.ofChange codecRoundTripWrong)

/-- 'credencelaw4.CodecUnique': WHATEVER THE INPUT: true; the input reads as it did. -/
def codecUniqueSpec : ChangeSpec := { name := "codecUnique", fn := fun _ => fun
  | [d1, d2] => { results := [.lit (.bool true)], args := [d1, d2] }
  | _ => none }
def codecUniqueRow : OpenClaim := { program := "ytadoinponngdiaa", sum := "765f80b9da69096d51e5359bbd3d18a9b4b589f182134ad66bee7bb9512de216", func := "credence/credencelaw4.CodecUnique", spec := "codecUnique", apart := false }
def CodecUniqueSaid : Prop := codecUniqueRow.holds Try.pinned (OpenSpec.ofChange codecUniqueSpec)

/-- ITS FALSE NEIGHBOUR: 'it returns false'. Refute it at one input. -/
def codecUniqueWrong : ChangeSpec := { name := "codecUnique", fn := fun _ => fun
  | [d1, d2] => { results := [.lit (.bool false)], args := [d1, d2] }
  | _ => none }
def CodecUniqueWrongFalsely : Prop := codecUniqueRow.holds Try.pinned (OpenSpec.ofChange codecUniqueWrong)

/-- 'credencelaw4.CodecTruncated': WHATEVER THE INPUT: true; the input reads as it did. -/
def codecTruncatedSpec : ChangeSpec := { name := "codecTruncated", fn := fun _ => fun
  | [d1, d2, d3, d4, d5, d6] => { results := [.lit (.bool true)], args := [d1, d2, d3, d4, d5, d6] }
  | _ => none }
def codecTruncatedRow : OpenClaim := { program := "ytadoinponngdiaa", sum := "765f80b9da69096d51e5359bbd3d18a9b4b589f182134ad66bee7bb9512de216", func := "credence/credencelaw4.CodecTruncated", spec := "codecTruncated", apart := false }
def CodecTruncatedSaid : Prop := codecTruncatedRow.holds Try.pinned (OpenSpec.ofChange codecTruncatedSpec)

/-- ITS FALSE NEIGHBOUR: 'it returns false'. Refute it at one input. -/
def codecTruncatedWrong : ChangeSpec := { name := "codecTruncated", fn := fun _ => fun
  | [d1, d2, d3, d4, d5, d6] => { results := [.lit (.bool false)], args := [d1, d2, d3, d4, d5, d6] }
  | _ => none }
def CodecTruncatedWrongFalsely : Prop := codecTruncatedRow.holds Try.pinned (OpenSpec.ofChange codecTruncatedWrong)

/- THE SECOND FORM. 'bulk': how many values and letters a reading holds, each counted each time it is reached (what is shared counts as often as it is met; a slice's spare places count too). A statement '..UptoSaid' is the law's where the arguments, and the package variables that the reading takes, are together of bulk at most 1048576: NARROWER than '..Said'. Prove '..Said' where nothing that the law and all that it calls make is longer than what came in: it says more and counts as full. Else prove '..UptoSaid'. A law counts once. -/
mutual
def uptoBulk {H : Type} : DataW H → Nat
  | .lit (.string bytes) => bytes.length + 1
  | .lit _ => 1
  | .nil => 1
  | .ptr d => uptoBulk d + 1
  | .slice elems spare => uptoBulkAll elems + uptoBulkAll spare + 1
  | .agg parts => uptoBulkAll parts + 1
  | .iface _ d => uptoBulk d + 1
  | .map entries => uptoBulkEntries entries + 1
  | .held _ => 1
def uptoBulkAll {H : Type} : List (DataW H) → Nat
  | [] => 0
  | d :: r => uptoBulk d + uptoBulkAll r
def uptoBulkEntries {H : Type} : List (Lit × DataW H) → Nat
  | [] => 0
  | x :: r => uptoBulkEntry x + uptoBulkEntries r
def uptoBulkEntry {H : Type} : Lit × DataW H → Nat
  | (.string bytes, d) => bytes.length + uptoBulk d + 1
  | (_, d) => uptoBulk d + 1
 end
def uptoSmall : (H : Type) → List (DataW H) → Bool := fun _ ds => decide (uptoBulkAll ds ≤ 1048576)
def OpenSpec.upto (s : _root_.Go.ChangeSpec) : _root_.Go.OpenSpec := { _root_.Go.OpenSpec.ofChange s with cond := some uptoSmall }

/-- 'credencelaw4.CodecEncodes', WHERE WHAT IT READS IS OF BULK AT MOST 1048576: true; the input reads as it did. -/
def codecEncodesUptoRow : OpenClaim := { program := "ytadoinponngdiaa", sum := "765f80b9da69096d51e5359bbd3d18a9b4b589f182134ad66bee7bb9512de216", func := "credence/credencelaw4.CodecEncodes", spec := "codecEncodes", apart := false, narrowed := true }
def CodecEncodesUptoSaid : Prop := codecEncodesUptoRow.holds Try.pinned (OpenSpec.upto codecEncodesSpec)

/-- 'credencelaw4.CodecReads', WHERE WHAT IT READS IS OF BULK AT MOST 1048576: true; the input reads as it did. -/
def codecReadsUptoRow : OpenClaim := { program := "ytadoinponngdiaa", sum := "765f80b9da69096d51e5359bbd3d18a9b4b589f182134ad66bee7bb9512de216", func := "credence/credencelaw4.CodecReads", spec := "codecReads", apart := false, narrowed := true }
def CodecReadsUptoSaid : Prop := codecReadsUptoRow.holds Try.pinned (OpenSpec.upto codecReadsSpec)

/-- 'credencelaw4.CodecAlmost', WHERE WHAT IT READS IS OF BULK AT MOST 1048576: true; the input reads as it did. -/
def codecAlmostUptoRow : OpenClaim := { program := "ytadoinponngdiaa", sum := "765f80b9da69096d51e5359bbd3d18a9b4b589f182134ad66bee7bb9512de216", func := "credence/credencelaw4.CodecAlmost", spec := "codecAlmost", apart := false, narrowed := true }
def CodecAlmostUptoSaid : Prop := codecAlmostUptoRow.holds Try.pinned (OpenSpec.upto codecAlmostSpec)

/-- 'credencelaw4.CodecRoundTrip', WHERE WHAT IT READS IS OF BULK AT MOST 1048576: true; the input reads as it did. -/
def codecRoundTripUptoRow : OpenClaim := { program := "ytadoinponngdiaa", sum := "765f80b9da69096d51e5359bbd3d18a9b4b589f182134ad66bee7bb9512de216", func := "credence/credencelaw4.CodecRoundTrip", spec := "codecRoundTrip", apart := false, narrowed := true }
def CodecRoundTripUptoSaid : Prop := codecRoundTripUptoRow.holds Try.pinned (OpenSpec.upto codecRoundTripSpec)

/-- 'credencelaw4.CodecUnique', WHERE WHAT IT READS IS OF BULK AT MOST 1048576: true; the input reads as it did. -/
def codecUniqueUptoRow : OpenClaim := { program := "ytadoinponngdiaa", sum := "765f80b9da69096d51e5359bbd3d18a9b4b589f182134ad66bee7bb9512de216", func := "credence/credencelaw4.CodecUnique", spec := "codecUnique", apart := false, narrowed := true }
def CodecUniqueUptoSaid : Prop := codecUniqueUptoRow.holds Try.pinned (OpenSpec.upto codecUniqueSpec)

/-- 'credencelaw4.CodecTruncated', WHERE WHAT IT READS IS OF BULK AT MOST 1048576: true; the input reads as it did. -/
def codecTruncatedUptoRow : OpenClaim := { program := "ytadoinponngdiaa", sum := "765f80b9da69096d51e5359bbd3d18a9b4b589f182134ad66bee7bb9512de216", func := "credence/credencelaw4.CodecTruncated", spec := "codecTruncated", apart := false, narrowed := true }
def CodecTruncatedUptoSaid : Prop := codecTruncatedUptoRow.holds Try.pinned (OpenSpec.upto codecTruncatedSpec)

end Rows
end Go.Proofs.Ytadoinponngdiaa
