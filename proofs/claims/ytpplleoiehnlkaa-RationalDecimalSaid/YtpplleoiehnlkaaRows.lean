/-
  No cell of these rows narrows 'for every input' (looked for: loops, veiled, ifaces, maps, wideKeys, modest, calm, conditions, laid).
  DERIVED. THE GIVEN ROWS OF THIS SEAT. 8 by the template 'for every input the law returns true; each argument reads behind the call as it read before'; 0 by the template 'total and deterministic' (their statements: YtpplleoiehnlkaaTotals.lean).
  GIVEN WITH THE SEED: the statements are not yours to turn. If you find one false, say at which input.
  Laid BY PROGRAM, IN A SANDBOX (cutbox-rows.mjs): the forced cells as the released guide's own fill.sh prints them over the translation 39f24b2ccc0e93a4… (all of the seat's roots in one cut). By AI agents, Wed Nov 11 2026. No macro, syntax, notation, axiom, sorry.
-/
import Derived.Test.YtpplleoiehnlkaaChecked
import GoSem.Claim
import GoSem.ClaimJoined
import GoSem.ClaimMapViews
import Derived.JoinedTies
import Derived.KernelRfl
namespace Go.Proofs.Ytpplleoiehnlkaa
/- THE CELL 'sum', in the pinned program and in every row, IS THE sha256 OF THE DUMP (.gsa) THAT YtpplleoiehnlkaaProg.lean LOADS. Nothing in Lean hashes anything: it is a label: what it is worth is what the hold of that sum in a sandbox is worth. -/
noncomputable def Try.pinned : Pinned := { name := "ytpplleoiehnlkaa", sum := "39f24b2ccc0e93a4b01f960bcfa08732fc7f84e2e448508babbecb41928910c8", checked := Try.checked }
namespace Rows
def none {H : Type} : Left H := { results := [], args := [] }

/-- 'credencelaw2.RationalNew': WHATEVER THE INPUT: true; the input reads as it did. -/
def rationalNewSpec : ChangeSpec := { name := "rationalNew", fn := fun _ => fun
  | [d1, d2] => { results := [.lit (.bool true)], args := [d1, d2] }
  | _ => none }
def rationalNewRow : OpenClaim := { program := "ytpplleoiehnlkaa", sum := "39f24b2ccc0e93a4b01f960bcfa08732fc7f84e2e448508babbecb41928910c8", func := "credence/credencelaw2.RationalNew", spec := "rationalNew", apart := false }
def RationalNewSaid : Prop := rationalNewRow.holds Try.pinned (OpenSpec.ofChange rationalNewSpec)

/-- ITS FALSE NEIGHBOUR: 'it returns false'. Refute it at one input. -/
def rationalNewWrong : ChangeSpec := { name := "rationalNew", fn := fun _ => fun
  | [d1, d2] => { results := [.lit (.bool false)], args := [d1, d2] }
  | _ => none }
def RationalNewWrongFalsely : Prop := rationalNewRow.holds Try.pinned (OpenSpec.ofChange rationalNewWrong)

/-- 'credencelaw2.RationalText': WHATEVER THE INPUT: true; the input reads as it did. -/
def rationalTextSpec : ChangeSpec := { name := "rationalText", fn := fun _ => fun
  | [d1, d2, d3, d4] => { results := [.lit (.bool true)], args := [d1, d2, d3, d4] }
  | _ => none }
def rationalTextRow : OpenClaim := { program := "ytpplleoiehnlkaa", sum := "39f24b2ccc0e93a4b01f960bcfa08732fc7f84e2e448508babbecb41928910c8", func := "credence/credencelaw2.RationalText", spec := "rationalText", apart := false }
def RationalTextSaid : Prop := rationalTextRow.holds Try.pinned (OpenSpec.ofChange rationalTextSpec)

/-- ITS FALSE NEIGHBOUR: 'it returns false'. Refute it at one input. -/
def rationalTextWrong : ChangeSpec := { name := "rationalText", fn := fun _ => fun
  | [d1, d2, d3, d4] => { results := [.lit (.bool false)], args := [d1, d2, d3, d4] }
  | _ => none }
def RationalTextWrongFalsely : Prop := rationalTextRow.holds Try.pinned (OpenSpec.ofChange rationalTextWrong)

/-- 'credencelaw2.RationalDecimal': WHATEVER THE INPUT: true; the input reads as it did. -/
def rationalDecimalSpec : ChangeSpec := { name := "rationalDecimal", fn := fun _ => fun
  | [d1, d2, d3, d4] => { results := [.lit (.bool true)], args := [d1, d2, d3, d4] }
  | _ => none }
def rationalDecimalRow : OpenClaim := { program := "ytpplleoiehnlkaa", sum := "39f24b2ccc0e93a4b01f960bcfa08732fc7f84e2e448508babbecb41928910c8", func := "credence/credencelaw2.RationalDecimal", spec := "rationalDecimal", apart := false }
def RationalDecimalSaid : Prop := rationalDecimalRow.holds Try.pinned (OpenSpec.ofChange rationalDecimalSpec)

/-- ITS FALSE NEIGHBOUR: 'it returns false'. Refute it at one input. -/
def rationalDecimalWrong : ChangeSpec := { name := "rationalDecimal", fn := fun _ => fun
  | [d1, d2, d3, d4] => { results := [.lit (.bool false)], args := [d1, d2, d3, d4] }
  | _ => none }
def RationalDecimalWrongFalsely : Prop := rationalDecimalRow.holds Try.pinned (OpenSpec.ofChange rationalDecimalWrong)

/-- 'credencelaw2.RationalOrder': WHATEVER THE INPUT: true; the input reads as it did. -/
def rationalOrderSpec : ChangeSpec := { name := "rationalOrder", fn := fun _ => fun
  | [d1, d2, d3] => { results := [.lit (.bool true)], args := [d1, d2, d3] }
  | _ => none }
def rationalOrderRow : OpenClaim := { program := "ytpplleoiehnlkaa", sum := "39f24b2ccc0e93a4b01f960bcfa08732fc7f84e2e448508babbecb41928910c8", func := "credence/credencelaw2.RationalOrder", spec := "rationalOrder", apart := false }
def RationalOrderSaid : Prop := rationalOrderRow.holds Try.pinned (OpenSpec.ofChange rationalOrderSpec)

/-- ITS FALSE NEIGHBOUR: 'it returns false'. Refute it at one input. -/
def rationalOrderWrong : ChangeSpec := { name := "rationalOrder", fn := fun _ => fun
  | [d1, d2, d3] => { results := [.lit (.bool false)], args := [d1, d2, d3] }
  | _ => none }
def RationalOrderWrongFalsely : Prop := rationalOrderRow.holds Try.pinned (OpenSpec.ofChange rationalOrderWrong)

/-- 'credencelaw2.RationalField': WHATEVER THE INPUT: true; the input reads as it did. -/
def rationalFieldSpec : ChangeSpec := { name := "rationalField", fn := fun _ => fun
  | [d1, d2, d3] => { results := [.lit (.bool true)], args := [d1, d2, d3] }
  | _ => none }
def rationalFieldRow : OpenClaim := { program := "ytpplleoiehnlkaa", sum := "39f24b2ccc0e93a4b01f960bcfa08732fc7f84e2e448508babbecb41928910c8", func := "credence/credencelaw2.RationalField", spec := "rationalField", apart := false }
def RationalFieldSaid : Prop := rationalFieldRow.holds Try.pinned (OpenSpec.ofChange rationalFieldSpec)

/-- ITS FALSE NEIGHBOUR: 'it returns false'. Refute it at one input. -/
def rationalFieldWrong : ChangeSpec := { name := "rationalField", fn := fun _ => fun
  | [d1, d2, d3] => { results := [.lit (.bool false)], args := [d1, d2, d3] }
  | _ => none }
def RationalFieldWrongFalsely : Prop := rationalFieldRow.holds Try.pinned (OpenSpec.ofChange rationalFieldWrong)

/-- 'credencelaw2.RationalCanonical': WHATEVER THE INPUT: true; the input reads as it did. -/
def rationalCanonicalSpec : ChangeSpec := { name := "rationalCanonical", fn := fun _ => fun
  | [d1, d2, d3, d4] => { results := [.lit (.bool true)], args := [d1, d2, d3, d4] }
  | _ => none }
def rationalCanonicalRow : OpenClaim := { program := "ytpplleoiehnlkaa", sum := "39f24b2ccc0e93a4b01f960bcfa08732fc7f84e2e448508babbecb41928910c8", func := "credence/credencelaw2.RationalCanonical", spec := "rationalCanonical", apart := false }
def RationalCanonicalSaid : Prop := rationalCanonicalRow.holds Try.pinned (OpenSpec.ofChange rationalCanonicalSpec)

/-- ITS FALSE NEIGHBOUR: 'it returns false'. Refute it at one input. -/
def rationalCanonicalWrong : ChangeSpec := { name := "rationalCanonical", fn := fun _ => fun
  | [d1, d2, d3, d4] => { results := [.lit (.bool false)], args := [d1, d2, d3, d4] }
  | _ => none }
def RationalCanonicalWrongFalsely : Prop := rationalCanonicalRow.holds Try.pinned (OpenSpec.ofChange rationalCanonicalWrong)

/-- 'credencelaw2.RationalLists': WHATEVER THE INPUT: true; the input reads as it did. -/
def rationalListsSpec : ChangeSpec := { name := "rationalLists", fn := fun _ => fun
  | [d1, d2] => { results := [.lit (.bool true)], args := [d1, d2] }
  | _ => none }
def rationalListsRow : OpenClaim := { program := "ytpplleoiehnlkaa", sum := "39f24b2ccc0e93a4b01f960bcfa08732fc7f84e2e448508babbecb41928910c8", func := "credence/credencelaw2.RationalLists", spec := "rationalLists", apart := false }
def RationalListsSaid : Prop := rationalListsRow.holds Try.pinned (OpenSpec.ofChange rationalListsSpec)

/-- ITS FALSE NEIGHBOUR: 'it returns false'. Refute it at one input. -/
def rationalListsWrong : ChangeSpec := { name := "rationalLists", fn := fun _ => fun
  | [d1, d2] => { results := [.lit (.bool false)], args := [d1, d2] }
  | _ => none }
def RationalListsWrongFalsely : Prop := rationalListsRow.holds Try.pinned (OpenSpec.ofChange rationalListsWrong)

/-- 'credencelaw2.RationalArith': WHATEVER THE INPUT: true; the input reads as it did. -/
def rationalArithSpec : ChangeSpec := { name := "rationalArith", fn := fun _ => fun
  | [d1, d2, d3, d4, d5, d6] => { results := [.lit (.bool true)], args := [d1, d2, d3, d4, d5, d6] }
  | _ => none }
def rationalArithRow : OpenClaim := { program := "ytpplleoiehnlkaa", sum := "39f24b2ccc0e93a4b01f960bcfa08732fc7f84e2e448508babbecb41928910c8", func := "credence/credencelaw2.RationalArith", spec := "rationalArith", apart := false }
def RationalArithSaid : Prop := rationalArithRow.holds Try.pinned (OpenSpec.ofChange rationalArithSpec)

/-- ITS FALSE NEIGHBOUR: 'it returns false'. Refute it at one input. -/
def rationalArithWrong : ChangeSpec := { name := "rationalArith", fn := fun _ => fun
  | [d1, d2, d3, d4, d5, d6] => { results := [.lit (.bool false)], args := [d1, d2, d3, d4, d5, d6] }
  | _ => none }
def RationalArithWrongFalsely : Prop := rationalArithRow.holds Try.pinned (OpenSpec.ofChange rationalArithWrong)

/- THE SECOND FORM. 'bulk': how many values and letters a reading holds, each counted each time it is reached (what is shared counts as often as it is met; a slice's spare places count too). A statement '..UptoSaid' is the law's where the arguments, and the package variables that the reading takes, are together of bulk at most 1048576: NARROWER than '..Said'. Prove '..Said' where nothing that the law and all that it calls make is longer than what came in: it says more and counts as full. Else prove '..UptoSaid'. A law counts once. -/
mutual
def uptoBulk {H : Type} : DataW H → Nat
  | .lit (.string bytes) => bytes.length + 1
  | .lit _ => 1
  | .nil => 1
  | .ptr d => uptoBulk d + 1
  | .slice elems spare => uptoBulkAll elems + uptoBulkAll spare + 1
  | .agg parts => uptoBulkAll parts + 1
  | .iface _ d => uptoBulk d + 1
  | .map entries => uptoBulkEntries entries + 1
  | .held _ => 1
def uptoBulkAll {H : Type} : List (DataW H) → Nat
  | [] => 0
  | d :: r => uptoBulk d + uptoBulkAll r
def uptoBulkEntries {H : Type} : List (Lit × DataW H) → Nat
  | [] => 0
  | x :: r => uptoBulkEntry x + uptoBulkEntries r
def uptoBulkEntry {H : Type} : Lit × DataW H → Nat
  | (.string bytes, d) => bytes.length + uptoBulk d + 1
  | (_, d) => uptoBulk d + 1
 end
def uptoSmall : (H : Type) → List (DataW H) → Bool := fun _ ds => decide (uptoBulkAll ds ≤ 1048576)
def OpenSpec.upto (s : _root_.Go.ChangeSpec) : _root_.Go.OpenSpec := { _root_.Go.OpenSpec.ofChange s with cond := some uptoSmall }

/-- 'credencelaw2.RationalNew', WHERE WHAT IT READS IS OF BULK AT MOST 1048576: true; the input reads as it did. -/
def rationalNewUptoRow : OpenClaim := { program := "ytpplleoiehnlkaa", sum := "39f24b2ccc0e93a4b01f960bcfa08732fc7f84e2e448508babbecb41928910c8", func := "credence/credencelaw2.RationalNew", spec := "rationalNew", apart := false, narrowed := true }
def RationalNewUptoSaid : Prop := rationalNewUptoRow.holds Try.pinned (OpenSpec.upto rationalNewSpec)

/-- 'credencelaw2.RationalText', WHERE WHAT IT READS IS OF BULK AT MOST 1048576: true; the input reads as it did. -/
def rationalTextUptoRow : OpenClaim := { program := "ytpplleoiehnlkaa", sum := "39f24b2ccc0e93a4b01f960bcfa08732fc7f84e2e448508babbecb41928910c8", func := "credence/credencelaw2.RationalText", spec := "rationalText", apart := false, narrowed := true }
def RationalTextUptoSaid : Prop := rationalTextUptoRow.holds Try.pinned (OpenSpec.upto rationalTextSpec)

/-- 'credencelaw2.RationalDecimal', WHERE WHAT IT READS IS OF BULK AT MOST 1048576: true; the input reads as it did. -/
def rationalDecimalUptoRow : OpenClaim := { program := "ytpplleoiehnlkaa", sum := "39f24b2ccc0e93a4b01f960bcfa08732fc7f84e2e448508babbecb41928910c8", func := "credence/credencelaw2.RationalDecimal", spec := "rationalDecimal", apart := false, narrowed := true }
def RationalDecimalUptoSaid : Prop := rationalDecimalUptoRow.holds Try.pinned (OpenSpec.upto rationalDecimalSpec)

/-- 'credencelaw2.RationalOrder', WHERE WHAT IT READS IS OF BULK AT MOST 1048576: true; the input reads as it did. -/
def rationalOrderUptoRow : OpenClaim := { program := "ytpplleoiehnlkaa", sum := "39f24b2ccc0e93a4b01f960bcfa08732fc7f84e2e448508babbecb41928910c8", func := "credence/credencelaw2.RationalOrder", spec := "rationalOrder", apart := false, narrowed := true }
def RationalOrderUptoSaid : Prop := rationalOrderUptoRow.holds Try.pinned (OpenSpec.upto rationalOrderSpec)

/-- 'credencelaw2.RationalField', WHERE WHAT IT READS IS OF BULK AT MOST 1048576: true; the input reads as it did. -/
def rationalFieldUptoRow : OpenClaim := { program := "ytpplleoiehnlkaa", sum := "39f24b2ccc0e93a4b01f960bcfa08732fc7f84e2e448508babbecb41928910c8", func := "credence/credencelaw2.RationalField", spec := "rationalField", apart := false, narrowed := true }
def RationalFieldUptoSaid : Prop := rationalFieldUptoRow.holds Try.pinned (OpenSpec.upto rationalFieldSpec)

/-- 'credencelaw2.RationalCanonical', WHERE WHAT IT READS IS OF BULK AT MOST 1048576: true; the input reads as it did. -/
def rationalCanonicalUptoRow : OpenClaim := { program := "ytpplleoiehnlkaa", sum := "39f24b2ccc0e93a4b01f960bcfa08732fc7f84e2e448508babbecb41928910c8", func := "credence/credencelaw2.RationalCanonical", spec := "rationalCanonical", apart := false, narrowed := true }
def RationalCanonicalUptoSaid : Prop := rationalCanonicalUptoRow.holds Try.pinned (OpenSpec.upto rationalCanonicalSpec)

/-- 'credencelaw2.RationalLists', WHERE WHAT IT READS IS OF BULK AT MOST 1048576: true; the input reads as it did. -/
def rationalListsUptoRow : OpenClaim := { program := "ytpplleoiehnlkaa", sum := "39f24b2ccc0e93a4b01f960bcfa08732fc7f84e2e448508babbecb41928910c8", func := "credence/credencelaw2.RationalLists", spec := "rationalLists", apart := false, narrowed := true }
def RationalListsUptoSaid : Prop := rationalListsUptoRow.holds Try.pinned (OpenSpec.upto rationalListsSpec)

/-- 'credencelaw2.RationalArith', WHERE WHAT IT READS IS OF BULK AT MOST 1048576: true; the input reads as it did. -/
def rationalArithUptoRow : OpenClaim := { program := "ytpplleoiehnlkaa", sum := "39f24b2ccc0e93a4b01f960bcfa08732fc7f84e2e448508babbecb41928910c8", func := "credence/credencelaw2.RationalArith", spec := "rationalArith", apart := false, narrowed := true }
def RationalArithUptoSaid : Prop := rationalArithUptoRow.holds Try.pinned (OpenSpec.upto rationalArithSpec)

end Rows
end Go.Proofs.Ytpplleoiehnlkaa
