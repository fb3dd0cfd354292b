/-
  Equality of columns and values; SameSchema, SameValues, Same.
-/
import Derived.Test.YtdobkkhncfifeacGreatMR3
namespace Go.Proofs.YtdobkkhncfifeacGreat.Gx
open Go Go.RowKit Tw B Nt
set_option linter.unusedVariables false
set_option linter.unusedSimpArgs false
set_option maxHeartbeats 4000000
set_option maxRecDepth 20000
theorem part_plain {P:Program} {T:TypeId} {w:World} {d:TypeDesc} (hu:P.underlying T=some d) (hd:d=.string∨d=.bool∨∃ k,d=.int k):∀ (xs:Array Value) (i:Nat) (v:Value),xs[i]?=some v->(part T xs i).run P w=.ok v w:=by
 intro xs i v h
 rcases hd with rfl|rfl|⟨k,rfl⟩<;>simp [part,isAgg,run_underlying hu,h]
theorem eq_int {P:Program} {T:TypeId} {w:World} {k:IntKind} (hu:P.underlying T=some (.int k)) (d:Nat) (a b:Int):(Op.equalIn (d+1) T (.int k a) (.int k b)).run P w=.ok (decide (a=b)) w:=by
 have e:(a == b)=decide (a=b):=by rw [Bool.eq_iff_iff,beq_iff_eq,decide_eq_true_eq]
 rw [<-e]
 simp [Op.equalIn,run_underlying hu]
end Go.Proofs.YtdobkkhncfifeacGreat.Gx
