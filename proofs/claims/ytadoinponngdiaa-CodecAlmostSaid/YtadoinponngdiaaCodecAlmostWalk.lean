/-
  The walk of CodecAlmost.
-/
import Derived.Test.YtadoinponngdiaaCE
namespace Go.Proofs.Ytadoinponngdiaa.codecAlmost
open Go Go.ChangeShapes Go.WideShapes Go.ChangeAt Go.RowKit B Nt Gx
set_option linter.unusedVariables false

theorem walk (a0 : Int) (a1 : Option Addr) (len1 cap1 : Nat) (z1 : List Int) (a2 : Bool) (a3 : Option Addr) (len3 cap3 : Nat) (z3 : List Int) (a4 a5 : Int) (v6 : Value) (z6 : opT.slice.den) (w : World)
    (w0 : (Lit.int .u64 a0).wf = true) (w1 : IsRow .u32 w a1 len1 cap1 z1) (w3 : IsRow .u32 w a3 len3 cap3 z3) (w4 : (Lit.int .i64 a4).wf = true) (w5 : (Lit.int .u8 a5).wf = true) (w6 : rep (.slice opT) (fun _ => False) w [v6] z6) :
    Calls Try.prog 5 #[.int .u64 a0, .slice a1 len1 cap1, .bool a2, .slice a3 len3 cap3, .int .i64 a4, .int .u8 a5, v6] w fun e w' => e = .returned (.bool true) ∧ Below w.heap.size w w' :=
  law_walk lAl_ok (a0, z1.take len1, a2, z3.take len3, a4, a5, z6, ()) trivial rfl ⟨_, _, rfl, int_in w0, _, _, rfl, row_in w1, _, _, rfl, m_bool_of, _, _, rfl, row_in w3, _, _, rfl, int_in w4, _, _, rfl, int_in w5, _, _, rfl, dat_of_rep rfl w6, rfl⟩
end Go.Proofs.Ytadoinponngdiaa.codecAlmost
