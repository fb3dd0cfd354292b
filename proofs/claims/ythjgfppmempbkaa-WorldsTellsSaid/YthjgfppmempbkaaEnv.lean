/-
  The types of the program and the first contracts. (Printed by gxenv.py.)
-/
import Derived.Test.YthjgfppmempbkaaD3
import Derived.KernelRfl
namespace Go.Proofs.Ythjgfppmempbkaa.Gx
open Go Go.RowKit Tw B Nt
set_option linter.unusedVariables false

attribute [go_sem] List.map
/-- a fresh row for an append to nothing -/
def appN (E : Env) (st : St) (T : TypeId) (b : AV) (d : Nat) : Option (St × List Prop) :=
  match elemOf E T with
  | some u => match E.te T with
    | some e => match E.te e.elem with
      | some e' => match Nat.ble 1 e'.bytes with
       | true => match asW st.ck (.slice u) b with
        | some m => some (⟨(d, .own st.nx) :: st.sl, (st.nx, .row e.elem u m) :: st.ck, st.nx + 1⟩, [m.length * e'.bytes ≤ 140737488355328])
        | none => none
       | false => none
      | none => none
    | none => none
  | none => none
/- matches on a nil slice do not reduce under dsimp: these laws come first -/
theorem appendA_nil {E : Env} {st : St} {T : TypeId} {b : AV} {d : Nat} : appendA E st T (.val (.slice none 0 0)) b d = appN E st T b d := rfl
theorem leA_nil {cf ck : List (Nat × CT)} {n n' c : Nat} : leA cf ck n n' (.val (.slice none 0 0)) (.own c) = match isBag cf c with
    | false => [n ≤ c ∧ c < n']
    | true => [False] := rfl
def nilN (mp : List (Nat × Nat)) (nx i : Nat) : AV :=
  match get? mp i with
  | none => match Nat.ble (i + 1) nx with | true => .own i | false => .any
  | some _ => .any
theorem nilA_nil {mp : List (Nat × Nat)} {nx i : Nat} : nilA mp nx (.val (.slice none 0 0)) (.own i) = nilN mp nx i := rfl
attribute [go_sem] nilN
theorem leA_nils {cf ck : List (Nat × CT)} {n n' c k : Nat} : leA cf ck n n' (.val (.slice none 0 0)) (.sli c k) = match isBag cf c with
    | false => [n ≤ c ∧ c < n' ∧ k = 0]
    | true => [False] := rfl
attribute [go_sem ↓] appendA_nil leA_nil leA_nils nilA_nil
attribute [go_sem] appN
@[go_sem] def tysL : List (Nat × TE) := [
  (3, ⟨(.int .i64), 0, 8, 0⟩),
  (4, ⟨.bool, 0, 1, 0⟩),
  (106, ⟨(.slice (.int .u8)), 5, 24, 0⟩),
  (9, ⟨.str, 0, 16, 0⟩),
  (31, ⟨(.slice (.int .u32)), 77, 24, 0⟩),
  (53, ⟨(.pair .bool (.pair (.slice (.int .u32)) (.slice (.int .u32)))), 0, 56, 3⟩),
  (49, ⟨(.int .i64), 0, 8, 0⟩),
  (5, ⟨(.int .u8), 0, 1, 0⟩),
  (74, ⟨(.int .u64), 0, 8, 0⟩),
  (77, ⟨(.int .u32), 0, 4, 0⟩),
  (2, ⟨(.int .i64), 0, 8, 0⟩),
  (61, ⟨(.int .u64), 0, 8, 0⟩),
  (22, ⟨(.slice (.int .i64)), 3, 24, 0⟩),
  (27, ⟨(.slice (.pair .bool (.pair (.slice (.int .u32)) (.slice (.int .u32))))), 53, 24, 0⟩),
  (12, ⟨(.int .u64), 0, 8, 0⟩),
  (13, ⟨(.pair .str (.int .u64)), 0, 24, 2⟩),
  (21, ⟨(.int .i32), 0, 4, 0⟩),
  (23, ⟨(.slice (.int .u32)), 77, 24, 0⟩),
  (24, ⟨(.slice (.one (.slice (.pair .bool (.pair (.slice (.int .u32)) (.slice (.int .u32))))))), 30, 24, 0⟩),
  (25, ⟨(.one (.slice (.one (.slice (.pair .bool (.pair (.slice (.int .u32)) (.slice (.int .u32)))))))), 0, 24, 1⟩),
  (26, ⟨(.one (.slice (.one (.slice (.pair .bool (.pair (.slice (.int .u32)) (.slice (.int .u32)))))))), 0, 24, 1⟩),
  (29, ⟨(.one (.slice (.pair .bool (.pair (.slice (.int .u32)) (.slice (.int .u32)))))), 0, 24, 1⟩),
  (30, ⟨(.one (.slice (.pair .bool (.pair (.slice (.int .u32)) (.slice (.int .u32)))))), 0, 24, 1⟩),
  (36, ⟨(.slice (.int .i64)), 3, 24, 0⟩),
  (52, ⟨(.pair .bool (.pair (.slice (.int .u32)) (.slice (.int .u32)))), 0, 56, 3⟩),
  (68, ⟨(.slice (.slice (.int .i64))), 36, 24, 0⟩),
  (90, ⟨(.slice (.one (.slice (.one (.slice (.pair .bool (.pair (.slice (.int .u32)) (.slice (.int .u32))))))))), 26, 24, 0⟩),
  (105, ⟨(.slice (.int .i64)), 2, 24, 0⟩)]
theorem tys_ok : ∀ x ∈ tysL, TyFact Try.prog x.1 x.2 := by
  intro x hx
  simp only [tysL, List.mem_cons, List.not_mem_nil, or_false] at hx
  rcases hx with rfl | rfl | rfl | rfl | rfl | rfl | rfl | rfl | rfl | rfl | rfl | rfl | rfl | rfl | rfl | rfl | rfl | rfl | rfl | rfl | rfl | rfl | rfl | rfl | rfl | rfl | rfl | rfl
  all_goals exact ⟨by kernel_rfl, by kernel_rfl, by kernel_rfl, by kernel_rfl, by kernel_rfl⟩
@[go_sem] def sp3 : List (Nat × Spec) := [(15, bAddS), (29, bMulS), (87, bGCDS), (49, bNormS), (63, bSubS), (11, bDivModS), (19, bCmpS), (85, bBitsS), (52, bU64S), (46, bOfS), (69, rAddS), (70, rMulS), (94, rGCDS), (90, rNormS), (100, rSubS), (95, rDivModS), (99, rCmpS), (71, rOfS), (17, rSameS), (12, bNatS), (31, qAddS), (88, qSubS), (28, qMulS), (58, qNormS), (65, qComplS), (83, rFNormS), (98, rFNegS), (61, qReduceS), (81, rFracS), (60, qNewS), (56, rFNewS), (62, qSignS), (35, qCmpS), (27, rFSameS), (86, qZeroS), (89, qOneS), (25, bFracS), (82, rSizeS)]
@[go_sem] noncomputable def E3 : Env := ⟨Try.prog, tysL, sp3, []⟩
theorem mixed_ok : Try.prog.follows .mixedOrders = true := by kernel_rfl
theorem E3_ok : E3.Ok := by
  refine ⟨tys_ok, fun x hx => ?_, fun x hx => (by cases hx), mixed_ok⟩
  simp only [E3, sp3, List.mem_cons, List.not_mem_nil, or_false] at hx
  rcases hx with rfl | rfl | rfl | rfl | rfl | rfl | rfl | rfl | rfl | rfl | rfl | rfl | rfl | rfl | rfl | rfl | rfl | rfl | rfl | rfl | rfl | rfl | rfl | rfl | rfl | rfl | rfl | rfl | rfl | rfl | rfl | rfl | rfl | rfl | rfl | rfl | rfl | rfl
  · exact bAdd_ok
  · exact bMul_ok
  · exact bGCD_ok
  · exact bNorm_ok
  · exact bSub_ok
  · exact bDivMod_ok
  · exact bCmp_ok
  · exact bBits_ok
  · exact bU64_ok
  · exact bOf_ok
  · exact rAdd_ok
  · exact rMul_ok
  · exact rGCD_ok
  · exact rNorm_ok
  · exact rSub_ok
  · exact rDivMod_ok
  · exact rCmp_ok
  · exact rOf_ok
  · exact rSame_ok
  · exact bNat_ok
  · exact qAdd_ok
  · exact qSub_ok
  · exact qMul_ok
  · exact qNorm_ok
  · exact qCompl_ok
  · exact rFNorm_ok
  · exact rFNeg_ok
  · exact qReduce_ok
  · exact rFrac_ok
  · exact qNew_ok
  · exact rFNew_ok
  · exact qSign_ok
  · exact qCmp_ok
  · exact rFSame_ok
  · exact qZero_ok
  · exact qOne_ok
  · exact bFrac_ok
  · exact rSize_ok
/-- one more contract -/
@[go_sem] def Env.add (E : Env) (f : Nat) (s : Spec) : Env := ⟨E.P, E.tys, (f, s) :: E.sp, E.ms⟩
theorem Env.Ok.add {E : Env} (h : E.Ok) {f : Nat} {s : Spec} (hs : SpecOk E.P f s) : (E.add f s).Ok :=
  ⟨h.ty, fun x hx => by
    rcases List.mem_cons.1 hx with rfl | hx
    · exact hs
    · exact h.sp x hx, h.ms, h.mx⟩
@[go_sem] def Env.addM (E : Env) (f : Nat) (s : MSpec) : Env := ⟨E.P, E.tys, E.sp, (f, s) :: E.ms⟩
theorem Env.Ok.addM {E : Env} (h : E.Ok) {f : Nat} {s : MSpec} (hs : MSpecOk E.P f s) : (E.addM f s).Ok :=
  ⟨h.ty, h.sp, fun x hx => by
    rcases List.mem_cons.1 hx with rfl | hx
    · exact hs
    · exact h.ms x hx, h.mx⟩
end Go.Proofs.Ythjgfppmempbkaa.Gx
