/-
  The types of the program and the first contracts. (Printed by gxenv.py.)
-/
import Derived.Test.YtadoinponngdiaaD3
import Derived.KernelRfl
namespace Go.Proofs.Ytadoinponngdiaa.Gx
open Go Go.RowKit Tw B Nt
set_option linter.unusedVariables false

attribute [go_sem] List.map
/-- a fresh row for an append to nothing -/
def appN (E : Env) (st : St) (T : TypeId) (b : AV) (d : Nat) : Option (St × List Prop) :=
  match elemOf E T with
  | some u => match E.te T with
    | some e => match E.te e.elem with
      | some e' => match Nat.ble 1 e'.bytes with
       | true => match as1 st.ck (.slice u) b with
        | some m => some (⟨(d, .own st.nx) :: st.sl, (st.nx, .row e.elem u m) :: st.ck, st.nx + 1⟩, [m.length * e'.bytes ≤ 140737488355328])
        | none => none
       | false => none
      | none => none
    | none => none
  | none => none
/- matches on a nil slice do not reduce under dsimp: these laws come first -/
theorem appendA_nil {E : Env} {st : St} {T : TypeId} {b : AV} {d : Nat} : appendA E st T (.val (.slice none 0 0)) b d = appN E st T b d := rfl
theorem leA_nil {ck : List (Nat × CT)} {n n' c : Nat} : leA ck n n' (.val (.slice none 0 0)) (.own c) = [n ≤ c ∧ c < n'] := rfl
def nilN (mp : List (Nat × Nat)) (nx i : Nat) : AV :=
  match get? mp i with
  | none => match Nat.ble (i + 1) nx with | true => .own i | false => .any
  | some _ => .any
theorem nilA_nil {mp : List (Nat × Nat)} {nx i : Nat} : nilA mp nx (.val (.slice none 0 0)) (.own i) = nilN mp nx i := rfl
attribute [go_sem] nilN
attribute [go_sem ↓] appendA_nil leA_nil nilA_nil
attribute [go_sem] appN
@[go_sem] def tysL : List (Nat × TE) := [
  (3, ⟨(.int .i64), 0, 8, 0⟩),
  (4, ⟨.bool, 0, 1, 0⟩),
  (23, ⟨(.slice (.int .u8)), 5, 24, 0⟩),
  (9, ⟨.str, 0, 16, 0⟩),
  (25, ⟨(.slice (.int .u32)), 61, 24, 0⟩),
  (28, ⟨(.pair .bool (.pair (.slice (.int .u32)) (.slice (.int .u32)))), 0, 56, 3⟩),
  (40, ⟨(.int .i64), 0, 8, 0⟩),
  (5, ⟨(.int .u8), 0, 1, 0⟩),
  (22, ⟨(.int .u64), 0, 8, 0⟩),
  (61, ⟨(.int .u32), 0, 4, 0⟩),
  (2, ⟨(.int .i64), 0, 8, 0⟩),
  (49, ⟨(.int .u64), 0, 8, 0⟩),
  (12, ⟨(.int .u64), 0, 8, 0⟩),
  (13, ⟨(.pair .str (.int .u64)), 0, 24, 2⟩),
  (21, ⟨(.int .i32), 0, 4, 0⟩),
  (24, ⟨(.slice (.int .u32)), 61, 24, 0⟩),
  (27, ⟨(.pair .bool (.pair (.slice (.int .u32)) (.slice (.int .u32)))), 0, 56, 3⟩),
  (36, ⟨(.slice (.pair (.int .u8) (.pair (.int .u64) (.int .i64)))), 47, 24, 0⟩),
  (41, ⟨(.pair (.slice (.int .u8)) (.int .i64)), 0, 32, 2⟩),
  (42, ⟨(.pair (.slice (.int .u8)) (.int .i64)), 0, 32, 2⟩),
  (46, ⟨(.pair (.int .u8) (.pair (.int .u64) (.int .i64))), 0, 24, 3⟩),
  (47, ⟨(.pair (.int .u8) (.pair (.int .u64) (.int .i64))), 0, 24, 3⟩),
  (65, ⟨(.pair (.slice (.int .u8)) (.int .i64)), 0, 32, 2⟩),
  (66, ⟨(.pair (.slice (.int .u8)) (.int .i64)), 0, 32, 2⟩)]
theorem tys_ok : ∀ x ∈ tysL, TyFact Try.prog x.1 x.2 := by
  intro x hx
  simp only [tysL, List.mem_cons, List.not_mem_nil, or_false] at hx
  rcases hx with rfl | rfl | rfl | rfl | rfl | rfl | rfl | rfl | rfl | rfl | rfl | rfl | rfl | rfl | rfl | rfl | rfl | rfl | rfl | rfl | rfl | rfl | rfl | rfl
  all_goals exact ⟨by kernel_rfl, by kernel_rfl, by kernel_rfl, by kernel_rfl, by kernel_rfl⟩
@[go_sem] def sp3 : List (Nat × Spec) := [(52, bGCDS), (57, bNormS), (58, bDivModS), (65, bCmpS), (33, bBitsS), (68, bU64S), (64, bOfS), (53, rGCDS), (29, rNormS), (62, rSubS), (54, rDivModS), (61, rCmpS), (55, rOfS), (28, rSameS), (9, bNatS), (34, qNormS), (31, rFNormS), (47, qReduceS), (44, rFracS), (35, rFNewS), (30, rFSameS), (56, qZeroS), (48, rSizeS)]
@[go_sem] noncomputable def E3 : Env := ⟨Try.prog, tysL, sp3, []⟩
theorem mixed_ok : Try.prog.follows .mixedOrders = true := by kernel_rfl
theorem E3_ok : E3.Ok := by
  refine ⟨tys_ok, fun x hx => ?_, fun x hx => (by cases hx), mixed_ok⟩
  simp only [E3, sp3, List.mem_cons, List.not_mem_nil, or_false] at hx
  rcases hx with rfl | rfl | rfl | rfl | rfl | rfl | rfl | rfl | rfl | rfl | rfl | rfl | rfl | rfl | rfl | rfl | rfl | rfl | rfl | rfl | rfl | rfl | rfl
  · exact bGCD_ok
  · exact bNorm_ok
  · exact bDivMod_ok
  · exact bCmp_ok
  · exact bBits_ok
  · exact bU64_ok
  · exact bOf_ok
  · exact rGCD_ok
  · exact rNorm_ok
  · exact rSub_ok
  · exact rDivMod_ok
  · exact rCmp_ok
  · exact rOf_ok
  · exact rSame_ok
  · exact bNat_ok
  · exact qNorm_ok
  · exact rFNorm_ok
  · exact qReduce_ok
  · exact rFrac_ok
  · exact rFNew_ok
  · exact rFSame_ok
  · exact qZero_ok
  · exact rSize_ok
/-- one more contract -/
@[go_sem] def Env.add (E : Env) (f : Nat) (s : Spec) : Env := ⟨E.P, E.tys, (f, s) :: E.sp, E.ms⟩
theorem Env.Ok.add {E : Env} (h : E.Ok) {f : Nat} {s : Spec} (hs : SpecOk E.P f s) : (E.add f s).Ok :=
  ⟨h.ty, fun x hx => by
    rcases List.mem_cons.1 hx with rfl | hx
    · exact hs
    · exact h.sp x hx, h.ms, h.mx⟩
@[go_sem] def Env.addM (E : Env) (f : Nat) (s : MSpec) : Env := ⟨E.P, E.tys, E.sp, (f, s) :: E.ms⟩
theorem Env.Ok.addM {E : Env} (h : E.Ok) {f : Nat} {s : MSpec} (hs : MSpecOk E.P f s) : (E.addM f s).Ok :=
  ⟨h.ty, h.sp, fun x hx => by
    rcases List.mem_cons.1 hx with rfl | hx
    · exact hs
    · exact h.ms x hx, h.mx⟩
end Go.Proofs.Ytadoinponngdiaa.Gx
