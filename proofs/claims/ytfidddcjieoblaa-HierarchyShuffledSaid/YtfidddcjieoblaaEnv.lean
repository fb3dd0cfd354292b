/-
  The types of the program and the first contracts. (Printed by gxenv.py.)
-/
import Derived.Test.YtfidddcjieoblaaD3
import Derived.KernelRfl
namespace Go.Proofs.Ytfidddcjieoblaa.Gx
open Go Go.RowKit Tw B Nt
set_option linter.unusedVariables false

attribute [go_sem] List.map
/-- a fresh row for an append to nothing -/
def appN (E : Env) (st : St) (T : TypeId) (b : AV) (d : Nat) : Option (St × List Prop) :=
  match elemOf E T with
  | some u => match E.te T with
    | some e => match E.te e.elem with
      | some e' => match Nat.ble 1 e'.bytes with
       | true => match asW st.ck (.slice u) b with
        | some m => some (⟨(d, .own st.nx) :: st.sl, (st.nx, .row e.elem u m) :: st.ck, st.nx + 1⟩, [m.length * e'.bytes ≤ 140737488355328])
        | none => none
       | false => none
      | none => none
    | none => none
  | none => none
/- matches on a nil slice do not reduce under dsimp: these laws come first -/
theorem appendA_nil {E : Env} {st : St} {T : TypeId} {b : AV} {d : Nat} : appendA E st T (.val (.slice none 0 0)) b d = appN E st T b d := rfl
theorem leA_nil {cf ck : List (Nat × CT)} {n n' c : Nat} : leA cf ck n n' (.val (.slice none 0 0)) (.own c) = match isBag cf c with
    | false => [n ≤ c ∧ c < n']
    | true => [False] := rfl
def nilN (mp : List (Nat × Nat)) (nx i : Nat) : AV :=
  match get? mp i with
  | none => match Nat.ble (i + 1) nx with | true => .own i | false => .any
  | some _ => .any
theorem nilA_nil {mp : List (Nat × Nat)} {nx i : Nat} : nilA mp nx (.val (.slice none 0 0)) (.own i) = nilN mp nx i := rfl
attribute [go_sem] nilN
theorem leA_nils {cf ck : List (Nat × CT)} {n n' c k : Nat} : leA cf ck n n' (.val (.slice none 0 0)) (.sli c k) = match isBag cf c with
    | false => [n ≤ c ∧ c < n' ∧ k = 0]
    | true => [False] := rfl
attribute [go_sem ↓] appendA_nil leA_nil leA_nils nilA_nil
attribute [go_sem] appN
@[go_sem] def tysL : List (Nat × TE) := [
  (3, ⟨(.int .i64), 0, 8, 0⟩),
  (4, ⟨.bool, 0, 1, 0⟩),
  (124, ⟨(.slice (.int .u8)), 5, 24, 0⟩),
  (9, ⟨.str, 0, 16, 0⟩),
  (109, ⟨(.slice (.int .u32)), 125, 24, 0⟩),
  (111, ⟨(.pair .bool (.pair (.slice (.int .u32)) (.slice (.int .u32)))), 0, 56, 3⟩),
  (70, ⟨(.int .i64), 0, 8, 0⟩),
  (5, ⟨(.int .u8), 0, 1, 0⟩),
  (117, ⟨(.int .u64), 0, 8, 0⟩),
  (125, ⟨(.int .u32), 0, 4, 0⟩),
  (2, ⟨(.int .i64), 0, 8, 0⟩),
  (52, ⟨(.int .u64), 0, 8, 0⟩),
  (22, ⟨(.slice (.int .i64)), 3, 24, 0⟩),
  (12, ⟨(.int .u64), 0, 8, 0⟩),
  (13, ⟨(.pair .str (.int .u64)), 0, 24, 2⟩),
  (21, ⟨(.int .i32), 0, 4, 0⟩),
  (23, ⟨(.slice (.pair .str (.pair .bool (.slice (.pair .str (.pair (.int .i64) (.pair (.int .i64) .str))))))), 41, 24, 0⟩),
  (24, ⟨(.slice (.pair (.int .i64) (.pair (.pair .str (.pair (.int .i64) (.pair (.int .i64) .str))) (.pair .str (.pair (.int .i64) (.pair (.int .i64) .str)))))), 54, 24, 0⟩),
  (25, ⟨(.pair (.slice (.pair .str (.pair .bool (.slice (.pair .str (.pair (.int .i64) (.pair (.int .i64) .str))))))) (.slice (.pair (.int .i64) (.pair (.pair .str (.pair (.int .i64) (.pair (.int .i64) .str))) (.pair .str (.pair (.int .i64) (.pair (.int .i64) .str))))))), 0, 48, 2⟩),
  (26, ⟨(.pair (.slice (.pair .str (.pair .bool (.slice (.pair .str (.pair (.int .i64) (.pair (.int .i64) .str))))))) (.slice (.pair (.int .i64) (.pair (.pair .str (.pair (.int .i64) (.pair (.int .i64) .str))) (.pair .str (.pair (.int .i64) (.pair (.int .i64) .str))))))), 0, 48, 2⟩),
  (28, ⟨(.slice .str), 9, 24, 0⟩),
  (29, ⟨(.slice (.pair (.slice (.pair .str (.pair .bool (.slice (.pair .str (.pair (.int .i64) (.pair (.int .i64) .str))))))) (.slice (.pair (.int .i64) (.pair (.pair .str (.pair (.int .i64) (.pair (.int .i64) .str))) (.pair .str (.pair (.int .i64) (.pair (.int .i64) .str)))))))), 26, 24, 0⟩),
  (30, ⟨(.pair (.slice .str) (.slice (.pair (.slice (.pair .str (.pair .bool (.slice (.pair .str (.pair (.int .i64) (.pair (.int .i64) .str))))))) (.slice (.pair (.int .i64) (.pair (.pair .str (.pair (.int .i64) (.pair (.int .i64) .str))) (.pair .str (.pair (.int .i64) (.pair (.int .i64) .str))))))))), 0, 48, 2⟩),
  (31, ⟨(.pair (.slice .str) (.slice (.pair (.slice (.pair .str (.pair .bool (.slice (.pair .str (.pair (.int .i64) (.pair (.int .i64) .str))))))) (.slice (.pair (.int .i64) (.pair (.pair .str (.pair (.int .i64) (.pair (.int .i64) .str))) (.pair .str (.pair (.int .i64) (.pair (.int .i64) .str))))))))), 0, 48, 2⟩),
  (32, ⟨(.pair (.int .i64) (.pair (.int .i64) (.int .i64))), 0, 24, 0⟩),
  (33, ⟨(.pair (.pair (.slice .str) (.slice (.pair (.slice (.pair .str (.pair .bool (.slice (.pair .str (.pair (.int .i64) (.pair (.int .i64) .str))))))) (.slice (.pair (.int .i64) (.pair (.pair .str (.pair (.int .i64) (.pair (.int .i64) .str))) (.pair .str (.pair (.int .i64) (.pair (.int .i64) .str))))))))) (.pair .str (.pair .str (.pair (.int .i64) (.pair (.int .i64) (.int .i64)))))), 0, 104, 4⟩),
  (34, ⟨(.pair (.pair (.slice .str) (.slice (.pair (.slice (.pair .str (.pair .bool (.slice (.pair .str (.pair (.int .i64) (.pair (.int .i64) .str))))))) (.slice (.pair (.int .i64) (.pair (.pair .str (.pair (.int .i64) (.pair (.int .i64) .str))) (.pair .str (.pair (.int .i64) (.pair (.int .i64) .str))))))))) (.pair .str (.pair .str (.pair (.int .i64) (.pair (.int .i64) (.int .i64)))))), 0, 104, 4⟩),
  (39, ⟨(.slice (.pair .str (.pair (.int .i64) (.pair (.int .i64) .str)))), 45, 24, 0⟩),
  (40, ⟨(.pair .str (.pair .bool (.slice (.pair .str (.pair (.int .i64) (.pair (.int .i64) .str)))))), 0, 48, 3⟩),
  (41, ⟨(.pair .str (.pair .bool (.slice (.pair .str (.pair (.int .i64) (.pair (.int .i64) .str)))))), 0, 48, 3⟩),
  (42, ⟨(.pair (.int .i64) (.pair (.int .i64) .str)), 0, 32, 3⟩),
  (43, ⟨(.pair (.int .i64) (.pair (.int .i64) .str)), 0, 32, 3⟩),
  (44, ⟨(.pair .str (.pair (.int .i64) (.pair (.int .i64) .str))), 0, 48, 2⟩),
  (45, ⟨(.pair .str (.pair (.int .i64) (.pair (.int .i64) .str))), 0, 48, 2⟩),
  (47, ⟨(.slice (.slice (.int .i64))), 22, 24, 0⟩),
  (49, ⟨(.slice .bool), 4, 24, 0⟩),
  (53, ⟨(.pair (.int .i64) (.pair (.pair .str (.pair (.int .i64) (.pair (.int .i64) .str))) (.pair .str (.pair (.int .i64) (.pair (.int .i64) .str))))), 0, 104, 3⟩),
  (54, ⟨(.pair (.int .i64) (.pair (.pair .str (.pair (.int .i64) (.pair (.int .i64) .str))) (.pair .str (.pair (.int .i64) (.pair (.int .i64) .str))))), 0, 104, 3⟩),
  (55, ⟨(.slice (.slice .bool)), 49, 24, 0⟩),
  (60, ⟨.fn, 0, 8, 0⟩),
  (78, ⟨(.slice (.pair (.int .i64) .str)), 92, 24, 0⟩),
  (82, ⟨(.pair (.slice (.pair (.int .i64) .str)) (.pair (.int .i64) .bool)), 0, 40, 3⟩),
  (83, ⟨(.pair (.slice (.pair (.int .i64) .str)) (.pair (.int .i64) .bool)), 0, 40, 3⟩),
  (91, ⟨(.pair (.int .i64) .str), 0, 24, 2⟩),
  (92, ⟨(.pair (.int .i64) .str), 0, 24, 2⟩),
  (108, ⟨(.slice (.int .u32)), 125, 24, 0⟩),
  (110, ⟨(.pair .bool (.pair (.slice (.int .u32)) (.slice (.int .u32)))), 0, 56, 3⟩)]
theorem tys_ok : ∀ x ∈ tysL, TyFact Try.prog x.1 x.2 := by
  intro x hx
  simp only [tysL, List.mem_cons, List.not_mem_nil, or_false] at hx
  rcases hx with rfl | rfl | rfl | rfl | rfl | rfl | rfl | rfl | rfl | rfl | rfl | rfl | rfl | rfl | rfl | rfl | rfl | rfl | rfl | rfl | rfl | rfl | rfl | rfl | rfl | rfl | rfl | rfl | rfl | rfl | rfl | rfl | rfl | rfl | rfl | rfl | rfl | rfl | rfl | rfl | rfl | rfl | rfl | rfl | rfl | rfl | rfl
  all_goals exact ⟨by kernel_rfl, by kernel_rfl, by kernel_rfl, by kernel_rfl, by kernel_rfl⟩
@[go_sem] def sp3 : List (Nat × Spec) := [(73, rGCDS), (70, rNormS), (76, rSubS), (74, rDivModS), (66, rCmpS), (67, rOfS), (64, rFNormS), (69, rFracS), (68, rFNewS), (72, rSizeS)]
@[go_sem] noncomputable def E3 : Env := ⟨Try.prog, tysL, sp3, []⟩
theorem mixed_ok : Try.prog.follows .mixedOrders = true := by kernel_rfl
theorem E3_ok : E3.Ok := by
  refine ⟨tys_ok, fun x hx => ?_, fun x hx => (by cases hx), mixed_ok⟩
  simp only [E3, sp3, List.mem_cons, List.not_mem_nil, or_false] at hx
  rcases hx with rfl | rfl | rfl | rfl | rfl | rfl | rfl | rfl | rfl | rfl
  · exact rGCD_ok
  · exact rNorm_ok
  · exact rSub_ok
  · exact rDivMod_ok
  · exact rCmp_ok
  · exact rOf_ok
  · exact rFNorm_ok
  · exact rFrac_ok
  · exact rFNew_ok
  · exact rSize_ok
/-- one more contract -/
@[go_sem] def Env.add (E : Env) (f : Nat) (s : Spec) : Env := ⟨E.P, E.tys, (f, s) :: E.sp, E.ms⟩
theorem Env.Ok.add {E : Env} (h : E.Ok) {f : Nat} {s : Spec} (hs : SpecOk E.P f s) : (E.add f s).Ok :=
  ⟨h.ty, fun x hx => by
    rcases List.mem_cons.1 hx with rfl | hx
    · exact hs
    · exact h.sp x hx, h.ms, h.mx⟩
@[go_sem] def Env.addM (E : Env) (f : Nat) (s : MSpec) : Env := ⟨E.P, E.tys, E.sp, (f, s) :: E.ms⟩
theorem Env.Ok.addM {E : Env} (h : E.Ok) {f : Nat} {s : MSpec} (hs : MSpecOk E.P f s) : (E.addM f s).Ok :=
  ⟨h.ty, h.sp, fun x hx => by
    rcases List.mem_cons.1 hx with rfl | hx
    · exact hs
    · exact h.ms x hx, h.mx⟩
end Go.Proofs.Ytfidddcjieoblaa.Gx
