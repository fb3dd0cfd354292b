/-
  The sanity check of the laws on hierarchies.
-/
import Derived.Test.YtfidddcjieoblaaHD
namespace Go.Proofs.Ytfidddcjieoblaa.Gx
open Go Go.RowKit Tw B Nt
set_option linter.unusedVariables false
set_option linter.unusedSimpArgs false
set_option maxHeartbeats 4000000
set_option maxRecDepth 100000
def kw1 : Str := [65, 40, 120, 41, 44, 32, 82, 40, 120, 44, 32, 121, 41, 44, 32, 66, 40, 121, 41]
def kw2 : Str := [82, 40, 120, 41, 44, 32, 83, 40, 120, 44, 32, 121, 41]
def kw3 : Str := [82, 40, 120, 41, 44, 32, 83, 40, 121, 41, 44, 32, 84, 40, 120, 44, 32, 122, 41]
theorem ps_tok {s : PS} (h1 : (0 ≤ s.2.1 ∧ s.2.1 ≤ (s.1.length : Int)) ∧ s.1.length ≤ 20000) (h2 : ∀ t ∈ s.1, t.1 ≠ 3 ∧ t.1 ≠ 2) : psP s := ⟨h1.1, h1.2, fun t ht => ⟨(h2 t ht).1, fun h => absurd h (h2 t ht).2⟩⟩
theorem kw1_ok : pqK kw1 := ⟨⟨by decide +kernel, by decide +kernel⟩, ⟨by decide +kernel, by decide +kernel⟩, by decide +kernel, ps_tok (by decide +kernel) (by decide +kernel), by decide +kernel, ⟨by decide +kernel, by decide +kernel, by decide +kernel⟩, by decide +kernel⟩
theorem kw2_ok : pqK kw2 := ⟨⟨by decide +kernel, by decide +kernel⟩, ⟨by decide +kernel, by decide +kernel⟩, by decide +kernel, ps_tok (by decide +kernel) (by decide +kernel), by decide +kernel, ⟨by decide +kernel, by decide +kernel, by decide +kernel⟩, by decide +kernel⟩
theorem kw3_ok : pqK kw3 := ⟨⟨by decide +kernel, by decide +kernel⟩, ⟨by decide +kernel, by decide +kernel⟩, by decide +kernel, ps_tok (by decide +kernel) (by decide +kernel), by decide +kernel, ⟨by decide +kernel, by decide +kernel, by decide +kernel⟩, by decide +kernel⟩
def kc1 : Cq := ([([65], false, [([120], 0, 0, [])]), ([82], false, [([120], 0, 0, []), ([121], 0, 0, [])]), ([66], false, [([121], 0, 0, [])])], [])
def kc2 : Cq := ([([82], false, [([120], 0, 0, [])]), ([83], false, [([120], 0, 0, []), ([121], 0, 0, [])])], [])
def kc3 : Cq := ([([82], false, [([120], 0, 0, [])]), ([83], false, [([121], 0, 0, [])]), ([84], false, [([120], 0, 0, []), ([122], 0, 0, [])])], [])
theorem cq_1 : cqOf kw1 = kc1 := by kernel_rfl
theorem cq_2 : cqOf kw2 = kc2 := by kernel_rfl
theorem cq_3 : cqOf kw3 = kc3 := by kernel_rfl
theorem kc1_P : cqP kc1 := ⟨by decide +kernel, by decide +kernel, by decide +kernel⟩
theorem kc2_P : cqP kc2 := ⟨by decide +kernel, by decide +kernel, by decide +kernel⟩
theorem kc3_P : cqP kc3 := ⟨by decide +kernel, by decide +kernel, by decide +kernel⟩
theorem kv1 : viR kc1 (vio kc1) = ((([], [kc1]), [120], [121], 0, 1, 2), true) := by kernel_rfl
theorem kv2 : (viR kc2 (vio kc2)).2 = false := by decide +kernel
theorem kv3 : (comps kc3).length = 2 := by decide +kernel
@[go_sem] def knS : Spec := ⟨[], fun d => (.dat .bool true, [])⟩
@[go_sem] noncomputable def EJF : Env := (EJE).add 17 paS
theorem EJF_ok : EJF.Ok := (EJE_ok).add pa_ok
theorem kn_ok : SpecOk Try.prog 10 knS := by
  refine fn_ok EJF_ok knS Try.func10 rfl (by decide) (N := 35) rfl (res := [.tmp 0]) rfl (by decide) [] [] [] 100 (by kernel_rfl) ?_
  rintro ⟨_⟩ hw hp
  refine ⟨rfl, fun H hH => ?_⟩
  dsimp only [go_sem] at hw hp ⊢
  clear hw hp
  have hk1 := kw1_ok
  have hk2 := kw2_ok
  have hk3 := kw3_ok
  have hc1 : cqOf [65, 40, 120, 41, 44, 32, 82, 40, 120, 44, 32, 121, 41, 44, 32, 66, 40, 121, 41] = kc1 := cq_1
  have hc2 : cqOf [82, 40, 120, 41, 44, 32, 83, 40, 120, 44, 32, 121, 41] = kc2 := cq_2
  have hc3 : cqOf [82, 40, 120, 41, 44, 32, 83, 40, 121, 41, 44, 32, 84, 40, 120, 44, 32, 122, 41] = kc3 := cq_3
  have ha3 : isA3 Try.prog 32 := ⟨_, _, rfl, rfl, rfl, rfl, rfl⟩
  have hl3 : decide (((comps kc3).length : Int) = 2) = true := by rw [kv3]; rfl
  simp only [imp_self, imp2, true_and, and_true]
  simp only [hc1, hc2, hc3, kv1, kv2]
  refine ⟨hk1, kc1_P, hk2, kc2_P, fun _ => ha3, fun _ => ha3, fun _ => hk3, fun _ => kc3_P, ?_⟩
  rw [hl3]
  decide
end Go.Proofs.Ytfidddcjieoblaa.Gx
