/-
  The parser of queries: tokens, names, constants, terms.
-/
import Derived.Test.YtfidddcjieoblaaH9
namespace Go.Proofs.Ytfidddcjieoblaa.Gx
open Go Go.RowKit Tw B Nt
set_option linter.unusedVariables false
set_option linter.unusedSimpArgs false
set_option maxHeartbeats 4000000
set_option maxRecDepth 20000
@[reducible, go_sem] def psT : Ty := .pair (.slice tokT) (.pair (.int .i64) .bool)
abbrev PS := List Tok × Int × Bool
/-- the texts of numbers that are read -/
def numOk (t : Str) : Prop := False
def psP (s : PS) : Prop := (0 ≤ s.2.1 ∧ s.2.1 ≤ (s.1.length : Int)) ∧ s.1.length ≤ 20000 ∧ ∀ t ∈ s.1, t.1 ≠ 3 ∧ (t.1 = 2 → numOk t.2)
def tk (s : PS) : Tok := s.1.getD s.2.1.toNat (0, [])
def peekP (s : PS) (t : Str) : Bool := (((!s.2.2 && decide (s.2.1 < (s.1.length : Int))) && decide ((tk s).1 ≠ 3)) && decide ((tk s).1 ≠ 2)) && decide ((tk s).2 = t)
@[go_sem] def pkM : MSpec := ⟨[.b 83 psT, .d .str], fun d => ⟨[(0, .box 83 (dA psT d.1 .nil))], 1, .dat .bool (peekP d.1 d.2.1), [psP d.1]⟩⟩
@[go_sem] noncomputable def EJ0 : Env := (EI3).add 34 lexS
theorem EJ0_ok : EJ0.Ok := (EI3_ok).add lex_ok
theorem pkM_ok : MSpecOk Try.prog 35 pkM := by
  refine fnM_ok EJ0_ok pkM Try.func35 rfl (by decide) (N := 65) rfl (res := [.tmp 4]) rfl (by decide) [] [] [] 100 (by kernel_rfl) ?_
  rintro ⟨s, t, _⟩ hw hp H hH
  dsimp only [go_sem] at hw hp ⊢
  obtain ⟨hp, -⟩ := hp
  obtain ⟨l, a, b⟩ := s
  change List Tok at l
  change Int at a
  obtain ⟨⟨h0, h1⟩, h2, h3⟩ := hp
  change (0 : Int) ≤ a at h0
  clear hw
  simp only [imp_self, true_and, imp2, and_true]
  have hb : ∀ x : Bool, ((x && decide (a < (l.length : Int))) = true) → (0 : Int) ≤ a ∧ a < (l.length : Int) := fun x h => by
    simp only [Bool.and_eq_true, decide_eq_true_eq] at h
    exact ⟨h0, h.2⟩
  refine ⟨fun h => hb _ h, fun h => hb (!b) (Bool.and_eq_true_iff.1 h).1, fun h => hb (!b) (Bool.and_eq_true_iff.1 (Bool.and_eq_true_iff.1 h).1).1, ?_⟩
  and_intros <;> first | trivial | rfl
/-- a token further -/
def adv (s : PS) : PS := (s.1, s.2.1 + 1, s.2.2)
def bad (s : PS) : PS := (s.1, s.2.1, true)
def takP (s : PS) (t : Str) : PS × Bool := if peekP s t = true then (adv s, true) else (s, false)
def wanP (s : PS) (t : Str) : PS := if peekP s t = true then adv s else bad s
/-- further, the same tokens -/
def Ad (s s' : PS) : Prop := psP s' ∧ s'.1 = s.1 ∧ s.2.1 ≤ s'.2.1
theorem Ad.refl {s : PS} (h : psP s) : Ad s s := ⟨h, rfl, Int.le_refl _⟩
theorem Ad.trans {a b c : PS} (h : Ad a b) (h' : Ad b c) : Ad a c := ⟨h'.1, h'.2.1.trans h.2.1, Int.le_trans h.2.2 h'.2.2⟩
theorem Ad.adv {s : PS} (h : psP s) (hl : s.2.1 < (s.1.length : Int)) : Ad s (adv s) := by
  obtain ⟨⟨h0, h1⟩, h2, h3⟩ := h
  exact ⟨⟨⟨by show 0 ≤ s.2.1 + 1; omega, by show s.2.1 + 1 ≤ _; exact hl⟩, h2, h3⟩, rfl, by show s.2.1 ≤ s.2.1 + 1; omega⟩
theorem Ad.bad {s : PS} (h : psP s) : Ad s (bad s) := ⟨h, rfl, Int.le_refl _⟩
theorem peek_lt {s : PS} {t : Str} (h : peekP s t = true) : s.2.1 < (s.1.length : Int) := by
  unfold peekP at h
  simp only [Bool.and_eq_true, decide_eq_true_eq] at h
  exact h.1.1.1.2
theorem takP_ad {s : PS} (h : psP s) (t : Str) : Ad s (takP s t).1 ∧ ((takP s t).2 = true → s.2.1 + 1 ≤ (takP s t).1.2.1) := by
  unfold takP
  split
  · rename_i e; exact ⟨Ad.adv h (peek_lt e), fun _ => Int.le_refl _⟩
  · exact ⟨Ad.refl h, fun h => by cases h⟩
theorem wanP_ad {s : PS} (h : psP s) (t : Str) : Ad s (wanP s t) := by
  unfold wanP
  split
  · rename_i e; exact Ad.adv h (peek_lt e)
  · exact Ad.bad h
@[go_sem] def tkM : MSpec := ⟨[.b 83 psT, .d .str], fun d => ⟨[(0, .box 83 (dA psT (takP d.1 d.2.1).1 .nil))], 1, .dat .bool (takP d.1 d.2.1).2, [psP d.1]⟩⟩
@[go_sem] noncomputable def EJ1 : Env := (EJ0).addM 35 pkM
theorem EJ1_ok : EJ1.Ok := (EJ0_ok).addM pkM_ok
theorem tkM_ok : MSpecOk Try.prog 45 tkM := by
  refine fnM_ok EJ1_ok tkM Try.func45 rfl (by decide) (N := 16) rfl (res := [.tmp 4]) rfl (by decide) [(1, [(7, .ow)])] [] [] 100 (by kernel_rfl) ?_
  rintro ⟨s, t, _⟩ hw hp H hH
  dsimp only [go_sem] at hw hp ⊢
  obtain ⟨hp, -⟩ := hp
  refine ⟨hp, ?_⟩
  obtain ⟨⟨h0, h1⟩, h2, h3⟩ := hp
  unfold takP
  refine ⟨fun h => ?_, fun h => ?_⟩
  · have h : peekP s t = false := by simpa using h
    rw [h, if_neg (by decide)]
    and_intros <;> first | trivial | rfl
  · have h : peekP s t = true := by simpa using h
    have h0 : (0 : Int) ≤ s.2.1 := h0
    have h1 : (s.2.1 : Int) ≤ (s.1.length : Int) := h1
    have h2 : s.1.length ≤ 20000 := h2
    have hi : inR .i64 (s.2.1 + 1) := by rw [inR_i64]; omega
    rw [h, if_pos rfl]
    refine ⟨hi, ?_⟩
    and_intros <;> first | trivial | rfl
@[go_sem] def wnM : MSpec := ⟨[.b 83 psT, .d .str], fun d => ⟨[(0, .box 83 (dA psT (wanP d.1 d.2.1) .nil))], 1, .tup .nil, [psP d.1]⟩⟩
@[go_sem] noncomputable def EJ2 : Env := (EJ1).addM 45 tkM
theorem EJ2_ok : EJ2.Ok := (EJ1_ok).addM tkM_ok
theorem wnM_ok : MSpecOk Try.prog 37 wnM := by
  refine fnM_ok EJ2_ok wnM Try.func37 rfl (by decide) (N := 11) rfl (res := []) rfl (by decide) [(0, [(6, .ow)])] [] [] 100 (by kernel_rfl) ?_
  rintro ⟨s, t, _⟩ hw hp H hH
  dsimp only [go_sem] at hw hp ⊢
  obtain ⟨hp, -⟩ := hp
  refine ⟨hp, ?_⟩
  unfold wanP takP
  cases h : peekP s t with
  | true =>
    simp only [if_true]
    refine ⟨fun h => ?_, fun _ => ?_⟩
    · cases h
    · and_intros <;> first | trivial | rfl
  | false =>
    simp only [Bool.false_eq_true, if_false]
    refine ⟨fun _ => ?_, fun h => ?_⟩
    · and_intros <;> first | trivial | rfl
    · cases h
end Go.Proofs.Ytfidddcjieoblaa.Gx
