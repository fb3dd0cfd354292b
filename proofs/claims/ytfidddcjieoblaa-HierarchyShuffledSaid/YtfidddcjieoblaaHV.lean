/-
  Being hierarchical depends neither on the order of the atoms nor on repetition and negation.
-/
import Derived.Test.YtfidddcjieoblaaHS
import Derived.Test.YtfidddcjieoblaaHU
namespace Go.Proofs.Ytfidddcjieoblaa.Gx
open Go Go.RowKit Tw B Nt
set_option linter.unusedVariables false
set_option linter.unusedSimpArgs false
set_option maxHeartbeats 4000000
set_option maxRecDepth 20000
def ngA (a : Atom) : Atom := (a.1, !a.2.1, a.2.2)
def shA (l : List Atom) (i : Nat) : List Atom := (l.reverse.take i).flatMap fun a => [ngA a, a]
theorem shA_succ {l : List Atom} {i : Nat} (h : i < l.length) : shA l (i + 1) = shA l i ++ [ngA (l.getD (l.length - 1 - i) (zd atomT)), l.getD (l.length - 1 - i) (zd atomT)] := by
  unfold shA
  have e : l.reverse.getD i (zd atomT) = l.getD (l.length - 1 - i) (zd atomT) := by
    rw [List.getD_eq_getElem?_getD, List.getElem?_reverse h, ← List.getD_eq_getElem?_getD]
  rw [fm_snoc _ (zd atomT) (by rw [List.length_reverse]; exact h), e]
theorem shA_mem {l : List Atom} {a : Atom} : a ∈ shA l l.length ↔ ∃ b ∈ l, a = ngA b ∨ a = b := by
  unfold shA
  rw [List.take_of_length_le (by rw [List.length_reverse]; exact Nat.le_refl _), List.mem_flatMap]
  constructor
  · rintro ⟨b, hb, h⟩
    refine ⟨b, List.mem_reverse.1 hb, ?_⟩
    simpa using h
  · rintro ⟨b, hb, h⟩
    exact ⟨b, List.mem_reverse.2 hb, by simpa using h⟩
theorem shA_len (l : List Atom) (i : Nat) : (shA l i).length ≤ 2 * l.length := by
  unfold shA
  have := fm_len (fun a => [ngA a, a]) 2 (l := l.reverse.take i) fun _ _ => Nat.le_refl _
  rw [List.length_take, List.length_reverse] at this
  omega
theorem bad_sh (l : List Atom) : Bad (shA l l.length) ↔ Bad l := by
  have key : ∀ x y p q, (∃ a ∈ shA l l.length, hasV x a = p ∧ hasV y a = q) ↔ ∃ a ∈ l, hasV x a = p ∧ hasV y a = q := by
    intro x y p q
    constructor
    · rintro ⟨a, ha, h⟩
      obtain ⟨b, hb, rfl | rfl⟩ := shA_mem.1 ha
      · exact ⟨b, hb, h⟩
      · exact ⟨a, hb, h⟩
    · rintro ⟨a, ha, h⟩
      exact ⟨a, shA_mem.2 ⟨a, ha, .inr rfl⟩, h⟩
  unfold Bad
  simp only [key]
theorem sj_sh {l : List Atom} (h : 0 < l.length) : sjB (shA l l.length) = false := by
  unfold sjB
  rw [decide_eq_false]
  intro hn
  have h0 := shA_succ h
  have e : shA l l.length = shA l 1 ++ (shA l l.length).drop 2 := by
    unfold shA
    have hc : l.reverse = l.reverse.take 1 ++ l.reverse.drop 1 := (List.take_append_drop 1 _).symm
    have e1 : l.reverse.take l.length = l.reverse := List.take_of_length_le (by rw [List.length_reverse]; exact Nat.le_refl _)
    rw [e1]
    cases hr : l.reverse with
    | nil => rw [← List.length_reverse, hr] at h; exact absurd h (by decide)
    | cons a r => simp
  rw [e, h0] at hn
  have : shA l 0 = [] := rfl
  rw [this] at hn
  simp [ngA] at hn
theorem hi_sh (c : Cq) : hiB (shA c.1 c.1.length, []) = hiB c := by
  rw [Bool.eq_iff_iff, hiB_iff, hiB_iff]
  show ¬ Bad (shA c.1 c.1.length) ↔ _
  rw [bad_sh]
theorem bld_7 (l : List Int) : (bld l).1.length ≤ 7 := by
  show ((l.take 7).map bAtom).length ≤ 7
  rw [List.length_map, List.length_take]; omega
theorem cqP_sh {c : Cq} (h : cqP c) (h7 : c.1.length ≤ 7) (i : Nat) : cqP (shA c.1 i, []) := by
  refine ⟨?_, ?_, Nat.zero_le _⟩
  · have := shA_len c.1 i
    show (shA c.1 i).length ≤ 1000
    omega
  · intro a ha
    have ha : a ∈ (c.1.reverse.take i).flatMap fun a => [ngA a, a] := ha
    obtain ⟨b, hb, hab⟩ := List.mem_flatMap.1 ha
    have hb := List.mem_reverse.1 (List.mem_of_mem_take hb)
    have hab : a = ngA b ∨ a = b := by simpa using hab
    rcases hab with rfl | rfl
    · exact h.2.1 b hb
    · exact h.2.1 a hb
@[go_sem] noncomputable def EJI : Env := (EJH).add 14 sjfS
theorem EJI_ok : EJI.Ok := (EJH_ok).add sjf_ok
@[go_sem] def lShS : Spec := ⟨[.slice (.int .i64)], fun d => (.dat .bool true, [])⟩
theorem lSh_ok : SpecOk Try.prog 6 lShS := by
  refine fn_ok EJI_ok lShS Try.func6 rfl (by decide) (N := 57) rfl (res := [.tmp 2]) rfl (by decide) [(2, [(9, .ag)]), (8, [(35, .dt)])] [(9, [2])] [] 200 (by kernel_rfl) ?_
  rintro ⟨l, _⟩ hw hp
  refine ⟨rfl, fun H hH => ?_⟩
  dsimp only [go_sem] at hw hp ⊢
  clear hw hp
  change List Int at l
  have hP := bld_P l
  have h7 := bld_7 l
  generalize bld l = c at hP h7 ⊢
  have hcs := cqP_sh hP h7
  have hi1 : inR .i64 ((c.1.length : Int) - 1) := by rw [inR_i64]; omega
  refine ⟨hi1, ?_⟩
  refine hH.loop (fun i : Nat => ⟨[(5, .dat (.int .i64) ((c.1.length : Int) - 1 - i)), (4, .ref 1 0), (3, .ref 0 0)], [(0, .box 26 (.cons (.dat (.slice atomT) c.1) (.cons (.dat (.slice cmpT) c.2) .nil))), (1, .box 26 (.cons (.own 2) (.cons (.val (.slice none 0 0)) .nil))), (2, .row 41 atomT (shA c.1 i))], 3⟩) (fun i => i ≤ c.1.length) (fun i => c.1.length - i) 0 2 (Nat.zero_le _) ?_ ?_
  · dsimp only [go_sem]
    and_intros <;> first | trivial | rfl | omega | exact (Int.sub_zero _).symm
  · intro i hi R hm
    refine hH.run 200 _ _ ?_
    dsimp only [go_sem]
    refine ⟨fun d => ?_, fun d => ?_⟩ <;> simp only [decide_eq_true_eq, decide_eq_false_iff_not] at d
    · have d : i < c.1.length := by omega
      have hs := shA_succ d
      have hl := shA_len c.1 i
      have hti : ((c.1.length : Int) - 1 - (i : Int)).toNat = c.1.length - 1 - i := by omega
      have hb : (0 : Int) ≤ (c.1.length : Int) - 1 - (i : Int) ∧ (c.1.length : Int) - 1 - (i : Int) < (c.1.length : Int) := by omega
      have hi2 : inR .i64 ((c.1.length : Int) - 1 - (i : Int) - 1) := by rw [inR_i64]; omega
      have hi3 : (c.1.length : Int) - 1 - (i : Int) - 1 = (c.1.length : Int) - 1 - ((i + 1 : Nat) : Int) := by omega
      rw [hti]
      refine ⟨hb, hb, ?_, rfl, hi2, hm _ (i + 1) 3 d (by omega) ?_⟩
      · change ((shA c.1 i).length + 2) * 48 ≤ _
        omega
      · dsimp only [go_sem]
        rw [hs, hi3]
        and_intros <;> first | trivial | rfl | omega
    · have d : i = c.1.length := by omega
      subst d
      have hcf := hcs c.1.length
      have hhi := hi_sh c
      have hsj := @sj_sh c.1
      unfold hiB at hhi
      rw [hhi]
      have hlen0 : c.1.length = 0 ∨ 0 < c.1.length := Nat.eq_zero_or_pos _
      rcases hlen0 with h0 | h0
      · have e0 : decide ((c.1.length : Int) = 0) = true := decide_eq_true (by omega)
        simp [hP, hcf, e0]
        exact .inl (List.length_eq_zero_iff.1 h0)
      · have e0 : decide ((c.1.length : Int) = 0) = false := decide_eq_false (by omega)
        simp [hP, hcf, e0, hsj h0]
end Go.Proofs.Ytfidddcjieoblaa.Gx
