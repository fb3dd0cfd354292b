/-
  Hierarchy: clones, copies of CQs, overlaps.
-/
import Derived.Test.YtfidddcjieoblaaH2
namespace Go.Proofs.Ytfidddcjieoblaa.Gx
open Go Go.RowKit Tw B Nt
set_option linter.unusedVariables false
set_option linter.unusedSimpArgs false
set_option maxHeartbeats 4000000
set_option maxRecDepth 20000
@[go_sem] def clTS : Spec := ⟨[.slice termT], fun d => (.dat (.slice termT) d.1, [List.length d.1 ≤ 1000])⟩
theorem clT_ok : SpecOk Try.prog 27 clTS := by
  refine fn_ok E3_ok clTS Try.func27 rfl (by decide) (N := 8) rfl (res := [.tmp 2]) rfl (by decide) [(3, [(7, .fz 0)])] [] [] 100 (by kernel_rfl) ?_
  rintro ⟨l, _⟩ hw hp
  refine ⟨rfl, fun H hH => ?_⟩
  dsimp only [go_sem] at hw hp ⊢
  obtain ⟨hp, -⟩ := hp
  refine ⟨fun h => ⟨h.symm, trivial⟩, ?_, rfl, rfl, trivial⟩
  change (0 + List.length l) * 48 ≤ _
  change List.length l ≤ 1000 at hp
  omega
@[go_sem] def clCS : Spec := ⟨[.slice cmpT], fun d => (.dat (.slice cmpT) d.1, [List.length d.1 ≤ 1000])⟩
theorem clC_ok : SpecOk Try.prog 26 clCS := by
  refine fn_ok E3_ok clCS Try.func26 rfl (by decide) (N := 8) rfl (res := [.tmp 2]) rfl (by decide) [(3, [(7, .fz 0)])] [] [] 100 (by kernel_rfl) ?_
  rintro ⟨l, _⟩ hw hp
  refine ⟨rfl, fun H hH => ?_⟩
  dsimp only [go_sem] at hw hp ⊢
  obtain ⟨hp, -⟩ := hp
  refine ⟨fun h => ⟨h.symm, trivial⟩, ?_, rfl, rfl, trivial⟩
  change (0 + List.length l) * 104 ≤ _
  change List.length l ≤ 1000 at hp
  omega
@[go_sem] noncomputable def EH7 : Env := (((EH6).add 12 varS).add 27 clTS).add 26 clCS
theorem EH7_ok : EH7.Ok := (((EH6_ok).add var_ok).add clT_ok).add clC_ok
@[go_sem] def cpyS : Spec := ⟨[cqT], fun d => (.dat cqT d.1, [cqP d.1])⟩
theorem cpy_ok : SpecOk Try.prog 16 cpyS := by
  refine fn_ok EH7_ok cpyS Try.func16 rfl (by decide) (N := 29) rfl (res := [.cell 2 26]) rfl (by decide) [(1, [(9, .ag)]), (6, [(24, .dt)])] [] [] 100 (by kernel_rfl) ?_
  rintro ⟨c, _⟩ hw hp
  refine ⟨rfl, fun H hH => ?_⟩
  dsimp only [go_sem] at hw hp ⊢
  obtain ⟨hp, -⟩ := hp
  obtain ⟨l, cs⟩ := c
  change List Atom at l
  change List Cmp at cs
  obtain ⟨hp1, hp2, hp3⟩ := hp
  change List.length l ≤ 1000 at hp1
  change ∀ a ∈ l, a.2.2.length ≤ 1000 at hp2
  refine ⟨hp3, ?_⟩
  clear hw
  refine hH.loop (fun i : Nat => ⟨[(13, .dat (.int .i64) (i : Int)), (12, .dat (.int .i64) (List.length l : Int)), (11, .dat (.slice atomT) l), (3, .ref 2 0), (2, .ref 1 0)], [(1, .box 26 (zA cqT .nil)), (2, .box 26 (.cons (.own 3) (.cons (.dat (.slice cmpT) cs) .nil))), (3, .row 41 atomT (l.take i))], 4⟩) (fun i => i ≤ l.length) (fun i => l.length - i) 0 3 (Nat.zero_le _) ?_ ?_
  · dsimp only [go_sem]
    and_intros <;> first | trivial | rfl | omega
  · intro i hi R hm
    refine hH.run 100 _ _ ?_
    dsimp only [go_sem]
    rw [Int.toNat_natCast]
    refine ⟨fun d => ?_, fun d => ?_⟩ <;> simp only [decide_eq_true_eq, decide_eq_false_iff_not] at d
    · have d : i < l.length := by omega
      have hs := take_snoc (zd atomT) d
      refine ⟨⟨Int.natCast_nonneg _, Int.ofNat_lt.2 d⟩, hp2 _ (getDm _ d), ?_, rfl, by rw [inR_i64]; omega, hm _ (i + 1) 4 d (by omega) ?_⟩
      · change ((l.take i).length + 1) * 48 ≤ _
        rw [List.length_take]; omega
      · dsimp only [go_sem]
        simp only [hs]
        and_intros <;> first | trivial | rfl | omega
    · have d : i = l.length := by omega
      subst d
      rw [List.take_length]
      exact ⟨rfl, trivial⟩
/-- the least index from k on, of n, that is so (-1: none) -/
def fi (p : Nat → Bool) : Nat → Nat → Int
  | 0, _ => -1
  | n + 1, k => if p k then (k : Int) else fi p n (k + 1)
def ovp (a b : List Bool) (k : Nat) : Bool := a.getD k false && b.getD k false
def ovl (a b : List Bool) (k : Nat) : Bool := a.getD k false && !b.getD k false
def ovr (a b : List Bool) (k : Nat) : Bool := !a.getD k false && b.getD k false
@[go_sem] def ovS : Spec := ⟨[.slice .bool, .slice .bool], fun d => (.tup (.cons (.dat (.int .i64) (fi (ovl d.1 d.2.1) (List.length d.1) 0)) (.cons (.dat (.int .i64) (fi (ovp d.1 d.2.1) (List.length d.1) 0)) (.cons (.dat (.int .i64) (fi (ovr d.1 d.2.1) (List.length d.1) 0)) .nil))), [List.length d.1 = List.length d.2.1 ∧ List.length d.1 ≤ 1000])⟩
theorem ov_ok : SpecOk Try.prog 15 ovS := by
  refine fn_ok E3_ok ovS Try.func15 rfl (by decide) (N := 42) rfl (res := [.tmp 4, .tmp 5, .tmp 6]) rfl (by decide) [] [] [] 100 (by kernel_rfl) ?_
  rintro ⟨a, b, _⟩ hw hp
  refine ⟨rfl, fun H hH => ?_⟩
  dsimp only [go_sem] at hw hp ⊢
  obtain ⟨hp, -⟩ := hp
  obtain ⟨hp1, hp2⟩ := hp
  change List Bool at a b
  change a.length = b.length at hp1
  change a.length ≤ 1000 at hp2
  clear hw
  refine ⟨by rw [inR_i64]; change _ ∧ (a.length : Int) - 1 ≤ _; omega, ?_⟩
  refine hH.loop (fun i : Nat => ⟨[(7, .dat (.int .i64) ((a.length : Int) - 1 - i)), (0, .dat (.slice .bool) a), (1, .dat (.slice .bool) b), (4, .dat (.int .i64) (fi (ovl a b) i (a.length - i))), (5, .dat (.int .i64) (fi (ovp a b) i (a.length - i))), (6, .dat (.int .i64) (fi (ovr a b) i (a.length - i)))], [], 0⟩) (fun i => i ≤ a.length) (fun i => a.length - i) 0 0 (Nat.zero_le _) ?_ ?_
  · dsimp only [go_sem]
    simp [fi]
  · intro i hi R hm
    refine hH.run 100 _ _ ?_
    dsimp only [go_sem]
    refine ⟨fun d => ?_, fun d => ?_⟩ <;> simp only [decide_eq_true_eq, decide_eq_false_iff_not] at d
    · have d : i < a.length := by omega
      obtain ⟨k, hk⟩ : ∃ k, k + 1 + i = a.length := ⟨a.length - 1 - i, by omega⟩
      have ek : (a.length : Int) - 1 - (i : Int) = (k : Int) := by omega
      have e1 : a.length - i = k + 1 := by omega
      have e2 : a.length - (i + 1) = k := by omega
      have hkn : ∀ p, fi p (i + 1) k = if p k then (k : Int) else fi p i (k + 1) := fun p => rfl
      have hkk : (k : Int) - 1 = (a.length : Int) - 1 - ((i + 1 : Nat) : Int) := by omega
      simp only [ek, Int.toNat_natCast, e1]
      have hki : inR .i64 ((k : Int) - 1) := by rw [inR_i64]; omega
      have hka : (0 : Int) ≤ (k : Int) ∧ (k : Int) < (a.length : Int) := by omega
      have hkb : (0 : Int) ≤ (k : Int) ∧ (k : Int) < (b.length : Int) := by omega
      have hx : ∀ l : List Bool, l.getD k (zd .bool) = l.getD k false := fun _ => rfl
      simp only [hx]
      have hlp : ∀ x y : Bool, a.getD k false = x → b.getD k false = y → ovp a b k = (x && y) ∧ ovl a b k = (x && !y) ∧ ovr a b k = (!x && y) := fun x y h1 h2 => by unfold ovp ovl ovr; rw [h1, h2]; exact ⟨rfl, rfl, rfl⟩
      refine ⟨hka, fun h => h, fun h => h, fun _ => hkb, fun h => h, fun h => h, fun h => ?_, fun h => ?_⟩
      · simp only [Bool.and_eq_true] at h
        obtain ⟨q1, q2, q3⟩ := hlp true true h.1 h.2
        refine ⟨hki, hm _ (i + 1) 0 d (by omega) ?_⟩
        dsimp only [go_sem]
        rw [e2, hkn, hkn, hkn, q1, q2, q3]
        and_intros <;> first | trivial | rfl | exact hkk
      · simp only [Bool.and_eq_false_iff] at h
        refine ⟨hka, fun h1 => ?_, fun h1 => ⟨hkb, fun h2 => ?_, fun h2 => ?_⟩⟩
        · have h2 : b.getD k false = false := by rcases h with h | h; (rw [h1] at h; cases h); exact h
          obtain ⟨q1, q2, q3⟩ := hlp true false h1 h2
          refine ⟨hki, hm _ (i + 1) 0 d (by omega) ?_⟩
          dsimp only [go_sem]
          rw [e2, hkn, hkn, hkn, q1, q2, q3]
          and_intros <;> first | trivial | rfl | exact hkk
        · obtain ⟨q1, q2, q3⟩ := hlp false true h1 h2
          refine ⟨hki, hm _ (i + 1) 0 d (by omega) ?_⟩
          dsimp only [go_sem]
          rw [e2, hkn, hkn, hkn, q1, q2, q3]
          and_intros <;> first | trivial | rfl | exact hkk
        · obtain ⟨q1, q2, q3⟩ := hlp false false h1 h2
          refine ⟨hki, hm _ (i + 1) 0 d (by omega) ?_⟩
          dsimp only [go_sem]
          rw [e2, hkn, hkn, hkn, q1, q2, q3]
          and_intros <;> first | trivial | rfl | exact hkk
    · have d : i = a.length := by omega
      subst d
      rw [Nat.sub_self]
      and_intros <;> first | trivial | rfl
end Go.Proofs.Ytfidddcjieoblaa.Gx
