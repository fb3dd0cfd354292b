/-
  Tokens.
-/
import Derived.Test.YtfidddcjieoblaaH8
namespace Go.Proofs.Ytfidddcjieoblaa.Gx
open Go Go.RowKit Tw B Nt
set_option linter.unusedVariables false
set_option linter.unusedSimpArgs false
set_option maxHeartbeats 4000000
set_option maxRecDepth 20000
@[reducible, go_sem] def tokT : Ty := .pair (.int .i64) .str
abbrev Tok := Int × Str
theorem imp2 {p q : Prop} : (p → q → p ∧ q) = True := eq_true fun a b => ⟨a, b⟩
def letr (c : Int) : Bool := (decide (97 ≤ c) && decide (c ≤ 122)) || (decide (65 ≤ c) && decide (c ≤ 90))
def digr (c : Int) : Bool := decide (48 ≤ c) && decide (c ≤ 57)
@[go_sem] def letS : Spec := ⟨[.int .u8], fun d => (.dat .bool (letr d.1), [])⟩
theorem let_ok : SpecOk Try.prog 41 letS := by
  refine fn_ok EH15_ok letS Try.func41 rfl (by decide) (N := 17) rfl (res := [.tmp 2]) rfl (by decide) [] [] [] 100 (by kernel_rfl) ?_
  rintro ⟨(c:Int), _⟩ hw hp
  refine ⟨rfl, fun H hH => ?_⟩
  dsimp only [go_sem] at hw hp ⊢
  and_intros <;> first | exact id | exact fun h h' => ⟨h, h'⟩ | rfl | trivial
@[go_sem] def digS : Spec := ⟨[.int .u8], fun d => (.dat .bool (digr d.1), [])⟩
theorem dig_ok : SpecOk Try.prog 42 digS := by
  refine fn_ok EH15_ok digS Try.func42 rfl (by decide) (N := 9) rfl (res := [.tmp 2]) rfl (by decide) [] [] [] 100 (by kernel_rfl) ?_
  rintro ⟨(c:Int), _⟩ hw hp
  refine ⟨rfl, fun H hH => ?_⟩
  dsimp only [go_sem] at hw hp ⊢
  and_intros <;> first | exact id | exact fun h h' => ⟨h, h'⟩ | rfl | trivial
@[go_sem] noncomputable def EI1 : Env := ((EH15).add 41 letS).add 42 digS
theorem EI1_ok : EI1.Ok := ((EH15_ok).add let_ok).add dig_ok
/-- a character -/
def chr (s : Str) (k : Nat) : Int := ((s.getD k 0).toNat : Int)
theorem chr_at (s : Str) (k : Nat) : strAt s (k : Int) = chr s k := by unfold strAt chr; rw [Int.toNat_natCast]
/-- the first place from k on where p does not hold -/
def skip (p : Int → Bool) (s : Str) : Nat → Nat → Nat
  | 0, k => k
  | n + 1, k => if decide (k < s.length) && p (chr s k) then skip p s n (k + 1) else k
theorem skip_le (p : Int → Bool) (s : Str) : ∀ n k, k ≤ s.length → k ≤ skip p s n k ∧ skip p s n k ≤ s.length
  | 0, k, h => ⟨Nat.le_refl _, h⟩
  | n + 1, k, h => by
    unfold skip
    split
    · rename_i e
      simp only [Bool.and_eq_true, decide_eq_true_eq] at e
      obtain ⟨a, b⟩ := skip_le p s n (k + 1) e.1
      exact ⟨by omega, b⟩
    · exact ⟨Nat.le_refl _, h⟩
def runP (s : Str) (k : Nat) : Nat := skip digr s (s.length - k) k
@[go_sem] def rnnS : Spec := ⟨[.str, .int .i64], fun d => (.dat (.int .i64) (runP d.1 (Int.toNat d.2.1) : Int), [0 ≤ d.2.1 ∧ d.2.1 ≤ (List.length d.1 : Int)])⟩
theorem rnn_ok : SpecOk Try.prog 48 rnnS := by
  refine fn_ok EI1_ok rnnS Try.func48 rfl (by decide) (N := 18) rfl (res := [.tmp 4]) rfl (by decide) [] [] [] 100 (by kernel_rfl) ?_
  rintro ⟨s, (k0:Int), _⟩ hw hp
  refine ⟨rfl, fun H hH => ?_⟩
  dsimp only [go_sem] at hw hp ⊢
  obtain ⟨⟨hp1, hp2⟩, -⟩ := hp
  obtain ⟨hw1, -⟩ := hw
  change Str at s
  have hw1 : s.length ≤ 9223372036854775807 := hw1
  obtain ⟨a, rfl⟩ := Int.eq_ofNat_of_zero_le hp1
  have hp2 : (a : Int) ≤ (s.length : Int) := hp2
  refine hH.loop (fun k : Nat => ⟨[(0, .dat .str s), (1, .dat (.int .i64) (k : Int))], [], 0⟩) (fun k => k ≤ s.length ∧ skip digr s (s.length - k) k = runP s a) (fun k => s.length - k) a 0 ⟨by omega, rfl⟩ ?_ ?_
  · dsimp only [go_sem]
    and_intros <;> first | trivial | rfl | omega
  · rintro k ⟨hk, hr⟩ R hm
    refine hH.run 100 _ _ ?_
    dsimp only [go_sem]
    simp only [chr_at]
    have e : decide ((k : Int) < (s.length : Int)) = decide (k < s.length) := by simp
    rw [e]
    simp only [imp_self, imp2, true_and]
    refine ⟨fun h => ?_, fun h => ?_, fun h => ?_⟩
    · have h := of_decide_eq_true h
      have : (0 : Int) ≤ (k : Int) ∧ (k : Int) < (s.length : Int) := by omega
      exact this
    · have h' := h
      simp only [Bool.and_eq_true, decide_eq_true_eq] at h'
      obtain ⟨q, hq⟩ : ∃ q, s.length - k = q + 1 := ⟨s.length - k - 1, by omega⟩
      rw [hq, skip, if_pos h] at hr
      refine ⟨by rw [inR_i64]; omega, hm _ (k + 1) 0 ⟨h'.1, by rw [show s.length - (k + 1) = q by omega]; exact hr⟩ (by omega) ?_⟩
      dsimp only [go_sem]
      and_intros <;> first | trivial | rfl | omega
    · have hr2 : k = runP s a := by
        rw [← hr]
        cases hq : s.length - k with
        | zero => rfl
        | succ q => rw [skip, if_neg (by rw [h]; decide)]
      simp only [Int.toNat_natCast]
      rw [← hr2]
      and_intros <;> first | trivial | rfl
@[go_sem] noncomputable def EI2 : Env := (EI1).add 48 rnnS
theorem EI2_ok : EI2.Ok := (EI1_ok).add rnn_ok
/-- behind a number that begins at k, its digits at b (k itself: there is none) -/
def nmT (s : Str) (k b : Nat) : Nat :=
  if runP s b = b then k
  else if (decide (runP s b < s.length) && (decide (chr s (runP s b) = 47) || decide (chr s (runP s b) = 46))) = true then
    if runP s b + 1 < runP s (runP s b + 1) then runP s (runP s b + 1) else runP s b
  else runP s b
def nmE (s : Str) (k : Nat) : Nat := nmT s k (if chr s k = 45 then k + 1 else k)
theorem runP_le (s : Str) (k : Nat) (h : k ≤ s.length) : k ≤ runP s k ∧ runP s k ≤ s.length := skip_le _ _ _ _ h
theorem nmE_le (s : Str) (k : Nat) (h : k < s.length) : k ≤ nmE s k ∧ nmE s k ≤ s.length := by
  unfold nmE nmT
  have ha : k ≤ (if chr s k = 45 then k + 1 else k) ∧ (if chr s k = 45 then k + 1 else k) ≤ s.length := by split <;> omega
  generalize (if chr s k = 45 then k + 1 else k) = a at ha ⊢
  obtain ⟨r1, r2⟩ := runP_le s a ha.2
  have q := fun h => runP_le s (runP s a + 1) h
  generalize runP s a = e at r1 r2 q ⊢
  split
  · omega
  · split
    · rename_i h2
      simp only [Bool.and_eq_true, decide_eq_true_eq] at h2
      have q := q (by omega)
      split <;> omega
    · omega
theorem nm_key {s : Str} (hw1 : s.length ≤ 9223372036854775807) (k b : Nat) (hb2 : b ≤ s.length) :
    (decide ((runP s b : Int) = (b : Int)) = true → (k : Int) = (nmT s k b : Int)) ∧
    (decide ((runP s b : Int) = (b : Int)) = false →
      (decide ((runP s b : Int) < (s.length : Int)) = true → (0 : Int) ≤ (runP s b : Int) ∧ (runP s b : Int) < (s.length : Int)) ∧
      (decide ((runP s b : Int) < (s.length : Int)) = true ∧ decide (chr s (runP s b) = 47) = false → (0 : Int) ≤ (runP s b : Int) ∧ (runP s b : Int) < (s.length : Int)) ∧
      ((decide ((runP s b : Int) < (s.length : Int)) && (decide (chr s (runP s b) = 47) || decide (chr s (runP s b) = 46))) = true →
        inR .i64 ((runP s b : Int) + 1) ∧ ((0 : Int) ≤ (runP s b : Int) + 1 ∧ (runP s b : Int) + 1 ≤ (s.length : Int)) ∧ inR .i64 ((runP s b : Int) + 1) ∧
        (decide ((runP s b : Int) + 1 < (runP s ((runP s b : Int) + 1).toNat : Int)) = true → (runP s ((runP s b : Int) + 1).toNat : Int) = (nmT s k b : Int)) ∧
        (decide ((runP s b : Int) + 1 < (runP s ((runP s b : Int) + 1).toNat : Int)) = false → (runP s b : Int) = (nmT s k b : Int))) ∧
      ((decide ((runP s b : Int) < (s.length : Int)) && (decide (chr s (runP s b) = 47) || decide (chr s (runP s b) = 46))) = false → (runP s b : Int) = (nmT s k b : Int))) := by
  have r := runP_le s b hb2
  obtain ⟨r1, r2⟩ := r
  have q := fun h => runP_le s (runP s b + 1) h
  unfold nmT
  have hx : ∀ x : Int, x = x + 0 := fun x => (Int.add_zero x).symm
  generalize runP s b = e at r1 r2 q ⊢
  have hce : ((e : Int) + 1) = ((e + 1 : Nat) : Int) := rfl
  simp only [hce, Int.toNat_natCast]
  have d1 : decide ((e : Int) = (b : Int)) = decide (e = b) := decide_eq_decide.2 (by omega)
  have d2 : decide ((e : Int) < (s.length : Int)) = decide (e < s.length) := decide_eq_decide.2 (by omega)
  have d3 : decide (((e + 1 : Nat) : Int) < ((runP s (e + 1) : Nat) : Int)) = decide (e + 1 < runP s (e + 1)) := decide_eq_decide.2 (by omega)
  simp only [d1, d2, d3, decide_eq_true_eq, decide_eq_false_iff_not]
  have hbe : e < s.length → (0 : Int) ≤ (e : Int) ∧ (e : Int) < (s.length : Int) := fun h => by omega
  refine ⟨fun h => by rw [if_pos h], fun h => ⟨fun h => hbe h, fun h => hbe h.1, fun h2 => ?_, fun h2 => ?_⟩⟩
  · have h3 : e < s.length := by simp only [Bool.and_eq_true, decide_eq_true_eq] at h2; exact h2.1
    rw [if_neg h, if_pos h2]
    have b1 : inR .i64 ((e + 1 : Nat) : Int) := by rw [inR_i64]; omega
    have b2 : (0 : Int) ≤ ((e + 1 : Nat) : Int) ∧ ((e + 1 : Nat) : Int) ≤ (s.length : Int) := by omega
    exact ⟨b1, b2, b1, fun m => by rw [if_pos m], fun m => by rw [if_neg m]⟩
  · rw [if_neg h, if_neg (by rw [h2]; decide)]
@[go_sem] def nmES : Spec := ⟨[.str, .int .i64], fun d => (.dat (.int .i64) (nmE d.1 (Int.toNat d.2.1) : Int), [0 ≤ d.2.1 ∧ d.2.1 < (List.length d.1 : Int)])⟩
theorem nmE_ok : SpecOk Try.prog 43 nmES := by
  refine fn_ok EI2_ok nmES Try.func43 rfl (by decide) (N := 48) rfl (res := [.tmp 4]) rfl (by decide) [] [] [] 100 (by kernel_rfl) ?_
  rintro ⟨s, (k0:Int), _⟩ hw hp
  refine ⟨rfl, fun H hH => ?_⟩
  dsimp only [go_sem] at hw hp ⊢
  obtain ⟨⟨hp1, hp2⟩, -⟩ := hp
  obtain ⟨hw1, -⟩ := hw
  change Str at s
  have hw1 : s.length ≤ 9223372036854775807 := hw1
  obtain ⟨a, rfl⟩ := Int.eq_ofNat_of_zero_le hp1
  have hp2 : (a : Int) < (s.length : Int) := hp2
  have hca : ((a : Int) + 1) = ((a + 1 : Nat) : Int) := rfl
  simp only [imp_self, imp2, true_and, and_true, chr_at, hca, Int.toNat_natCast]
  unfold nmE
  have hb0 : (0 : Int) ≤ (a : Int) ∧ (a : Int) < (s.length : Int) := by omega
  refine ⟨hb0, fun h => ?_, fun h => ?_⟩
  · rw [if_pos (of_decide_eq_true h)]
    have hb1 : inR .i64 ((a + 1 : Nat) : Int) := by rw [inR_i64]; omega
    have hb3 : (0 : Int) ≤ ((a + 1 : Nat) : Int) ∧ ((a + 1 : Nat) : Int) ≤ (s.length : Int) := by omega
    refine ⟨hb1, hb3, ?_⟩
    exact nm_key hw1 a (a + 1) (by omega)
  · rw [if_neg (of_decide_eq_false h)]
    exact ⟨⟨hb0.1, Int.le_of_lt hb0.2⟩, nm_key hw1 a a (by omega)⟩
theorem both1 {α : Type} {G : Prop} {H : List It → St → Prop} {k : List It} {inv : α → St} {Q : α → Prop} (h1 : (∀ x, Q x → H k (inv x)) → G) (h2 : ∀ x, Q x → H k (inv x)) : G := h1 h2
def wch (c : Int) : Bool := (letr c || digr c) || decide (c = 95)
def symb (c : Int) : Bool := (((decide (c = 40) || decide (c = 41)) || decide (c = 44)) || decide (c = 58)) || decide (c = 61)
/-- the token at k: its kind, and where it ends (k: there is none) -/
def lexT (s : Str) (k : Nat) : Int × Nat :=
  if letr (chr s k) = true then (1, skip wch s (s.length - k) k)
  else if (decide (chr s k = 45) || digr (chr s k)) = true then (2, nmE s k)
  else if chr s k = 39 then (3, k)
  else if symb (chr s k) = true then (4, k + 1)
  else if chr s k = 60 then (4, if (decide (k + 1 < s.length) && decide (chr s (k + 1) = 61)) = true then k + 2 else k + 1)
  else if ((decide (chr s k = 33) && decide (k + 1 < s.length)) && decide (chr s (k + 1) = 61)) = true then (4, k + 2)
  else (0, k)
def lexF : Nat → Str → Nat → List Tok → List Tok × Bool
  | 0, _, _, acc => (acc, true)
  | n + 1, s, k, acc => if k < s.length then
      if chr s k = 32 then lexF n s (k + 1) acc
      else if chr s k = 35 then (acc, true)
      else if (lexT s k).2 = k then ([], false)
      else lexF n s (lexT s k).2 (acc ++ [((lexT s k).1, (s.take (lexT s k).2).drop k)])
    else (acc, true)
def lexP (s : Str) : List Tok × Bool := lexF (s.length + 1) s 0 []
@[go_sem] def seS : Spec := ⟨[.str, .int .i64], fun d => (.dat (.int .i64) (0 : Int), [False])⟩
theorem se_ok : SpecOk Try.prog 44 seS := fun d hp => hp.1.elim
@[go_sem] noncomputable def EI3 : Env := ((EI2).add 43 nmES).add 44 seS
theorem EI3_ok : EI3.Ok := ((EI2_ok).add nmE_ok).add se_ok
def lexK (s : Str) : Prop := s.length ≤ 20000 ∧ ∀ k, k < s.length → chr s k ≠ 39
@[go_sem] def lexS : Spec := ⟨[.str], fun d => (.tup (.cons (.dat (.slice tokT) (lexP d.1).1) (.cons (.dat .bool (lexP d.1).2) .nil)), [lexK d.1])⟩
theorem lex_ok : SpecOk Try.prog 34 lexS := by
  refine fn_ok EI3_ok lexS Try.func34 rfl (by decide) (N := 140) rfl (res := [.tmp 2, .tmp 3]) rfl (by decide) [(29, [(136, .dt)])] [(10, [0]), (31, [0])] [27] 200 (by kernel_rfl) ?_
  rintro ⟨s, _⟩ hw hp
  refine ⟨rfl, fun H hH => ?_⟩
  dsimp only [go_sem] at hw hp ⊢
  obtain ⟨⟨hp1, hp2⟩, -⟩ := hp
  change Str at s
  change s.length ≤ 20000 at hp1
  change ∀ k, k < s.length → chr s k ≠ 39 at hp2
  clear hw
  refine hH.loop (fun x : Nat × Nat × List Tok => ⟨[(0, .dat .str s), (5, .dat (.int .i64) (x.2.1 : Int)), (4, .own 0)], [(0, .row 92 tokT x.2.2)], 1⟩) (fun x => x.2.1 ≤ s.length ∧ s.length - x.2.1 < x.1 ∧ x.2.2.length ≤ x.2.1 ∧ lexF x.1 s x.2.1 x.2.2 = lexP s) (fun x => s.length - x.2.1) (s.length + 1, 0, []) 0 ⟨Nat.zero_le _, Nat.lt_succ_self _, Nat.le_refl _, rfl⟩ ?_ ?_
  · dsimp only [go_sem]
    and_intros <;> first | trivial | rfl | omega
  · rintro ⟨n, k, acc⟩ ⟨h1, h2, h3, h4⟩ R hm
    dsimp only at h1 h2 h3 h4
    obtain ⟨n, rfl⟩ : ∃ m, n = m + 1 := ⟨n - 1, by omega⟩
    have hck : ((k : Int) + 1) = ((k + 1 : Nat) : Int) := rfl
    have e0 : ∀ a : Nat, decide ((a : Int) < (s.length : Int)) = decide (a < s.length) := fun a => decide_eq_decide.2 (by omega)
    have ek : ∀ a : Nat, decide ((a : Int) = (k : Int)) = decide (a = k) := fun a => decide_eq_decide.2 (by omega)
    refine hH.run 200 _ _ ?_
    dsimp only [go_sem]
    simp only [imp_self, imp2, true_and, and_true, chr_at, hck, e0, Int.toNat_natCast]
    apply both1 (H := H) (inv := fun x : Int × Nat => ⟨[(0, .dat .str s), (5, .dat (.int .i64) (k : Int)), (7, .dat (.int .i64) (x.2 : Int)), (8, .dat (.int .i64) x.1), (4, .own 0)], [(0, .row 92 tokT acc)], 1⟩) (Q := fun x => k < s.length ∧ chr s k ≠ 32 ∧ chr s k ≠ 35 ∧ lexT s k = x ∧ k ≤ x.2 ∧ x.2 ≤ s.length)
    · intro key
      refine ⟨fun d => ?_, fun d => ?_⟩ <;> simp only [decide_eq_true_eq, decide_eq_false_iff_not] at d
      · have hb : (0 : Int) ≤ (k : Int) ∧ (k : Int) < (s.length : Int) := by omega
        have i1 : inR .i64 ((k + 1 : Nat) : Int) := by rw [inR_i64]; omega
        have h39 := hp2 k d
        refine ⟨hb, fun c1 => ?_, fun c1 => ⟨fun c2 => ?_, fun c2 => ⟨fun c3 => ?_, fun c3 => ⟨fun c4 => ?_, fun c4 => ⟨fun c5 => ?_, fun c5 => ⟨fun c6 => ?_, fun c6 => ?_⟩⟩⟩⟩⟩⟩ <;> simp only [decide_eq_true_eq, decide_eq_false_iff_not] at c1
        · refine ⟨i1, hm _ (n, k + 1, acc) 1 ⟨d, by dsimp only; omega, by dsimp only; omega, ?_⟩ (by dsimp only; omega) ?_⟩
          · rw [← h4, lexF, if_pos d, if_pos c1]
          · dsimp only [go_sem]
            and_intros <;> first | trivial | rfl | omega
        · have c2 := of_decide_eq_true c2
          rw [← h4, lexF, if_pos d, if_neg c1, if_pos c2]
          exact ⟨rfl, rfl⟩
        · have c2 := of_decide_eq_false c2
          refine HOk.loop (by assumption) (fun e : Nat => ⟨[(0, .dat .str s), (5, .dat (.int .i64) (k : Int)), (7, .dat (.int .i64) (e : Int)), (8, .dat (.int .i64) (1 : Int)), (4, .own 0)], [(0, .row 92 tokT acc)], 1⟩) (fun e => k ≤ e ∧ e ≤ s.length ∧ skip wch s (s.length - e) e = skip wch s (s.length - k) k) (fun e => s.length - e) k 1 ⟨Nat.le_refl _, h1, rfl⟩ ?_ ?_
          · dsimp only [go_sem]
            and_intros <;> first | trivial | rfl | omega
          · rintro e ⟨g1, g2, g3⟩ R2 hm2
            refine hH.run 200 _ _ ?_
            dsimp only [go_sem]
            simp only [imp_self, imp2, true_and, and_true, chr_at, e0]
            have hbe : e < s.length → (0 : Int) ≤ (e : Int) ∧ (e : Int) < (s.length : Int) := fun h => by omega
            refine ⟨fun h => hbe (of_decide_eq_true h), fun h => hbe (of_decide_eq_true h.1), fun h => hbe (of_decide_eq_true h.1), fun h => ?_, fun h => ?_⟩
            · have h' := h
              simp only [Bool.and_eq_true, decide_eq_true_eq] at h'
              obtain ⟨q, hq⟩ : ∃ q, s.length - e = q + 1 := ⟨s.length - e - 1, by omega⟩
              rw [hq, skip, if_pos (show (decide (e < s.length) && wch (chr s e)) = true from h)] at g3
              refine ⟨by rw [inR_i64]; omega, hm2 _ (e + 1) 1 ⟨by omega, h'.1, by rw [show s.length - (e + 1) = q by omega]; exact g3⟩ (by omega) ?_⟩
              dsimp only [go_sem]
              and_intros <;> first | trivial | rfl | omega
            · have hr2 : skip wch s (s.length - k) k = e := by
                rw [← g3]
                cases hq : s.length - e with
                | zero => rfl
                | succ q => rw [skip, if_neg (show ¬ (decide (e < s.length) && wch (chr s e)) = true by rw [show (decide (e < s.length) && wch (chr s e)) = false from h]; decide)]
              refine hH.weak ⟨[(0, .dat .str s), (5, .dat (.int .i64) (k : Int)), (7, .dat (.int .i64) (e : Int)), (8, .dat (.int .i64) (1 : Int)), (4, .own 0)], [(0, .row 92 tokT acc)], 1⟩ 1 ?_ (key (1, e) ⟨d, c1, c2, by unfold lexT; rw [if_pos c3, hr2], g1, g2⟩)
              dsimp only [go_sem]
              and_intros <;> first | trivial | rfl | omega
        · have c2 := of_decide_eq_false c2
          have hl := nmE_le s k d
          have c3' : ¬ letr (chr s k) = true := by rw [c3]; decide
          refine ⟨hb, hH.weak ⟨[(0, .dat .str s), (5, .dat (.int .i64) (k : Int)), (7, .dat (.int .i64) (nmE s k : Int)), (8, .dat (.int .i64) (2 : Int)), (4, .own 0)], [(0, .row 92 tokT acc)], 1⟩ 1 ?_ (key (2, nmE s k) ⟨d, c1, c2, by unfold lexT; rw [if_neg c3', if_pos c4], hl.1, hl.2⟩)⟩
          dsimp only [go_sem]
          and_intros <;> first | trivial | rfl | omega
        · exact absurd (of_decide_eq_true c5) h39
        · have c2 := of_decide_eq_false c2
          have c3' : ¬ letr (chr s k) = true := by rw [c3]; decide
          have c4' : ¬ (decide (chr s k = 45) || digr (chr s k)) = true := by rw [c4]; decide
          have c6 : symb (chr s k) = true := c6
          refine ⟨i1, hH.weak ⟨[(0, .dat .str s), (5, .dat (.int .i64) (k : Int)), (7, .dat (.int .i64) ((k + 1 : Nat) : Int)), (8, .dat (.int .i64) (4 : Int)), (4, .own 0)], [(0, .row 92 tokT acc)], 1⟩ 1 ?_ (key (4, (k + 1)) ⟨d, c1, c2, by unfold lexT; rw [if_neg c3', if_neg c4', if_neg h39, if_pos c6], by dsimp only; omega, d⟩)⟩
          dsimp only [go_sem]
          and_intros <;> first | trivial | rfl | omega
        · have c2 := of_decide_eq_false c2
          have c3' : ¬ letr (chr s k) = true := by rw [c3]; decide
          have c4' : ¬ (decide (chr s k = 45) || digr (chr s k)) = true := by rw [c4]; decide
          have c6' : ¬ symb (chr s k) = true := by rw [show symb (chr s k) = false from c6]; decide
          have hk1 : k + 1 < s.length → (0 : Int) ≤ ((k + 1 : Nat) : Int) ∧ ((k + 1 : Nat) : Int) < (s.length : Int) := fun h => by omega
          have hk2 : (((k + 1 : Nat) : Int) + 1) = ((k + 2 : Nat) : Int) := rfl
          have hk3 : ((k : Int) + 2) = ((k + 2 : Nat) : Int) := rfl
          simp only [hk2, hk3]
          refine ⟨fun c7 => ⟨i1, fun h => hk1 (of_decide_eq_true h), fun h => ?_, fun h => ?_⟩, fun c7 => ⟨fun _ => i1, fun _ => i1, fun h => ?_, fun h => ?_, fun h => ?_⟩⟩
          · have c7 := of_decide_eq_true c7
            have h' := h
            simp only [Bool.and_eq_true, decide_eq_true_eq] at h'
            refine ⟨by rw [inR_i64]; omega, hH.weak ⟨[(0, .dat .str s), (5, .dat (.int .i64) (k : Int)), (7, .dat (.int .i64) ((k + 2 : Nat) : Int)), (8, .dat (.int .i64) (4 : Int)), (4, .own 0)], [(0, .row 92 tokT acc)], 1⟩ 1 ?_ (key (4, (k + 2)) ⟨d, c1, c2, by unfold lexT; rw [if_neg c3', if_neg c4', if_neg h39, if_neg c6', if_pos c7, if_pos h], by dsimp only; omega, by dsimp only; omega⟩)⟩
            dsimp only [go_sem]
            and_intros <;> first | trivial | rfl | omega
          · have c7 := of_decide_eq_true c7
            have h' : ¬ (decide (k + 1 < s.length) && decide (chr s (k + 1) = 61)) = true := by rw [h]; decide
            refine hH.weak ⟨[(0, .dat .str s), (5, .dat (.int .i64) (k : Int)), (7, .dat (.int .i64) ((k + 1 : Nat) : Int)), (8, .dat (.int .i64) (4 : Int)), (4, .own 0)], [(0, .row 92 tokT acc)], 1⟩ 1 ?_ (key (4, (k + 1)) ⟨d, c1, c2, by unfold lexT; rw [if_neg c3', if_neg c4', if_neg h39, if_neg c6', if_pos c7, if_neg h'], by dsimp only; omega, by dsimp only; omega⟩)
            dsimp only [go_sem]
            and_intros <;> first | trivial | rfl | omega
          · simp only [Bool.and_eq_true, decide_eq_true_eq] at h
            exact hk1 h.2
          · have c7 := of_decide_eq_false c7
            have h' := h
            simp only [Bool.and_eq_true, decide_eq_true_eq] at h'
            refine ⟨by rw [inR_i64]; omega, hH.weak ⟨[(0, .dat .str s), (5, .dat (.int .i64) (k : Int)), (7, .dat (.int .i64) ((k + 2 : Nat) : Int)), (8, .dat (.int .i64) (4 : Int)), (4, .own 0)], [(0, .row 92 tokT acc)], 1⟩ 1 ?_ (key (4, (k + 2)) ⟨d, c1, c2, by unfold lexT; rw [if_neg c3', if_neg c4', if_neg h39, if_neg c6', if_neg c7, if_pos h], by dsimp only; omega, by dsimp only; omega⟩)⟩
            dsimp only [go_sem]
            and_intros <;> first | trivial | rfl | omega
          · have c7 := of_decide_eq_false c7
            have h' : ¬ ((decide (chr s k = 33) && decide (k + 1 < s.length)) && decide (chr s (k + 1) = 61)) = true := by rw [h]; decide
            refine hH.weak ⟨[(0, .dat .str s), (5, .dat (.int .i64) (k : Int)), (7, .dat (.int .i64) (k : Int)), (8, .dat (.int .i64) (0 : Int)), (4, .own 0)], [(0, .row 92 tokT acc)], 1⟩ 1 ?_ (key (0, k) ⟨d, c1, c2, by unfold lexT; rw [if_neg c3', if_neg c4', if_neg h39, if_neg c6', if_neg c7, if_neg h'], Nat.le_refl _, h1⟩)
            dsimp only [go_sem]
            and_intros <;> first | trivial | rfl | omega
      · rw [← h4, lexF, if_neg d]
        exact ⟨rfl, rfl⟩
    · rintro ⟨kd, e⟩ ⟨q1, q2, q3, q4, q5, q6⟩
      dsimp only at q4 q5 q6 ⊢
      refine hH.go [] 100 _ _ ?_
      dsimp only [go_sem]
      simp only [ek, Int.toNat_natCast]
      have hlx : lexP s = if e = k then ([], false) else lexF n s e (acc ++ [(kd, (s.take e).drop k)]) := by rw [← h4, lexF, if_pos q1, if_neg q2, if_neg q3, q4]
      refine ⟨fun h => ?_, fun h => ?_⟩ <;> simp only [decide_eq_true_eq, decide_eq_false_iff_not] at h
      · rw [hlx, if_pos h]
        and_intros <;> first | trivial | rfl
      · rw [if_neg h] at hlx
        have hb : (0 : Int) ≤ (k : Int) ∧ (k : Int) ≤ (e : Int) ∧ (e : Int) ≤ (s.length : Int) := by omega
        have hz : ∀ t : Tok, (acc.length + ([t] : List Tok).length) * 24 ≤ 140737488355328 := fun t => by rw [List.length_singleton]; omega
        have hz2 : ∀ t : Tok, (acc ++ ([t] : List Tok)).length ≤ e := fun t => by rw [List.length_append, List.length_singleton]; omega
        refine ⟨hb, hz _, trivial, hm _ (n, e, acc ++ [(kd, (s.take e).drop k)]) 1 ⟨q6, by dsimp only; omega, hz2 _, hlx.symm⟩ (by dsimp only; omega) ?_⟩
        dsimp only [go_sem]
        and_intros <;> first | trivial | rfl | omega
end Go.Proofs.Ytfidddcjieoblaa.Gx
