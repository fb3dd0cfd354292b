/-
  Spaces and worlds: blocks, validity, numbers.
-/
import Derived.Test.YthjgfppmempbkaaL1
import Derived.Test.YthjgfppmempbkaaWQ
namespace Go.Proofs.Ythjgfppmempbkaa.Gx
open Go Go.RowKit Tw B Nt
set_option linter.unusedVariables false
set_option linter.unusedSimpArgs false
set_option maxHeartbeats 4000000
set_option maxRecDepth 20000
@[reducible, go_sem] def bkT : Ty := .one (.slice fT)
@[reducible, go_sem] def spT : Ty := .one (.slice (.one (.slice fT)))
@[reducible, go_sem] def wdT : Ty := .slice (.int .i64)
def bkP (b : Blk) : Prop := b.length ≤ 100 ∧ ∀ f ∈ b, fs f ≤ 1000
def spP (s : List Blk) : Prop := s.length ≤ 5000 ∧ ∀ b ∈ s, bkP b
theorem u64R' {n : Int} : inR .u64 n ↔ 0 ≤ n ∧ n ≤ 18446744073709551615 := Iff.rfl
theorem rm_sz {b : Blk} (hd : ∀ f ∈ b, wfD fT f) (h : bkP b) : fs (qf (qsum b)) ≤ 100201 ∧ qs (rm b) ≤ 100203 := by
  have h1 := (qs_bs hd h.2 b.length (Nat.le_refl _)).1
  rw [List.take_length] at h1
  have h2 := h.1
  have h3 := qs_sub 1 (qsum b)
  have h4 := qs_one
  refine ⟨by rw [fs_qf]; omega, ?_⟩
  unfold rm
  omega
theorem sgQ_lt {q : Rat} : sgQ q < 0 ↔ ¬ 0 ≤ q := by
  unfold sgQ
  rw [← Rat.num_nonneg]
  rcases Int.lt_trichotomy q.num 0 with h | h | h
  · rw [Int.sign_eq_neg_one_of_neg h]; omega
  · rw [h]; decide
  · rw [Int.sign_eq_one_of_pos h]; omega
theorem all_snoc {α : Type} {p : α → Bool} {l : List α} {i : Nat} (d : α) (hi : i < l.length) : (l.take (i + 1)).all p = ((l.take i).all p && p (l.getD i d)) := by
  rw [take_get l i d hi, List.all_append]
  simp
theorem all_bad {α : Type} {p : α → Bool} {l : List α} {i : Nat} (d : α) (hi : i < l.length) (h : p (l.getD i d) = false) : l.all p = false := by
  rw [List.all_eq_false]
  refine ⟨_, ?_, by rw [h]; decide⟩
  rw [List.getD_eq_getElem?_getD, List.getElem?_eq_getElem hi]
  exact List.getElem_mem _
theorem getD_mem {α : Type} {l : List α} {i : Nat} (d : α) (hi : i < l.length) : l.getD i d ∈ l := by
  rw [List.getD_eq_getElem?_getD, List.getElem?_eq_getElem hi]
  exact List.getElem_mem _
@[go_sem] def wChsS : Spec := ⟨[bkT], fun d => (.dat nT (dg ((List.length d.1 : Int) + 1)), [List.length d.1 ≤ 1000000])⟩
theorem wChs_ok : SpecOk Try.prog 47 wChsS := by
  refine fn_ok E6_ok wChsS Try.func47 rfl (by decide) (N := 9) rfl (res := [.tmp 2]) rfl (by decide) [] [] [] 100 (by kernel_rfl) ?_
  rintro ⟨b, _⟩ hw hp
  refine ⟨rfl, fun H hH => ?_⟩
  dsimp only [go_sem] at hw hp ⊢
  obtain ⟨hp, -⟩ := hp
  exact ⟨by rw [u64R']; omega, by rw [u64R']; omega, rfl, trivial⟩
@[go_sem] def wChcS : Spec := ⟨[bkT, .int .i64], fun d => (.dat (.int .i64) (chc d.1 d.2.1), [])⟩
theorem wChc_ok : SpecOk Try.prog 53 wChcS := by
  refine fn_ok E6_ok wChcS Try.func53 rfl (by decide) (N := 11) rfl (res := [.tmp 4]) rfl (by decide) [] [] [] 100 (by kernel_rfl) ?_
  rintro ⟨b, (p:Int), _⟩ hw hp
  refine ⟨rfl, fun H hH => ?_⟩
  dsimp only [go_sem] at hw hp ⊢
  refine ⟨fun h => ⟨?_, trivial⟩, fun h => ⟨?_, trivial⟩⟩ <;> simp only [decide_eq_true_eq, decide_eq_false_iff_not] at h <;> unfold chc
  · rw [if_pos h]
  · rw [if_neg (by exact h)]
@[go_sem] def wRemS : Spec := ⟨[bkT], fun d => (.dat fT (qf (rm d.1)), [bkP d.1])⟩
theorem wRem_ok : SpecOk Try.prog 34 wRemS := by
  refine fn_ok E6_ok wRemS Try.func34 rfl (by decide) (N := 7) rfl (res := [.cell 2 53]) rfl (by decide) [] [] [] 100 (by kernel_rfl) ?_
  rintro ⟨b, _⟩ hw hp
  refine ⟨rfl, fun H hH => ?_⟩
  dsimp only [go_sem] at hw hp ⊢
  obtain ⟨⟨h1, h2⟩, -⟩ := hp
  obtain ⟨q1, q2⟩ := rm_sz hw.1.2 ⟨h1, h2⟩
  refine ⟨Nat.le_trans h1 (by decide), h2, Nat.le_trans q1 (by decide), ?_, trivial⟩
  rw [fq_qf]; rfl
@[go_sem] noncomputable def EW1 : Env := (((E6).add 47 wChsS).add 53 wChcS).add 34 wRemS
theorem EW1_ok : EW1.Ok := (((E6_ok).add wChs_ok).add wChc_ok).add wRem_ok
@[go_sem] def wValS : Spec := ⟨[spT], fun d => (.dat .bool (vld d.1), [spP d.1])⟩
theorem wVal_ok : SpecOk Try.prog 42 wValS := by
  refine fn_ok EW1_ok wValS Try.func42 rfl (by decide) (N := 38) rfl (res := [.tmp 2]) rfl (by decide) [] [] [] 100 (by kernel_rfl) ?_
  rintro ⟨s, _⟩ hw hp
  refine ⟨rfl, fun H hH => ?_⟩
  dsimp only [go_sem] at hw hp ⊢
  obtain ⟨⟨hs1, hs2⟩, -⟩ := hp
  have hwb : ∀ b ∈ s, ∀ f ∈ b, wfD fT f := fun b hb => (hw.1.2 b hb).2
  have hv : vld s = (decide (List.length s ≤ 4096) && List.all s okB) := rfl
  refine ⟨fun h => ?_, fun h => ?_⟩ <;> simp only [decide_eq_true_eq, decide_eq_false_iff_not] at h
  · rw [hv, decide_eq_false (by omega)]
    exact ⟨rfl, trivial⟩
  rw [decide_eq_true (by omega), Bool.true_and] at hv
  refine hH.loop (fun i : Nat => ⟨[(12, .dat (.slice bkT) s), (13, .dat (.int .i64) (List.length s : Int)), (14, .dat (.int .i64) (i : Int))], [], 0⟩) (fun i => i ≤ List.length s ∧ (List.take i s).all okB = true) (fun i => List.length s - i) 0 0 ⟨Nat.zero_le _, rfl⟩ ?_ ?_
  · dsimp only [go_sem]
    simp
  · intro i ⟨hi, hall⟩ R hm
    refine hH.run 100 _ _ ?_
    dsimp only [go_sem]
    refine ⟨fun d => ?_, fun d => ?_⟩ <;> simp only [decide_eq_true_eq, decide_eq_false_iff_not] at d
    · have d : i < List.length s := by omega
      have hmem := getD_mem (l := s) (zd bkT) d
      have hsn := all_snoc (p := okB) (l := s) (zd bkT) d
      have hbad := all_bad (p := okB) (l := s) (zd bkT) d
      rw [Int.toNat_natCast]
      generalize List.getD s i (zd bkT) = b at *
      obtain ⟨hb1, hb2⟩ := hs2 b hmem
      have hwf := hwb b hmem
      have hob : okB b = (decide (List.length b ≤ 16) && (b.all fun f => decide (0 ≤ fq f)) && decide (0 ≤ rm b)) := rfl
      have b1 : (0 : Int) ≤ (i : Int) ∧ (i : Int) < (List.length s : Int) := by omega
      refine ⟨b1, fun g => ?_, fun g => ?_⟩ <;> simp only [decide_eq_true_eq, decide_eq_false_iff_not] at g
      · rw [hv, hbad (by rw [hob, decide_eq_false (by omega)]; rfl)]
        exact ⟨rfl, trivial⟩
      rw [decide_eq_true (by omega), Bool.true_and] at hob
      refine hH.loop (fun k : Nat => ⟨[(12, .dat (.slice bkT) s), (13, .dat (.int .i64) (List.length s : Int)), (14, .dat (.int .i64) (i : Int)), (4, .ref 0 0), (23, .dat (.slice fT) b), (24, .dat (.int .i64) (List.length b : Int)), (25, .dat (.int .i64) (k : Int))], [(0, .box 30 (.cons (.dat (.slice fT) b) .nil))], 1⟩) (fun k => k ≤ List.length b ∧ (List.take k b).all (fun f => decide (0 ≤ fq f)) = true) (fun k => List.length b - k) 0 1 ⟨Nat.zero_le _, rfl⟩ ?_ ?_
      · dsimp only [go_sem]
        simp
      · intro k ⟨hk, hka⟩ R2 hm2
        refine hH.run 100 _ _ ?_
        dsimp only [go_sem]
        rw [Int.toNat_natCast]
        refine ⟨fun e => ?_, fun e => ?_⟩ <;> simp only [decide_eq_true_eq, decide_eq_false_iff_not] at e
        · have e : k < List.length b := by omega
          have fmem := getD_mem (l := b) (zd fT) e
          have fsn := all_snoc (p := fun f => decide (0 ≤ fq f)) (l := b) (zd fT) e
          have fbad := all_bad (p := fun f => decide (0 ≤ fq f)) (l := b) (zd fT) e
          have hz : (zd (Ty.bool.pair ((Ty.int IntKind.u32).slice.pair (Ty.int IntKind.u32).slice))) = zd fT := rfl
          rw [hz]
          generalize List.getD b k (zd fT) = f at *
          have b2 : (0 : Int) ≤ (k : Int) ∧ (k : Int) < (List.length b : Int) := by omega
          refine ⟨b2, Nat.le_trans (hb2 f fmem) (by decide), fun j => ?_, fun j => ?_⟩ <;> simp only [decide_eq_true_eq, decide_eq_false_iff_not] at j
          · rw [sgQ_lt] at j
            rw [hv, hbad (by rw [hob, fbad (decide_eq_false j)]; rfl)]
            exact ⟨rfl, trivial⟩
          · rw [sgQ_lt, Decidable.not_not] at j
            refine ⟨by rw [inR_i64]; omega, hm2 _ (k + 1) 1 ⟨e, by rw [fsn, hka, decide_eq_true j]; rfl⟩ (by omega) ?_⟩
            dsimp only [go_sem]
            simp
        · have hka2 : (b.all fun f => decide (0 ≤ fq f)) = true := by rw [List.take_of_length_le (by omega)] at hka; exact hka
          rw [hka2, Bool.true_and] at hob
          have hsz := rm_sz hwf ⟨hb1, hb2⟩
          refine ⟨⟨hb1, hb2⟩, by rw [fs_qf]; omega, fun j => ?_, fun j => ?_⟩ <;> simp only [decide_eq_true_eq, decide_eq_false_iff_not] at j <;> rw [fq_qf, sgQ_lt] at j
          · rw [hv, hbad (by rw [hob]; exact decide_eq_false j)]
            exact ⟨rfl, trivial⟩
          · rw [Decidable.not_not] at j
            refine ⟨by rw [inR_i64]; omega, hm _ (i + 1) 0 ⟨d, by rw [hsn, hall, hob]; exact decide_eq_true j⟩ (by omega) ?_⟩
            dsimp only [go_sem]
            simp
    · rw [List.take_of_length_le (by omega)] at hall
      rw [hv, hall]
      exact ⟨rfl, trivial⟩
@[go_sem] noncomputable def EW2 : Env := (EW1).add 42 wValS
theorem EW2_ok : EW2.Ok := (EW1_ok).add wVal_ok
end Go.Proofs.Ythjgfppmempbkaa.Gx
