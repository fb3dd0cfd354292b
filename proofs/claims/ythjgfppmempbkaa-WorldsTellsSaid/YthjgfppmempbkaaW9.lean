/-
  Worlds: concatenations and the reference's spaces.
-/
import Derived.Test.YthjgfppmempbkaaW7
namespace Go.Proofs.Ythjgfppmempbkaa.Gx
open Go Go.RowKit Tw B Nt
set_option linter.unusedVariables false
set_option linter.unusedSimpArgs false
set_option maxHeartbeats 4000000
set_option maxRecDepth 20000
theorem set_rep2 {α : Type} (z : α) (A : List α) (x : α) (n : Nat) {i : Nat} (h : A.length = i) : (A ++ List.replicate (n + 1) z).set i x = (A ++ [x]) ++ List.replicate n z := by
  subst h
  rw [List.replicate_succ, List.set_append, if_neg (by omega), Nat.sub_self, List.append_assoc]
  rfl
/-- a block with canonical fractions -/
def canB (b : Blk) : Blk := b.map fun f => qf (fq f)
def ccW (a b : List Blk) : List Blk × Int := if vld a && vld b then (if a.length + b.length ≤ 4096 then ((a ++ b).map canB, 0) else ([], 4)) else ([], 1)
@[go_sem] def wCcS : Spec := ⟨[spT, spT], fun d => (.tup (.cons (.dat spT (ccW d.1 d.2.1).1) (.cons (.dat (.int .i64) (ccW d.1 d.2.1).2) .nil)), [spP d.1, spP d.2.1])⟩
theorem wCc_ok : SpecOk Try.prog 22 wCcS := by
  refine fn_ok EW8_ok wCcS Try.func22 rfl (by decide) (N := 75) rfl (res := [.cell 4 26, .tmp 5]) rfl (by decide) [(6, [(34, .dt)]), (18, [(69, .dt)])] [(18, [6]), (21, [4])] [] 100 (by kernel_rfl) ?_
  rintro ⟨a, b, _⟩ hw hp
  refine ⟨rfl, fun H hH => ?_⟩
  dsimp only [go_sem] at hw hp ⊢
  obtain ⟨ha, hb, -⟩ := hp
  have hr : ccW a b = if vld a && vld b then (if a.length + b.length ≤ 4096 then ((a ++ b).map canB, 0) else ([], 4)) else ([], 1) := rfl
  refine ⟨ha, fun h => h, fun _ => hb, fun h => h, fun h => h, fun h => ?_, fun h => ⟨?_, fun d => ?_, fun d => ?_⟩⟩
  · rw [if_neg (by cases h1 : vld a <;> cases h2 : vld b <;> simp_all)] at hr
    simp [hr]
  · have h1 := ha.1
    have h2 := hb.1
    rw [inR_i64]
    omega
  · simp only [decide_eq_true_eq] at d
    have h1 : (vld a && vld b) = true := by cases h1 : vld a <;> cases h2 : vld b <;> simp_all
    rw [if_pos h1, if_neg (by omega)] at hr
    simp [hr]
  · simp only [decide_eq_false_iff_not] at d
    have h1 : (vld a && vld b) = true := by cases h1 : vld a <;> cases h2 : vld b <;> simp_all
    rw [if_pos h1, if_pos (by omega)] at hr
    have hall : ∀ p ∈ [a, b], spP p ∧ (∀ x ∈ p, ∀ f ∈ x, wfD fT f) := fun p hp => by
      simp only [List.mem_cons, List.not_mem_nil, or_false] at hp
      rcases hp with rfl | rfl
      · exact ⟨ha, fun x hx => (hw.1.2 x hx).2⟩
      · exact ⟨hb, fun x hx => (hw.2.1.2 x hx).2⟩
    have hlen2 : ∀ k, ((List.take k [a, b]).flatten.map canB).length ≤ 10000 := fun k => by
      have h1 := ha.1
      have h2 := hb.1
      rcases k with _ | _ | k <;> simp <;> omega
    refine hH.loop (fun i : Nat => ⟨[(4, .ref 2 0), (6, .ref 3 0), (34, .dat (.slice spT) [a, b]), (35, .dat (.int .i64) 2), (36, .dat (.int .i64) (i : Int))], [(2, .box 26 (zA spT .nil)), (3, .box 26 (.cons (.own 4) .nil)), (4, .row 30 bkT ((List.take i [a, b]).flatten.map canB))], 5⟩) (fun i => i ≤ 2) (fun i => 2 - i) 0 4 (Nat.zero_le _) ?_ ?_
    · dsimp only [go_sem]
      simp
    · intro i hi R hm
      refine hH.run 100 _ _ ?_
      dsimp only [go_sem]
      rw [Int.toNat_natCast]
      refine ⟨fun e => ?_, fun e => ?_⟩ <;> simp only [decide_eq_true_eq, decide_eq_false_iff_not] at e
      · have e : i < 2 := by have e : (i : Int) < 2 := e; omega
        have e2 : i < [a, b].length := e
        have b1 : (0 : Int) ≤ (i : Int) ∧ (i : Int) < ((2 : Nat) : Int) := by omega
        refine ⟨b1, ?_⟩
        have hzp : List.getD [a, b] i (zd spT) = List.getD [a, b] i [] := rfl
        have hpm := getD_mem (l := [a, b]) [] e2
        have htk := take_get [a, b] i [] e2
        rw [hzp]
        have hl0 := hlen2 i
        have hl1 := hlen2 (i + 1)
        rw [htk] at hl1
        generalize List.getD [a, b] i [] = p at *
        obtain ⟨⟨hp1, hp2⟩, hp3⟩ := hall p hpm
        have hfl : (List.take i [a, b] ++ [p]).flatten.map canB = (List.take i [a, b]).flatten.map canB ++ p.map canB := by simp
        rw [hfl] at hl1
        have htk2 : (List.take (i + 1) [a, b]).flatten.map canB = (List.take i [a, b]).flatten.map canB ++ p.map canB := by rw [htk, hfl]
        generalize (List.take i [a, b]).flatten.map canB = L at *
        refine hH.loop (fun k : Nat => ⟨[(4, .ref 2 0), (6, .ref 3 0), (34, .dat (.slice spT) [a, b]), (35, .dat (.int .i64) 2), (36, .dat (.int .i64) (i : Int)), (41, .dat (.slice bkT) p), (42, .dat (.int .i64) (p.length : Int)), (43, .dat (.int .i64) (k : Int))], [(2, .box 26 (zA spT .nil)), (3, .box 26 (.cons (.own 4) .nil)), (4, .row 30 bkT (L ++ (List.take k p).map canB))], 5⟩) (fun k => k ≤ p.length) (fun k => p.length - k) 0 5 (Nat.zero_le _) ?_ ?_
        · dsimp only [go_sem]
          simp
        · intro k hk R2 hm2
          refine hH.run 100 _ _ ?_
          dsimp only [go_sem]
          rw [Int.toNat_natCast]
          refine ⟨fun g => ?_, fun g => ?_⟩ <;> simp only [decide_eq_true_eq, decide_eq_false_iff_not] at g
          · have g : k < p.length := by have g : (k : Int) < (p.length : Int) := g; omega
            have hzb : List.getD p k (zd bkT) = List.getD p k [] := rfl
            have hbm := getD_mem (l := p) [] g
            have htb := take_get p k [] g
            rw [hzb]
            generalize List.getD p k [] = x at *
            obtain ⟨hx1, hx2⟩ := hp2 x hbm
            have hx3 := hp3 x hbm
            have b2 : (0 : Int) ≤ (k : Int) ∧ (k : Int) < (p.length : Int) := by omega
            have hx1 : List.length x ≤ 100 := hx1
            refine ⟨b2, ⟨Int.natCast_nonneg _, Int.le_refl _, by show (56 : Int) * (List.length x : Int) ≤ 140737488355328; omega⟩, ?_⟩
            rw [Int.toNat_natCast]
            refine hH.loop (fun m : Nat => ⟨[(4, .ref 2 0), (6, .ref 3 0), (34, .dat (.slice spT) [a, b]), (35, .dat (.int .i64) 2), (36, .dat (.int .i64) (i : Int)), (41, .dat (.slice bkT) p), (42, .dat (.int .i64) (p.length : Int)), (43, .dat (.int .i64) (k : Int)), (11, .own 6), (52, .dat (.slice fT) x), (53, .dat (.int .i64) (List.length x : Int)), (54, .dat (.int .i64) (m : Int))], [(2, .box 26 (zA spT .nil)), (3, .box 26 (.cons (.own 4) .nil)), (4, .row 30 bkT (L ++ (List.take k p).map canB)), (6, .row 53 fT ((List.take m x).map (fun f => qf (fq f)) ++ List.replicate (List.length x - m) (false, [], [])))], 7⟩) (fun m => m ≤ List.length x) (fun m => List.length x - m) 0 7 (Nat.zero_le _) ?_ ?_
            · dsimp only [go_sem]
              simp
              exact .inr rfl
            · intro m hmm R3 hm3
              refine hH.run 100 _ _ ?_
              dsimp only [go_sem]
              rw [Int.toNat_natCast]
              have hmm : m ≤ List.length x := hmm
              have hlr : (List.map (fun f => qf (fq f)) (List.take m x) ++ List.replicate (List.length x - m) (false, [], [])).length = List.length x := by
                rw [List.length_append, List.length_map, List.length_replicate, len_take hmm]; omega
              have hLk : (L ++ List.map canB (List.take k p)).length ≤ 10000 := by
                rw [List.length_append, List.length_map] at hl1 ⊢
                have : (List.take k p).length ≤ p.length := by rw [List.length_take]; omega
                omega
              rw [hlr]
              refine ⟨fun q => ?_, fun q => ?_⟩ <;> simp only [decide_eq_true_eq, decide_eq_false_iff_not] at q
              · have q : m < List.length x := by have q : (m : Int) < (List.length x : Int) := q; omega
                have hzf : List.getD x m (zd fT) = List.getD x m (false, [], []) := rfl
                have hfm := getD_mem (l := x) (false, [], []) q
                have htf := take_get x m (false, [], []) q
                have hst := set_rep2 ((false, [], []) : fT.den) (List.map (fun f => qf (fq f)) (List.take m x)) (qf (fq (List.getD x m (false, [], [])))) (List.length x - (m + 1)) (i := m) (by rw [List.length_map, len_take hmm])
                rw [show List.length x - (m + 1) + 1 = List.length x - m by omega] at hst
                rw [hzf, hst]
                have b3 : (0 : Int) ≤ (m : Int) ∧ (m : Int) < (List.length x : Int) := by omega
                refine ⟨b3, Nat.le_trans (hx2 _ hfm) (by decide), b3, q, by rw [inR_i64]; omega, hm3 _ (m + 1) 7 q (by omega) ?_⟩
                dsimp only [go_sem]
                rw [htf, List.map_append]
                simp
              · have hme : m = List.length x := by have q : ¬ (m : Int) < (List.length x : Int) := q; omega
                have hcx : List.map (fun f => qf (fq f)) (List.take m x) ++ List.replicate (List.length x - m) (false, [], []) = canB x := by
                  rw [hme, List.take_length, Nat.sub_self, List.replicate_zero, List.append_nil]; rfl
                rw [hcx]
                have hpl : p.length ≤ 5000 := hp1
                refine ⟨?_, rfl, by rw [inR_i64]; omega, hm2 _ (k + 1) 5 g (by omega) ?_⟩
                · show ((L ++ List.map canB (List.take k p)).length + 1) * 24 ≤ _
                  omega
                · dsimp only [go_sem]
                  rw [htb, List.map_append]
                  simp
          · rw [List.take_of_length_le (by have g : ¬ (k : Int) < (p.length : Int) := g; omega)]
            refine ⟨by rw [inR_i64]; omega, hm _ (i + 1) 5 e (by omega) ?_⟩
            dsimp only [go_sem]
            rw [htk2]
            simp
      · have hi : i ≤ 2 := hi
        have : i = 2 := by have e : ¬ (i : Int) < 2 := e; omega
        subst this
        have : (List.take 2 [a, b]).flatten.map canB = (a ++ b).map canB := by simp
        rw [this, hr]
        simp
@[go_sem] noncomputable def EW9 : Env := ((((EW8).add 22 wCcS).add 73 rFSumS).add 72 rFComplS).add 74 rFSignS
theorem EW9_ok : EW9.Ok := ((((EW8_ok).add wCc_ok).add rFSum_ok).add rFCompl_ok).add rFSign_ok
@[go_sem] def rRmS : Spec := ⟨[bkT], fun d => (.dat fT (qf (rm d.1)), [bkP d.1])⟩
theorem rRm_ok : SpecOk Try.prog 41 rRmS := by
  refine fn_ok EW9_ok rRmS Try.func41 rfl (by decide) (N := 7) rfl (res := [.cell 2 53]) rfl (by decide) [] [] [] 100 (by kernel_rfl) ?_
  rintro ⟨b, _⟩ hw hp
  refine ⟨rfl, fun H hH => ?_⟩
  dsimp only [go_sem] at hw hp ⊢
  obtain ⟨⟨h1, h2⟩, -⟩ := hp
  obtain ⟨q1, q2⟩ := rm_sz hw.1.2 ⟨h1, h2⟩
  refine ⟨Nat.le_trans h1 (by decide), h2, by rw [fs_qf] at q1 ⊢; omega, ?_, trivial⟩
  rw [fq_qf]; rfl
@[go_sem] noncomputable def EWA : Env := (EW9).add 41 rRmS
theorem EWA_ok : EWA.Ok := (EW9_ok).add rRm_ok
def canS (s : List Blk) : List Blk := s.map canB
@[go_sem] def rCanS : Spec := ⟨[spT], fun d => (.dat spT (canS d.1), [∀ b ∈ d.1, bkP b, List.length d.1 ≤ 10000])⟩
theorem rCan_ok : SpecOk Try.prog 59 rCanS := by
  refine fn_ok EWA_ok rCanS Try.func59 rfl (by decide) (N := 49) rfl (res := [.cell 2 26]) rfl (by decide) [(1, [(7, .ag)]), (5, [(15, .ag)]), (9, [(39, .dt)]), (10, [(45, .dt)])] [(10, [5]), (11, [3])] [] 100 (by kernel_rfl) ?_
  rintro ⟨s, _⟩ hw hp
  refine ⟨rfl, fun H hH => ?_⟩
  dsimp only [go_sem] at hw hp ⊢
  obtain ⟨hb, hl, -⟩ := hp
  refine hH.loop (fun i : Nat => ⟨[(1, .ref 0 0), (2, .ref 1 0), (3, .ref 2 0), (4, .dat (.int .i64) (i : Int))], [(0, .box 26 (.cons (.dat (.slice bkT) s) .nil)), (1, .box 26 (zA spT .nil)), (2, .box 26 (.cons (.own 3) .nil)), (3, .row 30 bkT ((List.take i s).map canB))], 4⟩) (fun i => i ≤ List.length s) (fun i => List.length s - i) 0 3 (Nat.zero_le _) ?_ ?_
  · dsimp only [go_sem]
    simp
  · intro i hi R hm
    refine hH.run 100 _ _ ?_
    dsimp only [go_sem]
    refine ⟨fun d => ?_, fun d => ?_⟩ <;> simp only [decide_eq_true_eq, decide_eq_false_iff_not] at d
    · have d : i < List.length s := by have d : (i : Int) < (List.length s : Int) := d; omega
      have hmem := getD_mem (l := s) [] d
      have htk := take_get s i [] d
      have hxb := hb _ hmem
      obtain ⟨x, hx⟩ : ∃ x : Blk, List.getD s i [] = x := ⟨_, rfl⟩
      rw [hx] at htk hxb
      refine hH.loop (fun k : Nat => ⟨[(1, .ref 0 0), (2, .ref 1 0), (3, .ref 2 0), (4, .dat (.int .i64) (i : Int)), (5, .ref 4 0), (6, .dat (.int .i64) (k : Int))], [(0, .box 26 (.cons (.dat (.slice bkT) s) .nil)), (1, .box 26 (zA spT .nil)), (2, .box 26 (.cons (.own 3) .nil)), (3, .row 30 bkT ((List.take i s).map canB)), (4, .box 30 (.cons (.own 5) .nil)), (5, .row 53 fT ((List.take k x).map (fun f => qf (fq f))))], 6⟩) (fun k => k ≤ x.length) (fun k => x.length - k) 0 5 (Nat.zero_le _) ?_ ?_
      · dsimp only [go_sem]
        simp
      · intro k hk R2 hm2
        refine hH.run 100 _ _ ?_
        dsimp only [go_sem]
        have hzb : List.getD s i (zd bkT) = x := hx
        rw [Int.toNat_natCast, hzb, Int.toNat_natCast]
        have b1 : (0 : Int) ≤ (i : Int) ∧ (i : Int) < (List.length s : Int) := by omega
        refine ⟨b1, fun e => ?_, fun e => ?_⟩ <;> simp only [decide_eq_true_eq, decide_eq_false_iff_not] at e
        · have e : k < List.length x := by have e : (k : Int) < (List.length x : Int) := e; omega
          have hzf : List.getD x k (zd fT) = List.getD x k (false, [], []) := rfl
          have hfm := getD_mem (l := x) (false, [], []) e
          have htf := take_get x k (false, [], []) e
          rw [hzf]
          have b2 : (0 : Int) ≤ (k : Int) ∧ (k : Int) < (List.length x : Int) := by omega
          have hx1 : List.length x ≤ 100 := hxb.1
          refine ⟨b1, b2, Nat.le_trans (hxb.2 _ hfm) (by decide), ?_, rfl, by rw [inR_i64]; omega, hm2 _ (k + 1) 6 e (by omega) ?_⟩
          · rw [List.length_map, len_take (by omega)]; show (k + 1) * 56 ≤ _; omega
          · dsimp only [go_sem]
            rw [htf, List.map_append]
            simp
        · have e : ¬ (k : Int) < (List.length x : Int) := e
          have hcx : List.map (fun f => qf (fq f)) (List.take k x) = canB x := by rw [List.take_of_length_le (by omega)]; rfl
          rw [hcx]
          have hl : List.length s ≤ 10000 := hl
          refine ⟨?_, rfl, by rw [inR_i64]; omega, hm _ (i + 1) 4 d (by omega) ?_⟩
          · rw [List.length_map, len_take (by omega)]; show (i + 1) * 24 ≤ _; omega
          · dsimp only [go_sem]
            rw [htk, List.map_append]
            simp
    · rw [List.take_of_length_le (by have d : ¬ (i : Int) < (List.length s : Int) := d; omega)]
      exact ⟨rfl, trivial⟩
@[go_sem] noncomputable def EWB : Env := (EWA).add 59 rCanS
theorem EWB_ok : EWB.Ok := (EWA_ok).add rCan_ok
@[go_sem] def rValS : Spec := ⟨[spT], fun d => (.dat .bool (vld d.1), [spP d.1])⟩
theorem rVal_ok : SpecOk Try.prog 43 rValS := by
  refine fn_ok EWB_ok rValS Try.func43 rfl (by decide) (N := 46) rfl (res := [.tmp 2]) rfl (by decide) [] [] [] 100 (by kernel_rfl) ?_
  rintro ⟨s, _⟩ hw hp
  refine ⟨rfl, fun H hH => ?_⟩
  dsimp only [go_sem] at hw hp ⊢
  obtain ⟨⟨hs1, hs2⟩, -⟩ := hp
  have hwb : ∀ b ∈ s, ∀ f ∈ b, wfD fT f := fun b hb => (hw.1.2 b hb).2
  have hv : vld s = (decide (List.length s ≤ 4096) && List.all s okB) := rfl
  refine ⟨fun h => ?_, fun h => ?_⟩ <;> simp only [decide_eq_true_eq, decide_eq_false_iff_not] at h
  · rw [hv, decide_eq_false (by omega)]
    exact ⟨rfl, trivial⟩
  rw [decide_eq_true (by omega), Bool.true_and] at hv
  refine hH.loop (fun i : Nat => ⟨[(1, .ref 0 0), (3, .dat (.int .i64) (i : Int))], [(0, .box 26 (.cons (.dat (.slice bkT) s) .nil))], 1⟩) (fun i => i ≤ List.length s ∧ (List.take i s).all okB = true) (fun i => List.length s - i) 0 1 ⟨Nat.zero_le _, rfl⟩ ?_ ?_
  · dsimp only [go_sem]
    simp
  · intro i ⟨hi, hall⟩ R hm
    refine hH.run 100 _ _ ?_
    dsimp only [go_sem]
    refine ⟨fun d => ?_, fun d => ?_⟩ <;> simp only [decide_eq_true_eq, decide_eq_false_iff_not] at d
    · have d : i < List.length s := by have d : (i : Int) < (List.length s : Int) := d; omega
      have hmem := getD_mem (l := s) (zd bkT) d
      have hsn := all_snoc (p := okB) (l := s) (zd bkT) d
      have hbad := all_bad (p := okB) (l := s) (zd bkT) d
      rw [Int.toNat_natCast]
      generalize List.getD s i (zd bkT) = b at *
      obtain ⟨hb1, hb2⟩ := hs2 b hmem
      have hwf := hwb b hmem
      have hob : okB b = (decide (List.length b ≤ 16) && (b.all fun f => decide (0 ≤ fq f)) && decide (0 ≤ rm b)) := rfl
      have b1 : (0 : Int) ≤ (i : Int) ∧ (i : Int) < (List.length s : Int) := by omega
      have hsz := rm_sz hwf ⟨hb1, hb2⟩
      refine ⟨b1, fun h => h, fun _ => ⟨hb1, hb2⟩, fun h => h, fun _ => by rw [fs_qf]; omega, fun h => h, fun h => h, fun g => ?_, fun g => ?_⟩
      · simp only [Bool.or_eq_true, decide_eq_true_eq] at g
        rw [fq_qf, sgQ_lt] at g
        have : okB b = false := by
          rw [hob]
          rcases g with g | g
          · rw [decide_eq_false (by omega)]; rfl
          · rw [decide_eq_false g, Bool.and_false]
        rw [hv, hbad this]
        exact ⟨rfl, trivial⟩
      · simp only [Bool.or_eq_false_iff, decide_eq_false_iff_not] at g
        rw [fq_qf, sgQ_lt, Decidable.not_not] at g
        rw [decide_eq_true (by omega), Bool.true_and, decide_eq_true g.2, Bool.and_true] at hob
        refine hH.loop (fun k : Nat => ⟨[(1, .ref 0 0), (3, .dat (.int .i64) (i : Int)), (4, .ref 1 0), (5, .dat (.int .i64) (k : Int))], [(0, .box 26 (.cons (.dat (.slice bkT) s) .nil)), (1, .box 30 (.cons (.dat (.slice fT) b) .nil))], 2⟩) (fun k => k ≤ List.length b ∧ (List.take k b).all (fun f => decide (0 ≤ fq f)) = true) (fun k => List.length b - k) 0 2 ⟨Nat.zero_le _, rfl⟩ ?_ ?_
        · dsimp only [go_sem]
          simp
        · intro k ⟨hk, hka⟩ R2 hm2
          refine hH.run 100 _ _ ?_
          dsimp only [go_sem]
          rw [Int.toNat_natCast]
          refine ⟨fun e => ?_, fun e => ?_⟩ <;> simp only [decide_eq_true_eq, decide_eq_false_iff_not] at e
          · have e : k < List.length b := by have e : (k : Int) < (List.length b : Int) := e; omega
            have fmem := getD_mem (l := b) (zd fT) e
            have fsn := all_snoc (p := fun f => decide (0 ≤ fq f)) (l := b) (zd fT) e
            have fbad := all_bad (p := fun f => decide (0 ≤ fq f)) (l := b) (zd fT) e
            have hz : (zd (Ty.bool.pair ((Ty.int IntKind.u32).slice.pair (Ty.int IntKind.u32).slice))) = zd fT := rfl
            rw [hz]
            generalize List.getD b k (zd fT) = f at *
            have b2 : (0 : Int) ≤ (k : Int) ∧ (k : Int) < (List.length b : Int) := by omega
            refine ⟨b2, Nat.le_trans (hb2 f fmem) (by decide), fun j => ?_, fun j => ?_⟩ <;> simp only [decide_eq_true_eq, decide_eq_false_iff_not] at j
            · rw [sgQ_lt] at j
              rw [hv, hbad (by rw [hob, fbad (decide_eq_false j)])]
              exact ⟨rfl, trivial⟩
            · rw [sgQ_lt, Decidable.not_not] at j
              refine ⟨by rw [inR_i64]; omega, hm2 _ (k + 1) 2 ⟨e, by rw [fsn, hka, decide_eq_true j]; rfl⟩ (by omega) ?_⟩
              dsimp only [go_sem]
              simp
          · have e : ¬ (k : Int) < (List.length b : Int) := e
            have hka2 : (b.all fun f => decide (0 ≤ fq f)) = true := by rw [List.take_of_length_le (by omega)] at hka; exact hka
            rw [hka2] at hob
            refine ⟨by rw [inR_i64]; omega, hm _ (i + 1) 1 ⟨d, by rw [hsn, hall, hob]; rfl⟩ (by omega) ?_⟩
            dsimp only [go_sem]
            simp
    · have d : ¬ (i : Int) < (List.length s : Int) := d
      rw [List.take_of_length_le (by omega)] at hall
      rw [hv, hall]
      exact ⟨rfl, trivial⟩
@[go_sem] noncomputable def EWC : Env := (EWB).add 43 rValS
theorem EWC_ok : EWC.Ok := (EWB_ok).add rVal_ok
@[go_sem] def rCcS : Spec := ⟨[spT, spT], fun d => (.tup (.cons (.dat spT (ccW d.1 d.2.1).1) (.cons (.dat (.int .i64) (ccW d.1 d.2.1).2) .nil)), [spP d.1, spP d.2.1])⟩
theorem rCc_ok : SpecOk Try.prog 23 rCcS := by
  refine fn_ok EWC_ok rCcS Try.func23 rfl (by decide) (N := 33) rfl (res := [.cell 4 26, .tmp 5]) rfl (by decide) [(5, [(30, .fz 4), (1000000, .mx [(1, 0), (2, 0), (4, 0), (5, 0)])])] [] [] 100 (by kernel_rfl) ?_
  rintro ⟨a, b, _⟩ hw hp
  refine ⟨rfl, fun H hH => ?_⟩
  dsimp only [go_sem] at hw hp ⊢
  obtain ⟨ha, hb, -⟩ := hp
  have hr : ccW a b = if vld a && vld b then (if a.length + b.length ≤ 4096 then ((a ++ b).map canB, 0) else ([], 4)) else ([], 1) := rfl
  have hla := ha.1
  have hlb := hb.1
  refine ⟨ha, fun h => h, fun _ => hb, fun h => h, fun h => h, fun h => ?_, fun h => ⟨by rw [inR_i64]; omega, fun d => ?_, fun d => ?_⟩⟩
  · rw [if_neg (by cases h1 : vld a <;> cases h2 : vld b <;> simp_all)] at hr
    simp [hr]
  · simp only [decide_eq_true_eq] at d
    have h1 : (vld a && vld b) = true := by cases h1 : vld a <;> cases h2 : vld b <;> simp_all
    rw [if_pos h1, if_neg (by omega)] at hr
    simp [hr]
  · simp only [decide_eq_false_iff_not] at d
    have h1 : (vld a && vld b) = true := by cases h1 : vld a <;> cases h2 : vld b <;> simp_all
    rw [if_pos h1, if_pos (by omega)] at hr
    refine ⟨by rw [List.length_nil]; omega, rfl, by omega, rfl, fun x hx => ?_, by rw [List.length_append]; omega, ?_⟩
    · rcases List.mem_append.1 hx with h' | h'
      · exact ha.2 x h'
      · exact hb.2 x h'
    · rw [hr]
      simp [canS]
@[go_sem] def rSaS : Spec := ⟨[spT, spT], fun d => (.dat .bool (decide (d.1 = d.2.1)), [])⟩
theorem rSa_ok : SpecOk Try.prog 26 rSaS := by
  refine fn_ok EWC_ok rSaS Try.func26 rfl (by decide) (N := 67) rfl (res := [.tmp 4]) rfl (by decide) [] [] [] 100 (by kernel_rfl) ?_
  rintro ⟨a, b, _⟩ hw hp
  refine ⟨rfl, fun H hH => ?_⟩
  dsimp only [go_sem] at hw hp ⊢
  refine ⟨fun h => ?_, fun h => ?_⟩ <;> simp only [decide_eq_true_eq, decide_eq_false_iff_not] at h
  · rw [decide_eq_false (fun e => h (by rw [e]))]
    exact ⟨rfl, trivial⟩
  have hl : List.length a = List.length b := by omega
  refine hH.loop (fun i : Nat => ⟨[(2, .ref 0 0), (3, .ref 1 0), (5, .dat (.int .i64) (i : Int))], [(0, .box 26 (.cons (.dat (.slice bkT) a) .nil)), (1, .box 26 (.cons (.dat (.slice bkT) b) .nil))], 2⟩) (fun i => i ≤ List.length a ∧ List.take i a = List.take i b) (fun i => List.length a - i) 0 2 ⟨Nat.zero_le _, rfl⟩ ?_ ?_
  · dsimp only [go_sem]
    simp
  · intro i ⟨hi, ht⟩ R hm
    refine hH.run 100 _ _ ?_
    dsimp only [go_sem]
    rw [Int.toNat_natCast]
    refine ⟨fun d => ?_, fun d => ?_⟩ <;> simp only [decide_eq_true_eq, decide_eq_false_iff_not] at d
    · have d : i < List.length a := by have d : (i : Int) < (List.length a : Int) := d; omega
      have b1 : (0 : Int) ≤ (i : Int) ∧ (i : Int) < (List.length a : Int) := by omega
      have b2 : (0 : Int) ≤ (i : Int) ∧ (i : Int) < (List.length b : Int) := by omega
      have ta := take_get a i [] d
      have tb := take_get b i [] (show i < List.length b by omega)
      have hza : List.getD a i (zd bkT) = List.getD a i [] := rfl
      have hzb : List.getD b i (zd bkT) = List.getD b i [] := rfl
      have hxl : List.length (List.getD a i []) ≤ 9223372036854775807 := (hw.1.2 _ (getD_mem (l := a) [] d)).1
      obtain ⟨x, hx⟩ : ∃ x : Blk, List.getD a i [] = x := ⟨_, rfl⟩
      rw [hx] at hxl
      obtain ⟨y, hy⟩ : ∃ y : Blk, List.getD b i [] = y := ⟨_, rfl⟩
      have hza2 : List.getD a i (zd bkT) = x := hx
      have hzb2 : List.getD b i (zd bkT) = y := hy
      rw [hza, hzb, hx, hy]
      rw [hx] at ta
      rw [hy] at tb
      refine ⟨b1, b2, fun e => ?_, fun e => ?_⟩ <;> simp only [decide_eq_true_eq, decide_eq_false_iff_not] at e
      · rw [decide_eq_false (fun q => e (by rw [← hx, ← hy, q]))]
        exact ⟨rfl, trivial⟩
      have hlxy : List.length x = List.length y := by omega
      refine hH.loop (fun k : Nat => ⟨[(2, .ref 0 0), (3, .ref 1 0), (5, .dat (.int .i64) (i : Int)), (6, .dat (.int .i64) (k : Int))], [(0, .box 26 (.cons (.dat (.slice bkT) a) .nil)), (1, .box 26 (.cons (.dat (.slice bkT) b) .nil))], 2⟩) (fun k => k ≤ List.length x ∧ List.take k x = List.take k y) (fun k => List.length x - k) 0 2 ⟨Nat.zero_le _, rfl⟩ ?_ ?_
      · dsimp only [go_sem]
        simp
      · intro k ⟨hk, htk⟩ R2 hm2
        refine hH.run 100 _ _ ?_
        dsimp only [go_sem]
        rw [Int.toNat_natCast, Int.toNat_natCast, hza2, hzb2]
        refine ⟨b1, fun g => ?_, fun g => ?_⟩ <;> simp only [decide_eq_true_eq, decide_eq_false_iff_not] at g
        · have g : k < List.length x := by have g : (k : Int) < (List.length x : Int) := g; omega
          have b3 : (0 : Int) ≤ (k : Int) ∧ (k : Int) < (List.length x : Int) := by omega
          have b4 : (0 : Int) ≤ (k : Int) ∧ (k : Int) < (List.length y : Int) := by omega
          have tx := take_get x k (zd fT) g
          have ty' := take_get y k (zd fT) (by omega)
          have hzf : (zd (Ty.bool.pair ((Ty.int IntKind.u32).slice.pair (Ty.int IntKind.u32).slice))) = zd fT := rfl
          rw [hzf]
          have hxy : a = b → List.getD x k (zd fT) = List.getD y k (zd fT) := fun q => by rw [← hx, ← hy, q]
          generalize List.getD x k (zd fT) = f at *
          generalize List.getD y k (zd fT) = f' at *
          refine ⟨b1, b3, b2, b4, fun j => ?_, fun j => ?_⟩ <;> simp only [Bool.not_eq_true', Bool.not_eq_false', decide_eq_true_eq, decide_eq_false_iff_not] at j
          · rw [decide_eq_false (fun q => j (by rw [hxy q]; exact ⟨rfl, rfl, rfl⟩))]
            exact ⟨rfl, trivial⟩
          · have hff : f = f' := Prod.ext j.1 (Prod.ext j.2.1 j.2.2)
            refine ⟨by rw [inR_i64]; omega, hm2 _ (k + 1) 2 ⟨g, by rw [tx, ty', htk, hff]⟩ (by omega) ?_⟩
            dsimp only [go_sem]
            simp
        · have g : ¬ (k : Int) < (List.length x : Int) := g
          rw [List.take_of_length_le (by omega), List.take_of_length_le (by omega)] at htk
          refine ⟨by rw [inR_i64]; omega, hm _ (i + 1) 2 ⟨d, by rw [ta, tb, ht, htk]⟩ (by omega) ?_⟩
          dsimp only [go_sem]
          simp
    · have d : ¬ (i : Int) < (List.length a : Int) := d
      rw [List.take_of_length_le (by omega), List.take_of_length_le (by omega)] at ht
      rw [decide_eq_true ht]
      exact ⟨rfl, trivial⟩
@[go_sem] noncomputable def EWD : Env := ((EWC).add 23 rCcS).add 26 rSaS
theorem EWD_ok : EWD.Ok := ((EWC_ok).add rCc_ok).add rSa_ok
end Go.Proofs.Ythjgfppmempbkaa.Gx
