/-
  The law CodecTruncated.
-/
import Derived.Test.YtadoinponngdiaaC9
namespace Go.Proofs.Ytadoinponngdiaa.Gx
open Go Go.RowKit Tw B Nt
set_option linter.unusedVariables false
set_option linter.unusedSimpArgs false
set_option maxHeartbeats 4000000
set_option maxRecDepth 20000
theorem scn_cut : ∀ (f i m : Nat) (a : Int) (k : Nat), k < (eU m).length → k < f → scn f i a ((eU m).take k) = (0, 0, 3)
  | 0, i, m, a, k, _, h => absurd h (Nat.not_lt_zero _)
  | f + 1, i, m, a, 0, _, _ => by rw [List.take_zero]; rfl
  | f + 1, i, m, a, k + 1, h, hf => by
    rcases Nat.lt_or_ge m 128 with h1 | h1
    · rw [eU_lt h1, List.length_singleton] at h; omega
    · rw [eU_ge h1] at h ⊢
      rw [List.length_cons] at h
      rw [List.take_succ_cons, scn, if_pos (by omega)]
      exact scn_cut f (i + 1) (m / 128) _ k (by omega) (by omega)
theorem scan_cut {m k : Nat} (hm : m < 18446744073709551616) (h : k < (eU m).length) : scan ((eU m).take k) = (0, 0, 3) :=
  scn_cut 10 0 m 0 k h (by have := eU_len10 m hm; omega)
/-- a reading of a cut encoding -/
def Cut (X R : List Int) (k : Nat) (s : Rd) : Prop := (X.length ≤ k → s = (R.take (k - X.length), 0)) ∧ (k < X.length → s = ([], 3))
theorem take_app {X R : List Int} {k : Nat} : (k < X.length → (X ++ R).take k = X.take k) ∧ (X.length ≤ k → (X ++ R).take k = X ++ R.take (k - X.length)) := by
  refine ⟨fun h => ?_, fun h => ?_⟩
  · rw [List.take_append_of_le_length (by omega)]
  · rw [List.take_append, List.take_of_length_le h]
theorem rU_cut {n : Nat} (hn : n < 18446744073709551616) {mx : Int} (hm : (n : Int) ≤ mx) (R : List Int) (k : Nat) : Cut (eU n) R k (rU ((eU n ++ R).take k, 0) mx).2 := by
  obtain ⟨t1, t2⟩ := @take_app (eU n) R k
  refine ⟨fun h => ?_, fun h => ?_⟩
  · rw [t2 h, rU_eU hn hm]
  · rw [t1 h]
    unfold rU
    rw [if_neg (by simp), scan_cut hn h, if_pos (by decide)]
theorem rRaw_cut (b R : List Int) (k : Nat) : Cut b R k (rRaw ((b ++ R).take k, 0) (b.length : Int)).2 := by
  obtain ⟨t1, t2⟩ := @take_app b R k
  refine ⟨fun h => ?_, fun h => ?_⟩
  · rw [t2 h, rRaw_b]
  · rw [t1 h]
    unfold rRaw
    rw [if_neg (by simp), if_pos (by show (((b.take k).length : Nat) : Int) < _; rw [List.length_take]; omega)]
theorem rB_cut {b : List Int} {mx : Int} (hm : (b.length : Int) ≤ mx) (hl : b.length < 18446744073709551616) (R : List Int) (k : Nat) : Cut (eB b) R k (rB ((eB b ++ R).take k, 0) mx).2 := by
  obtain ⟨t1, t2⟩ := @take_app (eB b) R k
  refine ⟨fun h => ?_, fun h => ?_⟩
  · rw [t2 h, rB_eB hm hl]
  · rw [t1 h]
    unfold eB at h ⊢
    rw [List.length_append] at h
    unfold rB
    have hmx : max mx 0 = mx := by omega
    rw [hmx]
    obtain ⟨c1, c2⟩ := rU_cut hl hm b k
    rcases Nat.lt_or_ge k (eU b.length).length with h1 | h1
    · rw [if_pos (by rw [c2 h1]; decide), c2 h1]
    · obtain ⟨u1, u2⟩ := @take_app (eU b.length) b k
      rw [u2 h1, rU_eU hl hm, if_neg (by simp)]
      have e : b.take (k - (eU b.length).length) = (b ++ []).take (k - (eU b.length).length) := by rw [List.append_nil]
      dsimp only
      rw [e]
      exact (rRaw_cut b [] _).2 (by omega)
theorem rN_cut {n : Int} (h : 0 ≤ n) (hb : bsz n ≤ 8192) (R : List Int) (k : Nat) : Cut (eN n) R k (rN ((eN n ++ R).take k, 0)).2 := by
  obtain ⟨t1, t2⟩ := @take_app (eN n) R k
  have hl := beN_len n
  refine ⟨fun hk => ?_, fun hk => ?_⟩
  · rw [t2 hk, rN_eN h hb]
  · have e := (rB_cut (b := beN n) (mx := 8192) (by omega) (by omega) R k).2 hk
    have e : (rB ((eN n ++ R).take k, 0) 8192).2 = ([], 3) := e
    unfold rN
    rw [if_pos (.inl (by rw [e]; decide)), e]
theorem rF_cut {c : fT.den} (h1 : Canon c.2.1) (h2 : Canon c.2.2) (hc : isCan c = true) (l1 : c.2.1.length ≤ 2048) (l2 : c.2.2.length ≤ 2048) (R : List Int) (k : Nat) : Cut (eFc c) R k (rF ((eFc c ++ R).take k, 0)).2 := by
  obtain ⟨t1, t2⟩ := @take_app (eFc c) R k
  refine ⟨fun hk => ?_, fun hk => ?_⟩
  · rw [t2 hk, rF_eF h1 h2 hc l1 l2]
  · have hx := N_nonneg h1.1
    have hy := N_nonneg h2.1
    have b1 := bsz_le h1.1
    have b2 := bsz_le h2.1
    obtain ⟨s, x, y⟩ := c
    dsimp only at hx hy b1 b2 l1 l2
    have e0 := rRaw_cut [if s then 1 else 0] (eN (N x) ++ (eN (N y) ++ R)) k
    have eA := eFc_app (s, x, y) R
    dsimp only at eA
    rw [← eA] at e0
    have el : (eFc (s, x, y)).length = 1 + ((eN (N x)).length + (eN (N y)).length) := by
      have := congrArg List.length (eFc_app (s, x, y) [])
      simp only [List.length_append, List.length_nil, List.length_singleton, Nat.add_zero] at this
      exact this
    rw [el] at hk
    unfold rF
    have hone : (([if s then (1 : Int) else 0].length : Nat) : Int) = 1 := rfl
    rw [hone] at e0
    rcases Nat.eq_zero_or_pos k with hk0 | hk0
    · have := e0.2 (by rw [List.length_singleton]; omega)
      rw [if_pos (by rw [this]; decide), this]
    · have e1 := e0.1 (by rw [List.length_singleton]; omega)
      rw [List.length_singleton] at e1
      have hv : (rRaw ((eFc (s, x, y) ++ R).take k, 0) 1).1 = [if s then 1 else 0] := by
        have : (eFc (s, x, y) ++ R).take k = [if s then 1 else 0] ++ (eN (N x) ++ (eN (N y) ++ R)).take (k - 1) := by
          rw [eA, (@take_app _ _ k).2 (by rw [List.length_singleton]; omega), List.length_singleton]
        rw [this]
        have := rRaw_b [if s then 1 else 0] ((eN (N x) ++ (eN (N y) ++ R)).take (k - 1))
        rw [hone] at this
        rw [this]
      rw [e1, hv, if_neg (by simp), if_neg (by cases s <;> decide)]
      have n1 := rN_cut hx (by omega) (eN (N y) ++ R) (k - 1)
      rcases Nat.lt_or_ge (k - 1) (eN (N x)).length with h3 | h3
      · have n2 := n1.2 h3
        rw [n2, rN_e (by decide), if_pos (by decide)]
      · have n2 := n1.1 h3
        rw [n2]
        have n3 := (rN_cut hy (by omega) R (k - 1 - (eN (N x)).length)).2 (by omega)
        rw [if_pos (by rw [n3]; decide), n3]
theorem rF_e {s : Rd} (h : s.2 ≠ 0) : rF s = (zF, s) := by
  unfold rF
  rw [rRaw_e h, if_pos h]
theorem cut3 {n : Nat} (hn : n < 18446744073709551616) {b : List Int} (hl : b.length < 18446744073709551616) {c : fT.den} (h1 : Canon c.2.1) (h2 : Canon c.2.2) (hc : isCan c = true) (l1 : c.2.1.length ≤ 2048) (l2 : c.2.2.length ≤ 2048) (k : Nat) (hk : k ≤ (eU n ++ eB b ++ eFc c).length) :
    (rF (rB (rU ((eU n ++ eB b ++ eFc c).take k, 0) (n : Int)).2 (b.length : Int)).2).2 = if k < (eU n ++ eB b ++ eFc c).length then ([], 3) else ([], 0) := by
  have e : eU n ++ eB b ++ eFc c = eU n ++ (eB b ++ (eFc c ++ [])) := by rw [List.append_nil, List.append_assoc]
  rw [e] at hk ⊢
  simp only [List.length_append, List.length_nil] at hk ⊢
  have u := rU_cut hn (Int.le_refl _) (eB b ++ (eFc c ++ [])) k
  rcases Nat.lt_or_ge k (eU n).length with g1 | g1
  · rw [u.2 g1, rB_e (by decide), rF_e (by decide), if_pos (by omega)]
  · rw [u.1 g1]
    have v := rB_cut (Int.le_refl _) hl (eFc c ++ []) (k - (eU n).length)
    rcases Nat.lt_or_ge (k - (eU n).length) (eB b).length with g2 | g2
    · rw [v.2 g2, rF_e (by decide), if_pos (by omega)]
    · rw [v.1 g2]
      have z := rF_cut h1 h2 hc l1 l2 [] (k - (eU n).length - (eB b).length)
      rcases Nat.lt_or_ge (k - (eU n).length - (eB b).length) (eFc c).length with g3 | g3
      · rw [z.2 g3, if_pos (by omega)]
      · rw [z.1 g3, if_neg (by omega)]
        simp
theorem By.app {a b : List Int} (ha : By a) (hb : By b) : By (a ++ b) := fun x hx => (List.mem_append.1 hx).elim (ha x) (hb x)
theorem eU_By (n : Nat) : By (eU n) := by
  induction n using Nat.strongRecOn with
  | _ n ih =>
    rcases Nat.lt_or_ge n 128 with h | h
    · rw [eU_lt h]
      intro x hx
      rw [List.mem_singleton.1 hx, u8R]; omega
    · rw [eU_ge h]
      intro x hx
      rcases List.mem_cons.1 hx with rfl | hx
      · rw [u8R]; omega
      · exact ih (n / 128) (by omega) x hx
theorem eB_By {b : List Int} (h : By b) : By (eB b) := (eU_By _).app h
theorem eN_By (n : Int) : By (eN n) := eB_By (beS_By _ _)
theorem eFc_By (c : fT.den) : By (eFc c) := by
  unfold eFc
  intro x hx
  rcases List.mem_cons.1 hx with rfl | hx
  · cases c.1 <;> decide
  · exact ((eN_By _).app (eN_By _)) x hx
@[go_sem] def lTrS : Spec := ⟨[.int .u64, bT, nT, .bool, nT, .int .i64], fun d => (.dat .bool true, [])⟩
theorem lTr_ok : SpecOk Try.prog 8 lTrS := by
  refine fn_ok ECG_ok lTrS Try.func8 rfl (by decide) (N := 89) rfl (res := [.tmp 12]) rfl (by decide) [(3, [(30, .ow), (39, .fz 0)]), (4, [(42, .wr), (50, .ow)]), (7, [(55, .ow)]), (8, [(59, .ow)]), (9, [(61, .ow)]), (10, [(63, .wr)]), (11, [(74, .ow), (82, .ow), (78, .tr true)])] [] [11] 100 (by kernel_rfl) ?_
  rintro ⟨(n:Int), b, x, neg, y, (cut:Int), _⟩ hw hp
  refine ⟨rfl, fun H hH => ?_⟩
  dsimp only [go_sem] at hw hp ⊢
  have hx := bnat_len x
  have hy := bnat_len y
  obtain ⟨hn, ⟨-, hb⟩, ⟨-, hxr⟩, -, ⟨-, hyr⟩, hcut, -⟩ := hw
  rw [u64R] at hn
  change By b at hb
  have dx : Ds (bnat x) := bnat_ds fun d hd => inR_u32.1 (hxr d hd)
  have dy : Ds (bnat y) := bnat_ds fun d hd => inR_u32.1 (hyr d hd)
  have hfs : fs (neg, bnat x, bnat y) ≤ 8 := by
    show max (bnat x).length (bnat y).length ≤ 8
    omega
  refine ⟨fun h => h, fun h => h, fun h => h, fun h => h, fun h => h, fun h => h, fun _ => ⟨rfl, trivial⟩, fun h => ?_⟩
  simp only [Bool.or_eq_false_iff, decide_eq_false_iff_not] at h
  have hbl : List.length b ≤ 100 := by omega
  obtain ⟨c1, c2⟩ := qfq_small (f := (neg, bnat x, bnat y)) ⟨dx, dy⟩ hfs
  have hcan := isCan_qf (fq (neg, bnat x, bnat y))
  have k1 := canon_dg ((fq (neg, bnat x, bnat y)).num.natAbs : Int)
  have k2 := canon_dg ((fq (neg, bnat x, bnat y)).den : Int)
  have k1 : Canon (qf (fq (neg, bnat x, bnat y))).2.1 := k1
  have k2 : Canon (qf (fq (neg, bnat x, bnat y))).2.2 := k2
  generalize qf (fq (neg, bnat x, bnat y)) = c at *
  obtain ⟨k, rfl⟩ : ∃ k : Nat, n = (k : Int) := ⟨n.toNat, by omega⟩
  rw [Int.toNat_natCast]
  have l1 := eU_len10 k (by omega)
  have l2 := eB_len (b := b) (by show List.length b ≤ _; omega)
  have l4 := eF_len k1.1 k2.1 (by omega) (by omega)
  have hbb : List.length b < 18446744073709551616 := by omega
  have t3 := cut3 (n := k) (by omega) hbb k1 k2 hcan (by omega) (by omega)
  have hl : (eU k ++ eB b ++ eFc c).length ≤ 1000 := by
    simp only [List.length_append]; omega
  have hl0 : ((eU k).length + (eB b).length) * 1 ≤ 140737488355328 := by omega
  have hl00 : ((eU k ++ eB b).length + (eFc c).length) * 1 ≤ 140737488355328 := by
    simp only [List.length_append]; omega
  have hwby : By (eU k ++ eB b ++ eFc c) := ((eU_By k).app (eB_By hb)).app (eFc_By c)
  generalize eU k ++ eB b ++ eFc c = w at *
  have hwr : inR .u64 (IntKind.u64.wrap cut) := inR_wrap _ _
  rw [u64R] at hwr
  have ht0 : 0 ≤ (IntKind.u64.wrap cut).tmod ((w.length : Int) + 1) := Int.tmod_nonneg _ hwr.1
  have ht1 : (IntKind.u64.wrap cut).tmod ((w.length : Int) + 1) < (w.length : Int) + 1 := Int.tmod_lt_of_pos _ (by omega)
  generalize (IntKind.u64.wrap cut).tmod ((w.length : Int) + 1) = t at *
  obtain ⟨j, rfl⟩ : ∃ j : Nat, t = (j : Int) := ⟨t.toNat, by omega⟩
  rw [Int.toNat_natCast]
  have t3 := t3 j (by omega)
  have q0 : By (w.take j) := hwby.take j
  have q1 := @rU_len (w.take j, 0) (k : Int)
  have q2 := rU_by (s := (w.take j, 0)) (mx := (k : Int)) q0
  generalize rU (w.take j, 0) (k : Int) = s1 at *
  obtain ⟨-, -, -, -, q4⟩ := rB_f (s := s1.2) (mx := (List.length b : Int)) q2
  generalize rB s1.2 (List.length b : Int) = s2 at *
  have hlt : (w.take j).length ≤ 1000 := by rw [List.length_take]; omega
  dsimp only at q1
  refine ⟨by omega, hl0, rfl, by omega, hl00, rfl, by rw [inR_i64]; omega, by rw [u64R]; omega, by omega, by rw [u64R]; omega, by rw [inR_i64]; omega, by omega, by omega, ⟨_, rfl⟩, by omega, by omega, by rw [inR_i64]; omega, by rw [u64R]; omega, by omega, by rw [u64R]; omega, by rw [inR_i64]; omega, ?_⟩
  by_cases hj : j < w.length
  · rw [if_pos hj] at t3
    refine hH.weak ⟨[(14, .ref 1 0), (15, .lit true)], [(1, .box 66 (dA rdT ([], (3 : Int)) .nil))], 2⟩ 2 ?_ ?_
    · dsimp only [go_sem]
      rw [t3]
      simp [hj]
    · refine hH.go [] 100 _ _ ?_
      dsimp only [go_sem]
      exact ⟨by decide, rfl, trivial⟩
  · rw [if_neg hj] at t3
    refine hH.weak ⟨[(14, .ref 1 0), (15, .lit false)], [(1, .box 66 (dA rdT ([], (0 : Int)) .nil))], 2⟩ 2 ?_ ?_
    · dsimp only [go_sem]
      rw [t3]
      simp
      omega
    · refine hH.go [] 100 _ _ ?_
      dsimp only [go_sem]
      exact ⟨by decide, fun h => h, by decide, trivial⟩
end Go.Proofs.Ytadoinponngdiaa.Gx
