/-
  Hierarchy: components.
-/
import Derived.Test.YtfidddcjieoblaaH6
import Derived.Test.YtfidddcjieoblaaHP
namespace Go.Proofs.Ytfidddcjieoblaa.Gx
open Go Go.RowKit Tw B Nt
set_option linter.unusedVariables false
set_option linter.unusedSimpArgs false
set_option maxHeartbeats 4000000
set_option maxRecDepth 20000
def idP (n : Nat) : List Int := (List.range n).map fun k : Nat => (k : Int)
def conA (p l : List Int) : List Int := con p l l.length
def stepN (l : List Atom) (p : List Int) (nm : Str) : List Int := conA p (occs l nm)
def stepC (l : List Atom) (p : List Int) (k : Cmp) : List Int := if k.2.1.1 ≠ [] ∧ k.2.2.1 ≠ [] then conA p (occs l k.2.1.1 ++ occs l k.2.2.1) else p
def parN (c : Cq) (k : Nat) : List Int := ((vrs (trm c)).take k).foldl (stepN c.1) (idP c.1.length)
def parC (c : Cq) (k : Nat) : List Int := (c.2.take k).foldl (stepC c.1) (parN c (vrs (trm c)).length)
def memS (s : List Int × List (List Int)) (i : Nat) : List Int × List (List Int) :=
  let x := find s.1 i
  let y := find x.1 i
  (y.1, s.2.set x.2.toNat (s.2.getD y.2.toNat [] ++ [(i : Int)]))
def mems (p : List Int) (n k : Nat) : List Int × List (List Int) := (List.range k).foldl memS (p, List.replicate n [])
def comps (c : Cq) : List (List Int) := kept (mems (parC c c.2.length) c.1.length c.1.length).2
theorem idP_len (n : Nat) : (idP n).length = n := by simp [idP]
theorem idP_wf (n : Nat) : wfP (idP n) := by
  intro k hk
  rw [idP_len] at hk
  have : (idP n).getD k 0 = (k : Int) := by
    unfold idP
    rw [List.getD_eq_getElem?_getD, List.getElem?_map, List.getElem?_range hk]
    rfl
  rw [this]
  exact ⟨Int.natCast_nonneg _, Int.le_refl _⟩
theorem occs_in (l : List Atom) (nm : Str) : inP' l.length (occs l nm) := by
  intro x hx
  unfold occs at hx
  split at hx
  · cases hx
  · unfold occ at hx
    obtain ⟨y, hy, rfl⟩ := List.mem_map.1 hx
    have := List.mem_range.1 (List.mem_filter.1 hy).1
    exact ⟨Int.natCast_nonneg _, Int.ofNat_lt.2 this⟩
theorem occs_len (l : List Atom) (nm : Str) : (occs l nm).length ≤ l.length := by
  unfold occs
  split
  · exact Nat.zero_le _
  · exact occ_len _ _ _
theorem conA_spec {n : Nat} {p l : List Int} (hw : wfP p) (hn : p.length = n) (hl : inP' n l) : wfP (conA p l) ∧ (conA p l).length = n := by
  subst hn
  exact con_spec hw hl _ (Nat.le_refl _)
theorem parN_succ {c : Cq} {k : Nat} (h : k < (vrs (trm c)).length) : parN c (k + 1) = conA (parN c k) (occs c.1 ((vrs (trm c)).getD k [])) := by
  unfold parN
  rw [take_snoc [] h, List.foldl_append]
  rfl
theorem parC_succ {c : Cq} {k : Nat} (h : k < c.2.length) : parC c (k + 1) = stepC c.1 (parC c k) (c.2.getD k (zd cmpT)) := by
  unfold parC
  rw [take_snoc (zd cmpT) h, List.foldl_append]
  rfl
theorem parN_spec (c : Cq) : ∀ k, k ≤ (vrs (trm c)).length → wfP (parN c k) ∧ (parN c k).length = c.1.length
  | 0, _ => ⟨idP_wf _, idP_len _⟩
  | k + 1, h => by
    obtain ⟨h1, h2⟩ := parN_spec c k (by omega)
    rw [parN_succ h]
    exact conA_spec h1 h2 (occs_in _ _)
theorem inP'_app {n : Nat} {a b : List Int} (ha : inP' n a) (hb : inP' n b) : inP' n (a ++ b) := by
  intro x hx
  rcases List.mem_append.1 hx with h | h
  · exact ha x h
  · exact hb x h
theorem stepC_spec {n : Nat} {l : List Atom} {p : List Int} {k : Cmp} (hw : wfP p) (hn : p.length = l.length) : wfP (stepC l p k) ∧ (stepC l p k).length = l.length := by
  unfold stepC
  split
  · exact conA_spec hw hn (inP'_app (occs_in _ _) (occs_in _ _))
  · exact ⟨hw, hn⟩
theorem parC_spec (c : Cq) : ∀ k, k ≤ c.2.length → wfP (parC c k) ∧ (parC c k).length = c.1.length
  | 0, _ => parN_spec c _ (Nat.le_refl _)
  | k + 1, h => by
    obtain ⟨h1, h2⟩ := parC_spec c k (by omega)
    rw [parC_succ h]
    exact stepC_spec (n := 0) h1 h2
theorem mems_succ (p : List Int) (n k : Nat) : mems p n (k + 1) = memS (mems p n k) k := by
  unfold mems
  rw [List.range_succ, List.foldl_append]
  rfl
theorem memS_spec {n : Nat} {s : List Int × List (List Int)} {i : Nat} (hw : wfP s.1) (h1 : s.1.length = n) (h2 : s.2.length = n) (h3 : ∀ j, (s.2.getD j []).length ≤ i) (hi : i < n) : wfP (memS s i).1 ∧ (memS s i).1.length = n ∧ (memS s i).2.length = n ∧ ∀ j, ((memS s i).2.getD j []).length ≤ i + 1 := by
  obtain ⟨r1, r2, r3, r4, r5⟩ := find_spec (i := (i : Int)) hw (Int.natCast_nonneg _) (by rw [h1]; omega)
  obtain ⟨t1, t2, t3, t4, t5⟩ := find_spec (i := (i : Int)) r1 (Int.natCast_nonneg _) (by rw [r2, h1]; omega)
  unfold memS
  dsimp only
  refine ⟨t1, by rw [t2, r2, h1], by rw [List.length_set]; exact h2, fun j => ?_⟩
  rw [List.getD_eq_getElem?_getD, List.getElem?_set]
  split
  · split
    · have := h3 (find (find s.1 i).1 i).2.toNat
      simp only [Option.getD_some, List.length_append, List.length_singleton]
      omega
    · simp
  · have := h3 j
    rw [List.getD_eq_getElem?_getD] at this
    omega
theorem mems_spec {n : Nat} {p : List Int} (hw : wfP p) (h1 : p.length = n) : ∀ k, k ≤ n → wfP (mems p n k).1 ∧ (mems p n k).1.length = n ∧ (mems p n k).2.length = n ∧ ∀ j, ((mems p n k).2.getD j []).length ≤ k
  | 0, _ => ⟨hw, h1, List.length_replicate, fun j => by
      show ((List.replicate n ([] : List Int)).getD j []).length ≤ 0
      rw [List.getD_eq_getElem?_getD, List.getElem?_replicate]
      split <;> simp⟩
  | k + 1, h => by
    obtain ⟨q1, q2, q3, q4⟩ := mems_spec hw h1 k (by omega)
    rw [mems_succ]
    exact memS_spec q1 q2 q3 q4 h
@[go_sem] noncomputable def EH13 : Env := (EH12).addM 21 dlM
theorem EH13_ok : EH13.Ok := (EH12_ok).addM dlM_ok
@[go_sem] def cmpS : Spec := ⟨[cqT], fun d => (.dat (.slice (.slice (.int .i64))) (comps d.1), [cqP d.1])⟩
theorem cmp_ok : SpecOk Try.prog 11 cmpS := by
  refine fn_ok EH13_ok cmpS Try.func11 rfl (by decide) (N := 101) rfl (res := [.tmp 2]) rfl (by decide) [(12, [(40, .ow)]), (18, [(70, .dt), (72, .ow), (1000000, .mx [])]), (20, [(77, .ns)]), (24, [(87, .ow), (91, .ow), (95, .dt), (96, .ns), (1000000, .mx [(5, 3), (6, 3), (10, 3), (11, 3), (0, 1000000), (4, 1000000)])]), (26, [(100, .ow)])] [] [26] 100 (by kernel_rfl) ?_
  rintro ⟨c, _⟩ hw hp
  refine ⟨rfl, fun H hH => ?_⟩
  dsimp only [go_sem] at hw hp ⊢
  obtain ⟨hp, -⟩ := hp
  have hln := Nat.le_trans (vrs_len (trm c)) (trm_len hp)
  have hN := parN_spec c
  have hNs := @parN_succ c
  have hC := parC_spec c
  have hCs := @parC_succ c
  have hC0 : parC c 0 = parN c (vrs (trm c)).length := rfl
  have hfin : comps c = kept (mems (parC c c.2.length) c.1.length c.1.length).2 := rfl
  have hN0 : parN c 0 = idP c.1.length := rfl
  have hp0 := hp
  obtain ⟨hp1, hp2, hp3⟩ := hp
  generalize en : vrs (trm c) = nm at hln hN hNs hC0
  generalize parN c = pN at hN hNs hC0 hN0
  generalize parC c = pC at hC hCs hC0 hfin
  obtain ⟨l, cs⟩ := c
  change List Atom at l
  change List Cmp at cs
  change List.length l ≤ 1000 at hp1
  change List.length cs ≤ 1000 at hp3
  dsimp only at hN hNs hC hCs hfin hN0
  clear hw
  simp only [Int.toNat_natCast]
  have hn8 : (0 : Int) ≤ (l.length : Int) ∧ (l.length : Int) ≤ (l.length : Int) ∧ (8 : Int) * (l.length : Int) ≤ 140737488355328 := by omega
  refine ⟨hn8, ?_⟩
  have hz0 : zd (.int .i64) = (0 : Int) := rfl
  have hid : ∀ i, i < l.length → (idP i ++ List.replicate (l.length - i) (0 : Int)).set i (i : Int) = idP (i + 1) ++ List.replicate (l.length - (i + 1)) 0 := by
    intro i hi
    obtain ⟨q, hq⟩ : ∃ q, l.length - i = q + 1 := ⟨l.length - i - 1, by omega⟩
    have hq' : l.length - (i + 1) = q := by omega
    have hlen := idP_len i
    rw [hq, hq', List.set_append, if_neg (by omega), hlen, Nat.sub_self, List.replicate_succ, List.set_cons_zero]
    unfold idP
    rw [List.range_succ, List.map_append, List.append_assoc]
    rfl
  refine hH.loop (fun i : Nat => ⟨[(19, .dat (.int .i64) (i : Int)), (18, .dat (.int .i64) (List.length l : Int)), (3, .ref 2 0), (1, .ref 0 0)], [(2, .box 22 (.cons (.own 1) .nil)), (1, .row 3 (.int .i64) (idP i ++ List.replicate (l.length - i) (0 : Int))), (0, .box 26 (.cons (.dat (.slice atomT) l) (.cons (.dat (.slice cmpT) cs) .nil)))], 3⟩) (fun i => i ≤ l.length) (fun i => l.length - i) 0 3 (Nat.zero_le _) ?_ ?_
  · dsimp only [go_sem]
    rw [List.length_replicate]
    and_intros <;> first | trivial | rfl | omega
  · intro i hi R hm
    have hll : (idP i ++ List.replicate (l.length - i) (0 : Int)).length = l.length := by rw [List.length_append, idP_len, List.length_replicate]; omega
    refine hH.run 100 _ _ ?_
    dsimp only [go_sem]
    simp only [Int.toNat_natCast]
    refine ⟨fun d => ?_, fun d => ?_⟩ <;> simp only [decide_eq_true_eq, decide_eq_false_iff_not] at d
    · have d : i < l.length := by omega
      have hi1 : inR .i64 ((i : Int) + 1) := by rw [inR_i64]; omega
      have hb : (0 : Int) ≤ (i : Int) ∧ (i : Int) < ((idP i ++ List.replicate (l.length - i) (0 : Int)).length : Int) := by rw [hll]; omega
      refine ⟨hb, by rw [hll]; exact d, hi1, hm _ (i + 1) 3 d (by omega) ?_⟩
      dsimp only [go_sem]
      rw [hid i d]
      and_intros <;> first | trivial | rfl | omega
    · have d : i = l.length := by omega
      subst d
      rw [Nat.sub_self, List.replicate_zero, List.append_nil, ← hN0]
      clear hm hll
      refine ⟨hp0, ?_⟩
      rw [en]
      refine HOk.loop (by assumption) (fun k : Nat => ⟨[(32, .dat (.int .i64) (k : Int)), (31, .dat (.int .i64) (List.length nm : Int)), (30, .dat (.slice .str) nm), (6, .clo 19 (.cons (.ref 3 0) (.cons (.ref 2 0) .nil))), (5, .ref 3 0), (3, .ref 2 0), (1, .ref 0 0)], [(3, .box 60 (.cons (.clo 18 (.cons (.ref 2 0) .nil)) .nil)), (2, .box 22 (.cons (.own 1) .nil)), (1, .row 3 (.int .i64) (pN k)), (0, .box 26 (.cons (.dat (.slice atomT) l) (.cons (.dat (.slice cmpT) cs) .nil)))], 4⟩) (fun k => k ≤ nm.length) (fun k => nm.length - k) 0 4 (Nat.zero_le _) ?_ ?_
      · dsimp only [go_sem]
        and_intros <;> first | trivial | rfl | omega
      · intro k hk R hm
        refine hH.run 100 _ _ ?_
        dsimp only [go_sem]
        simp only [Int.toNat_natCast]
        refine ⟨fun d => ?_, fun d => ?_⟩ <;> simp only [decide_eq_true_eq, decide_eq_false_iff_not] at d
        · have d : k < nm.length := by omega
          have hi1 : inR .i64 ((k : Int) + 1) := by rw [inR_i64]; omega
          obtain ⟨w1, w2⟩ := hN k hk
          have ho := occs_in l (nm.getD k [])
          have hol := occs_len l (nm.getD k [])
          have hg : nm.getD k (zd .str) = nm.getD k [] := rfl
          rw [hg]
          refine ⟨⟨Int.natCast_nonneg _, Int.ofNat_lt.2 d⟩, hp0, ⟨w1, by rw [w2]; exact ho, by omega⟩, hi1, hH.ren [(0, 0), (1, 4), (2, 2), (3, 3)] 4 rfl rfl (Nat.zero_le _) rfl ?_⟩
          dsimp only [go_sem]
          refine hm _ (k + 1) 4 d (by omega) ?_
          dsimp only [go_sem]
          rw [hNs d]
          and_intros <;> first | trivial | rfl | omega
        · have d : k = nm.length := by omega
          subst d
          rw [← hC0]
          clear hm
          refine HOk.loop (by assumption) (fun k : Nat => ⟨[(45, .dat (.int .i64) (k : Int)), (44, .dat (.int .i64) (List.length cs : Int)), (43, .dat (.slice cmpT) cs), (6, .clo 19 (.cons (.ref 3 0) (.cons (.ref 2 0) .nil))), (5, .ref 3 0), (3, .ref 2 0), (1, .ref 0 0)], [(3, .box 60 (.cons (.clo 18 (.cons (.ref 2 0) .nil)) .nil)), (2, .box 22 (.cons (.own 1) .nil)), (1, .row 3 (.int .i64) (pC k)), (0, .box 26 (.cons (.dat (.slice atomT) l) (.cons (.dat (.slice cmpT) cs) .nil)))], 4⟩) (fun k => k ≤ cs.length) (fun k => cs.length - k) 0 4 (Nat.zero_le _) ?_ ?_
          · dsimp only [go_sem]
            and_intros <;> first | trivial | rfl | omega
          · intro k hk R hm
            refine hH.run 100 _ _ ?_
            dsimp only [go_sem]
            simp only [Int.toNat_natCast]
            refine ⟨fun d => ?_, fun d => ?_⟩ <;> simp only [decide_eq_true_eq, decide_eq_false_iff_not] at d
            · have d : k < cs.length := by omega
              have hi1 : inR .i64 ((k : Int) + 1) := by rw [inR_i64]; omega
              obtain ⟨w1, w2⟩ := hC k hk
              have hcs := hCs d
              unfold stepC at hcs
              have o1 := occs_in l (cs.getD k (zd cmpT)).2.1.1
              have o2 := occs_in l (cs.getD k (zd cmpT)).2.2.1
              have n1 := occs_len l (cs.getD k (zd cmpT)).2.1.1
              have n2 := occs_len l (cs.getD k (zd cmpT)).2.2.1
              have hb1 : (0 : Int) ≤ (k : Int) ∧ (k : Int) < (cs.length : Int) := by omega
              have hfl : ([occs l (cs.getD k (zd cmpT)).2.1.1, occs l (cs.getD k (zd cmpT)).2.2.1] : List (List Int)).flatten = occs l (cs.getD k (zd cmpT)).2.1.1 ++ occs l (cs.getD k (zd cmpT)).2.2.1 := by simp
              have hF : ([occs l (cs.getD k (zd cmpT)).2.1.1, occs l (cs.getD k (zd cmpT)).2.2.1] : List (List Int)).flatten.length ≤ 2000000 := by rw [hfl, List.length_append]; omega
              have hI : inP' (pC k).length ([occs l (cs.getD k (zd cmpT)).2.1.1, occs l (cs.getD k (zd cmpT)).2.2.1] : List (List Int)).flatten := by rw [hfl, w2]; exact inP'_app o1 o2
              refine ⟨hb1, fun h => h, fun h => h, fun h => h, fun h => h, fun h => ?_, fun h => ?_⟩
              · simp only [Bool.and_eq_true, decide_eq_true_eq] at h
                have h : (cs.getD k (zd cmpT)).2.1.1 ≠ [] ∧ (cs.getD k (zd cmpT)).2.2.1 ≠ [] := h
                rw [if_pos h, ← hfl] at hcs
                refine ⟨hp0, hp0, by show 2 ≤ 1000000; decide, hF, ⟨w1, hI, hF⟩, hi1, hH.ren [(0, 0), (1, 5), (2, 2), (3, 3)] 4 rfl rfl (Nat.zero_le _) rfl ?_⟩
                dsimp only [go_sem]
                refine hm _ (k + 1) 4 d (by omega) ?_
                dsimp only [go_sem]
                rw [hcs]
                and_intros <;> first | trivial | rfl | omega
              · simp only [Bool.and_eq_false_iff, decide_eq_false_iff_not] at h
                have h : ¬ (cs.getD k (zd cmpT)).2.1.1 ≠ [] ∨ ¬ (cs.getD k (zd cmpT)).2.2.1 ≠ [] := h
                rw [if_neg (by rintro ⟨h1, h2⟩; rcases h with h | h; exact h h1; exact h h2)] at hcs
                refine ⟨hi1, hm _ (k + 1) 4 d (by omega) ?_⟩
                dsimp only [go_sem]
                rw [hcs]
                and_intros <;> first | trivial | rfl | omega
            · have d : k = cs.length := by omega
              subst d
              obtain ⟨w1, w2⟩ := hC _ hk
              clear hm
              generalize pC cs.length = P at w1 w2 hfin ⊢
              have hmm := fun i hi => mems_spec (n := l.length) w1 w2 i hi
              have hms := fun i => mems_succ P l.length i
              have hn24 : (0 : Int) ≤ (l.length : Int) ∧ (l.length : Int) ≤ (l.length : Int) ∧ (24 : Int) * (l.length : Int) ≤ 140737488355328 := by omega
              refine ⟨hn24, ?_⟩
              have hm0 : mems P l.length 0 = (P, List.replicate l.length []) := rfl
              refine HOk.loop (by assumption) (fun i : Nat => ⟨[(81, .dat (.int .i64) (i : Int)), (80, .dat (.int .i64) (List.length l : Int)), (11, .sli 4 l.length), (5, .ref 3 0), (3, .ref 2 0), (1, .ref 0 0)], [(3, .box 60 (.cons (.clo 18 (.cons (.ref 2 0) .nil)) .nil)), (2, .box 22 (.cons (.own 1) .nil)), (1, .row 3 (.int .i64) (mems P l.length i).1), (0, .box 26 (.cons (.dat (.slice atomT) l) (.cons (.dat (.slice cmpT) cs) .nil))), (4, .nrow 22 false 5 none), (5, .bag 3 (.int .i64) (mems P l.length i).2)], 6⟩) (fun i => i ≤ l.length) (fun i => l.length - i) 0 6 (Nat.zero_le _) ?_ ?_
              · dsimp only [go_sem]
                and_intros <;> first | trivial | rfl | omega
              · intro i hi R hm
                refine hH.run 100 _ _ ?_
                dsimp only [go_sem]
                simp only [Int.toNat_natCast]
                refine ⟨fun d => ?_, fun d => ?_⟩ <;> simp only [decide_eq_true_eq, decide_eq_false_iff_not] at d
                · have d : i < l.length := by omega
                  have hi1 : inR .i64 ((i : Int) + 1) := by rw [inR_i64]; omega
                  obtain ⟨m1, m2, m3, m4⟩ := hmm i hi
                  have hms := hms i
                  unfold memS at hms
                  dsimp only at hms
                  have i0 : (0 : Int) ≤ (i : Int) := Int.natCast_nonneg _
                  have i1 : (i : Int) < ((mems P l.length i).1.length : Int) := by rw [m2]; omega
                  have hb : (0 : Int) ≤ (i : Int) ∧ (i : Int) < (l.length : Int) := by omega
                  have ff := find_find m1 i0 i1
                  obtain ⟨r1, r2, r3, r4, r5⟩ := find_spec m1 i0 i1
                  generalize mems P l.length i = S at m1 m2 m3 m4 hms i1 ff r1 r2 r3 r4 ⊢
                  generalize find S.1 i = x at hms ff r1 r2 r3 r4 ⊢
                  have i2 : (i : Int) < (x.1.length : Int) := by rw [r2]; exact i1
                  generalize find x.1 i = y at hms ff ⊢
                  have hx : (0 : Int) ≤ x.2 ∧ x.2 < (l.length : Int) := by omega
                  have hg8 : ∀ z : List Int, z.length ≤ 1000 → (z.length + ([(i : Int)] : List Int).length) * 8 ≤ 140737488355328 := fun z h => by simp only [List.length_cons, List.length_nil]; omega
                  have hzl : (S.2.getD x.2.toNat []).length ≤ 1000 := Nat.le_trans (m4 _) (by omega)
                  rw [ff] at hms ⊢
                  refine ⟨⟨m1, i0, i1⟩, ⟨r1, i0, i2⟩, hx, by rw [m3]; omega, hg8 _ hzl, trivial, hx, ⟨rfl, trivial⟩, hi1, hH.ren [(0, 0), (1, 7), (2, 2), (3, 3), (4, 4), (5, 8)] 6 rfl rfl (Nat.zero_le _) rfl ?_⟩
                  dsimp only [go_sem]
                  refine hm _ (i + 1) 6 d (by omega) ?_
                  dsimp only [go_sem]
                  rw [hms]
                  and_intros <;> first | trivial | rfl | omega
                · have d : i = l.length := by omega
                  subst d
                  obtain ⟨m1, m2, m3, m4⟩ := hmm _ hi
                  refine hH.unbag 4 rfl ?_
                  refine hH.go [] 100 _ _ ?_
                  dsimp only [go_sem]
                  exact ⟨by rw [m3]; exact hp1, hfin.symm, trivial⟩
end Go.Proofs.Ytfidddcjieoblaa.Gx
