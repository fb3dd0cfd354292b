/-
  Components partition the atoms; they share no variable; a CQ is hierarchical exactly if its components are.
-/
import Derived.Test.YtfidddcjieoblaaHE
import Derived.Test.YtfidddcjieoblaaHR
namespace Go.Proofs.Ytfidddcjieoblaa.Gx
open Go Go.RowKit Tw B Nt
set_option linter.unusedVariables false
set_option linter.unusedSimpArgs false
set_option maxHeartbeats 4000000
set_option maxRecDepth 20000
theorem split_at {α : Type} (d : α) {l : List α} {k : Nat} (h : k < l.length) : l = l.take k ++ l.getD k d :: l.drop (k + 1) := by
  have e : l.getD k d = l[k] := by rw [List.getD_eq_getElem?_getD, List.getElem?_eq_getElem h]; rfl
  rw [e, List.getElem_cons_drop, List.take_append_drop]
theorem fresh_at {P : List (List Int)} (h : P.flatten.Pairwise (· ≠ ·)) {i k : Nat} (hi : i < P.length) (hk : k < (P.getD i []).length) : ∀ x ∈ (P.take i).flatten ++ (P.getD i []).take k, x ≠ (P.getD i []).getD k 0 := by
  have e : P.flatten = ((P.take i).flatten ++ (P.getD i []).take k) ++ (P.getD i []).getD k 0 :: ((P.getD i []).drop (k + 1) ++ (P.drop (i + 1)).flatten) := by
    have e1 := congrArg List.flatten (split_at [] hi)
    rw [List.flatten_append, List.flatten_cons] at e1
    have e2 := split_at (0 : Int) hk
    rw [e1]
    generalize P.getD i [] = p at e2 ⊢
    rw [List.append_assoc]
    congr 1
    rw [← List.cons_append, ← List.append_assoc, ← e2]
  rw [e, List.pairwise_append] at h
  exact fun x hx => h.2.2 x hx _ (List.mem_cons_self ..)
theorem mkb_at {n : Nat} {os : List Int} {x : Int} (h0 : 0 ≤ x) (h1 : x < (n : Int)) (hp : ∀ y ∈ os, 0 ≤ y) : (mkb n os).getD x.toNat false = decide (x ∈ os) := by
  unfold mkb
  rw [List.getD_eq_getElem?_getD, mkb_get _ _ _ (by rw [List.length_replicate]; omega), Option.getD_some, List.getD_eq_getElem?_getD, List.getElem?_replicate, if_pos (by omega), Option.getD_some, Bool.false_or]
  by_cases hx : x ∈ os
  · rw [decide_eq_true hx, List.any_eq_true]
    exact ⟨x, hx, decide_eq_true rfl⟩
  · rw [decide_eq_false hx, List.any_eq_false]
    intro y hy e
    have := of_decide_eq_true e
    have := hp y hy
    have : y = x := by omega
    rw [this] at hy; exact hx hy
theorem mkb_app {n : Nat} {os : List Int} {x : Int} : mkb n (os ++ [x]) = (mkb n os).set x.toNat true := by
  unfold mkb; rw [List.foldl_append]; rfl
theorem comps_all (c : Cq) {i : Nat} (hi : i < c.1.length) : (i : Int) ∈ (comps c).flatten := by
  obtain ⟨h1, h2⟩ := comps_cls c hi
  exact List.mem_flatten.2 ⟨_, h1, h2⟩
theorem comps_len (c : Cq) : (comps c).length ≤ c.1.length := by
  rw [comps_eq]
  unfold kept
  refine Nat.le_trans (List.length_filter_le _ _) ?_
  rw [List.length_map, List.length_range]; exact Nat.le_refl _
theorem cls_len (p : List Int) (k r : Nat) : (cls p k r).length ≤ k := by
  unfold cls
  rw [List.length_map]
  refine Nat.le_trans (List.length_filter_le _ _) ?_
  rw [List.length_range]; exact Nat.le_refl _
/-- the CQ of a part -/
def subC (l : List Atom) (p : List Int) : Cq := (subA l p, [])
def hiB (c : Cq) : Bool := !(viR c (vio c)).2
theorem hiB_iff (c : Cq) : hiB c = true ↔ ¬ Bad c.1 := by
  rw [← bad_iff]; unfold hiB; cases (viR c (vio c)).2 <;> simp
theorem parts_all (c : Cq) : ((comps c).all fun p => hiB (subC c.1 p)) = hiB c := by
  rw [Bool.eq_iff_iff, List.all_eq_true, hiB_iff, bad_parts]
  constructor
  · rintro h ⟨p, hp, hb⟩; exact (hiB_iff _).1 (h p hp) hb
  · intro h p hp; exact (hiB_iff _).2 fun hb => h ⟨p, hp, hb⟩
theorem subC_P {c : Cq} (h : cqP c) {p : List Int} (hp : p ∈ comps c) (k : Nat) : cqP (subC c.1 (p.take k)) := by
  obtain ⟨r, _, e⟩ := comps_mem hp
  refine ⟨?_, ?_, Nat.zero_le _⟩
  · show (subA c.1 (p.take k)).length ≤ 1000
    unfold subA
    rw [List.length_map, List.length_take, e]
    have := cls_len (parF c) c.1.length r
    have := h.1
    omega
  · intro a ha
    obtain ⟨x, hx, rfl⟩ := subA_mem ha
    have := comps_bound hp (List.mem_of_mem_take hx)
    exact h.2.1 _ (getDm _ (by omega))
theorem all_snoc {α : Type} {q : α → Bool} {l : List α} {i : Nat} (d : α) (hi : i < l.length) : (l.take (i + 1)).all q = ((l.take i).all q && q (l.getD i d)) := by
  rw [take_snoc d hi, List.all_append]; simp
@[go_sem] noncomputable def EJH : Env := ((EJF).add 10 knS).add 7 buiS
theorem EJH_ok : EJH.Ok := ((EJF_ok).add kn_ok).add bui_ok
@[go_sem] def lPaS : Spec := ⟨[.slice (.int .i64)], fun d => (.dat .bool true, [])⟩
theorem lPa_ok : SpecOk Try.prog 4 lPaS := by
  refine fn_ok EJH_ok lPaS Try.func4 rfl (by decide) (N := 141) rfl (res := [.tmp 2]) rfl (by decide) [(9, [(31, .ag)]), (17, [(72, .dt)]), (19, [(82, .dt)])] [(18, [4]), (20, [1, 2])] [] 200 (by kernel_rfl) ?_
  rintro ⟨l, _⟩ hw hp
  refine ⟨rfl, fun H hH => ?_⟩
  dsimp only [go_sem] at hw hp ⊢
  clear hw hp
  change List Int at l
  have hP := bld_P l
  generalize bld l = c at hP ⊢
  have hN := hP.1
  have hbd := fun p (hp : p ∈ comps c) x (hx : x ∈ p) => comps_bound hp hx
  have hnd := comps_nd c
  have hal := @comps_all c
  have hcl := comps_len c
  have hpa := parts_all c
  have hsP := @subC_P c hP
  have hpn : ∀ p ∈ comps c, p.length ≤ 1000 := fun p hp => by
    obtain ⟨r, _, rfl⟩ := comps_mem hp
    exact Nat.le_trans (cls_len _ _ _) hN
  have hap := @parts_apart c
  simp only [Int.toNat_natCast]
  refine ⟨hP, ⟨Int.natCast_nonneg _, Int.le_refl _, by change (1 : Int) * (c.1.length : Int) ≤ _; omega⟩, ?_⟩
  generalize comps c = P at hbd hnd hal hcl hpa hsP hpn hap ⊢
  have hin : ∀ i : Nat, ∀ x ∈ (P.take i).flatten, 0 ≤ x ∧ x < (c.1.length : Int) := fun i x hx => by
    obtain ⟨p, hp, hx⟩ := List.mem_flatten.1 hx
    exact hbd p (List.mem_of_mem_take hp) x hx
  have hzb : zd .bool = false := rfl
  refine hH.loop (fun i : Nat => ⟨[(8, .dat (.int .i64) (i : Int)), (3, .ref 0 0), (4, .dat (.slice (.slice (.int .i64))) P), (5, .own 1), (6, .dat .bool ((P.take i).all fun p => hiB (subC c.1 p))), (7, .own 2)], [(0, .box 26 (.cons (.dat (.slice atomT) c.1) (.cons (.dat (.slice cmpT) c.2) .nil))), (1, .row 4 .bool (mkb c.1.length (P.take i).flatten)), (2, .row 26 cqT ((P.take i).map (subC c.1)))], 3⟩) (fun i => i ≤ P.length) (fun i => P.length - i) 0 2 (Nat.zero_le _) ?_ ?_
  · dsimp only [go_sem]
    and_intros <;> first | trivial | rfl | omega
  · intro i hi R hm
    refine hH.run 200 _ _ ?_
    dsimp only [go_sem]
    refine ⟨fun d => ?_, fun d => ?_⟩ <;> simp only [decide_eq_true_eq, decide_eq_false_iff_not] at d
    · have d : i < P.length := by omega
      refine HOk.loop (by assumption) (fun k : Nat => ⟨[(10, .dat (.int .i64) (k : Int)), (9, .ref 3 0), (8, .dat (.int .i64) (i : Int)), (3, .ref 0 0), (4, .dat (.slice (.slice (.int .i64))) P), (5, .own 1), (6, .dat .bool ((P.take i).all fun p => hiB (subC c.1 p))), (7, .own 2)], [(3, .box 26 (.cons (.own 4) (.cons (.val (.slice none 0 0)) .nil))), (4, .row 41 atomT (subA c.1 ((P.getD i []).take k))), (0, .box 26 (.cons (.dat (.slice atomT) c.1) (.cons (.dat (.slice cmpT) c.2) .nil))), (1, .row 4 .bool (mkb c.1.length ((P.take i).flatten ++ (P.getD i []).take k))), (2, .row 26 cqT ((P.take i).map (subC c.1)))], 5⟩) (fun k => k ≤ (P.getD i []).length) (fun k => (P.getD i []).length - k) 0 4 (Nat.zero_le _) ?_ ?_
      · dsimp only [go_sem]
        rw [List.take_zero, List.append_nil]
        and_intros <;> first | trivial | rfl | omega
      · intro k hk R2 hm2
        refine hH.run 200 _ _ ?_
        dsimp only [go_sem]
        simp only [Int.toNat_natCast]
        have hz1 : zd (.slice (.int .i64)) = ([] : List Int) := rfl
        have hz2 : zd (.int .i64) = (0 : Int) := rfl
        have gi := getDm [] d
        simp only [hz1, hz2, hzb, mkb_len]
        refine ⟨⟨Int.natCast_nonneg _, Int.ofNat_lt.2 d⟩, fun e => ?_, fun e => ?_⟩ <;> simp only [decide_eq_true_eq, decide_eq_false_iff_not] at e
        · have e : k < (P.getD i []).length := by omega
          have hx := hbd _ gi _ (getDm 0 e)
          have hfr := fresh_at hnd d e
          have hsn := take_snoc (0 : Int) e
          have hps : ∀ y ∈ (P.take i).flatten ++ (P.getD i []).take k, 0 ≤ y := fun y hy => by
            rcases List.mem_append.1 hy with h | h
            · exact (hin i y h).1
            · exact (hbd _ gi _ (List.mem_of_mem_take h)).1
          have e3 := mkb_at hx.1 hx.2 hps
          rw [decide_eq_false (fun h => hfr _ h rfl)] at e3
          have hap2 := mkb_app (n := c.1.length) (os := (P.take i).flatten ++ (P.getD i []).take k) (x := (P.getD i []).getD k 0)
          rw [List.append_assoc, ← hsn] at hap2
          have hpl := (hsP gi k).1
          have e1 : decide ((P.getD i []).getD k 0 < 0) = false := decide_eq_false (by omega)
          have e2 : decide ((c.1.length : Int) ≤ (P.getD i []).getD k 0) = false := decide_eq_false (by omega)
          have hsub : subA c.1 ((P.getD i []).take (k + 1)) = subA c.1 ((P.getD i []).take k) ++ [c.1.getD ((P.getD i []).getD k 0).toNat ([], false, [])] := by
            unfold subA; rw [hsn, List.map_append]; rfl
          have hik : inR .i64 ((k : Int) + 1) := by
            have := hpn _ gi
            rw [inR_i64]; omega
          have hcap : ∀ a : Atom, ((subA c.1 ((P.getD i []).take k)).length + ([a] : List Atom).length) * 48 ≤ 140737488355328 := fun a => by
            have hpl : (subA c.1 ((P.getD i []).take k)).length ≤ 1000 := hpl
            rw [List.length_singleton]; omega
          generalize hx0 : (P.getD i []).getD k 0 = x at *
          simp only [e1, e2, e3, Bool.or_false, imp_self, imp2, true_and, and_true]
          refine ⟨⟨Int.natCast_nonneg _, Int.ofNat_lt.2 d⟩, ⟨Int.natCast_nonneg _, Int.ofNat_lt.2 e⟩, fun _ => hx, fun _ => by omega, fun _ => ⟨hx, by omega, hx, hcap _, hik, hm2 _ (k + 1) 5 e (by omega) ?_⟩⟩
          dsimp only [go_sem]
          rw [hap2, hsub]
          and_intros <;> first | trivial | rfl | omega
        · have e : k = (P.getD i []).length := by omega
          subst e
          rw [List.take_length]
          have hs1 := all_snoc (q := fun p => hiB (subC c.1 p)) [] d
          have hs2 : (P.take (i + 1)).map (subC c.1) = (P.take i).map (subC c.1) ++ [subC c.1 (P.getD i [])] := by rw [take_snoc [] d, List.map_append]; rfl
          have hs3 : (P.take (i + 1)).flatten = (P.take i).flatten ++ P.getD i [] := fsnoc d
          have hcq := hsP gi (P.getD i []).length
          rw [List.take_length] at hcq
          refine ⟨fun h => h, fun _ => hcq, fun h => h, ?_, trivial, by rw [inR_i64]; omega, hm _ (i + 1) 3 d (by omega) ?_⟩
          · change (((P.take i).map (subC c.1)).length + 1) * 48 ≤ _
            rw [List.length_map, List.length_take]; omega
          dsimp only [go_sem]
          rw [hs1, hs2, hs3]
          and_intros <;> first | trivial | rfl | omega
    · have d : i = P.length := by omega
      subst d
      rw [List.take_length, hpa]
      clear hm
      have hsl : (mkb c.1.length P.flatten).length = c.1.length := mkb_len _ _
      have hst : ∀ j, j < c.1.length → (mkb c.1.length P.flatten).getD j false = true := fun j hj => by
        have := mkb_at (n := c.1.length) (os := P.flatten) (x := (j : Int)) (Int.natCast_nonneg _) (by omega) (fun y hy => by
          obtain ⟨p, hp, hy⟩ := List.mem_flatten.1 hy
          exact (hbd p hp y hy).1)
        rw [decide_eq_true (hal hj), Int.toNat_natCast] at this
        exact this
      generalize mkb c.1.length P.flatten = S at hsl hst ⊢
      refine HOk.loop (by assumption) (fun i : Nat => ⟨[(12, .dat (.int .i64) (i : Int)), (3, .ref 0 0), (5, .dat (.slice .bool) S), (6, .dat .bool (hiB c)), (7, .dat (.slice cqT) (P.map (subC c.1)))], [(0, .box 26 (.cons (.dat (.slice atomT) c.1) (.cons (.dat (.slice cmpT) c.2) .nil)))], 1⟩) (fun i => i ≤ c.1.length) (fun i => c.1.length - i) 0 1 (Nat.zero_le _) ?_ ?_
      · dsimp only [go_sem]
        and_intros <;> first | trivial | rfl | omega
      · intro i hi R hm
        refine hH.run 200 _ _ ?_
        dsimp only [go_sem]
        rw [hsl]
        simp only [Int.toNat_natCast, hzb]
        refine ⟨fun d => ?_, fun d => ?_⟩ <;> simp only [decide_eq_true_eq, decide_eq_false_iff_not] at d
        · have d : i < c.1.length := by omega
          have e := hst i d
          rw [e]
          refine ⟨⟨Int.natCast_nonneg _, Int.ofNat_lt.2 d⟩, fun h => (by cases h), fun _ => ⟨by rw [inR_i64]; omega, hm _ (i + 1) 1 d (by omega) ?_⟩⟩
          dsimp only [go_sem]
          and_intros <;> first | trivial | rfl | omega
        · clear hm
          refine HOk.loop (by assumption) (fun i : Nat => ⟨[(13, .dat (.int .i64) (i : Int)), (3, .ref 0 0), (6, .dat .bool (hiB c)), (7, .dat (.slice cqT) (P.map (subC c.1)))], [(0, .box 26 (.cons (.dat (.slice atomT) c.1) (.cons (.dat (.slice cmpT) c.2) .nil)))], 1⟩) (fun i => i ≤ P.length) (fun i => P.length - i) 0 1 (Nat.zero_le _) ?_ ?_
          · dsimp only [go_sem]
            and_intros <;> first | trivial | rfl | omega
          · intro i hi R hm
            have hml : (P.map (subC c.1)).length = P.length := List.length_map _
            have hmg : ∀ k, k < P.length → (P.map (subC c.1)).getD k (zd cqT) = subC c.1 (P.getD k []) := fun k hk => by
              rw [List.getD_eq_getElem?_getD, List.getElem?_map, List.getElem?_eq_getElem hk, List.getD_eq_getElem?_getD, List.getElem?_eq_getElem hk]; rfl
            have hmc : ∀ k, k < P.length → cqP (subC c.1 (P.getD k [])) := fun k hk => by
              have := hsP (getDm [] hk) (P.getD k []).length
              rw [List.take_length] at this
              exact this
            refine hH.run 200 _ _ ?_
            dsimp only [go_sem]
            rw [hml]
            simp only [Int.toNat_natCast]
            refine ⟨fun d => ?_, fun d => ?_⟩ <;> simp only [decide_eq_true_eq, decide_eq_false_iff_not] at d
            · have d : i < P.length := by omega
              have hci := hmc i d
              rw [hmg i d]
              refine ⟨⟨Int.natCast_nonneg _, Int.ofNat_lt.2 d⟩, hci, ?_⟩
              have hvl := Nat.le_trans (vrs_len (trm (subC c.1 (P.getD i [])))) (trm_len hci)
              have hap := fun k hk => @hap i k d hk
              generalize hV : vrs (trm (subC c.1 (P.getD i []))) = V at hvl ⊢
              have hap : ∀ k, k < P.length → i ≠ k → ∀ j, j < V.length → occs (subC c.1 (P.getD k [])).1 (V.getD j []) = [] := fun k hk hne j hj => hap k hk hne (by
                have := getDm [] hj
                rw [← hV] at this
                rw [← hV]
                exact this)
              change List Str at V
              refine HOk.loop (by assumption) (fun k : Nat => ⟨[(15, .dat (.int .i64) (k : Int)), (14, .dat (.slice .str) V), (13, .dat (.int .i64) (i : Int)), (3, .ref 0 0), (6, .dat .bool (hiB c)), (7, .dat (.slice cqT) (P.map (subC c.1)))], [(0, .box 26 (.cons (.dat (.slice atomT) c.1) (.cons (.dat (.slice cmpT) c.2) .nil)))], 1⟩) (fun k => k ≤ P.length) (fun k => P.length - k) 0 1 (Nat.zero_le _) ?_ ?_
              · dsimp only [go_sem]
                and_intros <;> first | trivial | rfl | omega
              · intro k hk R2 hm2
                refine hH.run 200 _ _ ?_
                dsimp only [go_sem]
                rw [hml]
                refine ⟨fun e => ?_, fun e => ?_⟩ <;> simp only [decide_eq_true_eq, decide_eq_false_iff_not] at e
                · have e : k < P.length := by omega
                  have hck := hmc k e
                  have hap := hap k e
                  refine HOk.loop (by assumption) (fun j : Nat => ⟨[(16, .dat (.int .i64) (j : Int)), (15, .dat (.int .i64) (k : Int)), (14, .dat (.slice .str) V), (13, .dat (.int .i64) (i : Int)), (3, .ref 0 0), (6, .dat .bool (hiB c)), (7, .dat (.slice cqT) (P.map (subC c.1)))], [(0, .box 26 (.cons (.dat (.slice atomT) c.1) (.cons (.dat (.slice cmpT) c.2) .nil)))], 1⟩) (fun j => j ≤ V.length) (fun j => V.length - j) 0 1 (Nat.zero_le _) ?_ ?_
                  · dsimp only [go_sem]
                    and_intros <;> first | trivial | rfl | omega
                  · intro j hj R3 hm3
                    refine hH.run 200 _ _ ?_
                    dsimp only [go_sem]
                    rw [hml]
                    simp only [Int.toNat_natCast]
                    simp only [hmg k e, imp_self, imp2, true_and, and_true]
                    refine ⟨fun g => ?_, fun g => ?_⟩ <;> simp only [decide_eq_true_eq, decide_eq_false_iff_not] at g
                    · have g : j < V.length := by omega
                      have b1 : (0 : Int) ≤ (k : Int) ∧ (k : Int) < (P.length : Int) := by omega
                      have b2 : (0 : Int) ≤ (j : Int) ∧ (j : Int) < (V.length : Int) := by omega
                      have hA : decide (i ≠ k) = true → occs (subC c.1 (P.getD k [])).1 (V.getD j (zd .str)) = [] := fun h => hap (of_decide_eq_true h) j g
                      refine ⟨fun _ => b1, fun _ => b2, fun _ => hck, fun h => ?_, fun _ => ⟨by rw [inR_i64]; omega, hm3 _ (j + 1) 1 g (by omega) ?_⟩⟩
                      · exfalso
                        simp only [Bool.and_eq_true, decide_eq_true_eq] at h
                        obtain ⟨h1, h2⟩ := h
                        have : occs (subC c.1 (P.getD k [])).1 (V.getD j (zd .str)) = [] := hap (by omega) j g
                        rw [this] at h2
                        exact absurd h2 (by decide)
                      · dsimp only [go_sem]
                        and_intros <;> first | trivial | rfl | omega
                    · refine ⟨by rw [inR_i64]; omega, hm2 _ (k + 1) 1 e (by omega) ?_⟩
                      dsimp only [go_sem]
                      and_intros <;> first | trivial | rfl | omega
                · refine ⟨by rw [inR_i64]; omega, hm _ (i + 1) 1 d (by omega) ?_⟩
                  dsimp only [go_sem]
                  and_intros <;> first | trivial | rfl | omega
            · refine ⟨hP, fun h => h, ?_, trivial⟩
              unfold hiB
              simp
end Go.Proofs.Ytfidddcjieoblaa.Gx
