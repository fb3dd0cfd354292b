/-
  Worlds: First, Next, At.
-/
import Derived.Test.YthjgfppmempbkaaW2
namespace Go.Proofs.Ythjgfppmempbkaa.Gx
open Go Go.RowKit Tw B Nt
set_option linter.unusedVariables false
set_option linter.unusedSimpArgs false
set_option maxHeartbeats 4000000
set_option maxRecDepth 20000
theorem set_rep (A : List Int) (x : Int) (n : Nat) {i : Nat} (h : A.length = i) : (A ++ List.replicate (n + 1) (0 : Int)).set i x = (A ++ [x]) ++ List.replicate n 0 := by
  subst h
  rw [List.replicate_succ, List.set_append, if_neg (by omega), Nat.sub_self, List.append_assoc]
  rfl
theorem cnt_len {s : List Blk} (hs : spP s) (hl : s.length ≤ 1000) : (dg (cnt s)).length ≤ 1001 := by
  have h1 := prd_pos s
  have h2 := prd_lt s fun b hb => (hs.2 b hb).1
  have h3 := Bp_mono hl
  have h4 := Bp_strict (show 1000 < 1001 by omega)
  refine dg_len ?_ ?_
  · unfold cnt; split <;> omega
  · unfold cnt; split <;> omega
theorem drop_g {α : Type} (l : List α) (d : α) {j : Nat} (h : j < l.length) : l.drop j = l.getD j d :: l.drop (j + 1) := by
  rw [List.drop_eq_getElem_cons h, List.getD_eq_getElem?_getD, List.getElem?_eq_getElem h]; rfl
theorem nxt_drop : ∀ {j : Nat} {s : List Blk} {w v : List Int}, nxt (s.drop j) (w.drop j) = some v → nxt s w = some (w.take j ++ v)
  | 0, s, w, v, h => h
  | j + 1, [], w, v, h => by
    rw [List.drop_nil] at h
    cases h' : w.drop (j + 1) <;> rw [h'] at h <;> cases h
  | j + 1, b :: s, [], v, h => by
    rw [List.drop_nil, List.drop_succ_cons] at h
    cases h' : s.drop j <;> rw [h'] at h <;> cases h
  | j + 1, b :: s, c :: w, v, h => by
    have h : nxt (s.drop j) (w.drop j) = some v := h
    rw [nxt, nxt_drop h]
    rfl
def fsR (s : List Blk) : List Int := if vld s then fst s else []
@[go_sem] def wFsS : Spec := ⟨[spT], fun d => (.dat wdT (fsR d.1), [spP d.1])⟩
theorem wFs_ok : SpecOk Try.prog 30 wFsS := by
  refine fn_ok EW4_ok wFsS Try.func30 rfl (by decide) (N := 28) rfl (res := [.tmp 2]) rfl (by decide) [] [(9, [1])] [] 100 (by kernel_rfl) ?_
  rintro ⟨s, _⟩ hw hp
  refine ⟨rfl, fun H hH => ?_⟩
  dsimp only [go_sem] at hw hp ⊢
  obtain ⟨hs, -⟩ := hp
  have hr : fsR s = if vld s then fst s else [] := rfl
  refine ⟨hs, fun h => ?_, fun h => ?_⟩ <;> simp only [Bool.not_eq_true', Bool.not_eq_false'] at h
  · rw [hr, if_neg (by rw [h]; decide)]
    exact ⟨rfl, trivial⟩
  rw [if_pos h] at hr
  have hsl := hs.1
  refine ⟨⟨Int.natCast_nonneg _, Int.le_refl _, by show (8 : Int) * (List.length s : Int) ≤ 140737488355328; omega⟩, ?_⟩
  rw [Int.toNat_natCast]
  have hz : (zd (Ty.int IntKind.i64)) = (0 : Int) := rfl
  rw [hz]
  refine hH.loop (fun i : Nat => ⟨[(3, .own 1), (14, .dat (.slice bkT) s), (15, .dat (.int .i64) (List.length s : Int)), (16, .dat (.int .i64) (i : Int))], [(1, .row 3 (.int .i64) (fst (List.take i s) ++ List.replicate (List.length s - i) 0))], 2⟩) (fun i => i ≤ List.length s) (fun i => List.length s - i) 0 2 (Nat.zero_le _) ?_ ?_
  · dsimp only [go_sem]
    simp [fst]
  · intro i hi R hm
    refine hH.run 100 _ _ ?_
    dsimp only [go_sem]
    rw [Int.toNat_natCast]
    refine ⟨fun d => ?_, fun d => ?_⟩ <;> simp only [decide_eq_true_eq, decide_eq_false_iff_not] at d
    · have d : i < List.length s := by omega
      have hzb : List.getD s i (zd bkT) = List.getD s i [] := rfl
      rw [hzb]
      have htk := take_get s i [] d
      generalize List.getD s i [] = b at *
      have e := set_rep (fst (List.take i s)) (chc b 0) (List.length s - (i + 1)) (i := i) (by unfold fst; rw [List.length_map, len_take (by omega)])
      rw [show List.length s - (i + 1) + 1 = List.length s - i by omega] at e
      have e2 : fst (List.take (i + 1) s) = fst (List.take i s) ++ [chc b 0] := by rw [htk]; unfold fst; rw [List.map_append]; rfl
      have hlen : (fst (List.take i s) ++ List.replicate (List.length s - i) (0 : Int)).length = List.length s := by
        unfold fst; rw [List.length_append, List.length_map, len_take (by omega), List.length_replicate]; omega
      rw [hlen, e]
      have b1 : (0 : Int) ≤ (i : Int) ∧ (i : Int) < (List.length s : Int) := by omega
      refine ⟨b1, b1, d, by rw [inR_i64]; omega, hm _ (i + 1) 2 d (by omega) ?_⟩
      dsimp only [go_sem]
      rw [e2]
      simp
    · rw [List.take_of_length_le (by omega), show List.length s - i = 0 by omega, List.replicate_zero, List.append_nil]
      rw [hr]
      exact ⟨rfl, trivial⟩
def nxR (s : List Blk) (w : List Int) : List Int × Bool := if cont s w then (match nxt s w with | some v => (v, true) | none => ([], false)) else ([], false)
@[go_sem] def wNxS : Spec := ⟨[spT, wdT], fun d => (.tup (.cons (.dat wdT (nxR d.1 d.2.1).1) (.cons (.dat .bool (nxR d.1 d.2.1).2) .nil)), [spP d.1])⟩
theorem wNx_ok : SpecOk Try.prog 32 wNxS := by
  refine fn_ok EW4_ok wNxS Try.func32 rfl (by decide) (N := 52) rfl (res := [.tmp 4, .tmp 5]) rfl (by decide) [] [(11, [1])] [] 100 (by kernel_rfl) ?_
  rintro ⟨s, w, _⟩ hw hp
  refine ⟨rfl, fun H hH => ?_⟩
  dsimp only [go_sem] at hw hp ⊢
  obtain ⟨hs, -⟩ := hp
  have hr : nxR s w = if cont s w then (match nxt s w with | some v => (v, true) | none => ([], false)) else ([], false) := rfl
  refine ⟨hs, fun h => ?_, fun h => ?_⟩ <;> simp only [Bool.not_eq_true', Bool.not_eq_false'] at h
  · rw [if_neg (by rw [h]; decide)] at hr
    simp [hr]
  rw [if_pos h] at hr
  have hkw := h
  unfold cont at hkw
  rw [Bool.and_eq_true, wk_iff] at hkw
  obtain ⟨⟨hlw, hrng⟩, -⟩ := hkw
  have hsl := hs.1
  rw [Int.toNat_natCast, List.length_replicate]
  refine ⟨⟨Int.natCast_nonneg _, Int.le_refl _, by show (8 : Int) * (List.length w : Int) ≤ 140737488355328; omega⟩, rfl, by rw [inR_i64]; omega, ?_⟩
  refine hH.loop (fun k : Nat => ⟨[(2, .ref 0 0), (6, .own 1), (7, .dat (.int .i64) ((k : Int) - 1))], [(0, .box 26 (.cons (.dat (.slice bkT) s) .nil)), (1, .row 3 (.int .i64) (List.take k w ++ fst (List.drop k s)))], 2⟩) (fun k => k ≤ List.length s ∧ nxt (List.drop k s) (List.drop k w) = none) (fun k => k) (List.length s) 2 ⟨Nat.le_refl _, ?_⟩ ?_ ?_
  · rw [List.drop_length, ← hlw, List.drop_length]; rfl
  · rw [← hlw, List.take_length]
    have : fst (List.drop (List.length w) s) = [] := by rw [hlw, List.drop_length]; rfl
    rw [this]
    dsimp only [go_sem]
    simp
  · intro k ⟨hk, hn⟩ R hm
    refine hH.run 100 _ _ ?_
    dsimp only [go_sem]
    have hz : (zd (Ty.int IntKind.i64)) = (0 : Int) := rfl
    rw [hz]
    refine ⟨fun d => ?_, fun d => ?_⟩ <;> simp only [decide_eq_true_eq, decide_eq_false_iff_not] at d
    · obtain ⟨j, rfl⟩ : ∃ j, k = j + 1 := ⟨k - 1, by omega⟩
      have e1 : ((j + 1 : Nat) : Int) - 1 = (j : Int) := by omega
      rw [e1, Int.toNat_natCast]
      have d2 : j < List.length s := by omega
      have d3 : j < List.length w := by omega
      have hr0 := hrng j d3
      have hzb : List.getD s j (zd bkT) = List.getD s j [] := rfl
      rw [hzb]
      have hds := drop_g s [] d2
      have hdw := drop_g w 0 d3
      have hmem := getD_mem (l := s) [] d2
      have htw := take_get0 (w := w) (i := j) d3
      have hnx : nxt (List.drop j s) (List.drop j w) = if List.getD w j 0 ≥ 0 then some (chc (List.getD s j []) (List.getD w j 0 + 1) :: fst (List.drop (j + 1) s)) else none := by
        rw [hds, hdw, nxt, hn]
      have hff : fst (List.drop j s) = chc (List.getD s j []) 0 :: fst (List.drop (j + 1) s) := by rw [hds]; rfl
      have hnd := @nxt_drop j s w
      obtain ⟨hb1, -⟩ := hs.2 _ hmem
      generalize List.getD s j [] = b at *
      generalize List.getD w j 0 = c at *
      have hg : (List.take (j + 1) w ++ fst (List.drop (j + 1) s)).getD j 0 = c := by
        rw [htw, List.append_assoc, List.getD_eq_getElem?_getD, List.getElem?_append_right (by rw [len_take (by omega)]; exact Nat.le_refl _), len_take (by omega), Nat.sub_self]
        rfl
      have hst (x : Int) : (List.take (j + 1) w ++ fst (List.drop (j + 1) s)).set j x = List.take j w ++ x :: fst (List.drop (j + 1) s) := by
        rw [htw, List.append_assoc, List.set_append, if_neg (by rw [len_take (by omega)]; omega), len_take (by omega), Nat.sub_self]
        rfl
      have hlr : (List.take (j + 1) w ++ fst (List.drop (j + 1) s)).length = List.length s := by
        unfold fst
        rw [List.length_append, List.length_map, List.length_drop, len_take (by omega)]; omega
      rw [hg, hst, hst, hlr]
      have b1 : (0 : Int) ≤ (j : Int) ∧ (j : Int) < (List.length s : Int) := by omega
      refine ⟨b1, b1, d2, fun g => ?_, fun g => ?_⟩ <;> simp only [decide_eq_true_eq, decide_eq_false_iff_not] at g
      · have g1 : c < (List.length b : Int) := hr0.2
        rw [if_pos g] at hnx
        rw [hnd hnx] at hr
        refine ⟨b1, d2, by rw [inR_i64]; omega, b1, d2, ?_⟩
        rw [hr]
        simp
      · have g : ¬ c ≥ 0 := g
        rw [if_neg g] at hnx
        refine ⟨b1, d2, by rw [inR_i64]; omega, hm _ j 2 ⟨by omega, hnx⟩ (by omega) ?_⟩
        rw [← hff]
        dsimp only [go_sem]
        simp
    · have hk0 : k = 0 := by omega
      subst hk0
      rw [List.drop_zero, List.drop_zero] at hn
      rw [hn] at hr
      simp [hr]
def atR (s : List Blk) (n : Int) : List Int × Bool := if n < cnt s then ((atW s n).1, true) else ([], false)
@[go_sem] def wAtS : Spec := ⟨[spT, nT], fun d => (.tup (.cons (.dat wdT (atR d.1 (N d.2.1)).1) (.cons (.dat .bool (atR d.1 (N d.2.1)).2) .nil)), [spP d.1 ∧ List.length d.1 ≤ 1000, List.length d.2.1 ≤ 2000])⟩
theorem wAt_ok : SpecOk Try.prog 13 wAtS := by
  refine fn_ok EW4_ok wAtS Try.func13 rfl (by decide) (N := 59) rfl (res := [.tmp 4, .tmp 5]) rfl (by decide) [] [(13, [1])] [] 100 (by kernel_rfl) ?_
  rintro ⟨s, n, _⟩ hw hp
  refine ⟨rfl, fun H hH => ?_⟩
  dsimp only [go_sem] at hw hp ⊢
  obtain ⟨⟨hs, hl⟩, hn, -⟩ := hp
  have hds : Ds n := fun d hd => inR_u32.1 (hw.2.1.2 d hd)
  have hr : atR s (N n) = if N n < cnt s then ((atW s (N n)).1, true) else ([], false) := rfl
  have hc0 : 0 ≤ cnt s := by unfold cnt; split; have := prd_pos s; omega; exact Int.le_refl _
  have hcl := cnt_len hs hl
  have hN0 := N_nonneg hds
  rw [N_dg hc0]
  have hcm : 0 ≤ cmpI (N n) (cnt s) ↔ ¬ N n < cnt s := by
    unfold cmpI
    split
    · omega
    · split <;> omega
  refine ⟨⟨hs, hl⟩, Nat.le_trans hn (by decide), by omega, fun h => ?_, fun h => ?_⟩ <;> simp only [decide_eq_true_eq, decide_eq_false_iff_not] at h <;> rw [hcm] at h
  · rw [if_neg h] at hr
    simp [hr]
  rw [Decidable.not_not] at h
  rw [if_pos h] at hr
  have hz : (zd (Ty.int IntKind.i64)) = (0 : Int) := rfl
  rw [Int.toNat_natCast, hz, List.length_replicate]
  refine ⟨⟨Int.natCast_nonneg _, Int.le_refl _, by show (8 : Int) * (List.length s : Int) ≤ 140737488355328; omega⟩, by rw [inR_i64]; omega, ?_⟩
  refine hH.loop (fun y : Nat × List Int => ⟨[(2, .ref 0 0), (6, .own 1), (7, .dat nT y.2), (8, .dat (.int .i64) ((y.1 : Int) - 1))], [(0, .box 26 (.cons (.dat (.slice bkT) s) .nil)), (1, .row 3 (.int .i64) (List.replicate y.1 (0 : Int) ++ (atW (List.drop y.1 s) (N n)).1))], 2⟩) (fun y => y.1 ≤ List.length s ∧ y.2.length ≤ 2000 ∧ Ds y.2 ∧ N y.2 = (atW (List.drop y.1 s) (N n)).2) (fun y => y.1) (List.length s, n) 2 ⟨Nat.le_refl _, hn, hds, ?_⟩ ?_ ?_
  · show N n = (atW (List.drop (List.length s) s) (N n)).2
    rw [List.drop_length]; rfl
  · dsimp only [go_sem]
    rw [List.drop_length]
    simp [atW]
  · rintro ⟨k, l⟩ ⟨hk, hll, hdl, hNl⟩ R hm
    have hk : k ≤ List.length s := hk
    have hll : l.length ≤ 2000 := hll
    have hdl : Ds l := hdl
    have hNl : N l = (atW (List.drop k s) (N n)).2 := hNl
    have hw1 := wk_len (atW_ok (List.drop k s) (N n) hN0).1
    rw [List.length_drop] at hw1
    refine hH.run 100 _ _ ?_
    dsimp only [go_sem]
    refine ⟨fun d => ?_, fun d => ?_⟩ <;> simp only [decide_eq_true_eq, decide_eq_false_iff_not] at d
    · obtain ⟨j, rfl⟩ : ∃ j, k = j + 1 := ⟨k - 1, by omega⟩
      have e1 : ((j + 1 : Nat) : Int) - 1 = (j : Int) := by omega
      rw [e1, Int.toNat_natCast]
      have d2 : j < List.length s := by omega
      have hzb : List.getD s j (zd bkT) = List.getD s j [] := rfl
      rw [hzb]
      have hds := drop_g s [] d2
      have hmem := getD_mem (l := s) [] d2
      obtain ⟨hb1, -⟩ := hs.2 _ hmem
      have ha : atW (List.drop j s) (N n) = (chc (List.getD s j []) ((atW (List.drop (j + 1) s) (N n)).2 % ((List.length (List.getD s j []) : Int) + 1)) :: (atW (List.drop (j + 1) s) (N n)).1, (atW (List.drop (j + 1) s) (N n)).2 / ((List.length (List.getD s j []) : Int) + 1)) := by
        rw [hds]; rfl
      rw [← hNl] at ha
      generalize List.getD s j [] = b at *
      have hne : ¬ (List.length b : Int) + 1 = 0 := by omega
      have hL : (0 : Int) < (List.length b : Int) + 1 := by omega
      have hNl0 := N_nonneg hdl
      have hm0 := Int.emod_nonneg (N l) (show (List.length b : Int) + 1 ≠ 0 by omega)
      have hm1 := Int.emod_lt_of_pos (N l) hL
      have hq0 : 0 ≤ N l / ((List.length b : Int) + 1) := Int.ediv_nonneg hNl0 (by omega)
      have hq1 : N l / ((List.length b : Int) + 1) ≤ N l := Int.ediv_le_self _ hNl0
      rw [N_dg (show (0 : Int) ≤ (List.length b : Int) + 1 by omega)]
      simp only [if_neg hne]
      have hu : u64v (N l % ((List.length b : Int) + 1)) = N l % ((List.length b : Int) + 1) := by
        unfold u64v
        rw [if_pos (by omega)]
      rw [N_dg hm0, hu]
      have h1l := dg_len (n := (List.length b : Int) + 1) (c := 1) (by omega) (by show (List.length b : Int) + 1 < 4294967296 * 1; omega)
      have h2l := dg_len (n := N l % ((List.length b : Int) + 1)) (c := 1) hm0 (by show N l % ((List.length b : Int) + 1) < 4294967296 * 1; omega)
      have h3l := dg_len (n := N l / ((List.length b : Int) + 1)) (c := l.length) hq0 (Int.lt_of_le_of_lt hq1 (N_lt hdl))
      have hlr : (List.replicate (j + 1) (0 : Int) ++ (atW (List.drop (j + 1) s) (N n)).1).length = List.length s := by
        rw [List.length_append, List.length_replicate, hw1]; omega
      have hst (x : Int) : (List.replicate (j + 1) (0 : Int) ++ (atW (List.drop (j + 1) s) (N n)).1).set j x = List.replicate j (0 : Int) ++ x :: (atW (List.drop (j + 1) s) (N n)).1 := by
        rw [List.replicate_succ', List.append_assoc, List.set_append, if_neg (by rw [List.length_replicate]; omega), List.length_replicate, Nat.sub_self]
        rfl
      rw [hlr, hst]
      have b1 : (0 : Int) ≤ (j : Int) ∧ (j : Int) < (List.length s : Int) := by omega
      have ha1 := congrArg Prod.fst ha
      have ha2 := congrArg Prod.snd ha
      dsimp only at ha1 ha2
      rw [← ha1]
      refine ⟨b1, by omega, by omega, by omega, by omega, by rw [inR_i64]; omega, b1, d2, by rw [inR_i64]; omega, hm _ (j, dg (N l / ((List.length b : Int) + 1))) 2 ⟨by show j ≤ _; omega, by show (dg (N l / ((List.length b : Int) + 1))).length ≤ 2000; omega, (canon_dg _).1, ?_⟩ (by show j < j + 1; omega) ?_⟩
      · show N (dg (N l / ((List.length b : Int) + 1))) = (atW (List.drop j s) (N n)).2
        rw [N_dg hq0, ha2]
      · dsimp only [go_sem]
        simp
    · have hk0 : k = 0 := by omega
      subst hk0
      rw [hr, List.drop_zero, List.replicate_zero, List.nil_append]
      simp
@[go_sem] noncomputable def EW5 : Env := (((EW4).add 30 wFsS).add 32 wNxS).add 13 wAtS
theorem EW5_ok : EW5.Ok := (((EW4_ok).add wFs_ok).add wNx_ok).add wAt_ok
end Go.Proofs.Ythjgfppmempbkaa.Gx
