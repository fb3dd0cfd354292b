/-
  Hierarchy: violations.
-/
import Derived.Test.YtfidddcjieoblaaH3
namespace Go.Proofs.Ytfidddcjieoblaa.Gx
open Go Go.RowKit Tw B Nt
set_option linter.unusedVariables false
set_option linter.unusedSimpArgs false
set_option maxHeartbeats 4000000
set_option maxRecDepth 20000
@[reducible, go_sem] def qryT : Ty := .pair (.slice .str) (.slice cqT)
@[reducible, go_sem] def witT : Ty := .pair qryT (.pair .str (.pair .str (.pair (.int .i64) (.pair (.int .i64) (.int .i64)))))
abbrev Qry := List Str × List Cq
abbrev Wit := Qry × Str × Str × Int × Int × Int
/-- the atoms with this variable -/
def stv (l : List Atom) (n : Str) : List Bool := l.map (hasV n)
def trp (a b : List Bool) : Int × Int × Int := (fi (ovl a b) a.length 0, fi (ovp a b) a.length 0, fi (ovr a b) a.length 0)
def nneg (t : Int × Int × Int) : Bool := decide (0 ≤ t.1) && decide (0 ≤ t.2.1) && decide (0 ≤ t.2.2)
def nmv (c : Cq) (i : Nat) : Str := (vrs (trm c)).getD i []
def trv (c : Cq) (i j : Nat) : Int × Int × Int := trp (stv c.1 (nmv c i)) (stv c.1 (nmv c j))
def fvJ (p : Nat → Bool) : Nat → Nat → Option Nat
  | 0, _ => none
  | m + 1, j => if p j then some j else fvJ p m (j + 1)
def fvI (p : Nat → Nat → Bool) (n : Nat) : Nat → Nat → Option (Nat × Nat)
  | 0, _ => none
  | m + 1, i => match fvJ (p i) (n - (i + 1)) (i + 1) with
    | some j => some (i, j)
    | none => fvI p n m (i + 1)
def vio (c : Cq) : Option (Nat × Nat) := fvI (fun i j => nneg (trv c i j)) (vrs (trm c)).length (vrs (trm c)).length 0
def viR (c : Cq) : Option (Nat × Nat) → Wit × Bool
  | some (i, j) => ((([], [c]), nmv c i, nmv c j, trv c i j), true)
  | none => ((([], []), [], [], 0, 0, 0), false)
/-- a row of n with true at these places -/
def mkb (n : Nat) (os : List Int) : List Bool := os.foldl (fun r a => r.set a.toNat true) (List.replicate n false)
theorem mkb_snoc {n : Nat} {os : List Int} {k : Nat} (h : k < os.length) : mkb n (os.take (k + 1)) = (mkb n (os.take k)).set (os.getD k 0).toNat true := by
  unfold mkb
  rw [take_snoc 0 h, List.foldl_append]
  rfl
theorem mkb_len (n : Nat) (os : List Int) : (mkb n os).length = n := by
  suffices h : ∀ (os : List Int) (r : List Bool), (os.foldl (fun r a => r.set a.toNat true) r).length = r.length from by
    unfold mkb; rw [h, List.length_replicate]
  intro os
  induction os with
  | nil => intro r; rfl
  | cons a os ih => intro r; rw [List.foldl_cons, ih, List.length_set]
theorem mkb_get (os : List Int) : ∀ (r : List Bool) (j : Nat), j < r.length → (os.foldl (fun r a => r.set a.toNat true) r)[j]? = some (r.getD j false || os.any fun a => decide (a.toNat = j)) := by
  induction os with
  | nil => intro r j h; rw [List.foldl_nil, List.getD_eq_getElem?_getD, List.getElem?_eq_getElem h]; simp
  | cons a os ih =>
    intro r j h
    rw [List.foldl_cons, ih _ _ (by rw [List.length_set]; exact h), List.any_cons]
    congr 1
    rw [List.getD_eq_getElem?_getD, List.getD_eq_getElem?_getD, List.getElem?_set]
    by_cases e : a.toNat = j
    · rw [if_pos e, if_pos (by omega)]
      simp [e]
    · rw [if_neg e]
      simp [e]
theorem mkb_occ (l : List Atom) (n : Str) : mkb l.length (occ l n l.length) = stv l n := by
  apply List.ext_getElem?
  intro j
  rcases Nat.lt_or_ge j l.length with h | h
  · unfold mkb
    rw [mkb_get _ _ _ (by rw [List.length_replicate]; exact h)]
    unfold stv
    rw [List.getElem?_map, List.getElem?_eq_getElem h, List.getD_eq_getElem?_getD, List.getElem?_replicate, if_pos h]
    simp only [Option.getD_some, Bool.false_or, Option.map_some]
    congr 1
    unfold occ
    rw [List.any_map]
    cases e : hasV n l[j] with
    | true =>
      rw [List.any_eq_true]
      refine ⟨j, List.mem_filter.2 ⟨List.mem_range.2 h, ?_⟩, by simp⟩
      rw [List.getD_eq_getElem?_getD, List.getElem?_eq_getElem h]; exact e
    | false =>
      rw [List.any_eq_false]
      intro x hx
      obtain ⟨h1, h2⟩ := List.mem_filter.1 hx
      intro h3
      simp only [Function.comp, Int.toNat_natCast, decide_eq_true_eq] at h3
      subst h3
      rw [List.getD_eq_getElem?_getD, List.getElem?_eq_getElem h] at h2
      rw [Option.getD_some, e] at h2
      cases h2
  · rw [List.getElem?_eq_none (by rw [mkb_len]; exact h), List.getElem?_eq_none (by unfold stv; rw [List.length_map]; exact h)]
theorem vrs_ne {l : List Term} {x : Str} (h : x ∈ vrs l) : x ≠ [] := by
  suffices hs : ∀ (l : List Term) (n : List Str), (∀ x ∈ n, x ≠ []) → ∀ x ∈ l.foldl vstep n, x ≠ [] from hs l [] (fun x hx => by cases hx) x h
  intro l
  induction l with
  | nil => intro n hn x hx; exact hn x hx
  | cons t l ih =>
    intro n hn
    rw [List.foldl_cons]
    refine ih _ ?_
    unfold vstep
    split
    · rename_i h
      intro x hx
      rcases List.mem_append.1 hx with hx | hx
      · exact hn x hx
      · rw [List.mem_singleton.1 hx]; exact h.1
    · exact hn
@[go_sem] noncomputable def EH8 : Env := (((EH7).add 13 occS).add 16 cpyS).add 15 ovS
theorem EH8_ok : EH8.Ok := (((EH7_ok).add occ_ok).add cpy_ok).add ov_ok
@[go_sem] def fvS : Spec := ⟨[cqT], fun d => (.tup (.cons (.dat witT (viR d.1 (vio d.1)).1) (.cons (.dat .bool (viR d.1 (vio d.1)).2) .nil)), [cqP d.1])⟩
theorem fv_ok : SpecOk Try.prog 8 fvS := by
  refine fn_ok EH8_ok fvS Try.func8 rfl (by decide) (N := 105) rfl (res := [.cell 2 34, .tmp 3]) rfl (by decide) [(2, [(19, .ns)]), (21, [(88, .dt), (1000000, .mx [])])] [(13, [2])] [] 100 (by kernel_rfl) ?_
  rintro ⟨c, _⟩ hw hp
  refine ⟨rfl, fun H hH => ?_⟩
  dsimp only [go_sem] at hw hp ⊢
  obtain ⟨hp, -⟩ := hp
  have hln := Nat.le_trans (vrs_len (trm c)) (trm_len hp)
  have hnd : ∀ i, nmv c i = (vrs (trm c)).getD i [] := fun _ => rfl
  obtain ⟨l, cs⟩ := c
  change List Atom at l
  change List Cmp at cs
  have hp0 := hp
  obtain ⟨hp1, hp2, hp3⟩ := hp
  change List.length l ≤ 1000 at hp1
  refine ⟨hp0, ?_⟩
  clear hw
  generalize en : vrs (trm (l, cs)) = nm at hln hnd ⊢
  change List Str at nm
  simp only [Int.toNat_natCast]
  refine ⟨⟨Int.natCast_nonneg _, Int.le_refl _, by change (24 : Int) * (nm.length : Int) ≤ _; omega⟩, ?_⟩
  have hne : ∀ x ∈ nm, x ≠ [] := fun x hx => vrs_ne (en ▸ hx)
  refine hH.loop (fun i : Nat => ⟨[(22, .dat (.int .i64) (i : Int)), (21, .dat (.int .i64) (List.length nm : Int)), (20, .dat (.slice .str) nm), (5, .sli 2 nm.length), (4, .dat (.slice .str) nm), (2, .ref 1 0), (1, .ref 0 0)], [(0, .box 26 (.cons (.dat (.slice atomT) l) (.cons (.dat (.slice cmpT) cs) .nil))), (1, .box 34 (zA witT .nil)), (2, .nrow 49 false 3 none), (3, .bag 4 .bool ((nm.take i).map (stv l) ++ List.replicate (nm.length - i) []))], 4⟩) (fun i => i ≤ nm.length) (fun i => nm.length - i) 0 4 (Nat.zero_le _) ?_ ?_
  · dsimp only [go_sem]
    and_intros <;> first | trivial | rfl | omega
  · intro i hi R hm
    refine hH.run 100 _ _ ?_
    dsimp only [go_sem]
    simp only [Int.toNat_natCast]
    have hll : ((nm.take i).map (stv l) ++ List.replicate (nm.length - i) []).length = nm.length := by
      rw [List.length_append, List.length_map, List.length_take, List.length_replicate]; omega
    refine ⟨fun d => ?_, fun d => ?_⟩ <;> simp only [decide_eq_true_eq, decide_eq_false_iff_not] at d
    · have d : i < nm.length := by omega
      refine ⟨⟨Int.natCast_nonneg _, Int.ofNat_lt.2 d⟩, ⟨Int.natCast_nonneg _, Int.le_refl _, by change (1 : Int) * (l.length : Int) ≤ _; omega⟩, ⟨Int.natCast_nonneg _, Int.ofNat_lt.2 d⟩, by rw [hll]; exact d, trivial, (fun _ h => by cases h), hp0, ?_⟩
      have hnn : nm.getD i (zd .str) ≠ [] := hne _ (getDm _ d)
      have hso : occs l (nm.getD i (zd .str)) = occ l (nm.getD i (zd .str)) l.length := by unfold occs; rw [if_neg hnn]
      have hsm := mkb_occ l (nm.getD i (zd .str))
      have hsl := occ_len l (nm.getD i (zd .str)) l.length
      have hsb : ∀ x ∈ occ l (nm.getD i (zd .str)) l.length, 0 ≤ x ∧ x < (l.length : Int) := by
        intro x hx
        unfold occ at hx
        obtain ⟨y, hy, rfl⟩ := List.mem_map.1 hx
        have := List.mem_range.1 (List.mem_filter.1 hy).1
        exact ⟨Int.natCast_nonneg _, Int.ofNat_lt.2 this⟩
      rw [hso]
      have hts : (nm.take (i + 1)).map (stv l) = (nm.take i).map (stv l) ++ [stv l (nm.getD i (zd .str))] := by
        rw [take_snoc (zd .str) d, List.map_append]; rfl
      generalize nm.getD i (zd .str) = x at hsm hsl hsb hts ⊢
      generalize occ l x l.length = os at hsm hsl hsb ⊢
      have hst : ∀ r, ((nm.take i).map (stv l) ++ List.replicate (nm.length - i) []).set i r = (nm.take i).map (stv l) ++ r :: List.replicate (nm.length - (i + 1)) [] := by
        intro r
        obtain ⟨q, hq⟩ : ∃ q, nm.length - i = q + 1 := ⟨nm.length - i - 1, by omega⟩
        have : nm.length - (i + 1) = q := by omega
        rw [hq, this, List.set_append, if_neg (by rw [List.length_map, List.length_take]; omega), List.length_map, List.length_take, Nat.min_eq_left (by omega), Nat.sub_self, List.replicate_succ, List.set_cons_zero]
      have hgt : ∀ r, ((nm.take i).map (stv l) ++ r :: List.replicate (nm.length - (i + 1)) []).getD i [] = r := by
        intro r
        rw [List.getD_eq_getElem?_getD, List.getElem?_append_right (by rw [List.length_map, List.length_take]; omega), List.length_map, List.length_take, Nat.min_eq_left (by omega), Nat.sub_self]
        rfl
      have hst2 : ∀ r r', ((nm.take i).map (stv l) ++ r :: List.replicate (nm.length - (i + 1)) []).set i r' = (nm.take i).map (stv l) ++ r' :: List.replicate (nm.length - (i + 1)) [] := by
        intro r r'
        rw [List.set_append, if_neg (by rw [List.length_map, List.length_take]; omega), List.length_map, List.length_take, Nat.min_eq_left (by omega), Nat.sub_self, List.set_cons_zero]
      rw [hst]
      refine HOk.loop (by assumption) (fun k : Nat => ⟨[(38, .dat (.int .i64) (k : Int)), (37, .dat (.int .i64) (os.length : Int)), (36, .dat (.slice (.int .i64)) os), (6, .dat (.int .i64) (i : Int)), (22, .dat (.int .i64) (i : Int)), (21, .dat (.int .i64) (List.length nm : Int)), (20, .dat (.slice .str) nm), (5, .sli 2 nm.length), (4, .dat (.slice .str) nm), (2, .ref 1 0), (1, .ref 0 0)], [(0, .box 26 (.cons (.dat (.slice atomT) l) (.cons (.dat (.slice cmpT) cs) .nil))), (1, .box 34 (zA witT .nil)), (2, .nrow 49 false 5 none), (5, .bag 4 .bool ((nm.take i).map (stv l) ++ mkb l.length (os.take k) :: List.replicate (nm.length - (i + 1)) []))], 6⟩) (fun k => k ≤ os.length) (fun k => os.length - k) 0 6 (Nat.zero_le _) ?_ ?_
      · dsimp only [go_sem]
        and_intros <;> first | trivial | rfl | omega
      · intro k hk R2 hm2
        refine hH.run 100 _ _ ?_
        dsimp only [go_sem]
        simp only [Int.toNat_natCast]
        refine ⟨fun e => ?_, fun e => ?_⟩ <;> simp only [decide_eq_true_eq, decide_eq_false_iff_not] at e
        · have e : k < os.length := by omega
          have hsn := mkb_snoc (n := l.length) e
          have hx := hsb _ (getDm 0 e)
          have hx' : (os.getD k 0).toNat < l.length := by omega
          have hz : os.getD k (zd (.int .i64)) = os.getD k 0 := rfl
          simp only [hgt, hst2, hz, mkb_len, ← hsn]
          refine ⟨⟨Int.natCast_nonneg _, Int.ofNat_lt.2 e⟩, ⟨Int.natCast_nonneg _, Int.ofNat_lt.2 d⟩, ?_, hx, hx', by rw [inR_i64]; omega, hm2 _ (k + 1) 6 e (by omega) ?_⟩
          · rw [List.length_append, List.length_map, List.length_take, List.length_cons]; omega
          · dsimp only [go_sem]
            and_intros <;> first | trivial | rfl | omega
        · have e : k = os.length := by omega
          subst e
          rw [List.take_length, hsm]
          refine ⟨by rw [inR_i64]; omega, hH.ren [(0, 0), (1, 1), (2, 2), (3, 5)] 4 rfl rfl (Nat.zero_le _) rfl ?_⟩
          dsimp only [go_sem]
          refine hm _ (i + 1) 4 d (by omega) ?_
          dsimp only [go_sem]
          rw [hts, List.append_assoc]
          and_intros <;> first | trivial | rfl | omega
    · have d : i = nm.length := by omega
      subst d
      rw [List.take_length, Nat.sub_self, List.replicate_zero, List.append_nil]
      clear hm hll
      have hvd : vio (l, cs) = fvI (fun i j => nneg (trv (l, cs) i j)) nm.length nm.length 0 := by unfold vio; rw [en]
      have htv : ∀ i j, trv (l, cs) i j = trp (stv l (nm.getD i [])) (stv l (nm.getD j [])) := fun i j => by unfold trv; rw [hnd, hnd]
      generalize hP : (fun i j => nneg (trv (l, cs) i j)) = P at hvd
      have hPd : ∀ i j, P i j = nneg (trp (stv l (nm.getD i [])) (stv l (nm.getD j []))) := fun i j => by rw [← hP, ← htv]
      have hlg : ∀ i, i < nm.length → (nm.map (stv l)).getD i [] = stv l (nm.getD i []) := by
        intro i hi
        rw [List.getD_eq_getElem?_getD, List.getElem?_map, List.getD_eq_getElem?_getD, List.getElem?_eq_getElem hi]; rfl
      have hsl : ∀ n, (stv l n).length = l.length := fun n => List.length_map _
      refine HOk.loop (by assumption) (fun i : Nat => ⟨[(52, .dat (.int .i64) (i : Int)), (51, .dat (.int .i64) (List.length nm : Int)), (5, .dat (.slice (.slice .bool)) (nm.map (stv l))), (4, .dat (.slice .str) nm), (2, .ref 1 0), (1, .ref 0 0)], [(0, .box 26 (.cons (.dat (.slice atomT) l) (.cons (.dat (.slice cmpT) cs) .nil))), (1, .box 34 (zA witT .nil))], 2⟩) (fun i => i ≤ nm.length ∧ vio (l, cs) = fvI P nm.length (nm.length - i) i) (fun i => nm.length - i) 0 2 ⟨Nat.zero_le _, hvd⟩ ?_ ?_
      · dsimp only [go_sem]
        and_intros <;> first | trivial | rfl | omega
      · rintro i ⟨hi, hv⟩ R hm
        refine hH.run 100 _ _ ?_
        dsimp only [go_sem]
        refine ⟨fun d => ?_, fun d => ?_⟩ <;> simp only [decide_eq_true_eq, decide_eq_false_iff_not] at d
        · have d : i < nm.length := by omega
          obtain ⟨q, hq⟩ : ∃ q, nm.length - i = q + 1 := ⟨nm.length - i - 1, by omega⟩
          have hq' : nm.length - (i + 1) = q := by omega
          rw [hq] at hv
          unfold fvI at hv
          rw [hq'] at hv
          refine ⟨by rw [inR_i64]; omega, ?_⟩
          refine HOk.loop (by assumption) (fun j : Nat => ⟨[(11, .dat (.int .i64) ((i + 1 + j : Nat) : Int)), (10, .dat (.int .i64) (i : Int)), (52, .dat (.int .i64) (i : Int)), (51, .dat (.int .i64) (List.length nm : Int)), (5, .dat (.slice (.slice .bool)) (nm.map (stv l))), (4, .dat (.slice .str) nm), (2, .ref 1 0), (1, .ref 0 0)], [(0, .box 26 (.cons (.dat (.slice atomT) l) (.cons (.dat (.slice cmpT) cs) .nil))), (1, .box 34 (zA witT .nil))], 2⟩) (fun j => j ≤ q ∧ vio (l, cs) = match fvJ (P i) (q - j) (i + 1 + j) with | some j => some (i, j) | none => fvI P nm.length q (i + 1)) (fun j => q - j) 0 2 ⟨Nat.zero_le _, hv⟩ ?_ ?_
          · dsimp only [go_sem]
            and_intros <;> first | trivial | rfl | omega
          · rintro j ⟨hj, hv⟩ R2 hm2
            refine hH.run 100 _ _ ?_
            dsimp only [go_sem]
            simp only [Int.toNat_natCast]
            refine ⟨fun e => ?_, fun e => ?_⟩ <;> simp only [decide_eq_true_eq, decide_eq_false_iff_not] at e
            · have e : j < q := by omega
              obtain ⟨q2, hq2⟩ : ∃ q2, q - j = q2 + 1 := ⟨q - j - 1, by omega⟩
              have hq2' : q - (j + 1) = q2 := by omega
              rw [hq2] at hv
              unfold fvJ at hv
              have hij : i + 1 + j < nm.length := by omega
              have hA : (nm.map (stv l)).getD i (zd (.slice .bool)) = stv l (nm.getD i []) := hlg _ d
              have hB : (nm.map (stv l)).getD (i + 1 + j) (zd (.slice .bool)) = stv l (nm.getD (i + 1 + j) []) := hlg _ hij
              have hp2 := hPd i (i + 1 + j)
              have hLA := hsl (nm.getD i [])
              have hLB := hsl (nm.getD (i + 1 + j) [])
              have hR := htv i (i + 1 + j)
              have hg1 : nm.getD i (zd .str) = nm.getD i [] := rfl
              have hg2 : nm.getD (i + 1 + j) (zd .str) = nm.getD (i + 1 + j) [] := rfl
              have hn1 := hnd i
              have hn2 := hnd (i + 1 + j)
              have hlm : (nm.map (stv l)).length = nm.length := List.length_map _
              simp only [hA, hB, hg1, hg2, hlm]
              generalize stv l (nm.getD i []) = A at hp2 hLA hR ⊢
              generalize stv l (nm.getD (i + 1 + j) []) = B at hp2 hLB hR ⊢
              unfold trp at hp2 hR
              generalize fi (ovl A B) A.length 0 = x at hp2 hR ⊢
              generalize fi (ovp A B) A.length 0 = y at hp2 hR ⊢
              generalize fi (ovr A B) A.length 0 = z at hp2 hR ⊢
              refine ⟨⟨Int.natCast_nonneg _, Int.ofNat_lt.2 d⟩, ⟨Int.natCast_nonneg _, Int.ofNat_lt.2 hij⟩, ⟨by rw [hLA, hLB], by rw [hLA]; exact hp1⟩, ?_⟩
              refine ⟨fun h => h, fun h => h, fun h => h, fun h => h, fun h => ?_, fun h => ?_⟩
              · rw [hp2, show nneg (x, y, z) = true from h, if_pos rfl] at hv
                have ha3 : isA3 Try.prog 32 := ⟨_, _, rfl, rfl, rfl, rfl, rfl⟩
                have hvx : (([], [(l, cs)]), nm.getD i [], nm.getD (i + 1 + j) [], x, y, z) = ((viR (l, cs) (some (i, i + 1 + j))).1 : Wit) := by
                  show _ = (((([] : List Str), [(l, cs)]), nmv (l, cs) i, nmv (l, cs) (i + 1 + j), trv (l, cs) i (i + 1 + j)) : Wit)
                  rw [hn1, hn2, hR]
                refine ⟨hp0, ⟨Int.natCast_nonneg _, Int.ofNat_lt.2 d⟩, ⟨Int.natCast_nonneg _, Int.ofNat_lt.2 hij⟩, ha3, trivial, trivial, ?_, trivial, ?_, trivial⟩
                · rw [hv]; exact hvx
                · rw [hv]; rfl
              · rw [hp2, show nneg (x, y, z) = false from h, if_neg (by decide)] at hv
                refine ⟨by rw [inR_i64]; omega, hm2 _ (j + 1) 2 ⟨e, ?_⟩ (by omega) ?_⟩
                · rw [hq2', hv, Nat.add_assoc (i + 1)]
                · dsimp only [go_sem]
                  and_intros <;> first | trivial | rfl | omega
            · have e : j = q := by omega
              subst e
              rw [Nat.sub_self] at hv
              refine ⟨by rw [inR_i64]; change _ ∧ (i : Int) + 1 ≤ _; omega, hm _ (i + 1) 2 ⟨d, by rw [hq']; exact hv⟩ (by omega) ?_⟩
              dsimp only [go_sem]
              and_intros <;> first | trivial | rfl | omega
        · have d : i = nm.length := by omega
          subst d
          rw [Nat.sub_self] at hv
          have hv : vio (l, cs) = none := hv
          rw [hv]
          and_intros <;> first | trivial | rfl
end Go.Proofs.Ytfidddcjieoblaa.Gx
