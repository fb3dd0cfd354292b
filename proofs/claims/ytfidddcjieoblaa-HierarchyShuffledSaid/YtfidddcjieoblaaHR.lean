/-
  Hierarchy, plain: violations, components and root variables.
-/
import Derived.Test.YtfidddcjieoblaaHQ
namespace Go.Proofs.Ytfidddcjieoblaa.Gx
open Go Go.RowKit Tw B Nt
set_option linter.unusedVariables false
theorem fi_ok {p : Nat → Bool} : ∀ (n k : Nat), 0 ≤ fi p n k → p (fi p n k).toNat = true ∧ (k : Int) ≤ fi p n k ∧ fi p n k < ((k + n : Nat) : Int)
  | 0, k, h => by unfold fi at h; exact absurd h (by decide)
  | n + 1, k, h => by
    unfold fi at h ⊢
    split
    · rename_i e
      rw [Int.toNat_natCast]
      exact ⟨e, Int.le_refl _, by omega⟩
    · rename_i e
      rw [if_neg e] at h
      obtain ⟨h1, h2, h3⟩ := fi_ok n (k + 1) h
      exact ⟨h1, by omega, by omega⟩
theorem fvJ_ok {p : Nat → Bool} : ∀ (m j : Nat) {r : Nat}, fvJ p m j = some r → p r = true ∧ j ≤ r ∧ r < j + m
  | 0, _, _, h => by cases h
  | m + 1, j, r, h => by
    unfold fvJ at h
    split at h
    · rename_i e; cases h; exact ⟨e, Nat.le_refl _, by omega⟩
    · obtain ⟨h1, h2, h3⟩ := fvJ_ok m (j + 1) h
      exact ⟨h1, by omega, by omega⟩
theorem fvI_ok {p : Nat → Nat → Bool} {n : Nat} : ∀ (m i : Nat) {a b : Nat}, i + m = n → fvI p n m i = some (a, b) → p a b = true ∧ a < n ∧ b < n
  | 0, _, _, _, _, h => by cases h
  | m + 1, i, a, b, he, h => by
    unfold fvI at h
    split at h
    · rename_i j e
      cases h
      obtain ⟨h1, h2, h3⟩ := fvJ_ok _ _ e
      exact ⟨h1, by omega, by omega⟩
    · exact fvI_ok m (i + 1) (by omega) h
theorem stv_at {l : List Atom} {n : Str} {k : Nat} (h : k < l.length) : (stv l n).getD k false = hasV n (l.getD k ([], false, [])) := by
  unfold stv
  rw [List.getD_eq_getElem?_getD, List.getElem?_map, List.getD_eq_getElem?_getD, List.getElem?_eq_getElem h]
  rfl
/-- an atom with, or without, two variables -/
def wAt (c : Cq) (x y : Str) (a : Int) (p q : Bool) : Prop := 0 ≤ a ∧ a < (c.1.length : Int) ∧ hasV x (c.1.getD a.toNat ([], false, [])) = p ∧ hasV y (c.1.getD a.toNat ([], false, [])) = q
theorem wit_ok {c : Cq} (h : (viR c (vio c)).2 = true) : (viR c (vio c)).1.2.1 ≠ [] ∧ (viR c (vio c)).1.2.2.1 ≠ [] ∧
    wAt c (viR c (vio c)).1.2.1 (viR c (vio c)).1.2.2.1 (viR c (vio c)).1.2.2.2.1 true false ∧ wAt c (viR c (vio c)).1.2.1 (viR c (vio c)).1.2.2.1 (viR c (vio c)).1.2.2.2.2.1 true true ∧ wAt c (viR c (vio c)).1.2.1 (viR c (vio c)).1.2.2.1 (viR c (vio c)).1.2.2.2.2.2 false true := by
  cases e : vio c with
  | none => rw [e] at h; cases h
  | some r =>
    obtain ⟨i, j⟩ := r
    unfold vio at e
    obtain ⟨h1, h2, h3⟩ := fvI_ok _ _ (by omega) e
    have n1 : nmv c i ≠ [] := vrs_ne (l := trm c) (getDm _ h2)
    have n2 : nmv c j ≠ [] := vrs_ne (l := trm c) (getDm _ h3)
    refine ⟨n1, n2, ?_⟩
    show wAt c (nmv c i) (nmv c j) (trv c i j).1 true false ∧ wAt c (nmv c i) (nmv c j) (trv c i j).2.1 true true ∧ wAt c (nmv c i) (nmv c j) (trv c i j).2.2 false true
    unfold nneg at h1
    simp only [Bool.and_eq_true, decide_eq_true_eq] at h1
    unfold trv trp at h1 ⊢
    dsimp only at h1 ⊢
    obtain ⟨⟨q1, q2⟩, q3⟩ := h1
    have hl : (stv c.1 (nmv c i)).length = c.1.length := List.length_map _
    rw [hl] at q1 q2 q3 ⊢
    obtain ⟨a1, a2, a3⟩ := fi_ok _ _ q1
    obtain ⟨b1, b2, b3⟩ := fi_ok _ _ q2
    obtain ⟨d1, d2, d3⟩ := fi_ok _ _ q3
    simp only [Nat.zero_add] at a3 b3 d3
    have key : ∀ x : Int, 0 ≤ x → x < (c.1.length : Int) → ∀ n, (stv c.1 n).getD x.toNat false = hasV n (c.1.getD x.toNat ([], false, [])) := fun x h0 h1 n => stv_at (by omega)
    generalize fi (ovl (stv c.1 (nmv c i)) (stv c.1 (nmv c j))) c.1.length 0 = a at *
    generalize fi (ovp (stv c.1 (nmv c i)) (stv c.1 (nmv c j))) c.1.length 0 = b at *
    generalize fi (ovr (stv c.1 (nmv c i)) (stv c.1 (nmv c j))) c.1.length 0 = d at *
    unfold ovl at a1
    unfold ovp at b1
    unfold ovr at d1
    rw [key a q1 a3, key a q1 a3] at a1
    rw [key b q2 b3, key b q2 b3] at b1
    rw [key d q3 d3, key d q3 d3] at d1
    simp only [Bool.and_eq_true, Bool.not_eq_true'] at a1 b1 d1
    exact ⟨⟨q1, a3, a1.1, a1.2⟩, ⟨q2, b3, b1.1, b1.2⟩, ⟨q3, d3, d1.1, d1.2⟩⟩
theorem fvJ_none {p : Nat → Bool} : ∀ (m j : Nat), fvJ p m j = none → ∀ r, j ≤ r → r < j + m → p r = false
  | 0, j, _, r, h1, h2 => by omega
  | m + 1, j, h, r, h1, h2 => by
    unfold fvJ at h
    split at h
    · cases h
    · rename_i e
      rcases Nat.lt_or_ge j r with hr | hr
      · exact fvJ_none m (j + 1) h r hr (by omega)
      · have : r = j := by omega
        rw [this]; simpa using e
theorem fvI_none {p : Nat → Nat → Bool} {n : Nat} : ∀ (m i : Nat), i + m = n → fvI p n m i = none → ∀ a b, i ≤ a → a < b → b < n → p a b = false
  | 0, i, _, _, a, b, h1, h2, h3 => by omega
  | m + 1, i, he, h, a, b, h1, h2, h3 => by
    unfold fvI at h
    split at h
    · cases h
    · rename_i e
      rcases Nat.lt_or_ge i a with ha | ha
      · exact fvI_none m (i + 1) (by omega) h a b ha h2 h3
      · have : a = i := by omega
        subst this
        exact fvJ_none _ _ e b h2 (by omega)
theorem fi_ex {p : Nat → Bool} : ∀ (n k r : Nat), k ≤ r → r < k + n → p r = true → 0 ≤ fi p n k
  | 0, k, r, h1, h2, _ => by omega
  | n + 1, k, r, h1, h2, h => by
    unfold fi
    split
    · exact Int.natCast_nonneg _
    · rename_i e
      rcases Nat.lt_or_ge k r with hr | hr
      · exact fi_ex n (k + 1) r hr (by omega) h
      · have : r = k := by omega
        rw [this] at h; exact absurd h e
theorem mem_vstep {n : List Str} {t : Term} {x : Str} : x ∈ vstep n t ↔ x ∈ n ∨ (x ≠ [] ∧ t.1 = x) := by
  unfold vstep
  split
  · rename_i h
    rw [List.mem_append, List.mem_singleton]
    constructor
    · rintro (h1 | h1)
      · exact .inl h1
      · exact .inr ⟨by rw [h1]; exact h.1, h1.symm⟩
    · rintro (h1 | ⟨_, h1⟩)
      · exact .inl h1
      · exact .inr h1.symm
  · rename_i h
    constructor
    · exact .inl
    · rintro (h1 | ⟨h2, h1⟩)
      · exact h1
      · subst h1
        exact Decidable.byContradiction fun hn => h ⟨h2, hn⟩
theorem mem_vrs {l : List Term} {x : Str} : x ∈ vrs l ↔ x ≠ [] ∧ ∃ t ∈ l, t.1 = x := by
  suffices h : ∀ (l : List Term) (n : List Str), x ∈ l.foldl vstep n ↔ x ∈ n ∨ (x ≠ [] ∧ ∃ t ∈ l, t.1 = x) from by
    unfold vrs
    rw [h]
    simp
  intro l
  induction l with
  | nil => intro n; simp
  | cons t l ih =>
    intro n
    rw [List.foldl_cons, ih, mem_vstep]
    constructor
    · rintro ((h | ⟨h1, h2⟩) | ⟨h1, u, hu, h2⟩)
      · exact .inl h
      · exact .inr ⟨h1, t, List.mem_cons_self .., h2⟩
      · exact .inr ⟨h1, u, List.mem_cons_of_mem _ hu, h2⟩
    · rintro (h | ⟨h1, u, hu, h2⟩)
      · exact .inl (.inl h)
      · rcases List.mem_cons.1 hu with rfl | hu
        · exact .inl (.inr ⟨h1, h2⟩)
        · exact .inr ⟨h1, u, hu, h2⟩
theorem hasV_iff {x : Str} {a : Atom} : hasV x a = true ↔ ∃ t ∈ a.2.2, t.1 = x := by
  unfold hasV isV
  rw [List.any_eq_true]
  constructor
  · rintro ⟨t, ht, h⟩; exact ⟨t, ht, of_decide_eq_true h⟩
  · rintro ⟨t, ht, h⟩; exact ⟨t, ht, decide_eq_true h⟩
theorem vrs_has {c : Cq} {x : Str} {a : Atom} (hx : x ≠ []) (ha : a ∈ c.1) (h : hasV x a = true) : x ∈ vrs (trm c) := by
  obtain ⟨t, ht, e⟩ := hasV_iff.1 h
  exact mem_vrs.2 ⟨hx, t, List.mem_append.2 (.inl (List.mem_flatMap.2 ⟨a, ha, ht⟩)), e⟩
/-- without comparisons every name stands in an atom -/
theorem vrs_at {l : List Atom} {x : Str} (h : x ∈ vrs (trm (l, []))) : x ≠ [] ∧ ∃ a ∈ l, hasV x a = true := by
  obtain ⟨h1, t, ht, e⟩ := mem_vrs.1 h
  unfold trm at ht
  simp only [List.flatMap_nil, List.append_nil] at ht
  obtain ⟨a, ha, ht⟩ := List.mem_flatMap.1 ht
  exact ⟨h1, a, ha, hasV_iff.2 ⟨t, ht, e⟩⟩
/-- a violation, plainly -/
def Bad (l : List Atom) : Prop := ∃ x y : Str, x ≠ [] ∧ y ≠ [] ∧ (∃ a ∈ l, hasV x a = true ∧ hasV y a = false) ∧ (∃ a ∈ l, hasV x a = true ∧ hasV y a = true) ∧ ∃ a ∈ l, hasV x a = false ∧ hasV y a = true
theorem Bad.swap {l : List Atom} {x y : Str} (h : x ≠ [] ∧ y ≠ [] ∧ (∃ a ∈ l, hasV x a = true ∧ hasV y a = false) ∧ (∃ a ∈ l, hasV x a = true ∧ hasV y a = true) ∧ ∃ a ∈ l, hasV x a = false ∧ hasV y a = true) :
    y ≠ [] ∧ x ≠ [] ∧ (∃ a ∈ l, hasV y a = true ∧ hasV x a = false) ∧ (∃ a ∈ l, hasV y a = true ∧ hasV x a = true) ∧ ∃ a ∈ l, hasV y a = false ∧ hasV x a = true := by
  obtain ⟨h1, h2, ⟨a, ha, a1, a2⟩, ⟨b, hb, b1, b2⟩, d, hd, d1, d2⟩ := h
  exact ⟨h2, h1, ⟨d, hd, d2, d1⟩, ⟨b, hb, b2, b1⟩, a, ha, a2, a1⟩
theorem stv_ex {l : List Atom} {a : Atom} (h : a ∈ l) : ∃ k, k < l.length ∧ ∀ n, (stv l n).getD k false = hasV n a := by
  obtain ⟨k, hk, e⟩ := mem_getD ([], false, []) h
  exact ⟨k, hk, fun n => by rw [stv_at hk, e]⟩
theorem bad_none {c : Cq} (h : vio c = none) : ¬ Bad c.1 := by
  rintro ⟨x, y, hb⟩
  have key : ∀ i j : Nat, i < j → j < (vrs (trm c)).length → ¬ (nmv c i ≠ [] ∧ nmv c j ≠ [] ∧ (∃ a ∈ c.1, hasV (nmv c i) a = true ∧ hasV (nmv c j) a = false) ∧ (∃ a ∈ c.1, hasV (nmv c i) a = true ∧ hasV (nmv c j) a = true) ∧ ∃ a ∈ c.1, hasV (nmv c i) a = false ∧ hasV (nmv c j) a = true) := by
    rintro i j hij hj ⟨_, _, ⟨a, ha, a1, a2⟩, ⟨b, hb, b1, b2⟩, d, hd, d1, d2⟩
    unfold vio at h
    have := fvI_none _ _ (Nat.zero_add _) h i j (Nat.zero_le _) hij hj
    have hl : (stv c.1 (nmv c i)).length = c.1.length := List.length_map _
    obtain ⟨ka, ka1, ka2⟩ := stv_ex ha
    obtain ⟨kb, kb1, kb2⟩ := stv_ex hb
    obtain ⟨kd, kd1, kd2⟩ := stv_ex hd
    have qa : 0 ≤ fi (ovl (stv c.1 (nmv c i)) (stv c.1 (nmv c j))) (stv c.1 (nmv c i)).length 0 := by
      refine fi_ex _ _ ka (Nat.zero_le _) (by omega) ?_
      unfold ovl; rw [ka2, ka2, a1, a2]; rfl
    have qb : 0 ≤ fi (ovp (stv c.1 (nmv c i)) (stv c.1 (nmv c j))) (stv c.1 (nmv c i)).length 0 := by
      refine fi_ex _ _ kb (Nat.zero_le _) (by omega) ?_
      unfold ovp; rw [kb2, kb2, b1, b2]; rfl
    have qd : 0 ≤ fi (ovr (stv c.1 (nmv c i)) (stv c.1 (nmv c j))) (stv c.1 (nmv c i)).length 0 := by
      refine fi_ex _ _ kd (Nat.zero_le _) (by omega) ?_
      unfold ovr; rw [kd2, kd2, d1, d2]; rfl
    unfold nneg trv trp at this
    dsimp only at this
    rw [decide_eq_true qa, decide_eq_true qb, decide_eq_true qd] at this
    cases this
  have hx : x ∈ vrs (trm c) := by
    obtain ⟨h1, h2, ⟨a, ha, a1, a2⟩, _⟩ := hb
    exact vrs_has h1 ha a1
  have hy : y ∈ vrs (trm c) := by
    obtain ⟨h1, h2, _, _, d, hd, d1, d2⟩ := hb
    exact vrs_has h2 hd d2
  obtain ⟨i, hi, rfl⟩ := mem_getD [] hx
  obtain ⟨j, hj, rfl⟩ := mem_getD [] hy
  rcases Nat.lt_trichotomy i j with hij | hij | hij
  · exact key i j hij hj hb
  · subst hij
    obtain ⟨h1, h2, ⟨a, ha, a1, a2⟩, _⟩ := hb
    rw [a1] at a2; cases a2
  · exact key j i hij hi (Bad.swap hb)
theorem wAt_mem {c : Cq} {x y : Str} {i : Int} {p q : Bool} (h : wAt c x y i p q) : ∃ a ∈ c.1, hasV x a = p ∧ hasV y a = q :=
  ⟨_, getDm _ (by have := h.1; have := h.2.1; omega), h.2.2⟩
theorem bad_iff (c : Cq) : (viR c (vio c)).2 = true ↔ Bad c.1 := by
  constructor
  · intro h
    obtain ⟨n1, n2, a, b, d⟩ := wit_ok h
    exact ⟨_, _, n1, n2, wAt_mem a, wAt_mem b, wAt_mem d⟩
  · intro h
    cases e : vio c with
    | none => exact absurd h (bad_none e)
    | some r => rfl
/-! the components -/
theorem mem_cls {p : List Int} {k r : Nat} {x : Int} : x ∈ cls p k r ↔ ∃ i : Nat, x = (i : Int) ∧ i < k ∧ rt p i = r := by
  unfold cls
  rw [List.mem_map]
  constructor
  · rintro ⟨i, hi, rfl⟩
    obtain ⟨h1, h2⟩ := List.mem_filter.1 hi
    exact ⟨i, rfl, List.mem_range.1 h1, of_decide_eq_true h2⟩
  · rintro ⟨i, rfl, h1, h2⟩
    exact ⟨i, List.mem_filter.2 ⟨List.mem_range.2 h1, decide_eq_true h2⟩, rfl⟩
theorem mem_kept {l : List (List Int)} {p : List Int} : p ∈ kept l ↔ p ∈ l ∧ p ≠ [] := by
  unfold kept
  rw [List.mem_filter]
  have e : (!emp p) = true ↔ p ≠ [] := by
    unfold emp
    cases p with
    | nil => simp
    | cons a p =>
      have : decide (((a :: p).length : Int) = 0) = false := decide_eq_false (by rw [List.length_cons]; omega)
      rw [this]; simp
  rw [e]
theorem comps_mem {c : Cq} {p : List Int} (h : p ∈ comps c) : ∃ r, r < c.1.length ∧ p = cls (parF c) c.1.length r := by
  rw [comps_eq] at h
  obtain ⟨h1, _⟩ := mem_kept.1 h
  obtain ⟨r, hr, e⟩ := List.mem_map.1 h1
  exact ⟨r, List.mem_range.1 hr, e.symm⟩
theorem comps_bound {c : Cq} {p : List Int} (h : p ∈ comps c) {x : Int} (hx : x ∈ p) : 0 ≤ x ∧ x < (c.1.length : Int) := by
  obtain ⟨r, _, rfl⟩ := comps_mem h
  obtain ⟨i, rfl, h1, _⟩ := mem_cls.1 hx
  omega
/-- the class of an atom is a component -/
theorem comps_cls (c : Cq) {i : Nat} (hi : i < c.1.length) : cls (parF c) c.1.length (rt (parF c) i) ∈ comps c ∧ (i : Int) ∈ cls (parF c) c.1.length (rt (parF c) i) := by
  obtain ⟨w, n, _⟩ := parF_cn c
  obtain ⟨_, h⟩ := rt_Rt w (show i < (parF c).length by omega)
  have hm : (i : Int) ∈ cls (parF c) c.1.length (rt (parF c) i) := mem_cls.2 ⟨i, rfl, hi, rfl⟩
  refine ⟨?_, hm⟩
  rw [comps_eq]
  exact mem_kept.2 ⟨List.mem_map.2 ⟨_, List.mem_range.2 (by omega), rfl⟩, fun e => by rw [e] at hm; cases hm⟩
theorem cls_nd (p : List Int) (k r : Nat) : (cls p k r).Pairwise (· ≠ ·) := by
  unfold cls
  rw [List.pairwise_map]
  exact (List.nodup_range.filter _).imp fun h e => h (by omega)
/-- no two components share an atom -/
theorem comps_dj (c : Cq) : (comps c).Pairwise fun a b => ∀ x ∈ a, ∀ y ∈ b, x ≠ y := by
  rw [comps_eq]
  unfold kept
  refine List.Pairwise.filter _ ?_
  rw [List.pairwise_map]
  refine List.nodup_range.imp fun {r s} h x hx y hy e => h ?_
  obtain ⟨i, rfl, _, rfl⟩ := mem_cls.1 hx
  obtain ⟨j, rfl, _, rfl⟩ := mem_cls.1 hy
  have : i = j := by omega
  rw [this]
theorem comps_nd (c : Cq) : (comps c).flatten.Pairwise (· ≠ ·) := by
  rw [List.pairwise_flatten]
  refine ⟨fun p hp => ?_, comps_dj c⟩
  obtain ⟨r, _, rfl⟩ := comps_mem hp
  exact cls_nd _ _ _
/-- the atoms of a part -/
def subA (l : List Atom) (p : List Int) : List Atom := p.map fun i => l.getD i.toNat ([], false, [])
theorem share {c : Cq} {x : Str} (hx : x ≠ []) {i j : Nat} (hi : i < c.1.length) (hj : j < c.1.length) (h1 : hasV x (c.1.getD i ([], false, [])) = true) (h2 : hasV x (c.1.getD j ([], false, [])) = true) :
    rt (parF c) i = rt (parF c) j := by
  obtain ⟨w, n, h, _⟩ := parF_cn c
  refine (rt_eq w (by omega) (by omega)).2 ?_
  refine h (occs c.1 x) (List.mem_append.2 (.inl (List.mem_map.2 ⟨x, vrs_has hx (getDm _ hi) h1, rfl⟩))) _ ?_ _ ?_
  all_goals
    unfold occs occ
    rw [if_neg hx]
    refine List.mem_map.2 ⟨_, List.mem_filter.2 ⟨List.mem_range.2 ?_, ?_⟩, rfl⟩ <;> assumption
theorem subA_mem {l : List Atom} {p : List Int} {a : Atom} (h : a ∈ subA l p) : ∃ x ∈ p, l.getD x.toNat ([], false, []) = a := List.mem_map.1 h
/-- a CQ is hierarchical exactly if its components are -/
theorem bad_parts (c : Cq) : Bad c.1 ↔ ∃ p ∈ comps c, Bad (subA c.1 p) := by
  constructor
  · rintro ⟨x, y, h1, h2, ⟨a, ha, a1, a2⟩, ⟨b, hb, b1, b2⟩, d, hd, d1, d2⟩
    obtain ⟨i, hi, rfl⟩ := mem_getD ([], false, []) ha
    obtain ⟨j, hj, rfl⟩ := mem_getD ([], false, []) hb
    obtain ⟨k, hk, rfl⟩ := mem_getD ([], false, []) hd
    obtain ⟨m1, m2⟩ := comps_cls c hj
    have e1 := share h1 hi hj a1 b1
    have e2 := share h2 hk hj d2 b2
    have hs : ∀ z, z < c.1.length → rt (parF c) z = rt (parF c) j → c.1.getD z ([], false, []) ∈ subA c.1 (cls (parF c) c.1.length (rt (parF c) j)) := fun z hz e =>
      List.mem_map.2 ⟨(z : Int), mem_cls.2 ⟨z, rfl, hz, e⟩, by rw [Int.toNat_natCast]⟩
    exact ⟨_, m1, x, y, h1, h2, ⟨_, hs i hi e1, a1, a2⟩, ⟨_, hs j hj rfl, b1, b2⟩, _, hs k hk e2, d1, d2⟩
  · rintro ⟨p, hp, x, y, h1, h2, ⟨a, ha, a1, a2⟩, ⟨b, hb, b1, b2⟩, d, hd, d1, d2⟩
    have hm : ∀ a ∈ subA c.1 p, a ∈ c.1 := fun a ha => by
      obtain ⟨x, hx, rfl⟩ := subA_mem ha
      have := comps_bound hp hx
      exact getDm _ (by omega)
    exact ⟨x, y, h1, h2, ⟨a, hm a ha, a1, a2⟩, ⟨b, hm b hb, b1, b2⟩, d, hm d hd, d1, d2⟩
/-- different components share no variable -/
theorem parts_apart (c : Cq) {i k : Nat} (hi : i < (comps c).length) (hk : k < (comps c).length) (hne : i ≠ k) {v : Str} (hv : v ∈ vrs (trm (subA c.1 ((comps c).getD i []), []))) : occs (subA c.1 ((comps c).getD k [])) v = [] := by
  obtain ⟨hv0, a, ha, h1⟩ := vrs_at hv
  obtain ⟨x, hx, rfl⟩ := subA_mem ha
  have gi := getDm [] hi
  have gk := getDm [] hk
  have bx := comps_bound gi hx
  unfold occs
  rw [if_neg hv0]
  unfold occ
  rw [List.map_eq_nil_iff, List.filter_eq_nil_iff]
  intro m hm h2
  have hm := List.mem_range.1 hm
  obtain ⟨y, hy, e⟩ := subA_mem (getDm ([], false, []) hm)
  rw [← e] at h2
  have by' := comps_bound gk hy
  have hs := share hv0 (by omega) (by omega) h1 h2
  obtain ⟨r, _, er⟩ := comps_mem gi
  obtain ⟨s, _, es⟩ := comps_mem gk
  have hx' := hx
  have hy' := hy
  rw [er] at hx'
  rw [es] at hy'
  obtain ⟨x', ex, _, rx⟩ := mem_cls.1 hx'
  obtain ⟨y', ey, hy2, ry⟩ := mem_cls.1 hy'
  have tx : x.toNat = x' := by omega
  have ty : y.toNat = y' := by omega
  rw [tx, ty, rx, ry] at hs
  have hyi : y ∈ (comps c).getD i [] := by
    rw [er, ey]
    exact mem_cls.2 ⟨y', rfl, hy2, by rw [ry, hs]⟩
  have hd := List.pairwise_iff_getElem.1 (comps_dj c)
  have ei : (comps c).getD i [] = (comps c)[i] := by rw [List.getD_eq_getElem?_getD, List.getElem?_eq_getElem hi]; rfl
  have ek : (comps c).getD k [] = (comps c)[k] := by rw [List.getD_eq_getElem?_getD, List.getElem?_eq_getElem hk]; rfl
  rw [ei] at hyi
  rw [ek] at hy
  rcases Nat.lt_or_gt_of_ne hne with h | h
  · exact hd i k hi hk h y hyi y hy rfl
  · exact hd k i hk hi h y hy y hyi rfl
/-! root variables -/
theorem filt_le {α : Type} {p q : α → Bool} : ∀ (l : List α), (∀ x ∈ l, p x = true → q x = true) → (l.filter p).length ≤ (l.filter q).length
  | [], _ => Nat.le_refl _
  | z :: l, h => by
    have h0 := h z (List.mem_cons_self ..)
    have ih := filt_le l fun x hx => h x (List.mem_cons_of_mem _ hx)
    simp only [List.filter_cons]
    cases e : p z with
    | true => rw [h0 e]; simp only [if_true, List.length_cons]; omega
    | false => cases q z <;> simp only [if_true, Bool.false_eq_true, if_false, List.length_cons] <;> omega
theorem filt_lt {α : Type} {p q : α → Bool} : ∀ (l : List α), (∀ x ∈ l, p x = true → q x = true) → (∃ x ∈ l, q x = true ∧ p x = false) → (l.filter p).length < (l.filter q).length
  | [], _, ⟨_, h, _⟩ => by cases h
  | x :: l, h, ⟨y, hy, h1, h2⟩ => by
    have hl := filt_le l fun x hx => h x (List.mem_cons_of_mem _ hx)
    have h0 := h x (List.mem_cons_self ..)
    simp only [List.filter_cons]
    rcases List.mem_cons.1 hy with rfl | hy
    · rw [h1, h2]; simp only [if_true, Bool.false_eq_true, if_false, List.length_cons]; omega
    · have ih := filt_lt l (fun x hx => h x (List.mem_cons_of_mem _ hx)) ⟨y, hy, h1, h2⟩
      cases e : p x with
      | true => rw [h0 e]; simp only [if_true, List.length_cons]; omega
      | false => cases q x <;> simp only [if_true, Bool.false_eq_true, if_false, List.length_cons] <;> omega
theorem max_ex {α : Type} (f : α → Nat) : ∀ (l : List α), l ≠ [] → ∃ x ∈ l, ∀ y ∈ l, f y ≤ f x
  | [], h => absurd rfl h
  | [x], _ => ⟨x, List.mem_cons_self .., fun y hy => by rw [List.mem_singleton.1 hy]; exact Nat.le_refl _⟩
  | x :: z :: l, _ => by
    obtain ⟨w, hw, h⟩ := max_ex f (z :: l) (by simp)
    rcases Nat.le_total (f w) (f x) with hx | hx
    · refine ⟨x, List.mem_cons_self .., fun y hy => ?_⟩
      rcases List.mem_cons.1 hy with rfl | hy
      · exact Nat.le_refl _
      · exact Nat.le_trans (h y hy) hx
    · refine ⟨w, List.mem_cons_of_mem _ hw, fun y hy => ?_⟩
      rcases List.mem_cons.1 hy with rfl | hy
      · exact hx
      · exact h y hy
/-- one component: one class -/
theorem one_cls {c : Cq} (h : (comps c).length = 1) {i j : Nat} (hi : i < c.1.length) (hj : j < c.1.length) : rt (parF c) i = rt (parF c) j := by
  obtain ⟨a1, a2⟩ := comps_cls c hi
  obtain ⟨b1, b2⟩ := comps_cls c hj
  obtain ⟨p, hp⟩ := List.length_eq_one_iff.1 h
  rw [hp] at a1 b1
  rw [List.mem_singleton] at a1 b1
  rw [a1, ← b1] at a2
  obtain ⟨k, ek, _, e⟩ := mem_cls.1 a2
  have : i = k := by omega
  rw [this]; exact e
theorem comps_zero (c : Cq) (h : c.1.length = 0) : comps c = [] := by
  rw [comps_eq, h]; rfl
/-- a colour of all groups is one of all atoms, if there is one component -/
theorem one_col {c : Cq} (h : (comps c).length = 1) {f : Int → Prop} (hf : ∀ g ∈ grps c, ∀ x ∈ g, ∀ y ∈ g, (f x ↔ f y)) {i j : Nat} (hi : i < c.1.length) (hj : j < c.1.length) : f i ↔ f j := by
  obtain ⟨w, n, _, hc⟩ := parF_cn c
  have hc := hc f hf
  obtain ⟨a, _⟩ := rt_Rt w (show i < (parF c).length by omega)
  obtain ⟨b, _⟩ := rt_Rt w (show j < (parF c).length by omega)
  rw [hc _ _ (Int.natCast_nonneg _) (by omega) a, hc _ _ (Int.natCast_nonneg _) (by omega) b, one_cls h hi hj]
theorem mem_occs {l : List Atom} {n : Str} {x : Int} (h : x ∈ occs l n) : n ≠ [] ∧ ∃ i : Nat, x = (i : Int) ∧ i < l.length ∧ hasV n (l.getD i ([], false, [])) = true := by
  unfold occs at h
  split at h
  · cases h
  · rename_i hn
    unfold occ at h
    obtain ⟨i, hi, rfl⟩ := List.mem_map.1 h
    obtain ⟨h1, h2⟩ := List.mem_filter.1 hi
    exact ⟨hn, i, rfl, List.mem_range.1 h1, h2⟩
theorem root_ex {l : List Atom} (hl : 0 < l.length) (h1 : (comps (l, [])).length = 1) (hb : ¬ Bad l) : (∃ v ∈ vrs (trm (l, [])), (occs l v).length = l.length) ∨ (vrs (trm (l, [])) = [] ∧ l.length = 1) := by
  by_cases hv : vrs (trm (l, [])) = []
  · refine .inr ⟨hv, ?_⟩
    refine Decidable.byContradiction fun hn => ?_
    have hg : grps (l, []) = [] := by unfold grps; rw [hv]; rfl
    have := one_col (c := (l, [])) h1 (f := fun x => x = 0) (fun g hx => by rw [hg] at hx; cases hx) (i := 0) (j := 1) hl (show 1 < l.length by omega)
    have := this.1 rfl
    omega
  · left
    obtain ⟨v, hvm, hmax⟩ := max_ex (fun v => (occs l v).length) _ hv
    refine ⟨v, hvm, ?_⟩
    obtain ⟨hv0, a, ha, hva⟩ := vrs_at hvm
    have hlen : ∀ u, u ≠ [] → (occs l u).length = ((List.range l.length).filter fun i => hasV u (l.getD i ([], false, []))).length := fun u hu => by
      unfold occs occ; rw [if_neg hu, List.length_map]
    refine Decidable.byContradiction fun hn => ?_
    have hj : ∃ j, j < l.length ∧ hasV v (l.getD j ([], false, [])) = false := by
      refine Decidable.byContradiction fun hj => hn ?_
      rw [hlen v hv0, List.filter_eq_self.2, List.length_range]
      intro i hi
      cases e : hasV v (l.getD i ([], false, [])) with
      | true => rfl
      | false => exact absurd ⟨i, List.mem_range.1 hi, e⟩ hj
    obtain ⟨j, hj, hvj⟩ := hj
    obtain ⟨i, hi, rfl⟩ := mem_getD ([], false, []) ha
    have hcol := one_col (c := (l, [])) h1 (f := fun x => hasV v (l.getD x.toNat ([], false, [])) = true) (fun g hg => ?_) (i := i) (j := j) hi hj
    · rw [Int.toNat_natCast, Int.toNat_natCast] at hcol
      rw [hcol.1 hva] at hvj; cases hvj
    · unfold grps at hg
      rw [List.map_nil, List.append_nil] at hg
      obtain ⟨u, hu, rfl⟩ := List.mem_map.1 hg
      have key : ∀ x ∈ occs l u, ∀ y ∈ occs l u, hasV v (l.getD x.toNat ([], false, [])) = true → hasV v (l.getD y.toNat ([], false, [])) = true := by
        intro x hx y hy hvx
        obtain ⟨hu0, x, rfl, hx, hux⟩ := mem_occs hx
        obtain ⟨_, y, rfl, hy, huy⟩ := mem_occs hy
        rw [Int.toNat_natCast] at hvx ⊢
        cases e : hasV v (l.getD y ([], false, [])) with
        | true => rfl
        | false =>
          exfalso
          have hm := hmax u hu
          rw [hlen u hu0, hlen v hv0] at hm
          refine absurd (filt_lt (p := fun i => hasV v (l.getD i ([], false, []))) (q := fun i => hasV u (l.getD i ([], false, []))) (List.range l.length) (fun z hz hvz => ?_) ⟨y, List.mem_range.2 hy, huy, e⟩) (by omega)
          have hz := List.mem_range.1 hz
          cases e2 : hasV u (l.getD z ([], false, [])) with
          | true => rfl
          | false => exact absurd ⟨v, u, hv0, hu0, ⟨_, getDm _ hz, hvz, e2⟩, ⟨_, getDm _ hx, hvx, hux⟩, _, getDm _ hy, e, huy⟩ hb
      exact fun x hx y hy => ⟨key x hx y hy, key y hy x hx⟩
end Go.Proofs.Ytfidddcjieoblaa.Gx
