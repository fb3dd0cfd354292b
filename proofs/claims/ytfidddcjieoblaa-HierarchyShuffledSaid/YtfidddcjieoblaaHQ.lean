/-
  Hierarchy, plain: the classes of the union-find, and what Components returns.
-/
import Derived.Test.YtfidddcjieoblaaH7
namespace Go.Proofs.Ytfidddcjieoblaa.Gx
open Go Go.RowKit Tw B Nt
set_option linter.unusedVariables false
/-- two elements of one class -/
def Cn (p : List Int) (i j : Int) : Prop := ∃ r, Rt p i r ∧ Rt p j r
theorem Cn.symm {p : List Int} {i j : Int} (h : Cn p i j) : Cn p j i := let ⟨r, a, b⟩ := h; ⟨r, b, a⟩
theorem Cn.trans {p : List Int} {i j k : Int} (h : Cn p i j) (h' : Cn p j k) : Cn p i k := by
  obtain ⟨r, a, b⟩ := h
  obtain ⟨s, c, d⟩ := h'
  rw [b.det c] at a
  exact ⟨s, a, d⟩
/-- elements of one class stay together -/
def Kp (p q : List Int) : Prop := ∀ i j, 0 ≤ i → i < (p.length : Int) → 0 ≤ j → j < (p.length : Int) → Cn p i j → Cn q i j
/-- a colour that classes have -/
def Cl (f : Int → Prop) (p : List Int) : Prop := ∀ i r, 0 ≤ i → i < (p.length : Int) → Rt p i r → (f i ↔ f r)
theorem lnk_cn {p : List Int} {a b : Int} (hw : wfP p) (a0 : 0 ≤ a) (a1 : a < (p.length : Int)) (b0 : 0 ≤ b) (b1 : b < (p.length : Int)) :
    Kp p (lnk p a b) ∧ Cn (lnk p a b) a b ∧ ∀ f, Cl f p → (f a ↔ f b) → Cl f (lnk p a b) := by
  obtain ⟨w1, n1, p1, q1, _⟩ := find_spec hw a0 a1
  obtain ⟨r1, k1⟩ := find_root hw a0 a1
  have b1' : b < ((find p a).1.length : Int) := by rw [n1]; exact b1
  obtain ⟨w2, n2, p2, q2, _⟩ := find_spec w1 b0 b1'
  obtain ⟨r2, k2⟩ := find_root w1 b0 b1'
  have hR : ∀ j r, 0 ≤ j → j < (p.length : Int) → Rt p j r → Rt (find (find p a).1 b).1 j r := fun j r h0 h1 h => k2 j r h0 (by rw [n1]; exact h1) (k1 j r h0 h1 h)
  have ra := hR a _ a0 a1 r1
  have rb := k2 b _ b0 b1' r2
  have hfb : Rt p b (find (find p a).1 b).2 := by
    obtain ⟨s, hs, _, _⟩ := Rt.ex hw _ b b0 b1 (Nat.lt_succ_self _)
    rw [← (k1 b s b0 b1 hs).det r2]; exact hs
  have hx := ra.root
  have hy := rb.root
  have hlen : (find (find p a).1 b).1.length = p.length := by rw [n2, n1]
  have e : lnk p a b = (find (find p a).1 b).1.set (max (find p a).2 (find (find p a).1 b).2).toNat (min (find p a).2 (find (find p a).1 b).2) := rfl
  rw [e]
  generalize find (find p a).1 b = y at *
  generalize find p a = x at *
  have hl : ∀ j r, 0 ≤ j → j < (p.length : Int) → Rt p j r → Rt (y.1.set (max x.2 y.2).toNat (min x.2 y.2)) j (if r = max x.2 y.2 then min x.2 y.2 else r) := fun j r h0 h1 h =>
    Rt.link w2 hx hy p1 (by rw [hlen]; omega) p2 (by rw [hlen]; omega) h0 (by rw [hlen]; exact h1) (hR j r h0 h1 h)
  refine ⟨fun i j i0 i1 j0 j1 ⟨r, hi, hj⟩ => ⟨_, hl i r i0 i1 hi, hl j r j0 j1 hj⟩, ?_, fun f hf hab i r i0 i1 hi => ?_⟩
  · have ha := hl a _ a0 a1 r1
    have hb := hl b _ b0 b1 hfb
    have e1 : (if x.2 = max x.2 y.2 then min x.2 y.2 else x.2) = min x.2 y.2 := by split <;> omega
    have e2 : (if y.2 = max x.2 y.2 then min x.2 y.2 else y.2) = min x.2 y.2 := by split <;> omega
    rw [e1] at ha
    rw [e2] at hb
    exact ⟨_, ha, hb⟩
  · rw [List.length_set, hlen] at i1
    obtain ⟨s, hs, _, _⟩ := Rt.ex hw _ i i0 i1 (Nat.lt_succ_self _)
    have hr := (hl i s i0 i1 hs).det hi
    have h1 := hf i s i0 i1 hs
    have hxy : f x.2 ↔ f y.2 := (hf a _ a0 a1 r1).symm.trans (hab.trans (hf b _ b0 b1 hfb))
    rw [← hr, h1]
    by_cases es : s = max x.2 y.2
    · rw [if_pos es]
      rcases Int.le_total x.2 y.2 with h | h
      · rw [Int.min_eq_left h, es, Int.max_eq_right h]; exact hxy.symm
      · rw [Int.min_eq_right h, es, Int.max_eq_left h]; exact hxy
    · rw [if_neg es]
theorem con_cn {p l : List Int} (hw : wfP p) (hl : inP' p.length l) : ∀ k, k ≤ l.length →
    Kp p (con p l k) ∧ (∀ i, i < k → Cn (con p l k) (l.getD 0 0) (l.getD i 0)) ∧ ∀ f, Cl f p → (∀ x ∈ l, ∀ y ∈ l, (f x ↔ f y)) → Cl f (con p l k)
  | 0, _ => ⟨fun _ _ _ _ _ _ h => h, fun i h => absurd h (Nat.not_lt_zero _), fun f h _ => h⟩
  | k + 1, h => by
    obtain ⟨h1, h2, h3⟩ := con_cn hw hl k (by omega)
    obtain ⟨w1, n1⟩ := con_spec hw hl k (by omega)
    rw [con_succ (by omega)]
    have m0 := getDm 0 (show 0 < l.length by omega)
    have mk := getDm 0 (show k < l.length by omega)
    have a := hl _ m0
    have b := hl _ mk
    obtain ⟨q1, q2, q3⟩ := lnk_cn w1 a.1 (by rw [n1]; exact a.2) b.1 (by rw [n1]; exact b.2)
    refine ⟨fun i j i0 i1 j0 j1 hc => q1 i j i0 (by rw [n1]; exact i1) j0 (by rw [n1]; exact j1) (h1 i j i0 i1 j0 j1 hc), fun i hi => ?_, fun f hf hg => q3 f (h3 f hf hg) (hg _ m0 _ mk)⟩
    rcases Nat.lt_or_ge i k with hik | hik
    · have c := hl _ (getDm 0 (show i < l.length by omega))
      exact q1 _ _ a.1 (by rw [n1]; exact a.2) c.1 (by rw [n1]; exact c.2) (h2 i hik)
    · have : i = k := by omega
      subst this
      exact q2
theorem mem_getD {α : Type} {l : List α} {x : α} (d : α) (h : x ∈ l) : ∃ i, i < l.length ∧ l.getD i d = x := by
  obtain ⟨i, hi, e⟩ := List.mem_iff_getElem.1 h
  exact ⟨i, hi, by rw [List.getD_eq_getElem?_getD, List.getElem?_eq_getElem hi]; exact e⟩
theorem conA_cn {p l : List Int} (hw : wfP p) (hl : inP' p.length l) :
    Kp p (conA p l) ∧ (∀ x ∈ l, ∀ y ∈ l, Cn (conA p l) x y) ∧ ∀ f, Cl f p → (∀ x ∈ l, ∀ y ∈ l, (f x ↔ f y)) → Cl f (conA p l) := by
  obtain ⟨h1, h2, h3⟩ := con_cn hw hl _ (Nat.le_refl _)
  refine ⟨h1, fun x hx y hy => ?_, h3⟩
  obtain ⟨i, hi, rfl⟩ := mem_getD 0 hx
  obtain ⟨j, hj, rfl⟩ := mem_getD 0 hy
  exact (h2 i hi).symm.trans (h2 j hj)
theorem fold_cn {n : Nat} : ∀ (G : List (List Int)) (p : List Int), wfP p → p.length = n → (∀ g ∈ G, inP' n g) →
    wfP (G.foldl conA p) ∧ (G.foldl conA p).length = n ∧ Kp p (G.foldl conA p) ∧ (∀ g ∈ G, ∀ x ∈ g, ∀ y ∈ g, Cn (G.foldl conA p) x y) ∧
      ∀ f, Cl f p → (∀ g ∈ G, ∀ x ∈ g, ∀ y ∈ g, (f x ↔ f y)) → Cl f (G.foldl conA p)
  | [], p, hw, hn, _ => ⟨hw, hn, fun _ _ _ _ _ _ h => h, fun _ h => (by cases h), fun _ h _ => h⟩
  | g :: G, p, hw, hn, hG => by
    have hg := hG g (List.mem_cons_self ..)
    obtain ⟨w1, n1⟩ := conA_spec hw hn hg
    obtain ⟨a1, a2, a3⟩ := conA_cn hw (by rw [hn]; exact hg)
    obtain ⟨b1, b2, b3, b4, b5⟩ := fold_cn G (conA p g) w1 n1 fun x hx => hG x (List.mem_cons_of_mem _ hx)
    rw [List.foldl_cons]
    refine ⟨b1, b2, fun i j i0 i1 j0 j1 h => ?_, fun x hx => ?_, fun f hf hh => b5 f (a3 f hf (hh g (List.mem_cons_self ..))) fun x hx => hh x (List.mem_cons_of_mem _ hx)⟩
    · rw [hn] at i1 j1
      exact b3 i j i0 (by rw [n1]; exact i1) j0 (by rw [n1]; exact j1) (a1 i j i0 (by rw [hn]; exact i1) j0 (by rw [hn]; exact j1) h)
    · rcases List.mem_cons.1 hx with rfl | hx
      · intro i hi j hj
        have c := hg i hi
        have d := hg j hj
        exact b3 i j c.1 (by rw [n1]; exact c.2) d.1 (by rw [n1]; exact d.2) (a2 i hi j hj)
      · exact b4 x hx
/-- the groups of atoms that Components connects -/
def cpG (l : List Atom) (k : Cmp) : List Int := if k.2.1.1 ≠ [] ∧ k.2.2.1 ≠ [] then occs l k.2.1.1 ++ occs l k.2.2.1 else []
def grps (c : Cq) : List (List Int) := (vrs (trm c)).map (occs c.1) ++ c.2.map (cpG c.1)
theorem conA_nil (p : List Int) : conA p [] = p := rfl
def parF (c : Cq) : List Int := parC c c.2.length
theorem parF_eq (c : Cq) : parF c = (grps c).foldl conA (idP c.1.length) := by
  unfold parF parC parN grps
  rw [List.take_length, List.take_length, List.foldl_append, List.foldl_map, List.foldl_map]
  have : stepC c.1 = fun p k => conA p (cpG c.1 k) := by
    funext p k
    unfold stepC cpG
    split
    · rfl
    · rw [conA_nil]
  rw [this]
  rfl
theorem grps_in (c : Cq) : ∀ g ∈ grps c, inP' c.1.length g := by
  intro g hg
  unfold grps at hg
  rcases List.mem_append.1 hg with h | h
  · obtain ⟨x, _, rfl⟩ := List.mem_map.1 h; exact occs_in _ _
  · obtain ⟨x, _, rfl⟩ := List.mem_map.1 h
    unfold cpG
    split
    · exact inP'_app (occs_in _ _) (occs_in _ _)
    · exact fun _ h => by cases h
theorem idP_get {n k : Nat} (h : k < n) : (idP n).getD k 0 = (k : Int) := by
  unfold idP
  rw [List.getD_eq_getElem?_getD, List.getElem?_map, List.getElem?_range h]
  rfl
theorem idP_par {n : Nat} {i : Int} (h0 : 0 ≤ i) (h1 : i < (n : Int)) : par (idP n) i = i := by
  unfold par
  rw [idP_get (by omega)]; omega
theorem idP_cl (f : Int → Prop) (n : Nat) : Cl f (idP n) := by
  intro i r h0 h1 h
  rw [idP_len] at h1
  rw [h.det (.fix (idP_par h0 h1))]
theorem parF_cn (c : Cq) : wfP (parF c) ∧ (parF c).length = c.1.length ∧ (∀ g ∈ grps c, ∀ x ∈ g, ∀ y ∈ g, Cn (parF c) x y) ∧ ∀ f, (∀ g ∈ grps c, ∀ x ∈ g, ∀ y ∈ g, (f x ↔ f y)) → Cl f (parF c) := by
  obtain ⟨h1, h2, h3, h4, h5⟩ := fold_cn (grps c) (idP c.1.length) (idP_wf _) (idP_len _) (grps_in c)
  rw [parF_eq]
  exact ⟨h1, h2, h4, fun f hf => h5 f (idP_cl f _) hf⟩
/-- the root as a number -/
theorem rt_Rt {p : List Int} (hw : wfP p) {i : Nat} (hi : i < p.length) : Rt p i (rt p i) ∧ rt p i ≤ i := by
  have i0 : (0 : Int) ≤ (i : Int) := Int.natCast_nonneg _
  have i1 : (i : Int) < (p.length : Int) := Int.ofNat_lt.2 hi
  obtain ⟨_, _, q1, q2, _⟩ := find_spec hw i0 i1
  obtain ⟨r, _⟩ := find_root hw i0 i1
  unfold rt
  rw [Int.toNat_of_nonneg q1]
  exact ⟨r, by omega⟩
theorem rt_eq {p : List Int} (hw : wfP p) {i j : Nat} (hi : i < p.length) (hj : j < p.length) : rt p i = rt p j ↔ Cn p i j := by
  obtain ⟨a, _⟩ := rt_Rt hw hi
  obtain ⟨b, _⟩ := rt_Rt hw hj
  constructor
  · intro h
    rw [h] at a
    exact ⟨_, a, b⟩
  · rintro ⟨r, c, d⟩
    have := a.det c
    have := b.det d
    omega
theorem rt_rt {p : List Int} (hw : wfP p) {i : Nat} (hi : i < p.length) : rt p (rt p i) = rt p i := by
  obtain ⟨a, b⟩ := rt_Rt hw hi
  obtain ⟨c, _⟩ := rt_Rt hw (show rt p i < p.length by omega)
  have := c.det (.fix a.root)
  omega
/-- the class of a root, among the first k -/
def cls (p : List Int) (k r : Nat) : List Int := ((List.range k).filter fun i => decide (rt p i = r)).map fun i : Nat => (i : Int)
theorem mems_cls {n : Nat} {p : List Int} (hw : wfP p) (hn : p.length = n) : ∀ k, k ≤ n →
    (∀ j r, 0 ≤ j → j < (n : Int) → Rt p j r → Rt (mems p n k).1 j r) ∧ ∀ r, r < n → (mems p n k).2.getD r [] = cls p k r
  | 0, _ => ⟨fun _ _ _ _ h => h, fun r hr => by
      show (List.replicate n ([] : List Int)).getD r [] = []
      rw [List.getD_eq_getElem?_getD, List.getElem?_replicate]
      split <;> rfl⟩
  | k + 1, h => by
    obtain ⟨h1, h2⟩ := mems_cls hw hn k (by omega)
    obtain ⟨m1, m2, m3, _⟩ := mems_spec hw hn k (by omega)
    rw [mems_succ]
    have i0 : (0 : Int) ≤ (k : Int) := Int.natCast_nonneg _
    have i1 : (k : Int) < ((mems p n k).1.length : Int) := by rw [m2]; omega
    obtain ⟨r1, r2⟩ := find_root m1 i0 i1
    obtain ⟨w1, n1, p1, q1, _⟩ := find_spec m1 i0 i1
    have i2 : (k : Int) < ((find (mems p n k).1 k).1.length : Int) := by rw [n1]; exact i1
    obtain ⟨s1, s2⟩ := find_root w1 i0 i2
    have ff := find_find m1 i0 i1
    have hk := rt_Rt hw (show k < p.length by omega)
    have hrk : ((rt p k : Nat) : Int) = (find (mems p n k).1 k).2 := (h1 _ _ i0 (by omega) hk.1).det r1
    have e : memS (mems p n k) k = ((find (find (mems p n k).1 k).1 k).1, (mems p n k).2.set (find (mems p n k).1 k).2.toNat ((mems p n k).2.getD (find (find (mems p n k).1 k).1 k).2.toNat [] ++ [(k : Int)])) := rfl
    rw [e, ff, ← hrk, Int.toNat_natCast]
    refine ⟨fun j r j0 j1 hj => s2 j r j0 (by rw [n1, m2]; exact j1) (r2 j r j0 (by rw [m2]; exact j1) (h1 j r j0 j1 hj)), fun r hr => ?_⟩
    have hc : cls p (k + 1) r = cls p k r ++ if rt p k = r then [(k : Int)] else [] := by
      unfold cls
      rw [List.range_succ, List.filter_append, List.map_append]
      congr 1
      simp only [List.filter_cons, List.filter_nil, decide_eq_true_eq]
      split <;> rfl
    rw [hc]
    dsimp only
    rw [List.getD_eq_getElem?_getD, List.getElem?_set]
    by_cases hrr : rt p k = r
    · rw [if_pos hrr, if_pos (by rw [m3, hrr]; exact hr), if_pos hrr, Option.getD_some, hrr, h2 r hr]
    · rw [if_neg hrr, if_neg hrr, List.append_nil, ← h2 r hr, List.getD_eq_getElem?_getD]
theorem comps_eq (c : Cq) : comps c = kept ((List.range c.1.length).map (cls (parF c) c.1.length)) := by
  obtain ⟨w, n, _⟩ := parF_cn c
  obtain ⟨_, h⟩ := mems_cls w n _ (Nat.le_refl _)
  obtain ⟨_, _, m3, _⟩ := mems_spec w n _ (Nat.le_refl _)
  have e : comps c = kept (mems (parF c) c.1.length c.1.length).2 := rfl
  rw [e]
  congr 1
  apply List.ext_getElem?
  intro i
  rcases Nat.lt_or_ge i c.1.length with hi | hi
  · have := h i hi
    rw [List.getD_eq_getElem?_getD, List.getElem?_eq_getElem (by omega)] at this
    rw [List.getElem?_eq_getElem (by omega), List.getElem?_map, List.getElem?_range hi]
    exact congrArg some this
  · rw [List.getElem?_eq_none (by omega), List.getElem?_eq_none (by rw [List.length_map, List.length_range]; exact hi)]
end Go.Proofs.Ytfidddcjieoblaa.Gx
