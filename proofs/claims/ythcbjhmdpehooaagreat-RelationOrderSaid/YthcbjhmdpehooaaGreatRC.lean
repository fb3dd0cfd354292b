/-
  RelationOrder.
-/
import Derived.Test.YthcbjhmdpehooaaGreatRB
import Derived.Test.YthcbjhmdpehooaaGreatV4
import Derived.Test.YthcbjhmdpehooaaGreatTF
namespace Go.Proofs.YthcbjhmdpehooaaGreat.Gx
open Go Go.RowKit Tw B Nt
set_option linter.unusedVariables false
set_option linter.unusedSimpArgs false
set_option maxHeartbeats 4000000
set_option maxRecDepth 20000
def stI (r : Rel) (t : Tup) : Rel := if insE r t = 0 then insR r t else r
def runI (s : Sch) (L : List Tup) : Rel × Bool := L.foldl (fun x t => (stI x.1 t, x.2 && decide (insE x.1 t = 0))) ((s, []), true)
def insAll (L : List Tup) : List Tup := L.foldl insT []
theorem runI_snoc (s : Sch) (L : List Tup) (t : Tup) : runI s (L ++ [t]) = (stI (runI s L).1 t, (runI s L).2 && decide (insE (runI s L).1 t = 0)) := by
 unfold runI; rw [List.foldl_append]; rfl
theorem insAll_snoc (L : List Tup) (t : Tup) : insAll (L ++ [t]) = insT (insAll L) t := by
 unfold insAll; rw [List.foldl_append]; rfl
theorem snoc_ind {α : Type} {P : List α → Prop} (h0 : P []) (h : ∀ l a, P l → P (l ++ [a])) (l : List α) : P l := by
 have key : ∀ n (l : List α), l.length = n → P l := by
  intro n
  induction n with
  | zero => intro l e; rw [List.eq_nil_of_length_eq_zero e]; exact h0
  | succ n ih =>
   intro l e
   have hne : l ≠ [] := by intro h; rw [h] at e; cases e
   rw [← List.dropLast_concat_getLast hne]
   exact h _ _ (ih _ (by rw [List.length_dropLast]; omega))
 exact key _ l rfl
theorem insAll_perm (L : List Tup) : (insAll L).Perm L := by
 induction L using snoc_ind with
 | h0 => exact List.Perm.refl _
 | h l a ih =>
  rw [insAll_snoc]
  exact (insT_perm _ _).trans ((ih.cons a).trans (List.perm_append_singleton a l).symm)
theorem insAll_srt {L : List Tup} (h : (L.map (·.1)).Nodup) : srtT (insAll L) := by
 induction L using snoc_ind with
 | h0 => exact List.Pairwise.nil
 | h l a ih =>
  rw [List.map_append, List.nodup_append] at h
  rw [insAll_snoc]
  refine insT_srt (ih h.1) fun u hu e => ?_
  have hu : u ∈ l := (insAll_perm l).mem_iff.1 hu
  exact h.2.2 _ (List.mem_map.2 ⟨u, hu, rfl⟩) _ (by simp) e
theorem insAll_eq {s : Sch} {L L' : List Tup} (hp : L.Perm L') (h : vldP s (insAll L)) : insAll L' = insAll L := by
 have h1 := srt_nodup h.2.2.2.1
 have h2 : (L'.map (·.1)).Nodup := by
  rw [← (hp.map _).nodup_iff, ← ((insAll_perm L).map _).nodup_iff]
  exact h1
 have h3 := insAll_srt h2
 refine List.Perm.eq_of_pairwise (le := fun (a b : Tup) => cT a.1 b.1 < 0) (fun a b _ _ h4 h5 => ?_) h3 h.2.2.2.1 ((insAll_perm L').trans (hp.symm.trans (insAll_perm L).symm))
 have := (cT_sw a.1 b.1).1 h4
 omega
theorem runI_spec {s : Sch} (hs : schOk s = true) {L : List Tup} (hL : ∀ t ∈ L, cnT t = t) : ∃ l, (runI s L).1 = (s, l) ∧ l.length ≤ L.length ∧ (∀ u ∈ l, u ∈ L) ∧ ((runI s L).2 = true → l = insAll L ∧ vldP s l) ∧ (vldP s (insAll L) → (runI s L).2 = true) := by
 induction L using snoc_ind with
 | h0 => exact ⟨[], rfl, Nat.le_refl _, fun u hu => hu, fun _ => ⟨rfl, hs, by decide, (fun t ht => by cases ht), List.Pairwise.nil, (fun t ht => by cases ht)⟩, fun _ => rfl⟩
 | h L t ih =>
  obtain ⟨l, h1, h2, h3, h4, h5⟩ := ih fun t ht => hL t (List.mem_append_left _ ht)
  have ht : cnT t = t := hL t (by simp)
  have hl : ∀ u ∈ l, cnT u = u := fun u hu => hL u (List.mem_append_left _ (h3 u hu))
  rw [runI_snoc, insAll_snoc, h1]
  unfold stI
  by_cases he : insE (s, l) t = 0
  ·rw [if_pos he, insR_ok he hl ht]
   refine ⟨insT l t, rfl, by rw [insT_len, List.length_append]; show _ ≤ _ + 1; omega, fun u hu => ?_, fun hb => ?_, fun hv => ?_⟩
   ·rcases insT_mem.1 hu with rfl | hu
    ·simp
    ·exact List.mem_append_left _ (h3 u hu)
   ·dsimp only at hb
    rw [Bool.and_eq_true] at hb
    rw [(h4 hb.1).1] at he ⊢
    exact ⟨rfl, insE_iff.1 he⟩
   ·dsimp only
    rw [h5 (hv.sub (insT_sub _ _)), decide_eq_true he]
    rfl
  ·rw [if_neg he]
   refine ⟨l, rfl, by rw [List.length_append]; omega, fun u hu => List.mem_append_left _ (h3 u hu), fun hb => ?_, fun hv => ?_⟩
   ·dsimp only at hb
    rw [decide_eq_false he, Bool.and_false] at hb
    cases hb
   ·have hb := h5 (hv.sub (insT_sub _ _))
    rw [← (h4 hb).1] at hv
    exact absurd (insE_iff.2 hv) he
theorem runI_both {s : Sch} (hs : schOk s = true) {L L' : List Tup} (hp : L.Perm L') (hL : ∀ t ∈ L, cnT t = t) : (runI s L).2 = (runI s L').2 ∧ ((runI s L).2 = true → (runI s L).1 = (runI s L').1 ∧ vldR (runI s L).1 = 0) := by
 obtain ⟨l, h1, h2, h3, h4, h5⟩ := runI_spec hs hL
 obtain ⟨l', g1, g2, g3, g4, g5⟩ := runI_spec hs (L := L') fun t ht => hL t (hp.mem_iff.2 ht)
 constructor
 ·rw [Bool.eq_iff_iff]
  constructor
  ·intro h
   have := (h4 h).2
   rw [(h4 h).1] at this
   refine g5 ?_
   rw [insAll_eq hp this]; exact this
  ·intro h
   have := (g4 h).2
   rw [(g4 h).1] at this
   refine h5 ?_
   rw [insAll_eq hp.symm this]; exact this
 ·intro h
  have k := h4 h
  have hv := k.2
  rw [k.1] at hv
  have e := insAll_eq hp hv
  have k' := g4 (g5 (by rw [e]; exact hv))
  rw [h1, g1]
  refine ⟨by rw [k.1, k'.1, e], vld_iff.2 k.2⟩
theorem cn_tup9 (n : Int) : cnT (tup9 n) = tup9 n := by
 have h : ∀ v q, cnT (v, qf q) = (v, qf q) := fun v q => by unfold cnT; rw [fq_qf]
 unfold tup9
 split
 ·exact h _ _
 ·split
  ·exact h _ _
  ·split
   ·exact h _ _
   ·exact h _ _
theorem and1 (x : Int) : bitsI .and .u8 x 1 = 0 ∨ bitsI .and .u8 x 1 = 1 := by
 have h1 : (BitVec.ofInt 8 x &&& BitVec.ofInt 8 1).toNat < 2 := by
  rw [BitVec.toNat_and]
  have h2 : (BitVec.ofInt 8 1).toNat = 2 ^ 1 - 1 := by decide
  rw [h2, Nat.and_two_pow_sub_one_eq_mod]
  exact Nat.mod_lt _ (by decide)
 have e : bitsI .and .u8 x 1 = IntKind.u8.wrap (BitVec.ofInt 8 x &&& BitVec.ofInt 8 1).toNat := rfl
 generalize (BitVec.ofInt 8 x &&& BitVec.ofInt 8 1).toNat = k at h1 e
 rw [e]
 have : k = 0 ∨ k = 1 := by omega
 rcases this with rfl | rfl
 ·exact .inl (by decide)
 ·exact .inr (by decide)
def tupL (l : List Int) : List Tup := l.map fun n => tup9 (bitsI .and .i64 n 127)
theorem tupL_cn {l : List Int} : ∀ t ∈ tupL l, cnT t = t := by
 intro t ht
 obtain ⟨n, _, rfl⟩ := List.mem_map.1 ht
 exact cn_tup9 _
theorem tupL_le {l : List Int} : ∀ t ∈ tupL l, t.1.length ≤ 2 ∧ fs t.2 ≤ 64 := by
 intro t ht
 obtain ⟨n, _, rfl⟩ := List.mem_map.1 ht
 exact tup9_le _
theorem runI_P {s : Sch} (hs : schOk s = true) {L : List Tup} (hL : ∀ t ∈ L, cnT t = t) (hl : ∀ t ∈ L, t.1.length ≤ 2 ∧ fs t.2 ≤ 64) (hn : L.length ≤ 400) : relP (runI s L).1 ∧ (runI s L).1.1 = s := by
 obtain ⟨l, h1, h2, h3, _⟩ := runI_spec hs hL
 have h4 := schOk_len hs
 rw [h1]
 exact ⟨⟨(show s.2.2.length ≤ 1000 by omega), (show l.length ≤ 400 by omega), fun t ht => by have := hl t (h3 t ht); omega⟩, rfl⟩
theorem tupP (n : Int) : (tup9 n).1.length ≤ 1000 ∧ fs (tup9 n).2 ≤ 1000 := by
 have := tup9_le n
 omega
def relC (r : Rel) : AV := .cons (.dat .str r.1.1) (.cons (.dat .bool r.1.2.1) (.cons (.dat (.slice colT) r.1.2.2) (.cons (.dat (.slice tupT) r.2) .nil)))
@[go_sem] def lOrS : Spec := ⟨[.slice (.int .i64), .int .u8], fun d => (.dat .bool true, [])⟩
theorem lOr_ok : SpecOk Tryz.prog 3 lOrS := by
 refine fn_ok ERH_ok lOrS Tryz.func3 rfl (by decide) (N := 102) rfl (res := [.tmp 4]) rfl (by decide) [(3, [(19, .dt), (1000000, .mx [(2000000, 8)])]), (4, [(1000000, .mx [(9000000, 0)])]), (9, [(1000000, .mx [(13, 11), (10, 1000000), (2000000, 11)])]), (10, [(1000000, .mx [(17, 15), (14, 1000000), (2000000, 15)])])] [] [] 100 (by kernel_rfl) ?_
 rintro ⟨(l:List Int), (kind:Int), _⟩ hw hp
 refine ⟨rfl, fun H hH => ?_⟩
 dsimp only [go_sem] at hw hp ⊢
 change List Int at l
 obtain ⟨⟨hll, hli⟩, hki, -⟩ := hw
 have hk2 := and1 kind
 refine ⟨fun _ => ⟨rfl, trivial⟩, fun h => ?_⟩
 have hlen : l.length ≤ 10 := by
  have h : ¬ (10 : Int) < (l.length : Int) := of_decide_eq_false h
  omega
 have hb1 : (0 : Int) ≤ bitsI .and .u8 kind 1 ∧ bitsI .and .u8 kind 1 < (([0, 2] : List Int).length : Int) := by
  show _ ∧ _ < (2 : Int)
  omega
 have hb2 : (0 : Int) ≤ ([0, 2] : List Int).getD (bitsI .and .u8 kind 1).toNat 0 ∧ ([0, 2] : List Int).getD (bitsI .and .u8 kind 1).toNat 0 < (schs.length : Int) := by
  rcases hk2 with e | e <;> rw [e] <;> decide
 refine ⟨hb1, hb2, ?_⟩
 obtain ⟨s, hs⟩ : ∃ s : Sch, schs.getD (([0, 2] : List Int).getD (bitsI .and .u8 kind 1).toNat (zd (.int .i64))).toNat (zd schT) = s := ⟨_, rfl⟩
 have hsok : schOk s = true := by
  rw [← hs]
  rcases hk2 with e | e <;> rw [e] <;> decide +kernel
 simp only [hs]
 refine hH.hand (fun H hH hh => ?_) (by kernel_rfl)
 refine two_H hh (T := 30) (d0 := 26) (d1 := 27) (d2 := 28) (d3 := 29) (d4 := 6) (d5 := 7) (s := 5) (sl := [(0, .dat (.slice (.int .i64)) l)]) rfl rfl rfl rfl rfl rfl rfl rfl rfl rfl rfl rfl rfl rfl rfl rfl rfl rfl rfl rfl rfl (an := .no) (dsts_ok _) rfl rfl rfl rfl rfl rfl ?_ ?_ ?_ ?_ (by kernel_rfl) (by kernel_rfl) rfl rfl (show 6 < 102 by decide) (show 7 < 102 by decide) ?_ ?_
 ·trivial
 ·trivial
 ·trivial
 ·trivial
 ·intro t x hx
  have hx := get?_mem hx
  simp only [List.mem_cons, Prod.mk.injEq, List.not_mem_nil, or_false] at hx
  obtain ⟨rfl, rfl⟩ := hx
  exact ⟨rfl, rfl, (show 0 < 102 by decide)⟩
 refine hH.run 100 _ _ ?_
 dsimp only [go_sem]
 refine hH.loop (fun i : Nat => ⟨[(10, .dat (.int .i64) (i : Int)), (8, .dat .bool (runI s ((tupL l).take i)).2), (9, .dat .bool (runI s ((tupL l).reverse.take i)).2), (7, .ref 2 0), (6, .ref 1 0), (0, .dat (.slice (.int .i64)) l)], [(2, .box 30 (relC (runI s ((tupL l).reverse.take i)).1)), (1, .box 30 (relC (runI s ((tupL l).take i)).1))], 3⟩) (fun i => i ≤ l.length) (fun i => l.length - i) 0 3 (Nat.zero_le _) ?_ ?_
 ·dsimp only [go_sem, relC]
  and_intros <;> first | trivial | rfl | omega
 ·rintro i hi R hm
  have hlm : (tupL l).length = l.length := List.length_map _
  have hlr : (tupL l).reverse.length = l.length := by rw [List.length_reverse]; exact hlm
  have hP1 := runI_P hsok (L := (tupL l).take i) (fun t ht => tupL_cn t (List.mem_of_mem_take ht)) (fun t ht => tupL_le t (List.mem_of_mem_take ht)) (by rw [List.length_take]; omega)
  have hP2 := runI_P hsok (L := (tupL l).reverse.take i) (fun t ht => tupL_cn t (List.mem_reverse.1 (List.mem_of_mem_take ht))) (fun t ht => tupL_le t (List.mem_reverse.1 (List.mem_of_mem_take ht))) (by rw [List.length_take]; omega)
  have hs1 : i < l.length → runI s ((tupL l).take (i + 1)) = (stI (runI s ((tupL l).take i)).1 (tup9 (bitsI .and .i64 (l.getD i 0) 127)), (runI s ((tupL l).take i)).2 && decide (insE (runI s ((tupL l).take i)).1 (tup9 (bitsI .and .i64 (l.getD i 0) 127)) = 0)) := by
   intro h
   rw [take_snoc tz (by show i < (tupL l).length; unfold tupL; rw [List.length_map]; exact h), runI_snoc]
   have : (tupL l).getD i tz = tup9 (bitsI .and .i64 (l.getD i 0) 127) := by
    unfold tupL
    rw [List.getD_eq_getElem?_getD, List.getElem?_map, List.getElem?_eq_getElem h, List.getD_eq_getElem?_getD, List.getElem?_eq_getElem h]
    rfl
   rw [this]
  have hs2 : i < l.length → runI s ((tupL l).reverse.take (i + 1)) = (stI (runI s ((tupL l).reverse.take i)).1 (tup9 (bitsI .and .i64 (l.getD (l.length - 1 - i) 0) 127)), (runI s ((tupL l).reverse.take i)).2 && decide (insE (runI s ((tupL l).reverse.take i)).1 (tup9 (bitsI .and .i64 (l.getD (l.length - 1 - i) 0) 127)) = 0)) := by
   intro h
   rw [take_snoc tz (by rw [List.length_reverse, hlm]; exact h), runI_snoc]
   have : (tupL l).reverse.getD i tz = tup9 (bitsI .and .i64 (l.getD (l.length - 1 - i) 0) 127) := by
    rw [List.getD_eq_getElem?_getD, List.getElem?_reverse (by rw [hlm]; exact h), hlm]
    unfold tupL
    rw [List.getElem?_map, List.getElem?_eq_getElem (by omega), List.getD_eq_getElem?_getD, List.getElem?_eq_getElem (by omega)]
    rfl
   rw [this]
  have hfin : i = l.length → (runI s ((tupL l).take i)).2 = (runI s ((tupL l).reverse.take i)).2 ∧ ((runI s ((tupL l).take i)).2 = true → (runI s ((tupL l).take i)).1 = (runI s ((tupL l).reverse.take i)).1 ∧ vldR (runI s ((tupL l).take i)).1 = 0) := by
   intro h
   rw [List.take_of_length_le (by omega), List.take_of_length_le (by rw [List.length_reverse]; omega)]
   exact runI_both hsok (List.reverse_perm _).symm tupL_cn
  generalize runI s ((tupL l).take i) = A at hP1 hs1 hfin ⊢
  generalize runI s ((tupL l).reverse.take i) = B at hP2 hs2 hfin ⊢
  obtain ⟨⟨a1, a2⟩, p⟩ := A
  obtain ⟨⟨b1, b2⟩, q⟩ := B
  dsimp only [relC] at *
  refine hH.run 100 _ _ ?_
  dsimp only [go_sem]
  have hz : ∀ j, l.getD j (zd (.int .i64)) = l.getD j 0 := fun _ => rfl
  simp only [hz, Int.toNat_natCast]
  refine ⟨fun d => ?_, fun d => ?_⟩
  ·have d : i < l.length := by
     have d := of_decide_eq_true d
     have : (i : Int) < (l.length : Int) := d
     omega
   have hb : (0 : Int) ≤ (i : Int) ∧ (i : Int) < (l.length : Int) := by omega
   have hb2 : (0 : Int) ≤ (l.length : Int) - 1 - (i : Int) ∧ (l.length : Int) - 1 - (i : Int) < (l.length : Int) := by omega
   have ht : ((l.length : Int) - 1 - (i : Int)).toNat = l.length - 1 - i := by omega
   have hi1 : inR .i64 ((i : Int) + 1) := by rw [inR_i64]; omega
   have hi2 : inR .i64 ((l.length : Int) - 1) := by rw [inR_i64]; omega
   have hi3 : inR .i64 ((l.length : Int) - 1 - (i : Int)) := by rw [inR_i64]; omega
   have hs1 := hs1 d
   have hs2 := hs2 d
   simp only [ht, imp_self, true_and]
   have hx := tupP (bitsI .and .i64 (l.getD i 0) 127)
   have hy := tupP (bitsI .and .i64 (l.getD (l.length - 1 - i) 0) 127)
   generalize tup9 (bitsI .and .i64 (l.getD i 0) 127) = x at hx hs1 ⊢
   generalize tup9 (bitsI .and .i64 (l.getD (l.length - 1 - i) 0) 127) = y at hy hs2 ⊢
   unfold stI at hs1 hs2
   refine ⟨hb, hP1.1, hx, hi2, hi3, hb2, hP2.1, hy, fun ea => ⟨fun eb => ?_, fun eb => ?_⟩, fun ea => ⟨fun eb => ?_, fun eb => ?_⟩⟩ <;> simp only [decide_eq_true_eq, decide_eq_false_iff_not] at ea eb <;> refine ⟨hi1, hm _ (i + 1) 3 d (by omega) ?_⟩ <;> dsimp only [go_sem] <;> rw [hs1, hs2] <;> simp only [ea, eb, if_true, if_false, decide_true, decide_false, Bool.and_true, Bool.and_false]
   all_goals and_intros <;> first | trivial | rfl | omega
  ·have d : i = l.length := by
     have d := of_decide_eq_false d
     have : ¬ (i : Int) < (l.length : Int) := d
     omega
   obtain ⟨f1, f2⟩ := hfin d
   have r1 : relP (a1, a2) := hP1.1
   have r2 : relP (b1, b2) := hP2.1
   have f1 : p = q := f1
   subst f1
   cases p with
   | false => simp [r1, r2]
   | true =>
    obtain ⟨g1, g2⟩ := f2 rfl
    have g3 : relE (a1, a2) (b1, b2) = true := relE_t g1
    have g4 : vldR (a1, a2) = 0 := g2
    simp [r1, r2, g3, g4]
end Go.Proofs.YthcbjhmdpehooaaGreat.Gx
