/-
  The law RationalLists.
-/
import Derived.Test.YtpplleoiehnlkaaL1
namespace Go.Proofs.Ytpplleoiehnlkaa.Gx
open Go Go.RowKit Tw B Nt
set_option linter.unusedVariables false
set_option linter.unusedSimpArgs false
set_option maxHeartbeats 4000000
set_option maxRecDepth 20000
def bfl (l : List Int) : List fT.den := l.map fun n => qf (bfr n)
theorem bfl_fs {l : List Int} : ∀ f ∈ bfl l, fs f ≤ 1000 := by
  intro f hf
  obtain ⟨n, -, rfl⟩ := List.mem_map.1 hf
  have := qs_le (bfr_b n)
  rw [fs_qf]; omega
theorem wf_qf {q : Rat} (h : qs q ≤ 1000) : wfD fT (qf q) := by
  have l1 := len_num q
  have l2 := len_den q
  exact ⟨trivial, ⟨Nat.le_trans l1 (by omega), fun d hd => inR_u32.2 (ds_num q d hd)⟩, Nat.le_trans l2 (by omega), fun d hd => inR_u32.2 (ds_den q d hd)⟩
theorem bfl_wf {l : List Int} : ∀ f ∈ bfl l, wfD fT f := by
  intro f hf
  obtain ⟨n, -, rfl⟩ := List.mem_map.1 hf
  exact wf_qf (by have := qs_le (bfr_b n); omega)
theorem qs_b {l : List fT.den} (hd : ∀ f ∈ l, wfD fT f) (hs : ∀ f ∈ l, fs f ≤ 1000) (hl : l.length ≤ 500) : qs (qsum l) ≤ 5000000 ∧ qs (qprod l) ≤ 5000000 := by
  have := qs_bs hd hs l.length (Nat.le_refl _)
  rw [List.take_of_length_le (Nat.le_refl _)] at this
  omega
theorem foldl_add : ∀ (l : List fT.den) (q : Rat), l.foldl (fun a f => a + fq f) q = q + qsum l
  | [], q => (Rat.add_zero q).symm
  | f :: l, q => by
    have e : qsum (f :: l) = fq f + qsum l := by
      unfold qsum
      rw [List.foldl_cons, foldl_add l, foldl_add l]
      rw [Rat.zero_add, Rat.zero_add]
    rw [List.foldl_cons, foldl_add l, e, Rat.add_assoc]
theorem foldl_mul : ∀ (l : List fT.den) (q : Rat), l.foldl (fun a f => a * fq f) q = q * qprod l
  | [], q => (Rat.mul_one q).symm
  | f :: l, q => by
    have e : qprod (f :: l) = fq f * qprod l := by
      unfold qprod
      rw [List.foldl_cons, foldl_mul l, foldl_mul l]
      rw [Rat.one_mul, Rat.one_mul]
    rw [List.foldl_cons, foldl_mul l, e, Rat.mul_assoc]
theorem qsum_app (l k : List fT.den) : qsum (l ++ k) = qsum l + qsum k := by
  unfold qsum
  rw [List.foldl_append, foldl_add k]
  rfl
theorem qprod_app (l k : List fT.den) : qprod (l ++ k) = qprod l * qprod k := by
  unfold qprod
  rw [List.foldl_append, foldl_mul k]
  rfl
theorem qsum_rev : ∀ l : List fT.den, qsum l.reverse = qsum l
  | [] => rfl
  | f :: l => by
    rw [List.reverse_cons, qsum_app, qsum_rev l, show f :: l = [f] ++ l from rfl, qsum_app, Rat.add_comm]
theorem qprod_rev : ∀ l : List fT.den, qprod l.reverse = qprod l
  | [] => rfl
  | f :: l => by
    rw [List.reverse_cons, qprod_app, qprod_rev l, show f :: l = [f] ++ l from rfl, qprod_app, Rat.mul_comm]
theorem bfl_get (z : List Int) (i : Nat) (h : i < z.length) (d : fT.den) (e : Int) : (bfl z).getD i d = qf (bfr (z.getD i e)) := by
  rw [List.getD_eq_getElem?_getD, List.getD_eq_getElem?_getD, bfl, List.getElem?_map, List.getElem?_eq_getElem h]
  rfl
theorem rev_get {α : Type} (l : List α) (i j : Nat) (h : i < l.length) (hj : j = l.length - 1 - i) (d : α) : l.reverse.getD i d = l.getD j d := by
  subst hj
  rw [List.getD_eq_getElem?_getD, List.getD_eq_getElem?_getD, List.getElem?_reverse h]
@[go_sem] def lListsS : Spec := ⟨[.slice (.int .i64), .int .i64], fun d => (.dat .bool true, [])⟩
theorem lLists_ok : SpecOk Try.prog 9 lListsS := by
  refine fn_ok E6_ok lListsS Try.func9 rfl (by decide) (N := 89) rfl (res := [.tmp 4]) rfl (by kernel_rfl) (by decide) [(9, [(39, .wr)])] [(10, [0, 1])] [] 100 ?_
  rintro ⟨(z:List Int), (k:Int), _⟩ hw hp
  refine ⟨rfl, fun H hH => ?_⟩
  dsimp only [go_sem] at hw hp ⊢
  refine ⟨fun h => ⟨rfl, trivial⟩, fun h => ?_⟩
  simp only [decide_eq_false_iff_not] at h
  refine hH.loop (fun i : Nat => ⟨[(0, .dat (.slice (.int .i64)) z), (1, .dat (.int .i64) k), (5, .own 0), (6, .own 1), (7, .dat (.int .i64) (i : Int))], [(0, .row 25 fT ((bfl z).take i)), (1, .row 25 fT ((bfl z).reverse.take i))], 2⟩) (fun i => i ≤ z.length) (fun i => z.length - i) 0 0 (Nat.zero_le _) ?_ ?_
  · dsimp only [go_sem]
    simp
  · intro i hi R hm
    refine hH.run 100 _ _ ?_
    dsimp only [go_sem]
    have hb : (bfl z).length = z.length := List.length_map ..
    refine ⟨fun c => ?_, fun c => ?_⟩ <;> simp only [decide_eq_true_eq, decide_eq_false_iff_not] at c
    · have hi' : i < z.length := by omega
      have j1 : (z.length : Int) - 1 - (i : Int) = ((z.length - 1 - i : Nat) : Int) := by omega
      have t1 := take_get (bfl z) i (zd fT) (by omega)
      have t2 := take_get (bfl z).reverse i (zd fT) (by rw [List.length_reverse]; omega)
      rw [bfl_get z i hi' _ (zd (Ty.int IntKind.i64))] at t1
      rw [rev_get (bfl z) i (z.length - 1 - i) (by omega) (by rw [hb]), bfl_get z (z.length - 1 - i) (by omega) _ (zd (Ty.int IntKind.i64))] at t2
      rw [j1, Int.toNat_natCast, Int.toNat_natCast, ← t1, ← t2]
      have b1 : (0 : Int) ≤ (i : Int) ∧ (i : Int) < z.length := by omega
      have b2 : (0 : Int) ≤ ((z.length - 1 - i : Nat) : Int) ∧ ((z.length - 1 - i : Nat) : Int) < z.length := by omega
      refine ⟨b1, ?_, rfl, by rw [inR_i64]; omega, by rw [inR_i64]; omega, b2, ?_, rfl, by rw [inR_i64]; omega, ?_⟩
      · simp [hb]; omega
      · simp [hb]; omega
      refine hm _ (i + 1) 2 hi' (by omega) ?_
      dsimp only [go_sem]
      simp
    · obtain rfl : i = z.length := by omega
      rw [List.take_of_length_le (by rw [hb]; omega), List.take_of_length_le (by rw [List.length_reverse, hb]; omega)]
      have hM0 : 0 ≤ (IntKind.u64.wrap k).tmod (z.length + 1) := Int.tmod_nonneg _ (inR_wrap .u64 k).1
      have hM1 : (IntKind.u64.wrap k).tmod (z.length + 1) < z.length + 1 := Int.tmod_lt_of_pos _ (by omega)
      generalize (IntKind.u64.wrap k).tmod (z.length + 1) = M at *
      have hf := @bfl_fs z
      have hg := @bfl_wf z
      generalize bfl z = xs at *
      have e1 := qsum_rev xs
      have e2 := qprod_rev xs
      have e3 : qsum (xs.take M.toNat) + qsum (xs.drop M.toNat) = qsum xs := by rw [← qsum_app, List.take_append_drop]
      have e4 : qprod (xs.take M.toNat) * qprod (xs.drop M.toNat) = qprod xs := by rw [← qprod_app, List.take_append_drop]
      simp only [e1, e2, e3, e4, fs_qf, fq_qf, true_and, decide_true, Bool.and_true, Bool.and_self, and_self, imp_self, true_implies, and_true, implies_true]
      have a1 : ∀ f ∈ xs.reverse, fs f ≤ 1000 := fun f h => hf f (List.mem_reverse.1 h)
      have a2 : ∀ f ∈ xs.take M.toNat, fs f ≤ 1000 := fun f h => hf f (List.mem_of_mem_take h)
      have a3 : ∀ f ∈ xs.drop M.toNat, fs f ≤ 1000 := fun f h => hf f (List.mem_of_mem_drop h)
      have l0 : xs.length ≤ 500 := by omega
      have l1 : xs.reverse.length ≤ 500 := by rw [List.length_reverse]; omega
      have l2 : (xs.take M.toNat).length ≤ 500 := by rw [List.length_take]; omega
      have l3 : (xs.drop M.toNat).length ≤ 500 := by rw [List.length_drop]; omega
      have q1 := qs_b (fun f h => hg f (List.mem_of_mem_take h)) a2 l2
      have q2 := qs_b (fun f h => hg f (List.mem_of_mem_drop h)) a3 l3
      have m0 : 0 ≤ M ∧ M ≤ (xs.length : Int) := by omega
      have u1 : inR .i64 ((z.length : Int) + 1) := by rw [inR_i64]; omega
      have u2 : inR .u64 ((z.length : Int) + 1) := by simp only [inR, lo, Gx.hi]; omega
      have u3 : inR .i64 M := by rw [inR_i64]; omega
      have u4 : inR .u64 M := by simp only [inR, lo, Gx.hi]; omega
      have u5 : (z.length : Int) + 1 ≠ 0 := by omega
      exact ⟨u1, u2, u5, u4, u3, l0, hf, l1, a1, l0, hf, l1, a1, l0, hf, m0, l2, a2, m0, l3, a3, q1.1, q2.1, l0, hf, m0, l2, a2, m0, l3, a3, q1.2, q2.2⟩
end Go.Proofs.Ytpplleoiehnlkaa.Gx
