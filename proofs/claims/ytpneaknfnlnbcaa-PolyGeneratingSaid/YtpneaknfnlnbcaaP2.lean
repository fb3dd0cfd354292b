/-
  The program's polynomials: trim, coefficient, constant, Normalize, Add, Scale.
-/
import Derived.Test.YtpneaknfnlnbcaaP1
import Derived.Test.YtpneaknfnlnbcaaO2
namespace Go.Proofs.Ytpneaknfnlnbcaa.Gx
open Go Go.RowKit Tw B Nt
set_option linter.unusedVariables false
set_option linter.unusedSimpArgs false
set_option maxHeartbeats 4000000
set_option maxRecDepth 20000
/-- the coefficients of a polynomial, and the canonical polynomial of some coefficients -/
def pf (p : List fT.den) : QL := p.map fq
def pc (p : QL) : List fT.den := (tr p).map qf
theorem fq_f0 : fq f0 = 0 := mk_zero (Or.inr rfl)
theorem co_pf (p : List fT.den) (i : Nat) : co (pf p) i = fq (p.getD i f0) := by
  unfold co pf
  rw [List.getD_eq_getElem?_getD, List.getD_eq_getElem?_getD, List.getElem?_map]
  cases p[i]? with
  | none => exact fq_f0.symm
  | some x => rfl
theorem pf_pc (p : QL) : pf (pc p) = tr p := by
  unfold pf pc
  rw [List.map_map]
  conv => rhs; rw [← List.map_id (tr p)]
  apply List.map_congr_left
  intro q _
  exact fq_qf q
theorem pf_len (p : List fT.den) : (pf p).length = p.length := List.length_map ..
theorem pc_eq {p q : QL} : pc p = pc q ↔ PE p q := by
  constructor
  · intro h
    have := congrArg pf h
    rw [pf_pc, pf_pc] at this
    exact tr_iff.1 this
  · intro h
    unfold pc; rw [PE.tr h]
/-- how many coefficients trim keeps -/
def kt (p : List fT.den) : Nat := (tr (pf p)).length
theorem kt_le (p : List fT.den) : kt p ≤ p.length := by
  have := tr_len (pf p); rw [pf_len] at this; exact this
theorem pf_kt (p : List fT.den) : pf (p.take (kt p)) = tr (pf p) := by
  unfold pf; rw [List.map_take]; exact tr_take _
/-- the sizes of the coefficients -/
def Sz (B : Nat) (p : List fT.den) : Prop := p.length ≤ 2000 ∧ ∀ f ∈ p, fs f ≤ B
def Wp (p : List fT.den) : Prop := ∀ f ∈ p, wfD fT f
theorem getD_mem {α : Type} {l : List α} {i : Nat} (h : i < l.length) (d : α) : l.getD i d ∈ l := by
  rw [List.getD_eq_getElem?_getD, List.getElem?_eq_getElem h]
  exact List.getElem_mem _
theorem fs_f0 : fs f0 = 0 := rfl
theorem Sz.at {B : Nat} {p : List fT.den} (h : Sz B p) (i : Nat) : fs (p.getD i f0) ≤ B := by
  rcases Nat.lt_or_ge i p.length with h' | h'
  · exact h.2 _ (getD_mem h' _)
  · rw [List.getD_eq_getElem?_getD, List.getElem?_eq_none h']
    exact Nat.zero_le _
theorem Sz.take {B : Nat} {p : List fT.den} (h : Sz B p) (k : Nat) : Sz B (p.take k) :=
  ⟨by have := h.1; rw [List.length_take]; omega, fun f hf => h.2 f (List.mem_of_mem_take hf)⟩
theorem Wp.at {p : List fT.den} (h : Wp p) (i : Nat) : Fd (p.getD i f0) := by
  rcases Nat.lt_or_ge i p.length with h' | h'
  · exact fd_of (h _ (getD_mem h' _))
  · rw [List.getD_eq_getElem?_getD, List.getElem?_eq_none h']
    exact ⟨Ds.nil, Ds.nil⟩
theorem qs_at {B : Nat} {p : List fT.den} (hw : Wp p) (h : Sz B p) (i : Nat) : qs (co (pf p) i) ≤ B + 1 := by
  rw [co_pf]
  have := qs_fq (hw.at i)
  have := h.at i
  omega
theorem fill_set {α : Type} {A : List α} {n k : Nat} (hA : A.length = n) (hk : k < n) (z x : α) (hx : A.getD k z = x) : (A.take k ++ List.replicate (n - k) z).set k x = A.take (k + 1) ++ List.replicate (n - (k + 1)) z := by
  rw [take_get A k z (by omega), hx]
  rw [show n - k = (n - (k + 1)) + 1 by omega, List.replicate_succ]
  rw [List.set_append_right _ _ (by rw [List.length_take]; omega)]
  rw [List.length_take, hA, Nat.min_eq_left (by omega), Nat.sub_self, List.set_cons_zero, List.append_assoc]
  rfl
@[go_sem] noncomputable def EP1 : Env := (EO4).add 10 l3ofS
theorem EP1_ok : EP1.Ok := (EO4_ok).add l3of_ok
@[go_sem] def pTrimS : Spec := ⟨[(.slice fT)], fun d => (.dat (.slice fT) (d.1.take (kt d.1)), [Sz 5000000 d.1])⟩
theorem sgQ_at {p : List fT.den} {n : Nat} (h : sgQ (fq (p.getD n f0)) = 0) (hk : kt p ≤ n + 1) : kt p ≤ n := by
  rw [sgQ_eq_zero, ← co_pf] at h
  refine tr_last fun i hi => ?_
  rcases Nat.lt_or_ge n i with h' | h'
  · rw [← co_tr, co_ge (by show kt p ≤ i; omega)]
  · have : i = n := by omega
    subst this; exact h
theorem sgQ_end {p : List fT.den} {n : Nat} (h : sgQ (fq (p.getD n f0)) ≠ 0) : n + 1 ≤ kt p := by
  rcases Nat.lt_or_ge n (kt p) with h' | h'
  · exact h'
  · exfalso
    apply h
    rw [sgQ_eq_zero, ← co_pf, ← co_tr, co_ge h']
theorem pTrim_ok : SpecOk Try.prog 48 pTrimS := by
  refine fn_ok EP1_ok pTrimS Try.func48 rfl (by decide) (N := 23) rfl (res := [.tmp 2]) rfl (by decide) [] [] [] 100 (by kernel_rfl) ?_
  rintro ⟨p, _⟩ hw hp
  refine ⟨rfl, fun H hH => ?_⟩
  dsimp only [go_sem] at hw hp ⊢
  obtain ⟨hs, -⟩ := hp
  have hl := hs.1
  change List fT.den at p
  refine hH.loop (fun k : Nat => ⟨[(0, .dat (.slice fT) p), (3, .dat (.int .i64) (k : Int))], [], 0⟩) (fun k => k ≤ p.length ∧ kt p ≤ k) (fun k => k) p.length 0 ⟨Nat.le_refl _, kt_le p⟩ ?_ ?_
  · dsimp only [go_sem]
    simp
  · intro k hk R hm
    have hk : k ≤ p.length ∧ kt p ≤ k := hk
    refine hH.run 100 _ _ ?_
    dsimp only [go_sem]
    have hz : zd (.pair .bool (.pair (.slice (.int .u32)) (.slice (.int .u32)))) = f0 := rfl
    rw [hz]
    have at1 : 0 < k → (((k : Int) - 1).toNat = k - 1) := fun h => by omega
    refine ⟨fun h => h, fun h => ?_, fun h => h, fun h => h, fun h => ?_, fun h => h, fun h => h, fun h => hs.at _, fun h => h, fun h => h, fun c => ?_, fun c => ?_⟩
    · simp only [decide_eq_true_eq] at h
      rw [inR_i64]; omega
    · simp only [decide_eq_true_eq] at h
      change (0 : Int) ≤ (k : Int) - 1 ∧ (k : Int) - 1 < (p.length : Int)
      omega
    · simp only [Bool.and_eq_true, decide_eq_true_eq] at c
      obtain ⟨c1, c2⟩ := c
      rw [at1 (by omega)] at c2
      have := sgQ_at c2 (by omega)
      refine ⟨by rw [inR_i64]; omega, hm _ (k - 1) 0 ⟨by omega, this⟩ (by omega) ?_⟩
      dsimp only [go_sem]
      have e1 : (k : Int) - 1 = ((k - 1 : Nat) : Int) := by omega
      rw [e1]
      simp
    · have hk2 : k = kt p := by
        simp only [Bool.and_eq_false_iff, decide_eq_false_iff_not] at c
        rcases c with c | c
        · omega
        · rcases Nat.eq_zero_or_pos k with h0 | h0
          · omega
          · rw [at1 h0] at c
            have := sgQ_end c
            omega
      refine ⟨?_, ?_, trivial⟩
      · change (0 : Int) ≤ (k : Int) ∧ (k : Int) ≤ (k : Int) ∧ (k : Int) ≤ (p.length : Int)
        omega
      · rw [Int.toNat_natCast, hk2]
@[go_sem] def pCoefS : Spec := ⟨[(.slice fT), .int .i64], fun d => (.dat fT (d.1.getD d.2.1.toNat f0), [(0 : Int) ≤ d.2.1])⟩
theorem pCoef_ok : SpecOk Try.prog 47 pCoefS := by
  refine fn_ok EP1_ok pCoefS Try.func47 rfl (by decide) (N := 14) rfl (res := [.cell 4 29]) rfl (by decide) [] [] [] 100 (by kernel_rfl) ?_
  rintro ⟨p, (i:Int), _⟩ hw hp
  refine ⟨rfl, fun H hH => ?_⟩
  dsimp only [go_sem] at hw hp ⊢
  have h0 : 0 ≤ i := hp.1
  change List fT.den at p
  refine ⟨fun h => ?_, fun h => ?_⟩ <;> simp only [decide_eq_true_eq, decide_eq_false_iff_not] at h
  · exact ⟨⟨h0, h⟩, rfl, trivial⟩
  · refine ⟨?_, trivial⟩
    rw [List.getD_eq_getElem?_getD, List.getElem?_eq_none (by change ¬ i < (p.length : Int) at h; omega)]
    rfl
@[go_sem] def pConS : Spec := ⟨[.int .i64], fun d => (.dat fT (qf (d.1 : Int)), [(0 : Int) ≤ d.1])⟩
theorem con_eq (n : Int) : (if (1 : Int) = 0 then f0 else qf (Rat.divInt n 1)) = qf (n : Rat) := by
  rw [if_neg (by decide), show Rat.divInt n 1 = mkRat n 1 from Rat.divInt_ofNat n 1, Rat.mkRat_one]
theorem pCon_ok : SpecOk Try.prog 51 pConS := by
  refine fn_ok EP1_ok pConS Try.func51 rfl (by decide) (N := 11) rfl (res := [.cell 2 29]) rfl (by decide) [] [] [] 100 (by kernel_rfl) ?_
  rintro ⟨(n:Int), _⟩ hw hp
  refine ⟨rfl, fun H hH => ?_⟩
  dsimp only [go_sem] at hw hp ⊢
  exact ⟨con_eq n, trivial⟩
@[go_sem] noncomputable def EP2 : Env := (((EP1).add 48 pTrimS).add 47 pCoefS).add 51 pConS
theorem EP2_ok : EP2.Ok := (((EP1_ok).add pTrim_ok).add pCoef_ok).add pCon_ok
@[go_sem] def pNormS : Spec := ⟨[(.slice fT)], fun d => (.dat (.slice fT) (pc (pf d.1)), [Sz 5000000 d.1])⟩
theorem pNorm_ok : SpecOk Try.prog 22 pNormS := by
  refine fn_ok EP2_ok pNormS Try.func22 rfl (by decide) (N := 25) rfl (res := [.tmp 2]) rfl (by decide) [] [] [] 100 (by kernel_rfl) ?_
  rintro ⟨p, _⟩ hw hp
  refine ⟨rfl, fun H hH => ?_⟩
  dsimp only [go_sem] at hw hp ⊢
  obtain ⟨hs, -⟩ := hp
  have hl := hs.1
  have hk := kt_le p
  change List fT.den at p
  have hA : (pc (pf p)).length = kt p := List.length_map ..
  have hT : (List.take (kt p) p).length = kt p := by rw [List.length_take]; omega
  have eA : ∀ i, i < kt p → (pc (pf p)).getD i f0 = qf (fq (p.getD i f0)) := by
    intro i hi
    have h1 : (tr (pf p))[i]? = some (fq (p.getD i f0)) := by
      rw [← co_pf, ← co_tr, co_lt hi]
      exact List.getElem?_eq_getElem hi
    unfold pc
    rw [List.getD_eq_getElem?_getD, List.getElem?_map, h1]
    rfl
  have hz : zd (.pair .bool (.pair (.slice (.int .u32)) (.slice (.int .u32)))) = f0 := rfl
  rw [hT, hz]
  refine ⟨hs, ⟨Int.natCast_nonneg _, Int.le_refl _, by show (56 : Int) * (kt p : Int) ≤ 140737488355328; omega⟩, ?_⟩
  refine hH.loop (fun i : Nat => ⟨[(3, .own 0), (11, .dat (.slice fT) (List.take (kt p) p)), (12, .dat (.int .i64) (kt p : Int)), (13, .dat (.int .i64) (i : Int))], [(0, .row 29 fT ((pc (pf p)).take i ++ List.replicate (kt p - i) f0))], 1⟩) (fun i => i ≤ kt p) (fun i => kt p - i) 0 1 (Nat.zero_le _) ?_ ?_
  · dsimp only [go_sem]
    simp
  · intro i hi R hm
    have hi : i ≤ kt p := hi
    refine hH.run 100 _ _ ?_
    dsimp only [go_sem]
    rw [hz]
    have hF : (List.take i (pc (pf p)) ++ List.replicate (kt p - i) f0).length = kt p := by
      rw [List.length_append, List.length_take, List.length_replicate]; omega
    rw [hF, hT, Int.toNat_natCast]
    refine ⟨fun h => ?_, fun h => ?_⟩ <;> simp only [decide_eq_true_eq, decide_eq_false_iff_not] at h
    · have hi' : i < kt p := by omega
      have b : (0 : Int) ≤ (i : Int) ∧ (i : Int) < (kt p : Int) := by omega
      have e1 : (List.take (kt p) p).getD i f0 = p.getD i f0 := by
        rw [List.getD_eq_getElem?_getD, List.getD_eq_getElem?_getD, List.getElem?_take, if_pos hi']
      have e2 := fill_set hA hi' f0 _ (eA i hi')
      rw [e1]
      refine ⟨b, hs.at _, b, hi', by rw [inR_i64]; omega, hm _ (i + 1) 1 hi' (by omega) ?_⟩
      dsimp only [go_sem]
      rw [e2]
      simp
    · have : i = kt p := by omega
      subst this
      rw [Nat.sub_self, List.replicate_zero, List.append_nil, List.take_of_length_le (by omega)]
      exact ⟨rfl, trivial⟩
theorem pf_map (L : QL) : pf (L.map qf) = L := by
  unfold pf
  rw [List.map_map]
  conv => rhs; rw [← List.map_id L]
  apply List.map_congr_left
  intro q _
  exact fq_qf q
theorem trim_map (L : QL) : (L.map qf).take (kt (L.map qf)) = pc L := by
  unfold kt pc
  rw [pf_map, ← List.map_take, tr_take]
def SzQ (B : Nat) (L : QL) : Prop := L.length ≤ 2000 ∧ ∀ i, qs (co L i) ≤ B
theorem SzQ.map {B : Nat} {L : QL} (h : SzQ B L) : Sz B (L.map qf) := by
  refine ⟨by rw [List.length_map]; exact h.1, fun f hf => ?_⟩
  obtain ⟨q, hq, rfl⟩ := List.mem_map.1 hf
  obtain ⟨i, hi⟩ := List.mem_iff_getElem?.1 hq
  have := h.2 i
  unfold co at this
  rw [List.getD_eq_getElem?_getD, hi] at this
  exact this
theorem SzQ.tr {B : Nat} {L : QL} (h : SzQ B L) : SzQ B (Gx.tr L) := ⟨Nat.le_trans (tr_len L) h.1, fun i => by rw [co_tr]; exact h.2 i⟩
theorem SzQ.pc {B : Nat} {L : QL} (h : SzQ B L) : Sz B (Gx.pc L) := h.tr.map
theorem SzQ.of {B : Nat} {p : List fT.den} (hw : Wp p) (h : Sz B p) : SzQ (B + 1) (pf p) := ⟨by rw [pf_len]; exact h.1, fun i => qs_at hw h i⟩
theorem SzQ.le {B C : Nat} {L : QL} (h : SzQ B L) (hc : B ≤ C) : SzQ C L := ⟨h.1, fun i => Nat.le_trans (h.2 i) hc⟩
theorem SzQ.add {B C : Nat} {L M : QL} (h : SzQ B L) (k : SzQ C M) : SzQ (B + C + 1) (addQ L M) := by
  refine ⟨by rw [len_add]; have := h.1; have := k.1; omega, fun i => ?_⟩
  rw [co_add]
  have := qs_add (co L i) (co M i)
  have := h.2 i
  have := k.2 i
  omega
theorem SzQ.sc {B : Nat} {L : QL} (h : SzQ B L) (a : Rat) : SzQ (qs a + B) (scQ a L) := by
  refine ⟨by rw [len_sc]; exact h.1, fun i => ?_⟩
  rw [co_sc]
  have := qs_mul a (co L i)
  have := h.2 i
  omega
theorem map_get {L : QL} {i : Nat} (h : i < L.length) : (L.map qf).getD i f0 = qf (co L i) := by
  rw [List.getD_eq_getElem?_getD, List.getElem?_map, List.getElem?_eq_getElem h, co_lt h]; rfl
@[go_sem] noncomputable def EP3 : Env := (EP2).add 22 pNormS
theorem EP3_ok : EP3.Ok := (EP2_ok).add pNorm_ok
@[go_sem] def pAddS : Spec := ⟨[(.slice fT), (.slice fT)], fun d => (.dat (.slice fT) (pc (addQ (pf d.1) (pf d.2.1))), [Sz 2000000 d.1, Sz 2000000 d.2.1])⟩
theorem pAdd_ok : SpecOk Try.prog 13 pAddS := by
  refine fn_ok EP3_ok pAddS Try.func13 rfl (by decide) (N := 31) rfl (res := [.tmp 4]) rfl (by decide) [] [(7, [0])] [] 100 (by kernel_rfl) ?_
  rintro ⟨p, q, _⟩ hw hp
  refine ⟨rfl, fun H hH => ?_⟩
  dsimp only [go_sem] at hw hp ⊢
  obtain ⟨hp1, hp2, -⟩ := hp
  have hsz := ((SzQ.of hw.1.2 hp1).add (SzQ.of hw.2.1.2 hp2)).map
  have hl1 := hp1.1
  have hl2 := hp2.1
  change List fT.den at p q
  have hlen := len_add (pf p) (pf q)
  rw [pf_len, pf_len] at hlen
  have hget : ∀ i, i < max p.length q.length → ((addQ (pf p) (pf q)).map qf).getD i f0 = qf (fq (p.getD i f0) + fq (q.getD i f0)) := fun i hi => by
    rw [map_get (by omega), co_add, co_pf, co_pf]
  have em : (if (q.length : Int) > (p.length : Int) then (q.length : Int) else (p.length : Int)) = ((max p.length q.length : Nat) : Int) := by split <;> omega
  have hn : max p.length q.length ≤ 2000 := by omega
  have hA : ((addQ (pf p) (pf q)).map qf).length = max p.length q.length := by rw [List.length_map]; exact hlen
  have hfin := trim_map (addQ (pf p) (pf q))
  rw [em]
  generalize (addQ (pf p) (pf q)).map qf = A at *
  generalize max p.length q.length = n at *
  have hz : zd (.pair .bool (.pair (.slice (.int .u32)) (.slice (.int .u32)))) = f0 := rfl
  rw [hz, Int.toNat_natCast, List.length_replicate]
  refine ⟨⟨Int.natCast_nonneg _, Int.le_refl _, by show (56 : Int) * (n : Int) ≤ 140737488355328; omega⟩, ?_⟩
  refine hH.loop (fun i : Nat => ⟨[(0, .dat (.slice fT) p), (1, .dat (.slice fT) q), (5, .own 0), (14, .dat (.int .i64) (n : Int)), (15, .dat (.int .i64) (i : Int))], [(0, .row 29 fT (A.take i ++ List.replicate (n - i) f0))], 1⟩) (fun i => i ≤ n) (fun i => n - i) 0 1 (Nat.zero_le _) ?_ ?_
  · dsimp only [go_sem]
    simp
  · intro i hi R hm
    have hi : i ≤ n := hi
    refine hH.run 100 _ _ ?_
    dsimp only [go_sem]
    have hF : (List.take i A ++ List.replicate (n - i) f0).length = n := by
      rw [List.length_append, List.length_take, List.length_replicate]; omega
    rw [hF, Int.toNat_natCast]
    refine ⟨fun h => ?_, fun h => ?_⟩ <;> simp only [decide_eq_true_eq, decide_eq_false_iff_not] at h
    · have hi' : i < n := by omega
      have b : (0 : Int) ≤ (i : Int) ∧ (i : Int) < (n : Int) := by omega
      have e2 := fill_set hA hi' f0 _ (hget i hi')
      refine ⟨b.1, b.1, Nat.le_trans (hp1.at i) (by decide), Nat.le_trans (hp2.at i) (by decide), b, hi', by rw [inR_i64]; omega, hm _ (i + 1) 1 hi' (by omega) ?_⟩
      dsimp only [go_sem]
      rw [e2]
      simp
    · have : i = n := by omega
      subst this
      rw [Nat.sub_self, List.replicate_zero, List.append_nil, List.take_of_length_le (by omega)]
      exact ⟨⟨hsz.1, fun f hf => Nat.le_trans (hsz.2 f hf) (by decide)⟩, hfin, trivial⟩
@[go_sem] def pScS : Spec := ⟨[(.slice fT), fT], fun d => (.dat (.slice fT) (pc (scQ (fq d.2.1) (pf d.1))), [Sz 2000000 d.1, fs d.2.1 ≤ 2000000])⟩
theorem pSc_ok : SpecOk Try.prog 32 pScS := by
  refine fn_ok EP3_ok pScS Try.func32 rfl (by decide) (N := 27) rfl (res := [.tmp 4]) rfl (by decide) [] [(7, [1])] [] 100 (by kernel_rfl) ?_
  rintro ⟨p, a, _⟩ hw hp
  refine ⟨rfl, fun H hH => ?_⟩
  dsimp only [go_sem] at hw hp ⊢
  obtain ⟨hp1, hp2, -⟩ := hp
  have sa := qs_fq (fd_of hw.2.1)
  have hsz := ((SzQ.of hw.1.2 hp1).sc (fq a)).map
  have hl1 := hp1.1
  change List fT.den at p
  have hlen := len_sc (fq a) (pf p)
  rw [pf_len] at hlen
  have hget : ∀ i, i < p.length → ((scQ (fq a) (pf p)).map qf).getD i f0 = qf (fq a * fq (p.getD i f0)) := fun i hi => by
    rw [map_get (by omega), co_sc, co_pf]
  have hA : ((scQ (fq a) (pf p)).map qf).length = p.length := by rw [List.length_map]; exact hlen
  have hfin := trim_map (scQ (fq a) (pf p))
  generalize (scQ (fq a) (pf p)).map qf = A at *
  have hz : zd (.pair .bool (.pair (.slice (.int .u32)) (.slice (.int .u32)))) = f0 := rfl
  rw [hz, Int.toNat_natCast]
  refine ⟨⟨Int.natCast_nonneg _, Int.le_refl _, by show (56 : Int) * (p.length : Int) ≤ 140737488355328; omega⟩, ?_⟩
  refine hH.loop (fun i : Nat => ⟨[(3, .ref 0 0), (5, .own 1), (11, .dat (.slice fT) p), (12, .dat (.int .i64) (p.length : Int)), (13, .dat (.int .i64) (i : Int))], [(0, .box 29 (dA fT a .nil)), (1, .row 29 fT (A.take i ++ List.replicate (p.length - i) f0))], 2⟩) (fun i => i ≤ p.length) (fun i => p.length - i) 0 2 (Nat.zero_le _) ?_ ?_
  · dsimp only [go_sem]
    simp
  · intro i hi R hm
    have hi : i ≤ p.length := hi
    refine hH.run 100 _ _ ?_
    dsimp only [go_sem]
    have hF : (List.take i A ++ List.replicate (p.length - i) f0).length = p.length := by
      rw [List.length_append, List.length_take, List.length_replicate]; omega
    rw [hF, Int.toNat_natCast, hz]
    refine ⟨fun h => ?_, fun h => ?_⟩ <;> simp only [decide_eq_true_eq, decide_eq_false_iff_not] at h
    · have hi' : i < p.length := by omega
      have b : (0 : Int) ≤ (i : Int) ∧ (i : Int) < (p.length : Int) := by omega
      have e2 := fill_set hA hi' f0 _ (hget i hi')
      refine ⟨b, Nat.le_trans hp2 (by decide), Nat.le_trans (hp1.at i) (by decide), b, hi', by rw [inR_i64]; omega, hm _ (i + 1) 2 hi' (by omega) ?_⟩
      dsimp only [go_sem]
      rw [e2]
      simp
    · have : i = p.length := by omega
      subst this
      rw [Nat.sub_self, List.replicate_zero, List.append_nil, List.take_of_length_le (by omega)]
      exact ⟨⟨hsz.1, fun f hf => Nat.le_trans (hsz.2 f hf) (by omega)⟩, hfin, trivial⟩
theorem qs_nat {n : Nat} (h : n < 4294967296) : qs (n : Rat) ≤ 1 := by
  have hB : Bp 1 = 4294967296 := by decide
  have e := fqi (n : Int) false (n : Int) (by omega) (by simp [sg])
  have : ((n : Int) : Rat) = (n : Rat) := Rat.intCast_natCast n
  rw [← this, ← e]
  exact qs_le (mk_b (by omega) (by omega) (by omega) (by decide))
theorem SzQ.d {B : Nat} {L : QL} (h : SzQ B L) : SzQ (B + 1) (dQ L) := by
  refine ⟨by unfold dQ; rw [List.length_map, List.length_range]; have := h.1; omega, fun i => ?_⟩
  rcases Nat.lt_or_ge (i + 1) L.length with h' | h'
  · rw [co_d]
    have h1 := qs_mul ((i + 1 : Nat) : Rat) (co L (i + 1))
    have h2 := qs_nat (n := i + 1) (by have := h.1; omega)
    have h3 := h.2 (i + 1)
    omega
  · rw [co_d, co_ge h', Rat.mul_zero]
    have := qs_zero
    omega
theorem dQ_len (L : QL) : (dQ L).length = L.length - 1 := by unfold dQ; rw [List.length_map, List.length_range]
@[go_sem] noncomputable def EP4 : Env := ((EP3).add 13 pAddS).add 32 pScS
theorem EP4_ok : EP4.Ok := ((EP3_ok).add pAdd_ok).add pSc_ok
@[go_sem] def pDerS : Spec := ⟨[(.slice fT)], fun d => (.dat (.slice fT) (pc (dQ (pf d.1))), [Sz 2000000 d.1])⟩
theorem pDer_ok : SpecOk Try.prog 31 pDerS := by
  refine fn_ok EP4_ok pDerS Try.func31 rfl (by decide) (N := 32) rfl (res := [.tmp 2]) rfl (by decide) [] [(9, [0])] [] 100 (by kernel_rfl) ?_
  rintro ⟨p, _⟩ hw hp
  refine ⟨rfl, fun H hH => ?_⟩
  dsimp only [go_sem] at hw hp ⊢
  obtain ⟨hp1, -⟩ := hp
  have hl1 := hp1.1
  have hsz := ((SzQ.of hw.1.2 hp1).d).map
  change List fT.den at p
  have hz : zd (.pair .bool (.pair (.slice (.int .u32)) (.slice (.int .u32)))) = f0 := rfl
  have hget : ∀ i, i < p.length - 1 → ((dQ (pf p)).map qf).getD i f0 = qf ((((i : Int) + 1 : Int) : Rat) * fq (p.getD (i + 1) f0)) := fun i hi => by
    rw [map_get (by rw [dQ_len, pf_len]; exact hi), co_d, co_pf]
    have : (((i : Int) + 1 : Int) : Rat) = ((i + 1 : Nat) : Rat) := Rat.intCast_natCast (i + 1)
    rw [this]
  have hA : ((dQ (pf p)).map qf).length = p.length - 1 := by rw [List.length_map, dQ_len, pf_len]
  have hfin := trim_map (dQ (pf p))
  have hnil : p.length = 0 → [] = pc (dQ (pf p)) := by
    intro h0
    have : dQ (pf p) = [] := List.eq_nil_of_length_eq_zero (by rw [dQ_len, pf_len]; omega)
    rw [this]; rfl
  generalize (dQ (pf p)).map qf = A at *
  refine ⟨fun h => ?_, fun h => ?_⟩ <;> simp only [decide_eq_true_eq, decide_eq_false_iff_not] at h
  · exact ⟨hnil (by omega), trivial⟩
  · obtain ⟨n, hn⟩ : ∃ n, p.length = n + 1 := ⟨p.length - 1, by omega⟩
    have e1 : (p.length : Int) - 1 = (n : Int) := by omega
    have hA : A.length = n := by omega
    have hget : ∀ i, i < n → A.getD i f0 = qf ((((i : Int) + 1 : Int) : Rat) * fq (p.getD (i + 1) f0)) := fun i hi => hget i (by omega)
    rw [e1, hz, Int.toNat_natCast, List.length_replicate]
    refine ⟨by rw [inR_i64]; omega, ⟨Int.natCast_nonneg _, Int.le_refl _, by show (56 : Int) * (n : Int) ≤ 140737488355328; omega⟩, ?_⟩
    refine hH.loop (fun i : Nat => ⟨[(0, .dat (.slice fT) p), (3, .own 0), (13, .dat (.int .i64) (n : Int)), (14, .dat (.int .i64) (i : Int))], [(0, .row 29 fT (A.take i ++ List.replicate (n - i) f0))], 1⟩) (fun i => i ≤ n) (fun i => n - i) 0 1 (Nat.zero_le _) ?_ ?_
    · dsimp only [go_sem]
      simp
    · intro i hi R hm
      have hi : i ≤ n := hi
      refine hH.run 100 _ _ ?_
      dsimp only [go_sem]
      have hF : (List.take i A ++ List.replicate (n - i) f0).length = n := by
        rw [List.length_append, List.length_take, List.length_replicate]; omega
      have e3 : ((i : Int) + 1).toNat = i + 1 := by omega
      rw [hF, Int.toNat_natCast, hz, e3, fq_qf]
      refine ⟨fun h => ?_, fun h => ?_⟩ <;> simp only [decide_eq_true_eq, decide_eq_false_iff_not] at h
      · have hi' : i < n := by omega
        have b : (0 : Int) ≤ (i : Int) ∧ (i : Int) < (n : Int) := by omega
        have e2 := fill_set hA hi' f0 _ (hget i hi')
        have q1 : inR .i64 ((i : Int) + 1) := by rw [inR_i64]; omega
        have q2 : (0 : Int) ≤ (i : Int) + 1 := by omega
        have q3 : fs (qf ((((i : Int) + 1 : Int) : Rat))) ≤ 5000000 := by
          have : (((i : Int) + 1 : Int) : Rat) = ((i + 1 : Nat) : Rat) := Rat.intCast_natCast (i + 1)
          rw [fs_qf, this]
          have := qs_nat (n := i + 1) (by omega)
          omega
        refine ⟨q1, q2, q1, ⟨q2, by change (i : Int) + 1 < (p.length : Int); omega⟩, q3, Nat.le_trans (hp1.at (i + 1)) (by decide), b, hi', q1, hm _ (i + 1) 1 hi' (by omega) ?_⟩
        dsimp only [go_sem]
        rw [e2]
        simp
      · have : i = n := by omega
        subst this
        rw [Nat.sub_self, List.replicate_zero, List.append_nil, List.take_of_length_le (by omega)]
        exact ⟨⟨hsz.1, fun f hf => Nat.le_trans (hsz.2 f hf) (by decide)⟩, hfin, trivial⟩
end Go.Proofs.Ytpneaknfnlnbcaa.Gx
