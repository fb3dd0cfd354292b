/-
  The program's polynomials: Eval, Total, Mean, Prefix, Truncate, Shift.
-/
import Derived.Test.YtpneaknfnlnbcaaP2
namespace Go.Proofs.Ytpneaknfnlnbcaa.Gx
open Go Go.RowKit Tw B Nt
set_option linter.unusedVariables false
set_option linter.unusedSimpArgs false
set_option maxHeartbeats 4000000
set_option maxRecDepth 20000
theorem drop_get {α : Type} (l : List α) (k : Nat) (d : α) (h : k < l.length) : l.drop k = l.getD k d :: l.drop (k + 1) := by
  rw [List.drop_eq_getElem_cons h, List.getD_eq_getElem?_getD, List.getElem?_eq_getElem h]; rfl
theorem ev_drop (p : List fT.den) (x : Rat) (k : Nat) (h : k < p.length) : evQ (pf (p.drop k)) x = evQ (pf (p.drop (k + 1))) x * x + fq (p.getD k f0) := by
  rw [drop_get p k f0 h]; rfl
theorem ev_b {B : Nat} {p : List fT.den} (hw : Wp p) (hs : Sz B p) (x : Rat) : ∀ k j, k + j = p.length → qs (evQ (pf (p.drop k)) x) ≤ 1 + j * (qs x + B + 3)
  | k, 0, h => by
    rw [List.drop_of_length_le (by omega)]
    have := qs_zero
    exact Nat.le_trans this (by omega)
  | k, j + 1, h => by
    rw [ev_drop p x k (by omega)]
    have ih := ev_b hw hs x (k + 1) j (by omega)
    have h1 := qs_add (evQ (pf (p.drop (k + 1))) x * x) (fq (p.getD k f0))
    have h2 := qs_mul (evQ (pf (p.drop (k + 1))) x) x
    have h3 := qs_at hw hs k
    rw [co_pf] at h3
    rw [Nat.succ_mul]
    omega
theorem clampN (p : List fT.den) (n : Int) : (0 ≤ (if (p.length : Int) < (if 0 > n then 0 else n) then (p.length : Int) else (if 0 > n then 0 else n))) ∧ (if (p.length : Int) < (if 0 > n then 0 else n) then (p.length : Int) else (if 0 > n then 0 else n)) ≤ (p.length : Int) ∧
    List.take (Int.toNat (if (p.length : Int) < (if 0 > n then 0 else n) then (p.length : Int) else (if 0 > n then 0 else n))) p = List.take n.toNat p := by
  by_cases h : 0 > n
  · rw [if_pos h, if_neg (by omega)]
    refine ⟨by omega, by omega, ?_⟩
    congr 1
    omega
  · rw [if_neg h]
    by_cases h2 : (p.length : Int) < n
    · rw [if_pos h2]
      refine ⟨by omega, by omega, ?_⟩
      rw [List.take_of_length_le (by omega), List.take_of_length_le (by omega)]
    · rw [if_neg h2]
      exact ⟨by omega, by omega, rfl⟩
@[go_sem] noncomputable def EP5 : Env := (EP4).add 31 pDerS
theorem EP5_ok : EP5.Ok := (EP4_ok).add pDer_ok
@[go_sem] def pEvS : Spec := ⟨[(.slice fT), fT], fun d => (.dat fT (qf (evQ (pf d.1) (fq d.2.1))), [Sz 1000 d.1, fs d.2.1 ≤ 1000])⟩
theorem pEv_ok : SpecOk Try.prog 16 pEvS := by
  refine fn_ok EP5_ok pEvS Try.func16 rfl (by decide) (N := 24) rfl (res := [.cell 4 29]) rfl (by decide) [] [] [] 100 (by kernel_rfl) ?_
  rintro ⟨p, x, _⟩ hw hp
  refine ⟨rfl, fun H hH => ?_⟩
  dsimp only [go_sem] at hw hp ⊢
  obtain ⟨hp1, hp2, -⟩ := hp
  have hl1 := hp1.1
  have sx := qs_fq (fd_of hw.2.1)
  have hb := ev_b hw.1.2 hp1 (fq x)
  change List fT.den at p
  have hz : zd (.pair .bool (.pair (.slice (.int .u32)) (.slice (.int .u32)))) = f0 := rfl
  have z0 : qf ((0 : Int) : Rat) = qf 0 := rfl
  refine ⟨by decide, by rw [inR_i64]; change -9223372036854775808 ≤ (p.length : Int) - 1 ∧ (p.length : Int) - 1 ≤ 9223372036854775807; omega, ?_⟩
  refine hH.loop (fun k : Nat => ⟨[(0, .dat (.slice fT) p), (3, .ref 0 0), (4, .ref 1 0), (5, .ref 2 0), (6, .dat (.int .i64) ((k : Int) - 1))], [(0, .box 29 (dA fT x .nil)), (1, .box 29 (zA fT .nil)), (2, .box 29 (dA fT (qf (evQ (pf (p.drop k)) (fq x))) .nil))], 3⟩) (fun k => k ≤ p.length) (fun k => k) p.length 3 (Nat.le_refl _) ?_ ?_
  · dsimp only [go_sem]
    rw [List.drop_of_length_le (Nat.le_refl _)]
    simp [pf, evQ]
  · intro k hk R hm
    have hk : k ≤ p.length := hk
    refine hH.run 100 _ _ ?_
    dsimp only [go_sem]
    rw [hz]
    have hbk : qs (evQ (pf (List.drop k p)) (fq x)) ≤ 4008001 := by
      have h1 := hb k (p.length - k) (by omega)
      have h2 := Nat.mul_le_mul (show p.length - k ≤ 2000 by omega) (show qs (fq x) + 1000 + 3 ≤ 2004 by omega)
      omega
    have hmx := qs_mul (evQ (pf (List.drop k p)) (fq x)) (fq x)
    simp only [fq_qf]
    refine ⟨fun h => ?_, fun h => ?_⟩ <;> simp only [decide_eq_true_eq, decide_eq_false_iff_not] at h
    · obtain ⟨j, rfl⟩ : ∃ j, k = j + 1 := ⟨k - 1, by omega⟩
      have e1 : ((j + 1 : Nat) : Int) - 1 = (j : Int) := by omega
      rw [e1, Int.toNat_natCast]
      refine ⟨by rw [fs_qf]; omega, Nat.le_trans hp2 (by decide), by change (0 : Int) ≤ (j : Int) ∧ (j : Int) < (p.length : Int); omega, by rw [fs_qf]; omega, Nat.le_trans (hp1.at j) (by decide), by rw [inR_i64]; omega, hm _ j 3 (by omega) (by omega) ?_⟩
      dsimp only [go_sem]
      rw [← ev_drop p (fq x) j (by omega)]
      simp
    · have : k = 0 := by omega
      subst this
      exact ⟨rfl, trivial⟩
@[go_sem] def pTotS : Spec := ⟨[(.slice fT)], fun d => (.dat fT (qf (qsum d.1)), [d.1.length ≤ 500 ∧ ∀ f ∈ d.1, fs f ≤ 1000])⟩
theorem pTot_ok : SpecOk Try.prog 24 pTotS := by
  refine fn_ok EP5_ok pTotS Try.func24 rfl (by decide) (N := 5) rfl (res := [.cell 2 29]) rfl (by decide) [] [] [] 100 (by kernel_rfl) ?_
  rintro ⟨p, _⟩ hw hp
  refine ⟨rfl, fun H hH => ?_⟩
  dsimp only [go_sem] at hw hp ⊢
  obtain ⟨⟨h1, h2⟩, -⟩ := hp
  exact ⟨h1, h2, rfl, trivial⟩
@[go_sem] def pMeanS : Spec := ⟨[(.slice fT)], fun d => (.dat fT (qf (qsum (pc (dQ (pf d.1))))), [d.1.length ≤ 500 ∧ ∀ f ∈ d.1, fs f ≤ 900])⟩
theorem pMean_ok : SpecOk Try.prog 25 pMeanS := by
  refine fn_ok EP5_ok pMeanS Try.func25 rfl (by decide) (N := 6) rfl (res := [.cell 2 29]) rfl (by decide) [] [] [] 100 (by kernel_rfl) ?_
  rintro ⟨p, _⟩ hw hp
  refine ⟨rfl, fun H hH => ?_⟩
  dsimp only [go_sem] at hw hp ⊢
  obtain ⟨⟨h1, h2⟩, -⟩ := hp
  change List fT.den at p
  have hsz : Sz 900 p := ⟨Nat.le_trans h1 (by decide), h2⟩
  have hd := (SzQ.of hw.1.2 hsz).d.pc
  have hlen : (pc (dQ (pf p))).length ≤ 500 := by
    unfold pc
    rw [List.length_map]
    have := tr_len (dQ (pf p))
    rw [dQ_len, pf_len] at this
    omega
  exact ⟨⟨hsz.1, fun f hf => Nat.le_trans (h2 f hf) (by decide)⟩, hlen, fun f hf => Nat.le_trans (hd.2 f hf) (by decide), rfl, trivial⟩
@[go_sem] def pPreS : Spec := ⟨[(.slice fT), .int .i64], fun d => (.dat fT (qf (qsum (d.1.take d.2.1.toNat))), [d.1.length ≤ 500 ∧ ∀ f ∈ d.1, fs f ≤ 1000])⟩
theorem pPre_ok : SpecOk Try.prog 42 pPreS := by
  refine fn_ok EP5_ok pPreS Try.func42 rfl (by decide) (N := 13) rfl (res := [.cell 4 29]) rfl (by decide) [] [] [] 100 (by kernel_rfl) ?_
  rintro ⟨p, (n:Int), _⟩ hw hp
  refine ⟨rfl, fun H hH => ?_⟩
  dsimp only [go_sem] at hw hp ⊢
  obtain ⟨⟨h1, h2⟩, -⟩ := hp
  change List fT.den at p
  obtain ⟨c1, c2, c3⟩ := clampN p n
  rw [c3]
  exact ⟨⟨c1, c2⟩, by rw [List.length_take]; omega, fun f hf => h2 f (List.mem_of_mem_take hf), rfl, trivial⟩
@[go_sem] def pTruS : Spec := ⟨[(.slice fT), .int .i64], fun d => (.dat (.slice fT) (pc (pf (d.1.take d.2.1.toNat))), [Sz 5000000 d.1])⟩
theorem pTru_ok : SpecOk Try.prog 41 pTruS := by
  refine fn_ok EP5_ok pTruS Try.func41 rfl (by decide) (N := 13) rfl (res := [.tmp 4]) rfl (by decide) [] [] [] 100 (by kernel_rfl) ?_
  rintro ⟨p, (n:Int), _⟩ hw hp
  refine ⟨rfl, fun H hH => ?_⟩
  dsimp only [go_sem] at hw hp ⊢
  obtain ⟨h1, -⟩ := hp
  change List fT.den at p
  obtain ⟨c1, c2, c3⟩ := clampN p n
  rw [c3]
  exact ⟨⟨c1, c2⟩, h1.take _, rfl, trivial⟩
theorem co_sh (n : Nat) (p : QL) (i : Nat) : co (List.replicate n 0 ++ p) i = if i < n then 0 else co p (i - n) := by
  unfold co
  rw [List.getD_eq_getElem?_getD]
  by_cases h : i < n
  · rw [if_pos h, List.getElem?_append_left (by simpa using h), List.getElem?_replicate, if_pos h]; rfl
  · rw [if_neg h, List.getElem?_append_right (by simp; omega), List.length_replicate, List.getD_eq_getElem?_getD]
theorem PE.sh {p q : QL} (h : PE p q) (n : Nat) : PE (List.replicate n 0 ++ p) (List.replicate n 0 ++ q) := fun i => by rw [co_sh, co_sh, h]
theorem pc_nil {p : QL} (h : ∀ i, co p i = 0) : pc p = [] := by unfold pc; rw [tr_nil.2 h]; rfl
/-- x^n times a polynomial; its error -/
def shE (p : QL) (n : Int) : Int := if n < 0 then 1 else if n > 1024 then 4 else if (tr p).length = 0 then 0 else if ((tr p).length : Int) + n > 1024 then 4 else 0
def shQ (p : QL) (n : Int) : QL := if shE p n = 0 then List.replicate n.toNat 0 ++ p else []
@[go_sem] def pShS : Spec := ⟨[(.slice fT), .int .i64], fun d => (.tup (.cons (.dat (.slice fT) (pc (shQ (pf d.1) d.2.1))) (.cons (.dat (.int .i64) (shE (pf d.1) d.2.1)) .nil)), [Sz 5000000 d.1])⟩
theorem pSh_ok : SpecOk Try.prog 29 pShS := by
  refine fn_ok EP5_ok pShS Try.func29 rfl (by decide) (N := 31) rfl (res := [.tmp 4, .tmp 5]) rfl (by decide) [(11, [(29, .fz 0)])] [] [] 100 (by kernel_rfl) ?_
  rintro ⟨p, (n:Int), _⟩ hw hp
  refine ⟨rfl, fun H hH => ?_⟩
  dsimp only [go_sem] at hw hp ⊢
  obtain ⟨h1, -⟩ := hp
  have hl := h1.1
  change List fT.den at p
  have hK := kt_le p
  have hT : (List.take (kt p) p).length = kt p := by rw [List.length_take]; omega
  have hz : zd (.pair .bool (.pair (.slice (.int .u32)) (.slice (.int .u32)))) = f0 := rfl
  have eK : (tr (pf p)).length = kt p := rfl
  have bad : shE (pf p) n ≠ 0 → [] = pc (shQ (pf p) n) := fun h => by unfold shQ; rw [if_neg h]; rfl
  rw [hT, hz, List.length_replicate]
  refine ⟨fun h => ?_, fun h => ⟨h1, fun k => ?_, fun k => ⟨fun j => ?_, fun j => ⟨?_, fun g => ?_, fun g => ?_⟩⟩⟩⟩ <;> simp only [decide_eq_true_eq, decide_eq_false_iff_not] at *
  · have e : shE (pf p) n = 1 := by unfold shE; rw [if_pos h]
    exact ⟨trivial, trivial, bad (by rw [e]; decide), trivial, e.symm, trivial⟩
  · have e : shE (pf p) n = 4 := by unfold shE; rw [if_neg h, if_pos k]
    exact ⟨trivial, trivial, bad (by rw [e]; decide), trivial, e.symm, trivial⟩
  · have e : shE (pf p) n = 0 := by unfold shE; rw [if_neg h, if_neg (by omega), eK, if_pos (by omega)]
    refine ⟨trivial, trivial, ?_, trivial, e.symm, trivial⟩
    unfold shQ
    rw [if_pos e, pc_nil]
    intro i
    rw [co_sh]
    split
    · rfl
    · rw [← co_tr, co_ge (by omega)]
  · rw [inR_i64]; omega
  · have e : shE (pf p) n = 4 := by unfold shE; rw [if_neg h, if_neg (by omega), eK, if_neg (by omega), if_pos (by omega)]
    exact ⟨trivial, trivial, bad (by rw [e]; decide), trivial, e.symm, trivial⟩
  · have e : shE (pf p) n = 0 := by unfold shE; rw [if_neg h, if_neg (by omega), eK, if_neg (by omega), if_neg (by omega)]
    refine ⟨by rw [inR_i64]; omega, ⟨by show (0 : Int) ≤ n; omega, by show n ≤ n + (kt p : Int); omega, by show (56 : Int) * (n + (kt p : Int)) ≤ 140737488355328; omega⟩, by omega, trivial, ⟨by rw [List.length_append, List.length_replicate, hT]; omega, fun f hf => ?_⟩, trivial, trivial, ?_, trivial, e.symm, trivial⟩
    · rcases List.mem_append.1 hf with hf | hf
      · rw [List.eq_of_mem_replicate hf]; exact Nat.zero_le _
      · exact h1.2 f (List.mem_of_mem_take hf)
    · unfold shQ
      rw [if_pos e]
      refine pc_eq.2 ?_
      have e1 : pf (List.replicate n.toNat f0 ++ List.take (kt p) p) = List.replicate n.toNat 0 ++ tr (pf p) := by
        rw [← pf_kt]
        unfold pf
        rw [List.map_append, List.map_replicate, fq_f0]
      rw [e1]
      exact PE.sh (PE.of_tr _) _
end Go.Proofs.Ytpneaknfnlnbcaa.Gx
