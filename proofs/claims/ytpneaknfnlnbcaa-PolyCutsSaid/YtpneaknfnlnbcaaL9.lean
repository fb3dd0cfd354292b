/-
  The laws of the polynomials: PolyCuts.
-/
import Derived.Test.YtpneaknfnlnbcaaPA
namespace Go.Proofs.Ytpneaknfnlnbcaa.Gx
open Go Go.RowKit Tw B Nt
set_option linter.unusedVariables false
set_option linter.unusedSimpArgs false
set_option maxHeartbeats 4000000
set_option maxRecDepth 20000
theorem co_take (L : QL) (k n : Nat) : co (L.take k) n = if n < k then co L n else 0 := by
  unfold co
  rw [List.getD_eq_getElem?_getD, List.getElem?_take]
  split
  · rw [List.getD_eq_getElem?_getD]
  · rfl
theorem co_drop (L : QL) (k n : Nat) : co (L.drop k) n = co L (k + n) := by
  unfold co
  rw [List.getD_eq_getElem?_getD, List.getElem?_drop, List.getD_eq_getElem?_getD]
theorem pf_take (p : List fT.den) (k : Nat) : pf (p.take k) = (pf p).take k := by unfold pf; rw [List.map_take]
theorem pf_drop (p : List fT.den) (k : Nat) : pf (p.drop k) = (pf p).drop k := by unfold pf; rw [List.map_drop]
theorem sh_small {L : QL} {k : Nat} (hL : L.length ≤ 7) (hk : k ≤ 7) : shE L (k : Int) = 0 ∧ shQ L (k : Int) = List.replicate k 0 ++ L := by
  have h := tr_len L
  have e : shE L (k : Int) = 0 := by
    unfold shE
    rw [if_neg (by omega), if_neg (by omega)]
    split
    · rfl
    · rw [if_neg (by omega)]
  refine ⟨e, ?_⟩
  unfold shQ
  rw [if_pos e, Int.toNat_natCast]
/-- both parts of a polynomial add up -/
theorem cut_add (P : QL) (k : Nat) : PE (addQ (P.take k) (List.replicate k 0 ++ tr ((tr P).drop k))) P := fun n => by
  rw [co_add, co_take, co_sh]
  by_cases h : n < k
  · rw [if_pos h, if_pos h, Rat.add_zero]
  · rw [if_neg h, if_neg h, Rat.zero_add, co_tr, co_drop, co_tr, show k + (n - k) = n by omega]
@[go_sem] noncomputable def EPG : Env := (EPF).add 43 rPPreS
theorem EPG_ok : EPG.Ok := (EPF_ok).add rPPre_ok
@[go_sem] def lCutS : Spec := ⟨[.slice (.int .i64), .int .i64], fun d => (.dat .bool true, [])⟩
theorem lCut_ok : SpecOk Try.prog 9 lCutS := by
  refine fn_ok EPG_ok lCutS Try.func9 rfl (by decide) (N := 78) rfl (res := [.tmp 4]) rfl (by decide) [] [] [] 100 (by kernel_rfl) ?_
  rintro ⟨(x:List Int), (n:Int), _⟩ hw hp
  refine ⟨rfl, fun H hH => ?_⟩
  dsimp only [go_sem] at hw hp ⊢
  have lx := (ofP_len x).1
  have sx := ofP_sz x
  have qx := ofP_szq x
  have ek : bitsI .and .i64 n 7 = n % 8 := andMask n 3 (by omega)
  obtain ⟨k, hk⟩ : ∃ k : Nat, n % 8 = (k : Int) := ⟨(n % 8).toNat, by omega⟩
  have hk7 : k ≤ 7 := by omega
  rw [ek, hk]
  generalize hp' : ofP x = p at *
  have lP : (pf p).length ≤ 7 := by rw [pf_len]; exact lx
  have lC := pc_len (pf p)
  have pC := pf_pc (pf p)
  have m1 : Int.toNat (if ((pc (pf p)).length : Int) < (k : Int) then ((pc (pf p)).length : Int) else (k : Int)) = min (pc (pf p)).length k := by
    split <;> omega
  have m2 : ((0 ≤ if ((pc (pf p)).length : Int) < (k : Int) then ((pc (pf p)).length : Int) else (k : Int)) ∧ (if ((pc (pf p)).length : Int) < (k : Int) then ((pc (pf p)).length : Int) else (k : Int)) ≤ ((pc (pf p)).length : Int)) = True := eq_true (by split <;> omega)
  have m3 : List.drop (min (pc (pf p)).length k) (pc (pf p)) = List.drop k (pc (pf p)) := by
    rcases Nat.lt_or_ge (pc (pf p)).length k with h | h
    · rw [Nat.min_eq_left (by omega), List.drop_of_length_le (Nat.le_refl _), List.drop_of_length_le (by omega)]
    · rw [Nat.min_eq_right h]
  have lD : (List.drop k (pc (pf p))).length ≤ 7 := by rw [List.length_drop]; omega
  have m4 : List.take (Int.toNat 100) (List.drop k (pc (pf p))) = List.drop k (pc (pf p)) := List.take_of_length_le (by
    show _ ≤ 100
    omega)
  have pD : pf (List.drop k (pc (pf p))) = (tr (pf p)).drop k := by rw [pf_drop, pC]
  have pT : pf (List.take k p) = (pf p).take k := pf_take p k
  have qT : SzQ 1 ((pf p).take k) := ⟨by rw [List.length_take]; omega, fun i => by
    rw [co_take]; split
    · exact qx.2 i
    · exact qs_zero⟩
  have qD : SzQ 1 ((tr (pf p)).drop k) := ⟨by have := tr_len (pf p); rw [List.length_drop]; omega, fun i => by rw [co_drop, co_tr]; exact qx.2 _⟩
  have lE : (tr ((tr (pf p)).drop k)).length ≤ 7 := by
    have h1 := tr_len ((tr (pf p)).drop k)
    have h2 := tr_len (pf p)
    rw [List.length_drop] at h1
    omega
  obtain ⟨f1, f2⟩ := sh_small lE hk7
  have qS : SzQ 1 (List.replicate k 0 ++ tr ((tr (pf p)).drop k)) := ⟨by rw [List.length_append, List.length_replicate]; omega, fun i => by
    rw [co_sh]; split
    · exact qs_zero
    · rw [co_tr]; exact qD.2 _⟩
  have c1 : Sz 5000000 p := sx.le (by decide)
  have c2 : Sz 90 p := sx.le (by decide)
  have c3 : (p.length ≤ 500 ∧ ∀ f : fT.den, f ∈ p → fs f ≤ 1000) = True := eq_true ⟨by omega, fun f hf => Nat.le_trans (sx.2 f hf) (by decide)⟩
  have c4 : Sz 5000000 (List.drop k (pc (pf p))) := ⟨by omega, fun f hf => Nat.le_trans (qx.pc.2 f (List.mem_of_mem_drop hf)) (by decide)⟩
  have c5 : Sz 5000000 (pc ((tr (pf p)).drop k)) := qD.pc.le (by decide)
  have c6 : Sz 2000000 (pc ((pf p).take k)) := qT.pc.le (by decide)
  have c7 : Sz 2000000 (pc (List.replicate k 0 ++ tr ((tr (pf p)).drop k))) := qS.pc.le (by decide)
  have s1 : psame (pc (addQ ((pf p).take k) (List.replicate k 0 ++ tr ((tr (pf p)).drop k)))) (pc (pf p)) = true := psame_of (pc_eq.2 (cut_add (pf p) k))
  simp only [m1, m2, m3, m4, pD, pT, pf_pc (List.drop k (tr (pf p))), f1, f2, pca_l, pca_r, Int.toNat_natCast, psame_self, c1, c2, c3, c4, c5, c6, c7, s1]
  simp
end Go.Proofs.Ytpneaknfnlnbcaa.Gx
