/-
  The laws of the polynomials: PolyLimits.
-/
import Derived.Test.YtpneaknfnlnbcaaP7
namespace Go.Proofs.Ytpneaknfnlnbcaa.Gx
open Go Go.RowKit Tw B Nt
set_option linter.unusedVariables false
set_option linter.unusedSimpArgs false
set_option maxHeartbeats 4000000
set_option maxRecDepth 20000
/-- x^k -/
def mono (k : Nat) : QL := List.replicate k 0 ++ [1]
theorem mono_succ (k : Nat) : mono (k + 1) = 0 :: mono k := rfl
theorem mono_mul : ∀ a b : Nat, PE (mulQ (mono a) (mono b)) (mono (a + b))
  | 0, b => by rw [Nat.zero_add]; exact one_mul' _
  | a + 1, b => by
    rw [show a + 1 + b = (a + b) + 1 by omega, mono_succ, mono_succ]
    exact (mul_shl _ _).trans (PE.cons 0 (mono_mul a b))
theorem mono_pow (k : Nat) : ∀ n : Nat, PE (powQ (mono k) n) (mono (k * n))
  | 0 => PE.refl _
  | n + 1 => by
    rw [Nat.mul_succ]
    exact (mul_l (mono_pow k n) _).trans (mono_mul _ _)
theorem mono_tr : ∀ k : Nat, tr (mono k) = mono k
  | 0 => by decide +kernel
  | k + 1 => by
    rw [mono_succ, tr_cons, mono_tr k, if_neg]
    exact fun h => by cases k <;> exact absurd h.1 (by simp [mono])
theorem mono_len (k : Nat) : (mono k).length = k + 1 := by simp [mono]
theorem mono_pc (k : Nat) : (pc (mono k)).length = k + 1 := by unfold pc; rw [List.length_map, mono_tr, mono_len]
theorem mono_pf (k : Nat) : pf (pc (mono k)) = mono k := by rw [pf_pc, mono_tr]
theorem mono_qs (k i : Nat) : qs (co (mono k) i) ≤ 1 := by
  refine qs_list (fun q hq => ?_) i
  rcases List.mem_append.1 hq with h | h
  · rw [List.eq_of_mem_replicate h]; exact qs_zero
  · rw [List.mem_singleton.1 h]; exact qs_one
theorem mono_sz {k : Nat} (h : k ≤ 1999) : Sz 1 (pc (mono k)) := SzQ.pc ⟨by rw [mono_len]; omega, mono_qs k⟩
theorem mono_sh (n : Nat) (h : n ≤ 1022) : shE (mono 1) (n : Int) = 0 ∧ shQ (mono 1) (n : Int) = mono (n + 1) := by
  have e : shE (mono 1) (n : Int) = 0 := by
    unfold shE
    rw [mono_tr, mono_len, if_neg (by omega), if_neg (by omega), if_neg (by omega), if_neg (by omega)]
  refine ⟨e, ?_⟩
  unfold shQ
  rw [if_pos e, Int.toNat_natCast]
  show List.replicate n 0 ++ [0, 1] = List.replicate (n + 1) 0 ++ [1]
  rw [List.replicate_succ', List.append_assoc]; rfl
theorem mono_pwB {k : Nat} (h : k ≤ 1999) (n : Int) : pwB (pc (mono k)) n := ⟨1, mono_sz h, fun m _ i => by rw [mono_pf, mono_pow k m i]; exact mono_qs _ _, by decide⟩
theorem mono_pE (k n : Nat) (h0 : n ≠ 0) (hn : n ≤ 1024) : powE (mono k) (n : Int) = if k + 1 > 1024 ∨ k * n + 1 > 1024 then 4 else 0 := by
  unfold powE
  rw [mono_tr, mono_len, if_neg (by omega), if_neg (by omega), if_neg (by omega), if_neg (by omega)]
  have : (((k + 1 : Nat) : Int) - 1) * (n : Int) = ((k * n : Nat) : Int) := by
    rw [Int.natCast_mul, show ((k + 1 : Nat) : Int) - 1 = (k : Int) by omega]
  rw [this]
  by_cases hc : k + 1 > 1024 ∨ k * n + 1 > 1024
  · rw [if_pos hc, if_pos (by omega)]
  · rw [if_neg hc, if_neg (by omega)]
theorem mono_pw (k n : Nat) (h0 : n ≠ 0) (hn : n ≤ 1024) (h : k + 1 ≤ 1024) (h2 : k * n + 1 ≤ 1024) : pwQ (mono k) (n : Int) = pc (mono (k * n)) := by
  unfold pwQ
  rw [if_pos (by rw [mono_pE k n h0 hn, if_neg (by omega)]), Int.toNat_natCast]
  exact pc_eq.2 (mono_pow k n)
theorem nil_pwB (n : Int) : pwB [] n := ⟨1, ⟨by decide, fun f hf => absurd hf (by simp)⟩, fun m _ i => by
  rcases m with _ | m
  · exact mono_qs 0 i
  · rw [pow_nil' (P := pf []) rfl (m + 1) (by omega)]; exact qs_zero, by decide⟩
@[go_sem] def lLimS : Spec := ⟨[], fun d => (.dat .bool true, [])⟩
theorem lLim_ok : SpecOk Try.prog 6 lLimS := by
  refine fn_ok EPA_ok lLimS Try.func6 rfl (by decide) (N := 124) rfl (res := [.tmp 0]) rfl (by decide) [(1, [(22, .dt)]), (6, [(45, .dt)])] [] [] 100 (by kernel_rfl) ?_
  rintro ⟨_⟩ hw hp
  refine ⟨rfl, fun H hH => ?_⟩
  dsimp only [go_sem] at hw hp ⊢
  have e21 : bfr 21 = 1 := by decide +kernel
  have hpf : pf [(false, [], []), qf (bfr 21)] = mono 1 := by
    show [fq f0, fq (qf (bfr 21))] = _
    rw [fq_f0, fq_qf, e21]; rfl
  have hp1 : pf [qf (bfr 21)] = mono 0 := by
    show [fq (qf (bfr 21))] = _
    rw [fq_qf, e21]; rfl
  have hp0 : pf [] = [] := rfl
  have z1 : Sz 5000000 [(false, [], []), qf (bfr 21)] := ⟨by decide, fun f hf => by
    have h1 := qs_le (bfr_b 21)
    have hf : f = f0 ∨ f = qf (bfr 21) := by
      rcases List.mem_cons.1 hf with h | h
      · exact Or.inl h
      · exact Or.inr (List.mem_singleton.1 h)
    rcases hf with rfl | rfl
    · exact Nat.zero_le _
    · rw [fs_qf]; omega⟩
  have z2 : Sz 5000000 [] := ⟨by decide, fun f hf => absurd hf (by simp)⟩
  have q0 : [qf (bfr 21)] = pc (mono 0) := by
    unfold pc; rw [mono_tr, e21]; rfl
  have b1 : pwB (pc (mono 341)) 3 := mono_pwB (by decide) 3
  have b2 : pwB (pc (mono 342)) 3 := mono_pwB (by decide) 3
  have b3 : pwB [qf (bfr 21)] 1024 := by rw [q0]; exact mono_pwB (by decide) 1024
  have b4 : pwB [] 1025 := nil_pwB 1025
  have s1 : shE (mono 1) 340 = 0 := (mono_sh 340 (by decide)).1
  have s2 : shE (mono 1) 341 = 0 := (mono_sh 341 (by decide)).1
  have s3 : shE (mono 1) 1022 = 0 := (mono_sh 1022 (by decide)).1
  have s4 : shE (mono 1) 1023 = 4 := by
    unfold shE
    rw [mono_tr, mono_len]
    decide
  have s5 : shE [] 1025 = 4 := by decide +kernel
  have t1 : shQ (mono 1) 340 = mono 341 := (mono_sh 340 (by decide)).2
  have t2 : shQ (mono 1) 341 = mono 342 := (mono_sh 341 (by decide)).2
  have t3 : shQ (mono 1) 1022 = mono 1023 := (mono_sh 1022 (by decide)).2
  have e1 : powE (mono 341) 3 = 0 := mono_pE 341 3 (by decide) (by decide)
  have e2 : powE (mono 342) 3 = 4 := mono_pE 342 3 (by decide) (by decide)
  have e3 : powE (mono 0) 1024 = 0 := mono_pE 0 1024 (by decide) (by decide)
  have e4 : powE [] 1025 = 4 := by decide +kernel
  have w1 : pwQ (mono 341) 3 = pc (mono 1023) := mono_pw 341 3 (by decide) (by decide) (by decide) (by decide)
  have w2 : pwQ (mono 0) 1024 = pc (mono 0) := mono_pw 0 1024 (by decide) (by decide) (by decide) (by decide)
  have l1 : (pc (mono 341)).length = 342 := mono_pc 341
  have l2 : (pc (mono 1023)).length = 1024 := mono_pc 1023
  have l3 : (pc (mono 0)).length = 1 := mono_pc 0
  simp only [hpf, hp1, hp0, z1, z2, b1, b2, b3, b4, s1, s2, s3, s4, s5, t1, t2, t3, mono_pf, e1, e2, e3, e4, w1, w2, l1, l2, l3]
  simp
end Go.Proofs.Ytpneaknfnlnbcaa.Gx
