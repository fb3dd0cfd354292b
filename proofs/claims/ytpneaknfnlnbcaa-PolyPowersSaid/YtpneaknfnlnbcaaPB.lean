/-
  The reference's polynomials: PolyShift, PolyPow.
-/
import Derived.Test.YtpneaknfnlnbcaaP9
namespace Go.Proofs.Ytpneaknfnlnbcaa.Gx
open Go Go.RowKit Tw B Nt
set_option linter.unusedVariables false
set_option linter.unusedSimpArgs false
set_option maxHeartbeats 4000000
set_option maxRecDepth 20000
@[go_sem] noncomputable def EPH : Env := (EPB).add 35 rPMulS
theorem EPH_ok : EPH.Ok := (EPB_ok).add rPMul_ok
@[go_sem] def rPShS : Spec := ⟨[(.slice fT), .int .i64], fun d => (.tup (.cons (.dat (.slice fT) (pc (shQ (pf d.1) d.2.1))) (.cons (.dat (.int .i64) (shE (pf d.1) d.2.1)) .nil)), [Sz 2000000 d.1])⟩
theorem rPSh_ok : SpecOk Try.prog 30 rPShS := by
  refine fn_ok EPH_ok rPShS Try.func30 rfl (by decide) (N := 30) rfl (res := [.tmp 4, .tmp 5]) rfl (by decide) [(6, [(28, .fz 0)])] [] [] 100 (by kernel_rfl) ?_
  rintro ⟨p, (n:Int), _⟩ hw hp
  refine ⟨rfl, fun H hH => ?_⟩
  dsimp only [go_sem] at hw hp ⊢
  obtain ⟨h1, -⟩ := hp
  change List fT.den at p
  have hl := h1.1
  have eK : (pc (pf p)).length = (tr (pf p)).length := by unfold pc; rw [List.length_map]
  have k2 : (tr (pf p)).length ≤ p.length := kt_le p
  have hS : Sz 2000001 (pc (pf p)) := (SzQ.of hw.1.2 h1).pc
  have hz : zd (.pair .bool (.pair (.slice (.int .u32)) (.slice (.int .u32)))) = f0 := rfl
  have eE : shE (pf p) n = if n < 0 then 1 else if n > 1024 then 4 else if (tr (pf p)).length = 0 then 0 else if ((tr (pf p)).length : Int) + n > 1024 then 4 else 0 := rfl
  have bad : shE (pf p) n ≠ 0 → [] = pc (shQ (pf p) n) := fun h => by unfold shQ; rw [if_neg h]; rfl
  have good : shE (pf p) n = 0 → pc (List.replicate n.toNat 0 ++ tr (pf p)) = pc (shQ (pf p) n) := fun h => by
    unfold shQ; rw [if_pos h]; exact pc_eq.2 (PE.sh (PE.of_tr _) _)
  have e2 : pf (List.replicate n.toNat f0 ++ pc (pf p)) = List.replicate n.toNat 0 ++ tr (pf p) := by
    have := pf_pc (pf p)
    unfold pf at *
    rw [List.map_append, List.map_replicate, fq_f0, this]
  rw [hz, List.length_replicate, e2, eK]
  refine ⟨h1.le (by decide), fun h => ?_, fun h => ⟨fun h => h, fun h => h, fun h => h, fun h => h, fun h => h, fun h => h, fun g => ?_, fun h => h, fun h => h, fun a b => ⟨a, b⟩, fun h => h, fun c => ?_, fun c => ?_⟩⟩
  · simp only [decide_eq_true_eq] at h
    rw [if_pos h] at eE
    exact ⟨rfl, rfl, bad (by omega), rfl, eE.symm, trivial⟩
  · simp only [decide_eq_true_eq, decide_eq_false_iff_not] at g h
    rw [inR_i64]; omega
  · simp only [Bool.or_eq_true, Bool.and_eq_true, decide_eq_true_eq, decide_eq_false_iff_not] at c h
    have e4 : shE (pf p) n = 4 := by
      rw [eE, if_neg h]
      by_cases g : n > 1024
      · rw [if_pos g]
      · rw [if_neg g, if_neg (by omega), if_pos (by omega)]
    exact ⟨rfl, rfl, bad (by omega), rfl, e4.symm, trivial⟩
  · simp only [Bool.or_eq_false_iff, Bool.and_eq_false_iff, decide_eq_false_iff_not] at c h
    have e0 : shE (pf p) n = 0 := by
      rw [eE, if_neg h, if_neg (by omega)]
      by_cases g : (tr (pf p)).length = 0
      · rw [if_pos g]
      · rw [if_neg g, if_neg (by omega)]
    refine ⟨⟨by show (0 : Int) ≤ n; omega, Int.le_refl _, by show (56 : Int) * n ≤ 140737488355328; omega⟩, by omega, rfl, ⟨by rw [List.length_append, List.length_replicate, eK]; omega, fun f hf => ?_⟩, rfl, rfl, good e0, rfl, e0.symm, trivial⟩
    rcases List.mem_append.1 hf with hf | hf
    · rw [List.eq_of_mem_replicate hf]; exact Nat.zero_le _
    · exact Nat.le_trans (hS.2 f hf) (by decide)
def rpB (p : List fT.den) (n : Int) : Prop := ∃ Z, Sz Z p ∧ (∀ m, m ≤ n.toNat → ∀ i, qs (co (powQ (pf p) m) i) ≤ Z) ∧ (min 1024 ((p.length - 1) * n.toNat + 1) + 1) * (Z + Z + 3) ≤ 900000
@[go_sem] def rPPowS : Spec := ⟨[(.slice fT), .int .i64], fun d => (.tup (.cons (.dat (.slice fT) (pwQ (pf d.1) d.2.1)) (.cons (.dat (.int .i64) (powE (pf d.1) d.2.1)) .nil)), [rpB d.1 d.2.1])⟩
theorem rPPow_ok : SpecOk Try.prog 28 rPPowS := by
  refine fn_ok EPH_ok rPPowS Try.func28 rfl (by decide) (N := 40) rfl (res := [.tmp 4, .tmp 5]) rfl (by decide) [(6, [(30, .dt)])] [] [] 100 (by kernel_rfl) ?_
  rintro ⟨p, (n:Int), _⟩ hw hp
  refine ⟨rfl, fun H hH => ?_⟩
  dsimp only [go_sem] at hw hp ⊢
  obtain ⟨⟨Z, h1, hZ, hZ2⟩, -⟩ := hp
  change List fT.den at p
  have hl := h1.1
  have hZ5 : Z ≤ 900000 := by
    have := Nat.mul_le_mul (show 1 ≤ min 1024 ((p.length - 1) * n.toNat + 1) + 1 by omega) (Nat.le_refl (Z + Z + 3))
    omega
  have eK : (pc (pf p)).length = (tr (pf p)).length := by unfold pc; rw [List.length_map]
  have k2 : (tr (pf p)).length ≤ p.length := kt_le p
  have pC : pf (pc (pf p)) = tr (pf p) := pf_pc (pf p)
  have hZ' : ∀ m, m ≤ n.toNat → ∀ i, qs (co (powQ (tr (pf p)) m) i) ≤ Z := fun m hm i => by
    rw [PE.pow (PE.of_tr (pf p)) m i]; exact hZ m hm i
  have hres : powE (pf p) n = 0 → pc (powQ (tr (pf p)) n.toNat) = pwQ (pf p) n := fun e => by
    unfold pwQ; rw [if_pos e]; exact pc_eq.2 (PE.pow (PE.of_tr _) _)
  have bad : powE (pf p) n ≠ 0 → [] = pwQ (pf p) n := fun e => by unfold pwQ; rw [if_neg e]
  have one : [qf ((1 : Int) : Rat)] = pc (powQ (tr (pf p)) 0) := by
    unfold pc powQ
    have : tr [1] = [1] := by decide +kernel
    rw [this]; rfl
  have hC : 1 ≤ n.toNat → Sz Z (pc (pf p)) := fun h => SzQ.pc ⟨by rw [pf_len]; exact hl, fun i => by
    have := hZ 1 h i
    rwa [show co (powQ (pf p) 1) i = co (pf p) i from one_mul' (pf p) i] at this⟩
  have eE : powE (pf p) n = if n < 0 then 1 else if n > 1024 then 4 else if n = 0 then 0 else if (tr (pf p)).length = 0 then 0 else if ((tr (pf p)).length : Int) > 1024 ∨ (((tr (pf p)).length : Int) - 1) * n + 1 > 1024 then 4 else 0 := rfl
  rw [eK]
  generalize pc (pf p) = C at *
  generalize tr (pf p) = P at *
  have m1 : ¬ n < 0 → ¬ 1024 < n → 1 < P.length → 0 ≤ ((P.length : Int) - 1) * n := fun a b c => Int.mul_nonneg (by omega) (by omega)
  have m2 : ¬ n < 0 → ¬ 1024 < n → 1 < P.length → ((P.length : Int) - 1) * n ≤ 2000 * 1024 := fun a b c => Int.mul_le_mul (by omega) (by omega) (by omega) (by omega)
  refine ⟨h1.le (by omega), fun h => ?_, fun h => ⟨fun h => h, fun h => h, fun h => h, fun h => h, fun h => h, fun g => ?_, fun h => h, fun h => h, fun g => ?_, fun h => h, fun g => ?_, fun h => h, fun h => h, fun a b => ⟨a, b⟩, fun h => h, fun c => ?_, fun c => ?_⟩⟩
  · simp only [decide_eq_true_eq] at h
    rw [if_pos h] at eE
    exact ⟨rfl, rfl, bad (by omega), rfl, eE.symm, trivial⟩
  · simp only [decide_eq_true_eq, decide_eq_false_iff_not] at g h
    rw [inR_i64]; omega
  · simp only [decide_eq_true_eq, decide_eq_false_iff_not] at g h
    have := m1 h g.1 (by omega)
    have := m2 h g.1 (by omega)
    rw [inR_i64]; omega
  · simp only [decide_eq_true_eq, decide_eq_false_iff_not] at g h
    have := m1 h g.1 (by omega)
    have := m2 h g.1 (by omega)
    rw [inR_i64]; omega
  · simp only [Bool.or_eq_true, Bool.and_eq_true, decide_eq_true_eq, decide_eq_false_iff_not] at c h
    have e4 : powE (pf p) n = 4 := by
      rw [eE, if_neg h]
      by_cases g : n > 1024
      · rw [if_pos g]
      · have c := c.resolve_left g
        have n0 : n ≠ 0 := fun e => by rw [e, Int.mul_zero] at c; omega
        rw [if_neg g, if_neg n0, if_neg (by omega), if_pos (Or.inr c.2)]
    exact ⟨rfl, rfl, bad (by omega), rfl, e4.symm, trivial⟩
  · simp only [Bool.or_eq_false_iff, Bool.and_eq_false_iff, decide_eq_false_iff_not] at c h
    obtain ⟨N, rfl⟩ : ∃ N : Nat, n = (N : Int) := ⟨n.toNat, by omega⟩
    rw [Int.toNat_natCast] at *
    have hK : (P.length - 1) * N + 1 ≤ 1024 := by
      rcases Nat.lt_or_ge 1 P.length with g | g
      · have e1 : ((P.length - 1 : Nat) : Int) = (P.length : Int) - 1 := by omega
        have e2 : (((P.length - 1) * N : Nat) : Int) = ((P.length : Int) - 1) * (N : Int) := by rw [Int.natCast_mul, e1]
        have := c.2.resolve_left (by omega)
        omega
      · rw [show P.length - 1 = 0 by omega, Nat.zero_mul]; omega
    have e0 : powE (pf p) (N : Int) = 0 := by
      rw [eE, if_neg h, if_neg (by omega)]
      by_cases g0 : (N : Int) = 0
      · rw [if_pos g0]
      · rw [if_neg g0]
        by_cases g : P.length = 0
        · rw [if_pos g]
        · have e2 : (((P.length - 1) * N : Nat) : Int) = ((P.length : Int) - 1) * (N : Int) := by rw [Int.natCast_mul, show ((P.length - 1 : Nat) : Int) = (P.length : Int) - 1 by omega]
          have e3 := Nat.mul_le_mul (Nat.le_refl (P.length - 1)) (show 1 ≤ N by omega)
          rw [if_neg g, if_neg (by omega)]
    have hq := hres e0
    have hb : ∀ m, m < N → rmB (pc (powQ P m)) C := fun m hm => by
      have hM : (pc (powQ P m)).length ≤ min 1024 ((p.length - 1) * N + 1) ∧ (pc (powQ P m)).length + C.length ≤ 2000 ∧ Sz Z (pc (powQ P m)) := by
        have e3 := Nat.mul_le_mul (Nat.le_refl (P.length - 1)) (show 1 ≤ N by omega)
        by_cases h0 : P = []
        · have g1 : (pc (powQ P m)).length ≤ 1 := by
            rcases Nat.eq_zero_or_pos m with g | g
            · rw [g]; exact pc_len [1]
            · rw [pc_nil (pow_nil' h0 m g)]; exact Nat.zero_le _
          have g2 : P.length = 0 := by rw [h0]; rfl
          refine ⟨by omega, by omega, by omega, fun f hf => ?_⟩
          obtain ⟨q, hq, rfl⟩ := List.mem_map.1 hf
          obtain ⟨i, hi⟩ := List.mem_iff_getElem?.1 hq
          have h5 := hZ' m (by omega) i
          rw [← co_tr] at h5
          unfold co at h5
          rw [List.getD_eq_getElem?_getD, hi] at h5
          exact h5
        · obtain ⟨g1, g2, g3⟩ := pow_b1 (m := m) h0 hK hZ' (by omega)
          have g4 := Nat.mul_le_mul (show P.length - 1 ≤ p.length - 1 by omega) (show m ≤ N by omega)
          have g5 := Nat.mul_le_mul (Nat.le_refl (P.length - 1)) (show m + 1 ≤ N by omega)
          rw [Nat.mul_succ] at g5
          exact ⟨by omega, by omega, g1⟩
      exact ⟨Z, Z, hM.2.2, hC (by omega), Nat.le_trans (Nat.mul_le_mul (Nat.succ_le_succ hM.1) (Nat.le_refl (Z + Z + 3))) hZ2, hM.2.1⟩
    refine hH.loop (fun i : Nat => ⟨[(1, .dat (.int .i64) (N : Int)), (6, .dat (.slice fT) C), (7, .dat (.slice fT) (pc (powQ P i))), (8, .dat (.int .i64) (i : Int))], [], 0⟩) (fun i => i ≤ N) (fun i => N - i) 0 0 (Nat.zero_le _) ?_ ?_
    · dsimp only [go_sem]
      have one2 : [qf 1] = pc (powQ P 0) := one
      simp [one2]
    · intro i hi R hm
      have hi : i ≤ N := hi
      refine hH.run 100 _ _ ?_
      dsimp only [go_sem]
      rw [pC, pow_mp]
      refine ⟨fun c => ?_, fun c => ?_⟩ <;> simp only [decide_eq_true_eq, decide_eq_false_iff_not] at c
      · refine ⟨hb i (by omega), by rw [inR_i64]; omega, hm _ (i + 1) 0 (by omega) (by omega) ?_⟩
        dsimp only [go_sem]
        simp
      · have : i = N := by omega
        subst this
        exact ⟨rfl, rfl, hq, rfl, e0.symm, trivial⟩
end Go.Proofs.Ytpneaknfnlnbcaa.Gx
