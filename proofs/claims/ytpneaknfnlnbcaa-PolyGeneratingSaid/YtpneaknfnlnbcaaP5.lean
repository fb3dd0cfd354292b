/-
  The program's polynomials: Pow.
-/
import Derived.Test.YtpneaknfnlnbcaaP4
namespace Go.Proofs.Ytpneaknfnlnbcaa.Gx
open Go Go.RowKit Tw B Nt
set_option linter.unusedVariables false
set_option linter.unusedSimpArgs false
set_option maxHeartbeats 4000000
set_option maxRecDepth 20000
theorem i64_and_nat (a b : Nat) (ha : a < 4611686018427387904) (hb : b < 4611686018427387904) : bitsI .and .i64 (a : Int) (b : Int) = ((a &&& b : Nat) : Int) := by
  have hx : a &&& b < 2 ^ 62 := Nat.and_lt_two_pow _ (by omega)
  show IntKind.i64.wrap ((BitVec.ofInt 64 (a : Int) &&& BitVec.ofInt 64 (b : Int)).toNat : Int) = _
  rw [BitVec.toNat_and, ofInt_u64 a (by omega), ofInt_u64 b (by omega)]
  exact IntWalk.i64_in _ (by omega)
theorem and_pow (n t : Nat) : n &&& 2 ^ t = if n / 2 ^ t % 2 = 1 then 2 ^ t else 0 := by
  refine Nat.eq_of_testBit_eq fun i => ?_
  rw [Nat.testBit_and, Nat.testBit_two_pow]
  by_cases hi : t = i
  · subst hi
    rw [Nat.testBit_eq_decide_div_mod_eq]
    by_cases h : n / 2 ^ t % 2 = 1
    · simp [h, Nat.testBit_two_pow]
    · simp [h]
  · by_cases h : n / 2 ^ t % 2 = 1
    · simp [h, Nat.testBit_two_pow, hi]
    · simp [h, hi]
theorem and_bit (n t : Nat) (hn : n ≤ 1024) (ht : 2 ^ t ≤ 1024) : bitsI .and .i64 (n : Int) ((2 ^ t : Nat) : Int) ≠ 0 ↔ n / 2 ^ t % 2 = 1 := by
  rw [i64_and_nat n (2 ^ t) (by omega) (by omega), and_pow]
  have : 0 < 2 ^ t := Nat.two_pow_pos t
  by_cases h : n / 2 ^ t % 2 = 1
  · rw [if_pos h]; exact ⟨fun _ => h, fun _ => by omega⟩
  · rw [if_neg h]; exact ⟨fun e => absurd rfl e, fun e => absurd e h⟩
/-- lengths of powers -/
theorem len_pow {P : QL} (h : P ≠ []) : ∀ n, (powQ P n).length = (P.length - 1) * n + 1
  | 0 => rfl
  | n + 1 => by
    have ih := len_pow h n
    have hp : 0 < P.length := List.length_pos_iff.2 h
    have h2 : powQ P n ≠ [] := fun e => by rw [e] at ih; simp at ih
    rw [powQ, len_mul _ _ h2 h, ih, Nat.mul_succ]
    omega
theorem pow_nil' {P : QL} (h : P = []) : ∀ n, 0 < n → ∀ i, co (powQ P n) i = 0
  | n + 1, _ => fun i => by rw [powQ, h]; exact mul_nil _ i
/-- p to the power n; its error -/
def powE (p : QL) (n : Int) : Int := if n < 0 then 1 else if n > 1024 then 4 else if n = 0 then 0 else if (tr p).length = 0 then 0 else if ((tr p).length : Int) > 1024 ∨ (((tr p).length : Int) - 1) * n + 1 > 1024 then 4 else 0
def pwQ (p : QL) (n : Int) : List fT.den := if powE p n = 0 then pc (powQ p n.toNat) else []
def pwB (p : List fT.den) (n : Int) : Prop := ∃ Z, Sz Z p ∧ (∀ m, m ≤ n.toNat → ∀ i, qs (co (powQ (pf p) m) i) ≤ Z) ∧ (min 1024 ((p.length - 1) * n.toNat + 1) + 1) * (Z + Z + 3) ≤ 4000000
theorem pc_len (L : QL) : (pc L).length ≤ L.length := by unfold pc; rw [List.length_map]; exact tr_len L
theorem pow_sq (P : QL) (m : Nat) : pc (mulQ (pf (pc (powQ P m))) (pf (pc (powQ P m)))) = pc (powQ P (m + m)) := by
  refine pc_eq.2 ?_
  rw [pf_pc]
  exact (PE.mul (PE.of_tr _) (PE.of_tr _)).trans (pow_add P m m).symm
theorem pow_mp (P : QL) (m : Nat) : pc (mulQ (pf (pc (powQ P m))) P) = pc (powQ P (m + 1)) := by
  refine pc_eq.2 ?_
  rw [pf_pc]
  exact PE.mul (PE.of_tr _) (PE.refl _)
theorem pow_b1 {P : QL} {Z N m : Nat} (h0 : P ≠ []) (hK : (P.length - 1) * N + 1 ≤ 1024) (hZ : ∀ m, m ≤ N → ∀ i, qs (co (powQ P m) i) ≤ Z) (hm : m ≤ N) : Sz Z (pc (powQ P m)) ∧ (pc (powQ P m)).length ≤ (P.length - 1) * m + 1 ∧ (pc (powQ P m)).length ≤ 1024 := by
  have h1 := len_pow h0 m
  have h2 := pc_len (powQ P m)
  have h3 := Nat.mul_le_mul (Nat.le_refl (P.length - 1)) hm
  exact ⟨SzQ.pc ⟨by omega, hZ m hm⟩, by omega, by omega⟩
theorem mulB_of {p q : List fT.den} {Z M : Nat} (h1 : Sz Z p) (h2 : Sz Z q) (hp : p.length ≤ M) (hl : p.length + q.length ≤ 2000) (hZ : (M + 1) * (Z + Z + 3) ≤ 4000000) : mulB p q :=
  ⟨Z, Z, h1, h2, Nat.le_trans (Nat.mul_le_mul (show p.length + 1 ≤ M + 1 by omega) (Nat.le_refl (Z + Z + 3))) hZ, hl⟩
theorem Sz.le {B C : Nat} {p : List fT.den} (h : Sz B p) (hc : B ≤ C) : Sz C p := ⟨h.1, fun f hf => Nat.le_trans (h.2 f hf) hc⟩
/-- the bit of round t -/
def bt : Nat → Int
  | 0 => 0
  | t + 1 => ((2 ^ t : Nat) : Int)
theorem bt_half (t : Nat) : (bt (t + 1)).tdiv 2 = bt t := by
  show ((2 ^ t : Nat) : Int).tdiv 2 = _
  rw [Int.tdiv_eq_ediv_of_nonneg (Int.natCast_nonneg _)]
  cases t with
  | zero => rfl
  | succ t => show ((2 ^ (t + 1) : Nat) : Int) / 2 = ((2 ^ t : Nat) : Int); rw [Nat.pow_succ]; omega
@[go_sem] noncomputable def EP7 : Env := (EP6).add 14 pMulS
theorem EP7_ok : EP7.Ok := (EP6_ok).add pMul_ok
@[go_sem] def pPowS : Spec := ⟨[(.slice fT), .int .i64], fun d => (.tup (.cons (.dat (.slice fT) (pwQ (pf d.1) d.2.1)) (.cons (.dat (.int .i64) (powE (pf d.1) d.2.1)) .nil)), [pwB d.1 d.2.1])⟩
theorem pPow_ok : SpecOk Try.prog 27 pPowS := by
  refine fn_ok EP7_ok pPowS Try.func27 rfl (by decide) (N := 55) rfl (res := [.tmp 4, .tmp 5]) rfl (by decide) [(6, [(15, .dt)])] [] [] 100 (by kernel_rfl) ?_
  rintro ⟨p, (n:Int), _⟩ hw hp
  refine ⟨rfl, fun H hH => ?_⟩
  dsimp only [go_sem] at hw hp ⊢
  obtain ⟨⟨Z, h1, hZ, hZ2⟩, -⟩ := hp
  have hZ5 : Z ≤ 5000000 := by
    have := Nat.mul_le_mul (show 1 ≤ min 1024 ((p.length - 1) * n.toNat + 1) + 1 by omega) (Nat.le_refl (Z + Z + 3))
    omega
  have hl := h1.1
  change List fT.den at p
  have k1 := kt_le p
  have T1 : (List.take (kt p) p).length = kt p := by rw [List.length_take]; omega
  have lP : (tr (pf p)).length = kt p := rfl
  have pP := pf_kt p
  have hsz := h1.take (kt p)
  have hZ' : ∀ m, m ≤ n.toNat → ∀ i, qs (co (powQ (tr (pf p)) m) i) ≤ Z := fun m hm i => by
    rw [PE.pow (PE.of_tr (pf p)) m i]; exact hZ m hm i
  have hres : powE (pf p) n = 0 → pc (powQ (tr (pf p)) n.toNat) = pwQ (pf p) n := fun e => by
    unfold pwQ; rw [if_pos e]; exact pc_eq.2 (PE.pow (PE.of_tr _) _)
  have bad : powE (pf p) n ≠ 0 → [] = pwQ (pf p) n := fun e => by unfold pwQ; rw [if_neg e]
  have one : [qf ((1 : Int) : Rat)] = pc (powQ (tr (pf p)) 0) := by
    unfold pc powQ
    have : tr [1] = [1] := by decide +kernel
    rw [this]; rfl
  have eE : powE (pf p) n = if n < 0 then 1 else if n > 1024 then 4 else if n = 0 then 0 else if kt p = 0 then 0 else if (kt p : Int) > 1024 ∨ ((kt p : Int) - 1) * n + 1 > 1024 then 4 else 0 := rfl
  rw [T1]
  generalize tr (pf p) = P at *
  generalize hE : powE (pf p) n = e at *
  generalize hQ : pwQ (pf p) n = q at *
  generalize List.take (kt p) p = p' at *
  generalize kt p = K at *
  refine ⟨fun h => ?_, fun h => ⟨h1.le hZ5, fun k => ?_, fun k => ⟨by decide, fun j => ?_, fun j => ⟨fun g => ?_, fun g => ?_⟩⟩⟩⟩ <;> simp only [decide_eq_true_eq, decide_eq_false_iff_not] at *
  · rw [if_pos h] at eE
    exact ⟨trivial, trivial, bad (by omega), trivial, eE.symm, trivial⟩
  · rw [if_neg h, if_pos k] at eE
    exact ⟨trivial, trivial, bad (by omega), trivial, eE.symm, trivial⟩
  · rw [if_neg h, if_neg (by omega), if_pos j] at eE
    subst j
    exact ⟨trivial, trivial, one.trans (hres eE), trivial, eE.symm, trivial⟩
  · rw [if_neg h, if_neg (by omega), if_neg j, if_pos (by omega)] at eE
    refine ⟨trivial, trivial, ?_, trivial, eE.symm, trivial⟩
    rw [← hres eE, pc_nil (pow_nil' (List.eq_nil_of_length_eq_zero (by omega)) _ (by omega))]
  · rw [if_neg h, if_neg (by omega), if_neg j, if_neg (by omega)] at eE
    have m1 : 0 ≤ ((K : Int) - 1) * n := Int.mul_nonneg (by omega) (by omega)
    have m2 : ((K : Int) - 1) * n ≤ 2000 * 1024 := Int.mul_le_mul (by omega) (by omega) (by omega) (by omega)
    refine ⟨fun h => h, fun h => h, fun _ => by rw [inR_i64]; omega, fun h => h, fun h => h, fun _ => by rw [inR_i64]; omega, fun h => h, fun _ => by rw [inR_i64]; omega, fun h => h, fun h => h, fun f => ?_, fun f => ?_⟩ <;> simp only [Bool.or_eq_true, Bool.or_eq_false_iff, decide_eq_true_eq, decide_eq_false_iff_not] at f
    · rw [if_pos f] at eE
      exact ⟨trivial, trivial, bad (by omega), trivial, eE.symm, trivial⟩
    · rw [if_neg (by omega)] at eE
      have hq := hres eE
      obtain ⟨N, rfl⟩ : ∃ N : Nat, n = (N : Int) := ⟨n.toNat, by omega⟩
      have hP0 : P ≠ [] := fun e => by rw [e] at lP; simp at lP; omega
      have hK : (P.length - 1) * N + 1 ≤ 1024 := by
        have e1 : ((P.length - 1 : Nat) : Int) * (N : Int) = ((K : Int) - 1) * (N : Int) := by rw [lP, Int.natCast_sub (by omega)]; rfl
        have : (((P.length - 1) * N : Nat) : Int) = ((K : Int) - 1) * (N : Int) := by rw [← e1]; exact Int.natCast_mul _ _
        omega
      rw [Int.toNat_natCast] at hZ' hq
      rw [Int.toNat_natCast] at hZ2
      have hb : ∀ m, m ≤ N → Sz Z (pc (powQ P m)) ∧ (pc (powQ P m)).length ≤ (P.length - 1) * m + 1 ∧ (pc (powQ P m)).length ≤ min 1024 ((p.length - 1) * N + 1) := fun m hm => by
        obtain ⟨g1, g2, g3⟩ := pow_b1 (m := m) hP0 hK hZ' hm
        have g4 := Nat.mul_le_mul (show P.length - 1 ≤ p.length - 1 by omega) hm
        exact ⟨g1, g2, by omega⟩
      have hM : min 1024 ((p.length - 1) * N + 1) ≤ 1024 := Nat.min_le_left _ _
      generalize min 1024 ((p.length - 1) * N + 1) = M at *
      clear m1 m2
      refine hH.loop (fun s : Nat => ⟨[(0, .dat (.slice fT) p'), (1, .dat (.int .i64) (N : Int)), (6, .dat (.slice fT) (pc (powQ P 0))), (7, .dat (.int .i64) ((2 ^ s : Nat) : Int))], [], 0⟩) (fun s => 2 ^ s ≤ N) (fun s => N - 2 ^ s) 0 0 (show 1 ≤ N by omega) ?_ ?_
      · dsimp only [go_sem]
        have one2 : [qf 1] = pc (powQ P 0) := one
        simp [one2]
      · intro s hs R hm
        have hs : 2 ^ s ≤ N := hs
        have s0 : 0 < 2 ^ s := Nat.two_pow_pos s
        refine hH.run 100 _ _ ?_
        dsimp only [go_sem]
        have eq : ((N : Nat) : Int).tdiv 2 = ((N / 2 : Nat) : Int) := by
          rw [Int.tdiv_eq_ediv_of_nonneg (Int.natCast_nonneg _)]; omega
        rw [eq]
        refine ⟨by decide, by rw [inR_i64]; omega, fun c => ?_, fun c => ?_⟩ <;> simp only [decide_eq_true_eq, decide_eq_false_iff_not] at c
        · have c2 : 2 ^ (s + 1) ≤ N := by rw [Nat.pow_succ]; omega
          refine ⟨by rw [inR_i64]; omega, hm _ (s + 1) 0 c2 (by rw [Nat.pow_succ]; omega) ?_⟩
          dsimp only [go_sem]
          have e2 : ((2 ^ s : Nat) : Int) * 2 = ((2 ^ (s + 1) : Nat) : Int) := by rw [Nat.pow_succ]; omega
          rw [e2]
          simp
        · have c2 : N < 2 ^ (s + 1) := by rw [Nat.pow_succ]; omega
          refine hH.loop (fun t : Nat => ⟨[(0, .dat (.slice fT) p'), (1, .dat (.int .i64) (N : Int)), (6, .dat (.slice fT) (pc (powQ P (N / 2 ^ t)))), (7, .dat (.int .i64) (bt t))], [], 0⟩) (fun t => t ≤ s + 1) (fun t => t) (s + 1) 0 (Nat.le_refl _) ?_ ?_
          · dsimp only [go_sem]
            rw [Nat.div_eq_of_lt c2]
            simp [bt]
          · intro t ht R2 hm2
            have ht : t ≤ s + 1 := ht
            refine hH.run 100 _ _ ?_
            dsimp only [go_sem]
            cases t with
            | zero =>
              refine ⟨fun c => absurd c (by simp [bt]), fun _ => ⟨rfl, rfl, ?_, rfl, (hE.trans eE).symm, trivial⟩⟩
              rw [Nat.pow_zero, Nat.div_one]
              exact hq.trans hQ.symm
            | succ t =>
              have t0 : 0 < 2 ^ t := Nat.two_pow_pos t
              have t1 : 2 ^ t ≤ N := Nat.le_trans (Nat.pow_le_pow_right (by decide) (by omega)) hs
              have eb : bt (t + 1) = ((2 ^ t : Nat) : Int) := rfl
              have hd : N / 2 ^ t = N / 2 ^ (t + 1) + N / 2 ^ (t + 1) + N / 2 ^ t % 2 := by
                rw [Nat.pow_succ, ← Nat.div_div_eq_div_mul]; omega
              have hdN : N / 2 ^ t ≤ N := Nat.div_le_self _ _
              have hab := and_bit N t (by omega) (by omega)
              rw [← eb] at hab
              rw [pow_sq, pP, pow_mp, bt_half]
              generalize N / 2 ^ (t + 1) = m at *
              have n1 := Nat.mul_le_mul (Nat.le_refl (P.length - 1)) (show m + m ≤ N by omega)
              rw [Nat.mul_add] at n1
              obtain ⟨b1, b2, b3⟩ := hb m (by omega)
              obtain ⟨d1, d2, d3⟩ := hb (m + m) (by omega)
              rw [Nat.mul_add] at d2
              have ib : inR .i64 (bt t) := by
                rw [inR_i64]
                cases t with
                | zero => simp [bt]
                | succ t =>
                  have : bt (t + 1) = ((2 ^ t : Nat) : Int) := rfl
                  rw [this]
                  have : 2 ^ t ≤ 2 ^ (t + 1) := Nat.pow_le_pow_right (by decide) (by omega)
                  omega
              have c' : (0 : Int) < bt (t + 1) := by rw [eb]; omega
              refine ⟨fun _ => ⟨mulB_of b1 b1 b3 (by omega) hZ2, fun c => ?_, fun c => ?_⟩, fun c => absurd (decide_eq_true c') (by rw [c]; decide)⟩ <;> simp only [decide_eq_true_eq, decide_eq_false_iff_not] at c
              · have c2 := hab.1 c
                have n2 := Nat.mul_le_mul (Nat.le_refl (P.length - 1)) (show m + m + 1 ≤ N by omega)
                rw [Nat.mul_add, Nat.mul_add, Nat.mul_one] at n2
                refine ⟨mulB_of d1 hsz d3 (by omega) hZ2, by decide, ib, hm2 _ t 0 (by omega) (by omega) ?_⟩
                dsimp only [go_sem]
                rw [hd, c2]
                simp
              · have c2 : N / 2 ^ t % 2 = 0 := by
                  have := mt hab.2 c
                  omega
                refine ⟨by decide, ib, hm2 _ t 0 (by omega) (by omega) ?_⟩
                dsimp only [go_sem]
                rw [hd, c2]
                simp
end Go.Proofs.Ytpneaknfnlnbcaa.Gx
