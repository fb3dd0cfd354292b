/-
  The laws of the polynomials: PolyGenerating.
-/
import Derived.Test.YtpneaknfnlnbcaaPE
namespace Go.Proofs.Ytpneaknfnlnbcaa.Gx
open Go Go.RowKit Tw B Nt
set_option linter.unusedVariables false
set_option linter.unusedSimpArgs false
set_option maxHeartbeats 4000000
set_option maxRecDepth 20000
def bprK (k : Nat) : Rat := Rat.divInt (([1, 1, 2, 1, 1, 0, 3, 1] : List Int).getD k 0) (([2, 3, 3, 4, 1, 1, 5, 7] : List Int).getD k 0)
def bpr (n : Int) : Rat := bprK (n % 8).toNat
theorem bprK_b : ∀ k, k < 8 → qs (bprK k) ≤ 1 ∧ qs (1 - bprK k) ≤ 1 := by decide +kernel
theorem bpr_b (n : Int) : qs (bpr n) ≤ 1 ∧ qs (1 - bpr n) ≤ 1 := bprK_b _ (by omega)
@[go_sem] def bProbS : Spec := ⟨[.int .i64], fun d => (.dat fT (qf (bpr d.1)), [])⟩
theorem bProb_ok : SpecOk Try.prog 21 bProbS := by
  refine fn_ok EPA_ok bProbS Try.func21 rfl (by decide) (N := 24) rfl (res := [.cell 2 29]) rfl (by decide) [(1, [(7, .dt)]), (2, [(12, .dt)])] [] [] 100 (by kernel_rfl) ?_
  rintro ⟨(n:Int), _⟩ hw hp
  refine ⟨rfl, fun H hH => ?_⟩
  dsimp only [go_sem] at hw hp ⊢
  have ek : bitsI .and .i64 n 7 = n % 8 := andMask n 3 (by omega)
  rw [ek]
  have key : ∀ k, k < 8 → ([2, 3, 3, 4, 1, 1, 5, 7] : List Int).getD k 0 ≠ 0 := by decide
  refine ⟨by change (0 : Int) ≤ n % 8 ∧ n % 8 < ((8 : Nat) : Int); omega, by change (0 : Int) ≤ n % 8 ∧ n % 8 < ((8 : Nat) : Int); omega, if_neg (key _ (by omega)), trivial⟩
@[go_sem] noncomputable def EPM : Env := (EPA).add 21 bProbS
theorem EPM_ok : EPM.Ok := (EPA_ok).add bProb_ok
theorem gN_sz {b : Nat → Rat} (hb : ∀ i, qs (b i) ≤ 1 ∧ qs (1 - b i) ≤ 1) : ∀ n, n ≤ 6 → SzQ (6 * 2 ^ n - 5) (gN b n)
  | 0, _ => ⟨by simp [gN], fun i => by
      cases i with
      | zero => exact qs_nat (n := 1) (by decide)
      | succ i => rw [gN, co_ge (by simp)]; exact Nat.le_trans qs_zero (by decide)⟩
  | n + 1, h => by
    have ih := gN_sz hb n (by omega)
    have hL : SzQ 1 [1 - b n, b n] := ⟨by simp, qs_list fun q hq => by
      simp only [List.mem_cons, List.not_mem_nil, or_false] at hq
      rcases hq with rfl | rfl
      · exact (hb n).2
      · exact (hb n).1⟩
    have hl := gN_len b n
    have h2 := hL.mul ih (by rw [hl]; simp; omega)
    refine ⟨by rw [gN_len]; omega, fun i => ?_⟩
    rw [gN_s, mul_comm' _ _ i]
    refine Nat.le_trans (h2.2 i) ?_
    have h3 : 2 ^ (n + 1) = 2 * 2 ^ n := by rw [Nat.pow_succ]; omega
    have h4 : 0 < 2 ^ n := Nat.pow_pos (by decide)
    rw [h3]
    show 1 + 2 * (1 + (6 * 2 ^ n - 5) + 1) ≤ _
    omega
theorem wN_sz {b : Nat → Rat} (hb : ∀ i, qs (b i) ≤ 1 ∧ qs (1 - b i) ≤ 1) (s : Nat) : ∀ n, qs (wN b s n) ≤ 1 + 2 * n
  | 0 => qs_nat (n := 1) (by decide)
  | n + 1 => by
    have ih := wN_sz hb s n
    have h1 := hb n
    rw [wN_s]
    split
    · have := qs_mul (wN b s n) (b n)
      omega
    · have := qs_mul (wN b s n) (1 - b n)
      omega
theorem sN_sz {b : Nat → Rat} (hb : ∀ i, qs (b i) ≤ 1 ∧ qs (1 - b i) ≤ 1) {n : Nat} (hn : n ≤ 6) (k : Nat) : ∀ t, qs (sN b n k t) ≤ 1 + 20 * t
  | 0 => Nat.le_trans qs_zero (by omega)
  | t + 1 => by
    have ih := sN_sz hb hn k t
    have h1 := wN_sz hb t n
    rw [sN_s]
    split
    · have := qs_add (sN b n k t) (wN b t n)
      omega
    · rw [Rat.add_zero]; omega
theorem dec1 : IsDec ⟨#[49]⟩ 1 := .inr ⟨by decide, [1], ⟨by unfold D10; decide, by decide⟩, by decide, rfl⟩
theorem ft1 : ftT 1 = [49] := by
  unfold ftT
  rw [if_pos (by decide +kernel), if_neg (by decide +kernel)]
  exact decT_of dec1
@[go_sem] def lGenS : Spec := ⟨[.slice (.int .i64)], fun d => (.dat .bool true, [])⟩
theorem lGen_ok : SpecOk Try.prog 4 lGenS := by
  refine fn_ok EPM_ok lGenS Try.func4 rfl (by decide) (N := 109) rfl (res := [.tmp 2]) rfl (by decide) [(3, [(17, .dt)]), (10, [(37, .dt)]), (9, [(31, .dt)])] [(11, [0]), (25, [1])] [] 100 (by kernel_rfl) ?_
  rintro ⟨(l:List Int), _⟩ hw hp
  refine ⟨rfl, fun H hH => ?_⟩
  dsimp only [go_sem] at hw hp ⊢
  change List Int at l
  have hz : zd (.pair .bool (.pair (.slice (.int .u32)) (.slice (.int .u32)))) = f0 := rfl
  refine ⟨fun _ => ⟨rfl, trivial⟩, fun h => ⟨Nat.zero_le _, ?_⟩⟩
  simp only [decide_eq_false_iff_not] at h
  have hn : l.length ≤ 6 := by omega
  obtain ⟨pl, epl⟩ : ∃ pl : List fT.den, pl = l.map fun x => qf (bpr x) := ⟨_, rfl⟩
  have hpl : pl.length = l.length := by rw [epl, List.length_map]
  obtain ⟨b, eb⟩ : ∃ b : Nat → Rat, b = fun i => bpr (l.getD i 0) := ⟨_, rfl⟩
  have hb : ∀ i, qs (b i) ≤ 1 ∧ qs (1 - b i) ≤ 1 := fun i => by rw [eb]; exact bpr_b _
  have hG : ∀ i, i ≤ l.length → Sz 379 (pc (gN b i)) := fun i hi => ((gN_sz hb i (by omega)).pc).le (by
    have := Nat.pow_le_pow_right (show 0 < 2 by decide) (show i ≤ 6 by omega)
    omega)
  have e0 : qf (1 - fq (false, [], [])) = qf 1 := by rw [show fq (false, [], []) = 0 from fq_f0, Rat.sub_eq_add_neg, show (-0 : Rat) = 0 from rfl, Rat.add_zero]
  have e1 : [qf 1] = pc (gN b 0) := rfl
  rw [e0]
  refine hH.loop (fun i : Nat => ⟨[(0, .dat (.slice (.int .i64)) l), (3, .dat (.slice fT) (pc (gN b i))), (4, .own 0), (5, .dat (.int .i64) (i : Int))], [(0, .row 29 fT (pl.take i))], 1⟩) (fun i => i ≤ l.length) (fun i => l.length - i) 0 0 (Nat.zero_le _) ?_ ?_
  · dsimp only [go_sem]
    rw [← e1]
    simp
  · intro i hi R hm
    have hi : i ≤ l.length := hi
    refine hH.run 100 _ _ ?_
    dsimp only [go_sem]
    have hT : (List.take i pl).length = i := by rw [List.length_take, hpl]; omega
    rw [hT, List.length_singleton]
    refine ⟨fun c => ?_, fun c => ?_⟩ <;> simp only [decide_eq_true_eq, decide_eq_false_iff_not] at c
    · have hi' : i < l.length := by omega
      have ev : bpr (l.getD (i : Int).toNat (zd (Ty.int IntKind.i64))) = b i := by rw [eb]; rfl
      have et : pl.take (i + 1) = pl.take i ++ [qf (b i)] := by
        rw [take_get pl i f0 (by omega), eb, epl]
        simp only [List.getD_eq_getElem?_getD, List.getElem?_map, List.getElem?_eq_getElem hi']
        rfl
      have eg : pc (mulQ (pf (pc (gN b i))) (pf [qf (1 - b i), qf (b i)])) = pc (gN b (i + 1)) := by
        rw [pcm_l, gN_s]
        show pc (mulQ (gN b i) [fq (qf (1 - b i)), fq (qf (b i))]) = _
        rw [fq_qf, fq_qf]
      have m1 : Sz 1 [qf (1 - b i), qf (b i)] := ⟨by simp, fun f hf => by
        simp only [List.mem_cons, List.not_mem_nil, or_false] at hf
        rcases hf with rfl | rfl
        · rw [fs_qf]; exact (hb i).2
        · rw [fs_qf]; exact (hb i).1⟩
      have gl : (pc (gN b i)).length ≤ 7 := by
        have := pc_len (gN b i)
        rw [gN_len] at this
        omega
      rw [ev, fq_qf, eg]
      refine ⟨by change (0 : Int) ≤ (i : Int) ∧ (i : Int) < (l.length : Int); omega, by omega, rfl, by rw [fs_qf]; exact Nat.le_trans (hb i).1 (by decide), mulB_small (hG i hi) m1 (by omega) (by simp) (by decide) (by decide), by rw [inR_i64]; omega, hm _ (i + 1) 1 hi' (by omega) ?_⟩
      dsimp only [go_sem]
      rw [et]
      simp
    · obtain rfl : i = l.length := by omega
      rw [List.take_of_length_le (by omega)]
      have eN : ((l.length : Int) + 1).toNat = l.length + 1 := by omega
      rw [hz, eN]
      refine ⟨by rw [inR_i64]; omega, ⟨by change (0 : Int) ≤ (l.length : Int) + 1; omega, Int.le_refl _, by show (56 : Int) * ((l.length : Int) + 1) ≤ 140737488355328; omega⟩, ?_⟩
      obtain ⟨n, en⟩ : ∃ n, n = l.length := ⟨_, rfl⟩
      rw [← en] at h hn hi hpl hT ⊢
      have z0 : (List.replicate (n + 1) f0).length = n + 1 := List.length_replicate
      have z1 : ∀ k, (List.replicate (n + 1) f0).getD k f0 = f0 := fun k => by simp [List.getD_eq_getElem?_getD, List.getElem?_replicate]; split <;> rfl
      have hsh : shlI .i64 1 (n : Int) = ((2 ^ n : Nat) : Int) := (show ∀ n : Nat, n < 7 → shlI .i64 1 (n : Int) = ((2 ^ n : Nat) : Int) by decide) n (by omega)
      have h64 : 2 ^ n ≤ 64 := Nat.pow_le_pow_right (show 0 < 2 by decide) (show n ≤ 6 by omega)
      refine hH.loop (fun x : Nat × List fT.den => ⟨[(0, .dat (.slice (.int .i64)) l), (3, .dat (.slice fT) (pc (gN b n))), (4, .dat (.slice fT) pl), (7, .own 1), (8, .dat (.int .i64) (x.1 : Int))], [(1, .row 29 fT x.2)], 2⟩) (fun x => x.1 ≤ 2 ^ n ∧ x.2.length = n + 1 ∧ ∀ k, k < n + 1 → fq (x.2.getD k f0) = sN b n k x.1 ∧ fs (x.2.getD k f0) ≤ qs (sN b n k x.1)) (fun x => 2 ^ n - x.1) (0, List.replicate (n + 1) f0) 2 ⟨Nat.zero_le _, z0, fun k hk => ?_⟩ ?_ ?_
      · change fq ((List.replicate (n + 1) f0).getD k f0) = 0 ∧ fs ((List.replicate (n + 1) f0).getD k f0) ≤ _
        rw [z1]
        exact ⟨fq_f0, Nat.zero_le _⟩
      · dsimp only [go_sem]
        simp
      · rintro ⟨s, p⟩ hI R2 hm2
        obtain ⟨hs, hpn, hp⟩ : s ≤ 2 ^ n ∧ p.length = n + 1 ∧ ∀ k, k < n + 1 → fq (p.getD k f0) = sN b n k s ∧ fs (p.getD k f0) ≤ qs (sN b n k s) := hI
        refine hH.run 100 _ _ ?_
        dsimp only [go_sem]
        rw [← en, hsh, e0]
        refine ⟨by change (0 : Int) ≤ (n : Int) ∧ (n : Int) ≤ 18446744073709551615; omega, Int.natCast_nonneg _, fun c => ?_, fun c => ?_⟩ <;> simp only [decide_eq_true_eq, decide_eq_false_iff_not] at c
        · have c : s < 2 ^ n := by omega
          refine ⟨Nat.zero_le _, ?_⟩
          refine hH.loop (fun i : Nat => ⟨[(0, .dat (.slice (.int .i64)) l), (3, .dat (.slice fT) (pc (gN b n))), (4, .dat (.slice fT) pl), (7, .own 1), (8, .dat (.int .i64) (s : Int)), (9, .dat (.int .i64) (cN s i : Int)), (10, .ref 2 0), (11, .dat (.int .i64) (i : Int))], [(1, .row 29 fT p), (2, .box 29 (dA fT (qf (wN b s i)) .nil))], 3⟩) (fun i => i ≤ n) (fun i => n - i) 0 3 (Nat.zero_le _) ?_ ?_
          · dsimp only [go_sem]
            simp [cN, wN]
          · intro i hi R3 hm3
            have hi : i ≤ n := hi
            refine hH.run 100 _ _ ?_
            dsimp only [go_sem]
            rw [← en, hz, Int.toNat_natCast]
            have wz := wN_sz hb s i
            have w6 := wN_sz hb s n
            have hc6 := cN_le s i
            have hs64 : s < 64 := by omega
            have ea : bitsI .and .i64 (shrI .i64 (s : Int) (i : Int)) 1 = ((s / 2 ^ i % 2 : Nat) : Int) := by
              have h1 : bitsI .and .i64 (shrI .i64 (s : Int) (i : Int)) 1 = shrI .i64 (s : Int) (i : Int) % 2 := andMask _ 1 (by omega)
              have h2 : min (i : Int).toNat IntKind.i64.bits = i := by show min (i : Int).toNat 64 = i; omega
              rw [h1]
              unfold shrI
              rw [h2, show ((2 : Int) ^ i) = ((2 ^ i : Nat) : Int) by simp]
              rw [Int.fdiv_eq_ediv_of_nonneg _ (Int.natCast_nonneg _)]
              omega
            rw [ea]
            refine ⟨fun c2 => ?_, fun c2 => ?_⟩ <;> simp only [decide_eq_true_eq, decide_eq_false_iff_not] at c2
            · have hi' : i < n := by omega
              have ep : pl.getD i f0 = qf (b i) := by
                rw [eb, epl]
                simp only [List.getD_eq_getElem?_getD, List.getElem?_map, List.getElem?_eq_getElem (show i < l.length by omega)]
                rfl
              rw [ep]
              have hbi := hb i
              have hpi : (0 : Int) ≤ (i : Int) ∧ (i : Int) < (pl.length : Int) := by omega
              have r1 : inR IntKind.i64 ((i : Int) + 1) := by rw [inR_i64]; omega
              have hcs := cN_s s i
              have hws := wN_s b s i
              simp only [fq_qf, fs_qf]
              refine ⟨by change (0 : Int) ≤ (i : Int) ∧ (i : Int) ≤ 18446744073709551615; omega, Int.natCast_nonneg _, fun d => ?_, fun d => ?_⟩ <;> simp only [decide_eq_true_eq, decide_eq_false_iff_not] at d
              · rw [if_pos (by omega)] at hcs hws
                refine ⟨hpi, by omega, by omega, by rw [inR_i64]; omega, r1, hm3 _ (i + 1) 3 hi' (by omega) ?_⟩
                dsimp only [go_sem]
                rw [hcs, hws]
                simp
              · rw [if_neg (by omega)] at hcs hws
                refine ⟨hpi, by omega, by omega, by omega, r1, hm3 _ (i + 1) 3 hi' (by omega) ?_⟩
                dsimp only [go_sem]
                rw [hcs, hws]
                simp
            · have : i = n := by omega
              subst this
              have hck : cN s i < i + 1 := by omega
              obtain ⟨p1, p2⟩ := hp _ hck
              have hz1 := sN_sz hb hn (cN s i) s
              have hz2 := sN_sz hb hn (cN s i) (s + 1)
              rw [Int.toNat_natCast, fq_qf, p1]
              have hcp : (0 : Int) ≤ (cN s i : Int) ∧ (cN s i : Int) < (p.length : Int) := by omega
              refine ⟨hcp, by omega, by omega, by rw [fs_qf]; omega, hcp, by omega, by rw [inR_i64]; omega, hm2 _ (s + 1, p.set (cN s i) (qf (sN b i (cN s i) s + wN b s i))) 2 ⟨c, by rw [List.length_set]; exact hpn, fun k hk => ?_⟩ (show 2 ^ i - (s + 1) < 2 ^ i - s by omega) ?_⟩
              · show fq ((p.set (cN s i) (qf (sN b i (cN s i) s + wN b s i))).getD k f0) = sN b i k (s + 1) ∧ fs ((p.set (cN s i) (qf (sN b i (cN s i) s + wN b s i))).getD k f0) ≤ qs (sN b i k (s + 1))
                rw [sN_s, List.getD_eq_getElem?_getD, List.getElem?_set]
                by_cases e : cN s i = k
                · subst e
                  rw [if_pos rfl, if_pos (by omega), if_pos rfl]
                  show fq (qf _) = _ ∧ fs (qf _) ≤ _
                  rw [fq_qf, fs_qf]
                  exact ⟨rfl, Nat.le_refl _⟩
                · rw [if_neg e, if_neg e, ← List.getD_eq_getElem?_getD, Rat.add_zero]
                  exact hp k hk
              · dsimp only [go_sem]
                simp
        · have : s = 2 ^ n := by omega
          subst this
          have hpe : PE (pf p) (gN b n) := fun k => by
            rw [co_pf]
            by_cases hk : k < n + 1
            · rw [(hp k hk).1, sN_all]
            · rw [co_ge (by rw [gN_len]; omega), List.getD_eq_getElem?_getD, List.getElem?_eq_none (by omega)]
              exact fq_f0
          have s1 : psame (pc (gN b n)) (pc (pf p)) = true := psame_of (pc_eq.2 hpe.symm)
          have c1 : Sz 5000000 p := ⟨by omega, fun f hf => by
            obtain ⟨k, hk, rfl⟩ := List.mem_iff_getElem.1 hf
            have h1 := (hp k (by omega)).2
            have h2 := sN_sz hb hn k (2 ^ n)
            rw [List.getD_eq_getElem?_getD, List.getElem?_eq_getElem hk] at h1
            change fs p[k] ≤ _ at h1
            omega⟩
          have g1 := hG n (by omega)
          have g2 : ((pc (gN b n)).length ≤ 500 ∧ ∀ f : fT.den, f ∈ pc (gN b n) → fs f ≤ 1000) = True := eq_true ⟨by have := pc_len (gN b n); rw [gN_len] at this; omega, fun f hf => Nat.le_trans (g1.2 f hf) (by decide)⟩
          have g3 : ((pc (gN b n)).length ≤ 500 ∧ ∀ f : fT.den, f ∈ pc (gN b n) → fs f ≤ 900) = True := eq_true ⟨by have := pc_len (gN b n); rw [gN_len] at this; omega, fun f hf => Nat.le_trans (g1.2 f hf) (by decide)⟩
          have t1 : qsum (pc (gN b n)) = 1 := by rw [← ev_one, ev_pc, gN_one]
          have t2 : qsum (pc (dQ (pf (pc (gN b n))))) = uN b n := by rw [← ev_one, ev_pc, ev_PE 1 (PE.d (show PE (pf (pc (gN b n))) (gN b n) by rw [pf_pc]; exact PE.of_tr _)), gN_mean]
          have t3 : qsum pl = uN b n := by
            have key : ∀ i, i ≤ n → qsum (pl.take i) = uN b i := by
              intro i
              induction i with
              | zero => intro _; rfl
              | succ i ih =>
                intro hi
                have ep : pl.getD i f0 = qf (b i) := by
                  rw [eb, epl]
                  simp only [List.getD_eq_getElem?_getD, List.getElem?_map, List.getElem?_eq_getElem (show i < l.length by omega)]
                  rfl
                rw [take_get pl i f0 (by omega), ep, qsum, List.foldl_append]
                show qsum (pl.take i) + fq (qf (b i)) = uN b i + b i
                rw [ih (by omega), fq_qf]
            have := key n (Nat.le_refl _)
            rwa [List.take_of_length_le (by omega)] at this
          have l1 : pl.length ≤ 500 := by omega
          have l2 : (∀ f : fT.den, f ∈ pl → fs f ≤ 1000) = True := eq_true fun f hf => by
            rw [epl] at hf
            obtain ⟨x, -, rfl⟩ := List.mem_map.1 hf
            rw [fs_qf]
            exact Nat.le_trans (bpr_b x).1 (by decide)
          have f1 : fs (qf 1) ≤ 900000 := by rw [fs_qf]; exact Nat.le_trans (qs_nat (n := 1) (by decide)) (by decide)
          have f2 : Fd (qf 1) := Fd_qf 1
          simp only [s1, c1, g2, g3, t1, t2, t3, ft1, fq_qf, l1, l2, f1, f2]
          simp
end Go.Proofs.Ytpneaknfnlnbcaa.Gx
