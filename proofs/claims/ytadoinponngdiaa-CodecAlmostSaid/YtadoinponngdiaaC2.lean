/-
  Encoders: natural numbers and fractions.
-/
import Derived.Test.YtadoinponngdiaaC1
namespace Go.Proofs.Ytadoinponngdiaa.Gx
open Go Go.RowKit Tw B Nt
set_option linter.unusedVariables false
set_option linter.unusedSimpArgs false
set_option maxHeartbeats 4000000
set_option maxRecDepth 20000
/-- big-endian bytes -/
def byt (v i : Nat) : Int := ((v / 256 ^ i % 256 : Nat) : Int)
def beS (v : Nat) : Nat → List Int
  | 0 => []
  | s + 1 => byt v s :: beS v s
theorem beS_len (v : Nat) : ∀ s, (beS v s).length = s
  | 0 => rfl
  | s + 1 => by rw [beS, List.length_cons, beS_len v s]
def bsz (n : Int) : Nat := (blen n + 7) / 8
def beN (n : Int) : List Int := beS n.toNat (bsz n)
def eN (n : Int) : List Int := eB (beN n)
def eFc (c : fT.den) : List Int := (if c.1 then 1 else 0) :: (eN (N c.2.1) ++ eN (N c.2.2))
theorem row_set (v s i : Nat) (h : i < s) : (List.replicate (s - i) (0 : Int) ++ beS v i).set (s - 1 - i) (byt v i) = List.replicate (s - (i + 1)) 0 ++ beS v (i + 1) := by
  have e : s - i = (s - (i + 1)) + 1 := by omega
  rw [e, List.replicate_succ', List.append_assoc, List.set_append, if_neg (by rw [List.length_replicate]; omega), List.length_replicate, show s - 1 - i - (s - (i + 1)) = 0 by omega]
  rfl
theorem byte_digit {l : List Int} (h : Ds l) (q r : Nat) (hr : r < 4) : ∃ d : Nat, l.getD q 0 = (d : Int) ∧ d < 4294967296 ∧ d / 2 ^ (8 * r) % 256 = (N l).toNat / 256 ^ (4 * q + r) % 256 := by
  have h1 := N_digit h q
  have h0 := h.at q
  have hN := N_nonneg h
  rw [List.getD_eq_getElem?_getD]
  refine ⟨(l[q]?.getD 0).toNat, by omega, by omega, ?_⟩
  obtain ⟨V, hV⟩ : ∃ V : Nat, N l = (V : Int) := ⟨(N l).toNat, by omega⟩
  rw [← h1, hV, Bp_pow, show ((2 : Int) ^ (32 * q)) = ((2 ^ (32 * q) : Nat) : Int) by simp]
  have e : ((V : Int) / ((2 ^ (32 * q) : Nat) : Int) % 4294967296).toNat = V / 2 ^ (32 * q) % 4294967296 := by
    rw [← Int.natCast_ediv]
    omega
  rw [e, Int.toNat_natCast, Nat.pow_add 256, Nat.pow_mul 256 4 q, show (256 ^ 4 : Nat) = 2 ^ 32 by decide, ← Nat.pow_mul, ← Nat.div_div_eq_div_mul]
  generalize V / 2 ^ (32 * q) = X
  rcases r with _ | _ | _ | _ | r
  · show X % 4294967296 / 1 % 256 = X / 1 % 256; omega
  · show X % 4294967296 / 256 % 256 = X / 256 % 256; omega
  · show X % 4294967296 / 65536 % 256 = X / 65536 % 256; omega
  · show X % 4294967296 / 16777216 % 256 = X / 16777216 % 256; omega
  · omega
theorem bsz_le {l : List Int} (h : Ds l) : bsz (N l) ≤ 4 * l.length := by
  have := blen_le h
  unfold bsz; omega
theorem beN_len (n : Int) : (beN n).length = bsz n := beS_len _ _
theorem eB_len {b : List Int} (h : b.length ≤ 1000000) : (eB b).length ≤ b.length + 10 := by
  have := eU_len10 b.length (by omega)
  unfold eB
  rw [List.length_append]; omega
theorem eN_len {l : List Int} (h : Ds l) (hl : l.length ≤ 100000) : (eN (N l)).length ≤ 4 * l.length + 10 := by
  have h1 := bsz_le h
  have h2 := beN_len (N l)
  have := eB_len (b := beN (N l)) (by omega)
  unfold eN; omega
@[go_sem] def eNM : MSpec := ⟨[.d nT], fun d => ⟨[(0, .row 5 (.int .u8) (eN (N d.1)))], 1, .own 0, [List.length d.1 ≤ 20000]⟩⟩
theorem eNM_ok : MSpecOk Try.prog 15 eNM := by
  refine fnM_ok EC2_ok eNM Try.func15 rfl (by decide) (N := 36) rfl (res := [.tmp 2]) rfl (by decide) [(6, [(31, .wr)]), (8, [(35, .ow)])] [(8, [0])] [] 100 (by kernel_rfl) ?_
  rintro ⟨a, _⟩ hw hp H hH
  dsimp only [go_sem] at hw hp ⊢
  obtain ⟨hp, -⟩ := hp
  have hds : Ds a := fun d hd => inR_u32.1 (hw.1.2 d hd)
  have hb := blen_le hds
  change List Int at a
  have et : ((blen (N a) : Int) + 7).tdiv 8 = (bsz (N a) : Int) := by
    rw [Int.tdiv_eq_ediv_of_nonneg (by omega)]; unfold bsz; omega
  have hs1 : bsz (N a) ≤ 4 * a.length := by unfold bsz; omega
  rw [et, Int.toNat_natCast, List.length_replicate]
  have hz : (zd (Ty.int IntKind.u8)) = (0 : Int) := rfl
  rw [hz]
  obtain ⟨s, es⟩ : ∃ s, bsz (N a) = s := ⟨_, rfl⟩
  rw [es] at hs1 ⊢
  refine ⟨by omega, by rw [inR_i64]; omega, by decide, by rw [inR_i64]; omega, ⟨Int.natCast_nonneg _, Int.le_refl _, by show (1 : Int) * (s : Int) ≤ 140737488355328; omega⟩, ?_⟩
  refine hH.loop (fun i : Nat => ⟨[(0, .dat nT a), (3, .dat (.int .i64) (s : Int)), (4, .own 0), (13, .dat (.int .i64) (s : Int)), (14, .dat (.int .i64) (i : Int))], [(0, .row 5 (.int .u8) (List.replicate (s - i) (0 : Int) ++ beS (N a).toNat i))], 1⟩) (fun i => i ≤ s) (fun i => s - i) 0 1 (Nat.zero_le _) ?_ ?_
  · dsimp only [go_sem]
    simp [beS]
  · intro i hi R hm
    have hi : i ≤ s := hi
    refine hH.run 100 _ _ ?_
    dsimp only [go_sem]
    have hL : (List.replicate (s - i) (0 : Int) ++ beS (N a).toNat i).length = s := by rw [List.length_append, List.length_replicate, beS_len]; omega
    have t1 : (i : Int).tdiv 4 = ((i / 4 : Nat) : Int) := by rw [Int.tdiv_eq_ediv_of_nonneg (by omega)]; omega
    have t2 : (i : Int).tmod 4 = ((i % 4 : Nat) : Int) := by rw [Int.tmod_eq_emod_of_nonneg (by omega)]; omega
    obtain ⟨d, hd1, hd2, hd3⟩ := byte_digit hds (i / 4) (i % 4) (by omega)
    have hz : (zd (Ty.int IntKind.u32)) = (0 : Int) := rfl
    have t3 : (((i % 4 : Nat) : Int) * 8) = ((8 * (i % 4) : Nat) : Int) := by omega
    rw [hL, t1, t2, hz, Int.toNat_natCast, hd1, t3, shr_nat .u32 d (8 * (i % 4)) (by show 8 * (i % 4) ≤ 32; omega), wrap_u8, hd3, show 4 * (i / 4) + i % 4 = i by omega]
    refine ⟨fun c => ?_, fun c => ?_⟩ <;> simp only [decide_eq_true_eq, decide_eq_false_iff_not] at c
    · have c : i < s := by omega
      have t4 : ((s : Int) - 1 - (i : Int)).toNat = s - 1 - i := by omega
      rw [t4]
      have b1 : (0 : Int) ≤ (s : Int) - 1 - (i : Int) ∧ (s : Int) - 1 - (i : Int) < (s : Int) := by omega
      have b2 : (0 : Int) ≤ ((i / 4 : Nat) : Int) ∧ ((i / 4 : Nat) : Int) < (a.length : Int) := by omega
      refine ⟨by rw [inR_i64]; omega, by rw [inR_i64]; omega, by decide, by rw [inR_i64]; omega, b2, by decide, by rw [inR_i64]; omega, by rw [inR_i64]; omega, Int.natCast_nonneg _, b1, by omega, by rw [inR_i64]; omega, hm _ (i + 1) 1 c (by omega) ?_⟩
      dsimp only [go_sem]
      have := row_set (N a).toNat s i c
      unfold byt at this
      rw [this]
      simp
    · have : i = s := by omega
      subst this
      rw [Nat.sub_self, List.replicate_zero, List.nil_append]
      have e : eB (beS (N a).toNat i) = eN (N a) := by unfold eN beN; rw [es]
      refine ⟨by omega, ?_⟩
      simp [e]
@[go_sem] def eNS : Spec := ⟨[nT], fun d => (.dat bT (eN (N d.1)), [List.length d.1 ≤ 20000])⟩
theorem eN_ok : SpecOk Try.prog 15 eNS := spec_own1 (t := nT) (u := .int .u8) (g := fun n => eN (N n)) (pre := fun b => [List.length b ≤ 20000]) eNM_ok
@[go_sem] noncomputable def EC3 : Env := (EC2).add 15 eNS
theorem EC3_ok : EC3.Ok := (EC2_ok).add eN_ok
@[go_sem] def eFM : MSpec := ⟨[.d fT], fun d => ⟨[(0, .row 5 (.int .u8) (eFc (qf (fq d.1))))], 1, .own 0, [fs d.1 ≤ 15000]⟩⟩
theorem eFM_ok : MSpecOk Try.prog 17 eFM := by
  refine fnM_ok EC3_ok eFM Try.func17 rfl (by decide) (N := 22) rfl (res := [.tmp 2]) rfl (by decide) [] [] [] 100 (by kernel_rfl) ?_
  rintro ⟨x, _⟩ hw hp H hH
  dsimp only [go_sem] at hw hp ⊢
  obtain ⟨hp, -⟩ := hp
  have hfd := fd_of hw.1
  have hq := qs_fq hfd
  have hs := fs_qf (fq x)
  have hf : Fd (qf (fq x)) := ⟨ds_dg _, ds_dg _⟩
  have e : (if (qf (fq x)).1 then (1 : Int) else 0) :: (eN (N (qf (fq x)).2.1) ++ eN (N (qf (fq x)).2.2)) = eFc (qf (fq x)) := rfl
  generalize qf (fq x) = c at *
  obtain ⟨sg, n, d⟩ := c
  have h1 : n.length ≤ fs (sg, n, d) := Nat.le_max_left _ _
  have h2 : d.length ≤ fs (sg, n, d) := Nat.le_max_right _ _
  have l1 := eN_len hf.1 (by show n.length ≤ _; omega)
  have l2 := eN_len hf.2 (by show d.length ≤ _; omega)
  dsimp only at l1 l2 e ⊢
  refine ⟨by omega, fun h => ?_, fun h => ?_⟩ <;> subst h
  · refine ⟨by decide, by decide, by omega, by simp only [List.length_set, List.length_singleton]; omega, rfl, by omega, by simp only [List.length_append, List.length_set, List.length_singleton]; omega, rfl, ?_⟩
    simp [eFc]
  · refine ⟨by omega, by simp only [List.length_singleton]; omega, rfl, by omega, by simp only [List.length_cons]; omega, rfl, ?_⟩
    simp [eFc]
@[go_sem] def eFS : Spec := ⟨[fT], fun d => (.dat bT (eFc (qf (fq d.1))), [fs d.1 ≤ 15000])⟩
theorem eF_ok : SpecOk Try.prog 17 eFS := spec_own1 (t := fT) (u := .int .u8) (g := fun n => eFc (qf (fq n))) (pre := fun b => [fs b ≤ 15000]) eFM_ok
/-! the number of bytes -/
theorem bsz_spec {n : Int} (h : 0 ≤ n) : n.toNat < 256 ^ bsz n ∧ (0 < bsz n → 256 ^ (bsz n - 1) ≤ n.toNat) := by
  rcases Int.lt_or_eq_of_le h with h0 | h0
  · obtain ⟨h1, h2, h3⟩ := blen_spec h0
    have e1 : (2 : Int) ^ blen n = ((2 ^ blen n : Nat) : Int) := by simp
    have e2 : (2 : Int) ^ (blen n - 1) = ((2 ^ (blen n - 1) : Nat) : Int) := by simp
    rw [e1] at h2
    rw [e2] at h1
    have p1 : ∀ k : Nat, 256 ^ k = 2 ^ (8 * k) := fun k => by rw [Nat.pow_mul]
    have g1 : 2 ^ blen n ≤ 256 ^ bsz n := by rw [p1]; exact Nat.pow_le_pow_right (by decide) (by unfold bsz; omega)
    have g2 : 256 ^ (bsz n - 1) ≤ 2 ^ (blen n - 1) := by rw [p1]; exact Nat.pow_le_pow_right (by decide) (by unfold bsz; omega)
    omega
  · subst h0
    exact ⟨by decide, fun h => absurd h (by decide)⟩
theorem byt_top {n : Int} (h : 0 ≤ n) (hb : 0 < bsz n) : byt n.toNat (bsz n - 1) ≠ 0 := by
  obtain ⟨h1, h2⟩ := bsz_spec h
  have h2 := h2 hb
  unfold byt
  have hp : 0 < 256 ^ (bsz n - 1) := Nat.pow_pos (by decide)
  have e : 256 ^ bsz n = 256 ^ (bsz n - 1) * 256 := by rw [← Nat.pow_succ]; congr 1; omega
  have l1 : 1 ≤ n.toNat / 256 ^ (bsz n - 1) := (Nat.le_div_iff_mul_le hp).2 (by omega)
  have l2 : n.toNat / 256 ^ (bsz n - 1) < 256 := (Nat.div_lt_iff_lt_mul hp).2 (by rw [e] at h1; rw [Nat.mul_comm]; exact h1)
  omega
theorem byt_ge {n : Int} (h : 0 ≤ n) {i : Nat} (hi : bsz n ≤ i) : byt n.toNat i = 0 := by
  have h1 := (bsz_spec h).1
  have h2 : 256 ^ bsz n ≤ 256 ^ i := Nat.pow_le_pow_right (by decide) hi
  unfold byt
  rw [Nat.div_eq_of_lt (by omega)]
  rfl
theorem byt_digit {l : List Int} (h : Ds l) (q r : Nat) (hr : r < 4) {s : Nat} (hs : 8 * r = s) : ((IntKind.u8.wrap (shrI .u32 (l.getD q 0) (s : Int)) : Int)) = byt (N l).toNat (4 * q + r) := by
  obtain ⟨d, hd1, hd2, hd3⟩ := byte_digit h q r hr
  rw [← hs, hd1, shr_nat .u32 d (8 * r) (by show 8 * r ≤ 32; omega), wrap_u8, hd3]
  rfl
@[go_sem] def reNM : MSpec := ⟨[.d nT], fun d => ⟨[(0, .row 5 (.int .u8) (eN (N d.1)))], 1, .own 0, [List.length d.1 ≤ 20000]⟩⟩
theorem reNM_ok : MSpecOk Try.prog 16 reNM := by
  refine fnM_ok EC2_ok reNM Try.func16 rfl (by decide) (N := 54) rfl (res := [.tmp 2]) rfl (by decide) [(6, [(21, .wr), (27, .wr), (33, .wr), (38, .wr), (39, .dt)]), (9, [(53, .ow)])] [] [] 100 (by kernel_rfl) ?_
  rintro ⟨a, _⟩ hw hp H hH
  dsimp only [go_sem] at hw hp ⊢
  obtain ⟨hp, -⟩ := hp
  have hds : Ds a := fun d hd => inR_u32.1 (hw.1.2 d hd)
  have hcan := canon_dg (N a)
  have hNd : N (dg (N a)) = N a := N_dg (N_nonneg hds)
  have hN0 := N_nonneg hds
  have hlen : (dg (N a)).length ≤ List.length a := dg_len hN0 (N_lt hds)
  have hdx := hcan.1
  generalize dg (N a) = x at *
  refine ⟨by omega, by rw [inR_i64]; omega, ?_⟩
  refine hH.loop (fun y : Nat × List Int => ⟨[(3, .dat nT x), (4, .own 0), (5, .dat (.int .i64) ((y.1 : Int) - 1))], [(0, .row 5 (.int .u8) y.2)], 1⟩) (fun y => y.1 ≤ x.length ∧ y.2 ++ beS (N a).toNat (4 * y.1) = beS (N a).toNat (4 * x.length)) (fun y => y.1) (x.length, []) 0 ⟨Nat.le_refl _, rfl⟩ ?_ ?_
  · dsimp only [go_sem]
    simp
  · rintro ⟨k, b⟩ ⟨hk, hb⟩ R hm
    have hk : k ≤ x.length := hk
    have hb : b ++ beS (N a).toNat (4 * k) = beS (N a).toNat (4 * x.length) := hb
    have hl := congrArg List.length hb
    rw [List.length_append, beS_len, beS_len] at hl
    refine hH.run 100 _ _ ?_
    dsimp only [go_sem]
    have hz : (zd (Ty.int IntKind.u32)) = (0 : Int) := rfl
    rw [hz]
    refine ⟨fun c => ?_, fun c => ?_⟩ <;> simp only [decide_eq_true_eq, decide_eq_false_iff_not] at c
    · obtain ⟨q, rfl⟩ : ∃ q, k = q + 1 := ⟨k - 1, by omega⟩
      have e1 : ((q + 1 : Nat) : Int) - 1 = (q : Int) := by omega
      have d0 := byt_digit hdx q 0 (by decide) (s := 0) rfl
      have d1 := byt_digit hdx q 1 (by decide) (s := 8) rfl
      have d2 := byt_digit hdx q 2 (by decide) (s := 16) rfl
      have d3 := byt_digit hdx q 3 (by decide) (s := 24) rfl
      have d0' : IntKind.u8.wrap (x.getD q 0) = byt (N x).toNat (4 * q + 0) := by
        rw [← d0]
        obtain ⟨d, hd1, -⟩ := byte_digit hdx q 0 (by decide)
        have := shr_nat .u32 d 0 (by decide)
        rw [hd1, this]
        simp
      rw [e1, Int.toNat_natCast]
      rw [hNd] at d0' d1 d2 d3
      have hbyt : (0 : Int) ≤ (q : Int) ∧ (q : Int) < (x.length : Int) := by omega
      have hseq : b ++ ([byt (N a).toNat (4 * q + 3), byt (N a).toNat (4 * q + 2), byt (N a).toNat (4 * q + 1), byt (N a).toNat (4 * q + 0)] ++ beS (N a).toNat (4 * q)) = beS (N a).toNat (4 * x.length) := by
        rw [← hb]
        rfl
      have h24 : ((24 : Nat) : Int) = 24 := rfl
      have h16 : ((16 : Nat) : Int) = 16 := rfl
      have h8 : ((8 : Nat) : Int) = 8 := rfl
      rw [h24] at d3
      rw [h16] at d2
      rw [h8] at d1
      rw [d3, d2, d1, d0']
      refine ⟨hbyt, by decide, hbyt, by decide, hbyt, by decide, hbyt, ?_, rfl, by rw [inR_i64]; omega, hm _ (q, b ++ [byt (N a).toNat (4 * q + 3), byt (N a).toNat (4 * q + 2), byt (N a).toNat (4 * q + 1), byt (N a).toNat (4 * q + 0)]) 1 ⟨by show q ≤ x.length; omega, by show (b ++ _) ++ _ = _; rw [List.append_assoc]; exact hseq⟩ (by show q < q + 1; omega) ?_⟩
      · show (b.length + 4) * 1 ≤ 140737488355328
        omega
      · dsimp only [go_sem]
        simp
    · have hk0 : k = 0 := by omega
      subst hk0
      rw [Nat.mul_zero, beS, List.append_nil] at hb
      refine hH.loop (fun m : Nat => ⟨[(4, .dat bT (beS (N a).toNat m))], [], 0⟩) (fun m => bsz (N a) ≤ m ∧ m ≤ 4 * x.length) (fun m => m) (4 * x.length) 0 ⟨by rw [← hNd]; exact bsz_le hdx, Nat.le_refl _⟩ ?_ ?_
      · dsimp only [go_sem]
        simp [hb]
      · intro m ⟨hm1, hm2⟩ R2 hm2'
        refine hH.run 100 _ _ ?_
        dsimp only [go_sem]
        have hm1 : bsz (N a) ≤ m := hm1
        have hm2 : m ≤ 4 * x.length := hm2
        have hz8 : (zd (Ty.int IntKind.u8)) = (0 : Int) := rfl
        rw [hz8, beS_len]
        have i0 : (Int.toNat 0) = 0 := rfl
        have i1 : (Int.toNat 1) = 1 := rfl
        rw [i0, i1]
        refine ⟨fun h => h, fun h => ?_, fun h => h, fun h => h, fun h => h, fun c => ?_, fun c => ?_⟩
        · simp only [decide_eq_true_eq] at h
          exact ⟨Int.le_refl _, h⟩
        · simp only [Bool.and_eq_true, decide_eq_true_eq] at c
          obtain ⟨q, rfl⟩ : ∃ q, m = q + 1 := ⟨m - 1, by omega⟩
          have hq : byt (N a).toNat q = 0 := c.2
          have hne : bsz (N a) ≠ q + 1 := fun e => byt_top hN0 (by omega) (by rw [e]; exact hq)
          refine ⟨⟨by decide, by omega⟩, hm2' _ q 0 ⟨by omega, by omega⟩ (Nat.lt_succ_self _) ?_⟩
          dsimp only [go_sem]
          simp [beS]
        · have hmb : m ≤ bsz (N a) := by
            rcases Nat.lt_or_ge (bsz (N a)) m with h | h
            · obtain ⟨q, rfl⟩ : ∃ q, m = q + 1 := ⟨m - 1, by omega⟩
              have hq : byt (N a).toNat q = 0 := byt_ge hN0 (by omega)
              have h1 : (beS (N a).toNat (q + 1)).getD 0 0 = 0 := hq
              rw [h1] at c
              simp at c
            · exact h
          have : m = bsz (N a) := by omega
          subst this
          have e : eB (beS (N a).toNat (bsz (N a))) = eN (N a) := rfl
          refine ⟨by omega, ?_⟩
          simp [e]
@[go_sem] def reNS : Spec := ⟨[nT], fun d => (.dat bT (eN (N d.1)), [List.length d.1 ≤ 20000])⟩
theorem reN_ok : SpecOk Try.prog 16 reNS := spec_own1 (t := nT) (u := .int .u8) (g := fun n => eN (N n)) (pre := fun b => [List.length b ≤ 20000]) reNM_ok
@[go_sem] noncomputable def EC4 : Env := (EC3).add 16 reNS
theorem EC4_ok : EC4.Ok := (EC3_ok).add reN_ok
@[go_sem] def reFM : MSpec := ⟨[.d fT], fun d => ⟨[(0, .row 5 (.int .u8) (eFc (qf (fq d.1))))], 1, .own 0, [fs d.1 ≤ 15000]⟩⟩
theorem reFM_ok : MSpecOk Try.prog 18 reFM := by
  refine fnM_ok EC4_ok reFM Try.func18 rfl (by decide) (N := 21) rfl (res := [.tmp 2]) rfl (by decide) [(5, [(1000000, .mx [(5, 4), (6, 4)])])] [] [] 100 (by kernel_rfl) ?_
  rintro ⟨x, _⟩ hw hp H hH
  dsimp only [go_sem] at hw hp ⊢
  obtain ⟨hp, -⟩ := hp
  have hfd := fd_of hw.1
  have hq := qs_fq hfd
  have hs := fs_qf (fq x)
  have hf : Fd (qf (fq x)) := ⟨ds_dg _, ds_dg _⟩
  have e : (if (qf (fq x)).1 then (1 : Int) else 0) :: (eN (N (qf (fq x)).2.1) ++ eN (N (qf (fq x)).2.2)) = eFc (qf (fq x)) := rfl
  generalize qf (fq x) = c at *
  obtain ⟨sg, n, d⟩ := c
  have h1 : n.length ≤ fs (sg, n, d) := Nat.le_max_left _ _
  have h2 : d.length ≤ fs (sg, n, d) := Nat.le_max_right _ _
  have l1 := eN_len hf.1 (by show n.length ≤ _; omega)
  have l2 := eN_len hf.2 (by show d.length ≤ _; omega)
  dsimp only at l1 l2 e ⊢
  refine ⟨by omega, fun h => ?_, fun h => ?_⟩ <;> subst h
  · refine ⟨by decide, by decide, by omega, by simp only [List.length_set, List.length_singleton]; omega, rfl, by omega, by simp only [List.length_append, List.length_set, List.length_singleton]; omega, rfl, ?_⟩
    simp [eFc]
  · refine ⟨by omega, by simp only [List.length_singleton]; omega, rfl, by omega, by simp only [List.length_cons]; omega, rfl, ?_⟩
    simp [eFc]
@[go_sem] def reFS : Spec := ⟨[fT], fun d => (.dat bT (eFc (qf (fq d.1))), [fs d.1 ≤ 15000])⟩
theorem reF_ok : SpecOk Try.prog 18 reFS := spec_own1 (t := fT) (u := .int .u8) (g := fun n => eFc (qf (fq n))) (pre := fun b => [fs b ≤ 15000]) reFM_ok
@[go_sem] noncomputable def EC5 : Env := ((EC4).add 17 eFS).add 18 reFS
theorem EC5_ok : EC5.Ok := ((EC4_ok).add eF_ok).add reF_ok
end Go.Proofs.Ytadoinponngdiaa.Gx
