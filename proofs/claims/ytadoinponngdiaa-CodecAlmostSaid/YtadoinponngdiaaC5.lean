/-
  The reference's reader.
-/
import Derived.Test.YtadoinponngdiaaC4
namespace Go.Proofs.Ytadoinponngdiaa.Gx
open Go Go.RowKit Tw B Nt
set_option linter.unusedVariables false
set_option linter.unusedSimpArgs false
set_option maxHeartbeats 4000000
set_option maxRecDepth 20000
@[go_sem] def mUM : MSpec := ⟨[.b 42 rdT, .d (.int .u64)], fun d => ⟨[(0, .box 42 (dA rdT (rU d.1 d.2.1).2 .nil))], 1, .dat (.int .u64) (rU d.1 d.2.1).1, []⟩⟩
theorem mUM_ok : MSpecOk Try.prog 36 mUM := by
  refine fnM_ok ECB_ok mUM Try.func36 rfl (by decide) (N := 86) rfl (res := [.tmp 4]) rfl (by decide) [(8, [(25, .ow)]), (14, [(59, .ow)]), (18, [(72, .ow)]), (22, [(85, .ow)])] [] [] 100 (by kernel_rfl) ?_
  rintro ⟨s, (mx:Int), _⟩ hw hp H hH
  dsimp only [go_sem] at hw hp ⊢
  obtain ⟨b, e⟩ := s
  change List Int at b
  change Int at e
  dsimp only
  have hr : rU (b, e) mx = if e ≠ 0 then (0, (b, e)) else if (scan b).2.2 ≠ 0 then (0, ([], (scan b).2.2)) else if mx < (scan b).1 then (0, ([], 4)) else ((scan b).1, (b.drop (scan b).2.1.toNat, 0)) := rfl
  refine ⟨fun h => ?_, fun h => ?_⟩ <;> simp only [decide_eq_true_eq, decide_eq_false_iff_not] at h
  · rw [if_pos h] at hr
    simp [hr]
  rw [if_neg h] at hr
  have he : e = 0 := by omega
  subst he
  refine hH.loop (fun x : Nat × Nat => ⟨[(0, .ref 0 0), (1, .dat (.int .u64) mx), (5, .dat (.int .u64) (x.2 : Int)), (6, .dat (.int .i64) (x.1 : Int))], [(0, .box 42 (dA rdT (b, (0 : Int)) .nil))], 1⟩) (fun x => x.1 ≤ 10 ∧ (x.1 ≤ 9 → x.2 < 128 ^ x.1) ∧ x.2 < 18446744073709551616 ∧ scn (10 - x.1) x.1 (x.2 : Int) (b.drop x.1) = scan b) (fun x => 10 - x.1) (0, 0) 1 ⟨by decide, by decide, by decide, rfl⟩ ?_ ?_
  · dsimp only [go_sem]
    simp
  · rintro ⟨i, a⟩ ⟨hi, ha, ha2, hsc⟩ R hm
    have hi : i ≤ 10 := hi
    have ha : i ≤ 9 → a < 128 ^ i := ha
    have ha2 : a < 18446744073709551616 := ha2
    have hsc : scn (10 - i) i (a : Int) (b.drop i) = scan b := hsc
    refine hH.run 100 _ _ ?_
    dsimp only [go_sem]
    have hby := hw.1.1.2
    change ∀ x ∈ b, inR .u8 x at hby
    have hz8 : (zd (Ty.int IntKind.u8)) = (0 : Int) := rfl
    rw [hz8, Int.toNat_natCast]
    obtain ⟨c, hc, hc256⟩ := byte_at hby i
    rw [hc, u8_and127 c hc256]
    have b1 (hlt : i < b.length) : (0 : Int) ≤ (i : Int) ∧ (i : Int) < (b.length : Int) := by omega
    have h7 : (0 : Int) ≤ 7 * (i : Int) := by omega
    refine ⟨fun d => ⟨fun k => ?_, fun k => ?_⟩, fun d => ?_⟩ <;> simp only [decide_eq_true_eq, decide_eq_false_iff_not] at d
    · simp only [decide_eq_true_eq] at k
      obtain ⟨f, hf⟩ : ∃ f, 10 - i = f + 1 := ⟨9 - i, by omega⟩
      rw [hf, List.drop_of_length_le (by omega)] at hsc
      rw [← hsc] at hr
      have hr : rU (b, 0) mx = (0, ([], 3)) := hr
      simp [hr]
    · simp only [decide_eq_false_iff_not] at k
      have d : i < 10 := by omega
      have ha := ha (by omega)
      obtain ⟨f, hf⟩ : ∃ f, 10 - i = f + 1 := ⟨9 - i, by omega⟩
      have hlt : i < b.length := by omega
      rw [hf, drop_at b i hlt, hc] at hsc
      refine ⟨b1 hlt, fun g => ?_, fun g => ?_⟩ <;> simp only [decide_eq_true_eq, decide_eq_false_iff_not] at g
      · have g : 128 ≤ c := by omega
        rw [scn, if_pos (by omega)] at hsc
        have em : c % 128 = c - 128 := by omega
        have key : ∃ a' : Nat, bitsI .or .u64 (a : Int) (shlI .u64 ((c % 128 : Nat) : Int) (7 * (i : Int))) = (a' : Int) ∧ a' < 18446744073709551616 ∧ (i + 1 ≤ 9 → a' < 128 ^ (i + 1)) ∧ scn (10 - (i + 1)) (i + 1) (a' : Int) (b.drop (i + 1)) = scan b := by
          rcases Nat.lt_or_ge i 9 with h9 | h9
          · obtain ⟨q1, q2⟩ := grp a (c % 128) i (by omega) ha (by omega) (by omega)
            refine ⟨_, q1, q2, fun _ => ?_, ?_⟩
            · have := Nat.mul_le_mul (show c % 128 ≤ 127 by omega) (Nat.le_refl (128 ^ i))
              rw [Nat.pow_succ]; omega
            · rw [← hsc, show 10 - (i + 1) = f by omega]
              congr 1
              rw [em]
              have : ((c - 128 : Nat) : Int) = (c : Int) - 128 := by omega
              rw [Int.natCast_add, Int.natCast_mul, this]
              simp
          · have hr : inR .u64 (bitsI .or .u64 (a : Int) (shlI .u64 ((c % 128 : Nat) : Int) (7 * (i : Int)))) := inR_wrap _ _
            rw [u64R] at hr
            refine ⟨(bitsI .or .u64 (a : Int) (shlI .u64 ((c % 128 : Nat) : Int) (7 * (i : Int)))).toNat, by omega, by omega, fun h => by omega, ?_⟩
            have hf0 : f = 0 := by omega
            subst hf0
            rw [← hsc, show 10 - (i + 1) = 0 by omega]
            rfl
        obtain ⟨a', k1, k2, k3, k4⟩ := key
        refine ⟨by rw [u64R]; omega, by rw [inR_i64]; omega, by rw [u64R]; omega, h7, by rw [inR_i64]; omega, hm _ (i + 1, a') 1 ⟨by show i + 1 ≤ 10; omega, k3, k2, k4⟩ (by show 10 - (i + 1) < 10 - i; omega) ?_⟩
        dsimp only [go_sem]
        rw [k1]
        simp
      · have g : c < 128 := by omega
        rw [scn, if_neg (by omega)] at hsc
        refine ⟨fun h => h, fun h => h, fun h => h, fun h => h, fun h => h, fun h => h, fun h h2 => ⟨h, h2⟩, fun h => h, fun h => ?_, fun h => ?_⟩
        · simp only [Bool.or_eq_true, Bool.and_eq_true, decide_eq_true_eq] at h
          rw [if_pos (by omega)] at hsc
          rw [← hsc] at hr
          have hr : rU (b, 0) mx = (0, ([], 2)) := hr
          simp [hr]
        · simp only [Bool.or_eq_false_iff, Bool.and_eq_false_iff, decide_eq_false_iff_not] at h
          rw [if_neg (by omega)] at hsc
          obtain ⟨q1, q2⟩ := grp a c i (by omega) ha g (by omega)
          rw [q1]
          have e2 : ((a + c * 128 ^ i : Nat) : Int) = (a : Int) + (c : Int) * 128 ^ i := by
            rw [Int.natCast_add, Int.natCast_mul]; simp
          rw [e2]
          rw [← hsc] at hr
          have hr : rU (b, 0) mx = if mx < (a : Int) + (c : Int) * 128 ^ i then (0, ([], 4)) else ((a : Int) + (c : Int) * 128 ^ i, (b.drop ((i : Int) + 1).toNat, 0)) := hr
          refine ⟨by rw [u64R]; omega, by rw [inR_i64]; omega, by rw [u64R]; omega, h7, fun j => ?_, fun j => ⟨by rw [inR_i64]; omega, ?_, ?_⟩⟩
          · simp only [decide_eq_true_eq] at j
            rw [if_pos j] at hr
            simp [hr]
          · omega
          · simp only [decide_eq_false_iff_not] at j
            rw [if_neg j] at hr
            simp [hr]
    · have : i = 10 := by omega
      subst this
      have hsc : (0, 0, 2) = scan b := hsc
      rw [← hsc] at hr
      have hr : rU (b, 0) mx = (0, ([], 2)) := hr
      simp [hr]
@[go_sem] def mRawM : MSpec := ⟨[.b 42 rdT, .d (.int .i64)], fun d => ⟨[(0, .box 42 (dA rdT (rRaw d.1 (max d.2.1 0)).2 .nil))], 1, .dat bT (rRaw d.1 (max d.2.1 0)).1, [List.length d.1.1 ≤ 1000000]⟩⟩
theorem mRawM_ok : MSpecOk Try.prog 40 mRawM := by
  refine fnM_ok ECB_ok mRawM Try.func40 rfl (by decide) (N := 40) rfl (res := [.tmp 4]) rfl (by decide) [(4, [(19, .ow)])] [(8, [1])] [] 100 (by kernel_rfl) ?_
  rintro ⟨s, (n:Int), _⟩ hw hp H hH
  dsimp only [go_sem] at hw hp ⊢
  obtain ⟨hp, -⟩ := hp
  obtain ⟨l, e⟩ := s
  change List Int at l
  change Int at e
  dsimp only at hp ⊢
  simp only [decide_eq_true_eq, decide_eq_false_iff_not, ne_eq, Decidable.not_not]
  have hm0 : (if 0 > n then 0 else n) = max n 0 := by
    by_cases h : n < 0
    · rw [if_pos (by exact h)]; omega
    · rw [if_neg (by exact h)]; omega
  rw [hm0]
  have hmx : 0 ≤ max n 0 := by omega
  have hmn : max n 0 = n ∨ max n 0 = 0 := by omega
  refine ⟨fun h => ?_, fun h => ⟨fun g => ?_, fun g => ?_⟩⟩
  · simp [rRaw, h]
  · have hm : max n 0 = n := by omega
    subst h
    have e1 : rRaw (l, 0) n = ([], ([], 3)) := by
      unfold rRaw
      rw [if_neg (by simp), if_pos (by exact g)]
    rw [hm, e1]
    simp
  · subst h
    have hle : max n 0 ≤ (l.length : Int) := by omega
    have e1 : rRaw (l, 0) (max n 0) = (l.take (max n 0).toNat, (l.drop (max n 0).toNat, 0)) := by
      unfold rRaw
      rw [if_neg (by simp), if_neg (by show ¬ (l.length : Int) < _; omega)]
    have hl : (List.take (max n 0).toNat l).length ≤ l.length := by rw [List.length_take]; omega
    rw [e1]
    refine ⟨⟨hmx, hle⟩, ?_, trivial, ⟨hmx, hle⟩, ?_⟩
    · rw [List.length_nil, Nat.zero_add, Nat.mul_one]; omega
    · simp
@[go_sem] noncomputable def ECC : Env := ((ECB).addM 36 mUM).addM 40 mRawM
theorem ECC_ok : ECC.Ok := ((ECB_ok).addM mUM_ok).addM mRawM_ok
@[go_sem] def mBM : MSpec := ⟨[.b 42 rdT, .d (.int .i64)], fun d => ⟨[(0, .box 42 (dA rdT (rB d.1 d.2.1).2 .nil))], 1, .dat bT (rB d.1 d.2.1).1, [List.length d.1.1 ≤ 1000000]⟩⟩
theorem mBM_ok : MSpecOk Try.prog 37 mBM := by
  refine fnM_ok ECC_ok mBM Try.func37 rfl (by decide) (N := 32) rfl (res := [.tmp 4]) rfl (by decide) [(1, [(10, .ow)]), (3, [(27, .ow)]), (4, [(31, .ow)])] [] [] 100 (by kernel_rfl) ?_
  rintro ⟨s, (mx:Int), _⟩ hw hp H hH
  dsimp only [go_sem] at hw hp ⊢
  obtain ⟨hp, -⟩ := hp
  obtain ⟨⟨⟨-, hby⟩, -⟩, hmx, -⟩ := hw
  change By s.1 at hby
  rw [inR_i64] at hmx
  have hm0 : (if 0 > mx then 0 else mx) = max mx 0 := by
    by_cases h : mx < 0
    · rw [if_pos (by exact h)]; omega
    · rw [if_neg (by exact h)]; omega
  have hr : rB s mx = if (rU s (max mx 0)).2.2 ≠ 0 then ([], (rU s (max mx 0)).2) else rRaw (rU s (max mx 0)).2 (rU s (max mx 0)).1 := rfl
  have hn := rU_n (mx := max mx 0) hby (by omega)
  have hl := @rU_len s (max mx 0)
  rw [hm0]
  have hmr : inR .u64 (max mx 0) := by rw [u64R]; omega
  generalize rU s (max mx 0) = q at *
  obtain ⟨n, b, e⟩ := q
  change List Int at b
  change Int at e
  change Int at n
  dsimp only at hn hl hr ⊢
  have hmn : max n 0 = n := by omega
  rw [hmn]
  refine ⟨hmr, fun h => h, fun h => h, fun h => h, fun h => h, fun h => h, fun h => by rw [u64R]; omega, fun h => h, fun h => h, fun h => h, fun h => ⟨by rw [inR_i64]; omega, Nat.zero_le _, ?_⟩, fun h => ⟨by rw [inR_i64]; omega, by omega, ?_⟩⟩
  · simp only [Bool.and_eq_true, decide_eq_true_eq] at h
    obtain ⟨h1, h2⟩ := h
    subst h1
    have e1 : rRaw (b, 0) n = ([], ([], 3)) := by
      unfold rRaw
      rw [if_neg (by simp), if_pos (by exact h2)]
    rw [if_neg (by simp), e1] at hr
    rw [hr, rRaw_e (by decide)]
    simp
  · simp only [Bool.and_eq_false_iff, decide_eq_false_iff_not] at h
    by_cases h1 : e = 0
    · rw [if_neg (by simp [h1])] at hr
      rw [hr]
      simp
    · rw [if_pos h1] at hr
      rw [hr, rRaw_e h1]
      simp
@[go_sem] noncomputable def ECD : Env := (ECC).addM 37 mBM
theorem ECD_ok : ECD.Ok := (ECC_ok).addM mBM_ok
theorem bV_cons (c : Int) (l : List Int) : bV (c :: l) = c * 256 ^ l.length + bV l := rfl
theorem pow_Bp (k : Nat) : (256 : Int) ^ (4 * k) = Bp k := by
  rw [pow256, Bp_pow, show 8 * (4 * k) = 32 * k by omega, Int.natCast_pow]; rfl
theorem app_byte {d c : Nat} (hd : d < 16777216) (hc : c < 256) : bitsI .or .u32 (shlI .u32 (d : Int) 8) (c : Int) = ((d * 256 + c : Nat) : Int) := by
  have h1 := shl_nat .u32 d 8 (by decide) (by rw [inR_u32]; omega)
  have h2 : shlI .u32 (d : Int) 8 = ((d * 2 ^ 8 : Nat) : Int) := h1
  rw [h2, u32_or _ _ (by omega) (by omega), or_add d c 8 hc]
theorem p256_le (m : Nat) (h : m ≤ 3) : 256 ^ m ≤ 16777216 := Nat.pow_le_pow_right (by decide) h
@[go_sem] def mNM : MSpec := ⟨[.b 42 rdT], fun d => ⟨[(0, .box 42 (dA rdT (rN d.1).2 .nil))], 1, .dat nT (rN d.1).1, [List.length d.1.1 ≤ 1000000]⟩⟩
theorem mNM_ok : MSpecOk Try.prog 38 mNM := by
  refine fnM_ok ECD_ok mNM Try.func38 rfl (by decide) (N := 61) rfl (res := [.tmp 2]) rfl (by decide) [(1, [(9, .ow)]), (3, [(27, .ow)]), (15, [(57, .dt)])] [(16, [1])] [] 100 (by kernel_rfl) ?_
  rintro ⟨s, _⟩ hw hp H hH
  dsimp only [go_sem] at hw hp ⊢
  obtain ⟨hp, -⟩ := hp
  obtain ⟨⟨⟨-, hby⟩, -⟩, -⟩ := hw
  change By s.1 at hby
  obtain ⟨f1, f2, f3, f4, f5⟩ := rB_f (mx := 8192) hby
  have hr : rN s = if (rB s 8192).2.2 ≠ 0 ∨ (rB s 8192).1 = [] then ([], (rB s 8192).2) else if (rB s 8192).1.getD 0 0 = 0 then ([], ([], 2)) else (dg (bV (rB s 8192).1), (rB s 8192).2) := rfl
  generalize rB s 8192 = q at *
  obtain ⟨b, st⟩ := q
  dsimp only at f1 f2 f3 f4 f5 hr ⊢
  have hz : (zd (Ty.int IntKind.u32)) = (0 : Int) := rfl
  have hz8 : (zd (Ty.int IntKind.u8)) = (0 : Int) := rfl
  have hz0 : (Int.toNat 0) = 0 := rfl
  have ehd : b.length = 0 ↔ b = [] := List.length_eq_zero_iff
  rw [hz8, hz0]
  refine ⟨hp, fun h => h, fun h => h, fun h => h, fun h => h, fun h => ?_, fun h => h, fun h => h, fun h => h, fun c => ⟨fun _ => ?_, fun h => absurd h (by decide)⟩, fun c => ⟨fun g => ?_, fun g => ?_⟩⟩
  · simp only [Bool.and_eq_true, decide_eq_true_eq] at h
    exact ⟨Int.le_refl _, h.2⟩
  · simp only [Bool.and_eq_true, decide_eq_true_eq] at c
    rw [if_neg (by rw [← ehd]; omega), if_pos c.2] at hr
    simp [hr]
  · simp only [decide_eq_true_eq] at g
    rw [if_pos (.inl g)] at hr
    simp [hr]
  · simp only [Bool.and_eq_false_iff, decide_eq_false_iff_not] at c g
    have hr2 : rN s = (dg (bV b), st) := by
      by_cases hb : b = []
      · rw [if_pos (.inr hb)] at hr
        rw [hr, hb]; rfl
      · have hb2 : b.length ≠ 0 := fun e => hb (ehd.1 e)
        rw [if_neg (by intro h; rcases h with h | h; exact g h; exact hb h), if_neg (by omega)] at hr
        exact hr
    refine hH.loop (fun y : Nat × List Int => ⟨[(3, .dat bT b), (4, .own 1), (5, .dat (.int .i64) ((b.length : Int) - 4 * (y.1 : Int)))], [(1, .row 61 (.int .u32) y.2), (0, .box 42 (dA rdT st .nil))], 2⟩) (fun y => y.2.length = y.1 ∧ 4 * y.1 < b.length + 4 ∧ Ds y.2 ∧ N y.2 = bV (b.drop (b.length - 4 * y.1))) (fun y => b.length + 4 - 4 * y.1) (0, []) 1 ⟨rfl, by omega, Ds.nil, ?_⟩ ?_ ?_
    · show N [] = bV (b.drop (b.length - 0))
      rw [Nat.sub_zero, List.drop_length]; rfl
    · dsimp only [go_sem]
      simp
    · rintro ⟨k, a⟩ ⟨hla, hk, hda, hNa⟩ R hm
      have hla : a.length = k := hla
      have hk : 4 * k < b.length + 4 := hk
      have hda : Ds a := hda
      have hNa : N a = bV (b.drop (b.length - 4 * k)) := hNa
      refine hH.run 100 _ _ ?_
      dsimp only [go_sem]
      refine ⟨fun h => ⟨by rw [inR_i64]; omega, ?_⟩, fun h => ⟨by omega, ?_⟩⟩ <;> simp only [decide_eq_true_eq, decide_eq_false_iff_not] at h
      · have hk2 : 4 * k < b.length := by omega
        have hm0 : (if 0 > (b.length : Int) - 4 * (k : Int) - 4 then 0 else (b.length : Int) - 4 * (k : Int) - 4) = ((b.length - 4 * (k + 1) : Nat) : Int) := by
          by_cases h : (b.length : Int) - 4 * (k : Int) - 4 < 0
          · rw [if_pos (by exact h)]; omega
          · rw [if_neg (by exact h)]; omega
        rw [hm0]
        obtain ⟨t, ht⟩ : ∃ t, b.length - 4 * (k + 1) = t := ⟨_, rfl⟩
        rw [ht]
        have hpB := pow_Bp k
        refine hH.loop (fun y : Nat × Nat => ⟨[(3, .dat bT b), (4, .own 1), (5, .dat (.int .i64) ((b.length : Int) - 4 * (k : Int))), (6, .dat (.int .u32) (y.2 : Int)), (7, .dat (.int .i64) (y.1 : Int))], [(1, .row 61 (.int .u32) a), (0, .box 42 (dA rdT st .nil))], 2⟩) (fun y => t ≤ y.1 ∧ y.1 ≤ b.length - 4 * k ∧ y.2 < 256 ^ (y.1 - t) ∧ (y.2 : Int) * 256 ^ (b.length - y.1) + bV (b.drop y.1) = bV (b.drop t)) (fun y => b.length - 4 * k - y.1) (t, 0) 2 ⟨Nat.le_refl _, by show t ≤ _; omega, by show 0 < 256 ^ (t - t); rw [Nat.sub_self]; decide, ?_⟩ ?_ ?_
        · show ((0 : Nat) : Int) * _ + _ = _
          rw [Int.natCast_zero, Int.zero_mul, Int.zero_add]
        · dsimp only [go_sem]
          simp
        · rintro ⟨j, d⟩ ⟨hj1, hj2, hd, hV⟩ R2 hm2
          have hj1 : t ≤ j := hj1
          have hj2 : j ≤ b.length - 4 * k := hj2
          have hd : d < 256 ^ (j - t) := hd
          have hV : (d : Int) * 256 ^ (b.length - j) + bV (b.drop j) = bV (b.drop t) := hV
          refine hH.run 100 _ _ ?_
          dsimp only [go_sem]
          rw [hz8, Int.toNat_natCast]
          obtain ⟨c, hc, hc256⟩ := byte_at f1 j
          rw [hc]
          refine ⟨fun h2 => ?_, fun h2 => ?_⟩ <;> simp only [decide_eq_true_eq, decide_eq_false_iff_not] at h2
          · have hjl : j < b.length - 4 * k := by omega
            have hd3 : d < 16777216 := Nat.lt_of_lt_of_le hd (p256_le _ (by omega))
            have b1 : (0 : Int) ≤ (j : Int) ∧ (j : Int) < (b.length : Int) := by omega
            rw [app_byte hd3 hc256]
            refine ⟨by decide, b1, by rw [inR_u32]; omega, by rw [inR_i64]; omega, hm2 _ (j + 1, d * 256 + c) 2 ⟨by show t ≤ j + 1; omega, hjl, ?_, ?_⟩ (by show b.length - 4 * k - (j + 1) < b.length - 4 * k - j; omega) ?_⟩
            · show d * 256 + c < 256 ^ (j + 1 - t)
              rw [show j + 1 - t = (j - t) + 1 by omega, Nat.pow_succ]; omega
            · show ((d * 256 + c : Nat) : Int) * 256 ^ (b.length - (j + 1)) + bV (b.drop (j + 1)) = bV (b.drop t)
              rw [← hV, drop_at b j (by omega), hc, show b.length - j = (b.length - (j + 1)) + 1 by omega, Int.pow_succ]
              rw [bV_cons, List.length_drop]
              simp only [Int.natCast_add, Int.natCast_mul, Int.add_mul]
              rw [Int.mul_assoc, Int.mul_comm ((256 : Nat) : Int), Int.add_assoc]
              rfl
            · dsimp only [go_sem]
              simp
          · have hje : j = b.length - 4 * k := by omega
            have hd4 : d < 4294967296 := by
              have := Nat.pow_le_pow_right (show 0 < 256 by decide) (show j - t ≤ 4 by omega)
              omega
            subst hje
            have hV2 : N (a ++ [(d : Int)]) = bV (b.drop t) := by
              rw [N_snoc, hla, ← hpB, hNa, ← hV, show b.length - (b.length - 4 * k) = 4 * k by omega, Int.add_comm, Int.mul_comm]
            refine ⟨?_, rfl, by rw [inR_i64]; omega, hm _ (k + 1, a ++ [(d : Int)]) 2 ⟨?_, ?_, ?_, ?_⟩ (by show b.length + 4 - 4 * (k + 1) < b.length + 4 - 4 * k; omega) ?_⟩
            · show (a.length + 1) * 4 ≤ _
              omega
            · show (a ++ [(d : Int)]).length = k + 1
              rw [List.length_append, hla]; rfl
            · show 4 * (k + 1) < b.length + 4
              omega
            · intro x hx
              rcases List.mem_append.1 hx with h' | h'
              · exact hda x h'
              · rw [List.mem_singleton.1 h']; omega
            · rw [ht]; exact hV2
            · have e5 : (b.length : Int) - 4 * (k : Int) - 4 = (b.length : Int) - 4 * ((k + 1 : Nat) : Int) := by omega
              dsimp only [go_sem]
              rw [e5]
              simp
      · have hk3 : b.length - 4 * k = 0 := by omega
        rw [hk3, List.drop_zero] at hNa
        rw [hNa, hr2]
        simp
@[go_sem] noncomputable def ECE : Env := (ECD).addM 38 mNM
theorem ECE_ok : ECE.Ok := (ECD_ok).addM mNM_ok
@[go_sem] def mFM : MSpec := ⟨[.b 42 rdT], fun d => ⟨[(0, .box 42 (dA rdT (rF d.1).2 .nil))], 1, .dat fT (rF d.1).1, [List.length d.1.1 ≤ 1000000]⟩⟩
theorem mFM_ok : MSpecOk Try.prog 39 mFM := by
  refine fnM_ok ECE_ok mFM Try.func39 rfl (by decide) (N := 46) rfl (res := [.cell 2 28]) rfl (by decide) [(1, [(8, .ow)]), (3, [(21, .ow)]), (4, [(23, .ow)]), (5, [(25, .ow)]), (10, [(43, .ow)])] [] [] 100 (by kernel_rfl) ?_
  rintro ⟨s, _⟩ hw hp H hH
  dsimp only [go_sem] at hw hp ⊢
  obtain ⟨hp, -⟩ := hp
  obtain ⟨⟨⟨-, hby⟩, -⟩, -⟩ := hw
  change By s.1 at hby
  obtain ⟨a1, a2, a3, a4, a5, a6⟩ := rRaw_f (n := 1) hby (by decide)
  have hr : rF s = if (rRaw s 1).2.2 ≠ 0 then (zF, (rRaw s 1).2) else if 1 < (rRaw s 1).1.getD 0 0 then (zF, ([], 2)) else if (rN (rN (rRaw s 1).2).2).2.2 ≠ 0 then (zF, (rN (rN (rRaw s 1).2).2).2) else if isCan (decide ((rRaw s 1).1.getD 0 0 = 1), ((rN (rRaw s 1).2).1, (rN (rN (rRaw s 1).2).2).1)) then ((decide ((rRaw s 1).1.getD 0 0 = 1), ((rN (rRaw s 1).2).1, (rN (rN (rRaw s 1).2).2).1)), (rN (rN (rRaw s 1).2).2).2) else (zF, ([], 2)) := rfl
  have hm1 : max (1 : Int) 0 = 1 := rfl
  rw [hm1]
  have hz8 : (zd (Ty.int IntKind.u8)) = (0 : Int) := rfl
  have hz0 : (Int.toNat 0) = 0 := rfl
  have hn2 : rN ([], 2) = ([], ([], 2)) := rN_e (by decide)
  rw [hz8, hz0, hn2]
  dsimp only
  rw [hn2]
  generalize rRaw s 1 = q at *
  obtain ⟨b, s1⟩ := q
  have he1 := @rN_e s1
  obtain ⟨b1, b2, b3, b4⟩ := rN_f (s := s1) a2
  dsimp only at a1 a2 a3 a4 a5 a6 hr ⊢
  generalize rN s1 = q at *
  obtain ⟨x, s2⟩ := q
  have he2 := @rN_e s2
  obtain ⟨c1, c2, c3, c4⟩ := rN_f (s := s2) b2
  dsimp only at b1 b2 b3 b4 he1 he2 hr ⊢
  generalize rN s2 = q at *
  obtain ⟨y, s3⟩ := q
  dsimp only at c1 c2 c3 c4 he2 hr ⊢
  simp only [decide_eq_true_eq, decide_eq_false_iff_not, Bool.not_eq_true', ne_eq, Decidable.not_not, Bool.not_eq_false', Bool.and_eq_true, Bool.and_eq_false_iff]
  have hb0 (g : s1.2 = 0) : (0 : Int) ≤ 0 ∧ (0 : Int) < (b.length : Int) := by have := a6 g; omega
  refine ⟨hp, fun g => g, fun g => hb0 g, fun g => g, fun g => g, fun g => g, fun g => ⟨Nat.zero_le _, Nat.zero_le _, fun g2 => ?_, fun g2 => absurd g2 (by decide)⟩, fun g => ⟨by omega, by omega, fun g3 => ?_, fun g3 => ?_⟩⟩
  · rw [if_neg (by simp [g.1]), if_pos g.2] at hr; simp [hr, zF]
  · by_cases g1 : s1.2 = 0
    · rw [if_neg (by simp [g1]), if_neg (by omega), if_pos g3] at hr; simp [hr, zF]
    · rw [if_pos g1] at hr
      have e1 := he1 g1
      have e2 : s2 = s1 := congrArg Prod.snd e1
      subst e2
      have e3 := he2 g1
      have e4 : s3 = s2 := congrArg Prod.snd e3
      subst e4
      simp [hr, zF]
  · have g1 : s1.2 = 0 := by
      by_cases g1 : s1.2 = 0
      · exact g1
      · have e1 := he1 g1
        have e2 : s2 = s1 := congrArg Prod.snd e1
        subst e2
        have e3 := he2 g1
        have e4 : s3 = s2 := congrArg Prod.snd e3
        subst e4
        exact absurd g3 g1
    refine ⟨hb0 g1, ?_, fun g4 => ?_, fun g4 => ?_⟩
    · show max x.length y.length ≤ 900000
      omega
    · rw [if_neg (by simp [g1]), if_neg (by omega), if_neg (by simp [g3]), if_neg (by rw [g4]; decide)] at hr; simp [hr, zF]
    · rw [if_neg (by simp [g1]), if_neg (by omega), if_neg (by simp [g3]), if_pos g4] at hr; rw [hr]; simp
@[go_sem] noncomputable def ECF : Env := (ECE).addM 39 mFM
theorem ECF_ok : ECF.Ok := (ECE_ok).addM mFM_ok
end Go.Proofs.Ytadoinponngdiaa.Gx
