/-
  What is read back.
-/
import Derived.Test.YtadoinponngdiaaC6
namespace Go.Proofs.Ytadoinponngdiaa.Gx
open Go Go.RowKit Tw B Nt
set_option linter.unusedVariables false
set_option linter.unusedSimpArgs false
set_option maxHeartbeats 4000000
set_option maxRecDepth 20000
theorem eU_ne (n : Nat) : eU n ≠ [] := by
  rcases Nat.lt_or_ge n 128 with h | h
  · rw [eU_lt h]; simp
  · rw [eU_ge h]; simp
theorem scn_eU : ∀ (f i m : Nat) (a : Int) (r : List Int), f + i = 10 → (0 < i → 0 < m) → m * 128 ^ i < 18446744073709551616 → scn f i a (eU m ++ r) = (a + (m : Int) * 128 ^ i, (i : Int) + ((eU m).length : Int), 0)
  | 0, i, m, a, r, hf, h0, hm => by
    have hi : i = 10 := by omega
    subst hi
    have := h0 (by decide)
    omega
  | f + 1, i, m, a, r, hf, h0, hm => by
    rcases Nat.lt_or_ge m 128 with h | h
    · rw [eU_lt h]
      show scn (f + 1) i a ((m : Int) :: r) = _
      have hc : ¬ ((0 < i ∧ (m : Int) = 0) ∨ (i = 9 ∧ 1 < (m : Int))) := by
        rintro (⟨q1, q2⟩ | ⟨q1, q2⟩)
        · have := h0 q1; omega
        · subst q1; omega
      rw [scn, if_neg (by omega), if_neg hc]
      rfl
    · rw [eU_ge h]
      show scn (f + 1) i a (((m % 128 + 128 : Nat) : Int) :: (eU (m / 128) ++ r)) = _
      rw [scn, if_pos (by omega)]
      have e : m = m / 128 * 128 + m % 128 := by omega
      have hle : m / 128 * 128 ^ (i + 1) ≤ m * 128 ^ i := by
        rw [Nat.pow_succ, Nat.mul_comm (128 ^ i) 128, ← Nat.mul_assoc]
        exact Nat.mul_le_mul (by omega) (Nat.le_refl _)
      rw [scn_eU f (i + 1) (m / 128) _ r (by omega) (fun _ => by omega) (by omega)]
      refine Prod.ext ?_ (Prod.ext ?_ rfl)
      · show a + (((m % 128 + 128 : Nat) : Int) - 128) * 128 ^ i + ((m / 128 : Nat) : Int) * 128 ^ (i + 1) = a + (m : Int) * 128 ^ i
        have e2 : (((m % 128 + 128 : Nat) : Int) - 128) = ((m % 128 : Nat) : Int) := by omega
        have e3 : (m : Int) = ((m / 128 : Nat) : Int) * 128 + ((m % 128 : Nat) : Int) := by omega
        rw [e2, Int.pow_succ, e3, Int.add_mul, Int.add_assoc]
        congr 1
        rw [Int.add_comm, Int.mul_assoc, Int.mul_comm 128]
      · show ((i + 1 : Nat) : Int) + ((eU (m / 128)).length : Int) = (i : Int) + (((eU (m / 128)).length + 1 : Nat) : Int)
        omega
theorem scan_eU {n : Nat} (h : n < 18446744073709551616) (r : List Int) : scan (eU n ++ r) = ((n : Int), ((eU n).length : Int), 0) := by
  unfold scan
  rw [scn_eU 10 0 n 0 r rfl (fun h => absurd h (by decide)) (by omega)]
  refine Prod.ext ?_ (Prod.ext ?_ rfl)
  · show (0 : Int) + (n : Int) * 128 ^ 0 = n
    rw [Int.pow_zero]; omega
  · show ((0 : Nat) : Int) + _ = _
    simp
theorem rU_eU {n : Nat} (h : n < 18446744073709551616) {mx : Int} (hm : (n : Int) ≤ mx) (r : List Int) : rU (eU n ++ r, 0) mx = ((n : Int), (r, 0)) := by
  have hs := scan_eU h r
  unfold rU
  rw [if_neg (by simp), hs, if_neg (by simp), if_neg (by show ¬ mx < (n : Int); omega)]
  dsimp only
  rw [Int.toNat_natCast, List.drop_left]
theorem rRaw_b (b r : List Int) : rRaw (b ++ r, 0) (b.length : Int) = (b, (r, 0)) := by
  unfold rRaw
  rw [if_neg (by simp), if_neg (by rw [List.length_append]; show ¬ (((b.length + r.length : Nat) : Int) < _); omega), Int.toNat_natCast, List.take_left, List.drop_left]
theorem rB_eB {b : List Int} {mx : Int} (hm : (b.length : Int) ≤ mx) (hl : b.length < 18446744073709551616) (r : List Int) : rB (eB b ++ r, 0) mx = (b, (r, 0)) := by
  unfold rB eB
  rw [List.append_assoc, rU_eU hl (by omega), if_neg (by simp)]
  exact rRaw_b b r
theorem bV_beS (v : Nat) : ∀ s, bV (beS v s) = ((v % 256 ^ s : Nat) : Int)
  | 0 => by rw [Nat.pow_zero, Nat.mod_one]; rfl
  | s + 1 => by
    rw [beS, bV_cons, beS_len, bV_beS v s]
    unfold byt
    have e : v % 256 ^ (s + 1) = v / 256 ^ s % 256 * 256 ^ s + v % 256 ^ s := by
      rw [Nat.pow_succ, Nat.mod_mul, Nat.mul_comm]; omega
    rw [e, Int.natCast_add, Int.natCast_mul]
    simp
theorem byt_R (v i : Nat) : inR .u8 (byt v i) := by
  unfold byt
  rw [u8R]; omega
theorem beS_By (v : Nat) : ∀ s, By (beS v s)
  | 0 => fun x hx => by cases hx
  | s + 1 => fun x hx => by
    rcases List.mem_cons.1 hx with rfl | hx
    · exact byt_R v s
    · exact beS_By v s x hx
theorem bV_beN {n : Int} (h : 0 ≤ n) : bV (beN n) = n := by
  unfold beN
  rw [bV_beS, Nat.mod_eq_of_lt (bsz_spec h).1]
  omega
theorem beN_top {n : Int} (h : 0 ≤ n) (hne : beN n ≠ []) : (beN n).getD 0 0 ≠ 0 := by
  unfold beN at *
  cases hs : bsz n with
  | zero => rw [hs] at hne; exact absurd rfl hne
  | succ s =>
    have := byt_top h (by omega)
    rw [hs, Nat.add_sub_cancel] at this
    exact this
theorem rN_eN {n : Int} (h : 0 ≤ n) (hb : bsz n ≤ 8192) (r : List Int) : rN (eN n ++ r, 0) = (dg n, (r, 0)) := by
  have hl := beN_len n
  have e : rB (eN n ++ r, 0) 8192 = (beN n, (r, 0)) := rB_eB (by omega) (by omega) r
  unfold rN
  rw [e]
  by_cases hne : beN n = []
  · rw [if_pos (.inr hne)]
    have := bV_beN h
    rw [hne] at this
    rw [hne, ← this]
    rfl
  · rw [if_neg (by rintro (h | h); exact absurd rfl h; exact hne h), if_neg (beN_top h hne)]
    dsimp only
    rw [bV_beN h]
theorem eFc_app (c : fT.den) (r : List Int) : eFc c ++ r = [if c.1 then 1 else 0] ++ (eN (N c.2.1) ++ (eN (N c.2.2) ++ r)) := by
  unfold eFc
  simp
theorem rF_eF {c : fT.den} (h1 : Canon c.2.1) (h2 : Canon c.2.2) (hc : isCan c = true) (l1 : c.2.1.length ≤ 2048) (l2 : c.2.2.length ≤ 2048) (r : List Int) : rF (eFc c ++ r, 0) = (c, (r, 0)) := by
  obtain ⟨s, x, y⟩ := c
  have hx := N_nonneg h1.1
  have hy := N_nonneg h2.1
  have b1 := bsz_le h1.1
  have b2 := bsz_le h2.1
  have e0 := rRaw_b [if s then 1 else 0] (eN (N x) ++ (eN (N y) ++ r))
  have e1 := rN_eN hx (by show bsz (N x) ≤ 8192; dsimp only at b1 l1; omega) (eN (N y) ++ r)
  have e2 := rN_eN hy (by show bsz (N y) ≤ 8192; dsimp only at b2 l2; omega) r
  rw [dg_of h1] at e1
  rw [dg_of h2] at e2
  have e0' : rRaw (eFc (s, x, y) ++ r, 0) 1 = ([if s then 1 else 0], (eN (N x) ++ (eN (N y) ++ r), 0)) := by
    rw [eFc_app]; exact e0
  unfold rF
  rw [e0']
  dsimp only
  rw [e1]
  dsimp only
  rw [e2]
  dsimp only
  have hs : decide ((if s then (1 : Int) else 0) = 1) = s := by cases s <;> rfl
  have hg : ([if s then (1 : Int) else 0].getD 0 0) = if s then 1 else 0 := rfl
  rw [if_neg (by simp), hg, if_neg (by cases s <;> decide), if_neg (by simp), hs, if_pos hc]
theorem eF_len {c : fT.den} (h1 : Ds c.2.1) (h2 : Ds c.2.2) (l1 : c.2.1.length ≤ 20000) (l2 : c.2.2.length ≤ 20000) : (eFc c).length ≤ 4 * c.2.1.length + 4 * c.2.2.length + 21 := by
  have q1 := eN_len h1 (by omega)
  have q2 := eN_len h2 (by omega)
  unfold eFc
  rw [List.length_cons, List.length_append]
  omega
theorem qfq_small {f : fT.den} (hf : Fd f) {k : Nat} (hk : fs f ≤ k) : (qf (fq f)).2.1.length ≤ k + 1 ∧ (qf (fq f)).2.2.length ≤ k + 1 := by
  have h := qs_fq hf
  have h2 := fs_qf (fq f)
  have h3 : (qf (fq f)).2.1.length ≤ fs (qf (fq f)) := Nat.le_max_left _ _
  have h4 : (qf (fq f)).2.2.length ≤ fs (qf (fq f)) := Nat.le_max_right _ _
  omega
/-! what is read back is what was there -/
theorem drop_pre {l a r : List Int} (h : l = a ++ r) : l.drop a.length = r := by rw [h, List.drop_left]
theorem scn_inv : ∀ (f i : Nat) (a : Int) (l : List Int), By l → (scn f i a l).2.2 = 0 → ∃ m r, l = eU m ++ r ∧ (0 < i → 0 < m) ∧ scn f i a l = (a + (m : Int) * 128 ^ i, (i : Int) + ((eU m).length : Int), 0)
  | 0, i, a, l, _, h => absurd (show (2 : Int) = 0 from h) (by decide)
  | f + 1, i, a, [], _, h => absurd (show (3 : Int) = 0 from h) (by decide)
  | f + 1, i, a, c :: l, hb, h => by
    have hc := hb c (List.mem_cons_self ..)
    rw [u8R] at hc
    obtain ⟨d, rfl⟩ : ∃ d : Nat, c = (d : Int) := ⟨c.toNat, by omega⟩
    rw [scn] at h ⊢
    by_cases h1 : (d : Int) ≥ 128
    · rw [if_pos h1] at h ⊢
      obtain ⟨m, r, e1, e2, e3⟩ := scn_inv f (i + 1) _ l (fun x hx => hb x (List.mem_cons_of_mem _ hx)) h
      have hm := e2 (Nat.succ_pos _)
      have hm0 : 0 < i + 1 → 0 < m := e2
      have em : 128 ≤ m * 128 + (d - 128) → eU (m * 128 + (d - 128)) = (d : Int) :: eU m := fun hge => by
        rw [eU_ge hge, show (m * 128 + (d - 128)) / 128 = m by omega, show (m * 128 + (d - 128)) % 128 = d - 128 by omega, show d - 128 + 128 = d by omega]
      have em := em (by omega)
      refine ⟨m * 128 + (d - 128), r, ?_, fun _ => by omega, ?_⟩
      · rw [em, e1]
        rfl
      · rw [e3, em]
        refine Prod.ext ?_ (Prod.ext ?_ rfl)
        · show a + ((d : Int) - 128) * 128 ^ i + (m : Int) * 128 ^ (i + 1) = a + ((m * 128 + (d - 128) : Nat) : Int) * 128 ^ i
          have e4 : ((m * 128 + (d - 128) : Nat) : Int) = (m : Int) * 128 + ((d : Int) - 128) := by omega
          rw [e4, Int.pow_succ, Int.add_mul, Int.add_assoc]
          congr 1
          rw [Int.add_comm, Int.mul_assoc, Int.mul_comm 128]
        · show ((i + 1 : Nat) : Int) + ((eU m).length : Int) = (i : Int) + (((eU m).length + 1 : Nat) : Int)
          omega
    · rw [if_neg h1] at h ⊢
      by_cases h2 : (0 < i ∧ (d : Int) = 0) ∨ (i = 9 ∧ 1 < (d : Int))
      · rw [if_pos h2] at h; exact absurd h (by decide)
      · rw [if_neg h2]
        refine ⟨d, l, ?_, fun h3 => ?_, ?_⟩
        · rw [eU_lt (by omega)]; rfl
        · rcases Nat.eq_zero_or_pos d with h4 | h4
          · exact absurd (.inl ⟨h3, by omega⟩) h2
          · exact h4
        · rw [eU_lt (by omega)]; rfl
/-- a good reading of a number -/
theorem rU_inv {l : List Int} (hb : By l) {mx : Int} (h : (rU (l, 0) mx).2.2 = 0) : ∃ m : Nat, l = eU m ++ (rU (l, 0) mx).2.1 ∧ (rU (l, 0) mx).1 = (m : Int) ∧ (m : Int) ≤ mx := by
  unfold rU at h ⊢
  rw [if_neg (by simp)] at h ⊢
  by_cases h1 : (scan l).2.2 = 0
  · obtain ⟨m, r, e1, -, e3⟩ := scn_inv 10 0 0 l hb h1
    have e3 : scan l = ((m : Int), ((eU m).length : Int), 0) := by
      unfold scan
      rw [e3]
      refine Prod.ext ?_ (Prod.ext ?_ rfl)
      · show (0 : Int) + (m : Int) * 128 ^ 0 = m
        rw [Int.pow_zero]; omega
      · show ((0 : Nat) : Int) + _ = _
        simp
    rw [if_neg (by simp [h1])] at h ⊢
    rw [e3] at h ⊢
    by_cases h2 : mx < (m : Int)
    · rw [if_pos h2] at h; exact absurd h (by decide)
    · rw [if_neg h2]
      refine ⟨m, ?_, rfl, by omega⟩
      show l = eU m ++ l.drop (((eU m).length : Int)).toNat
      rw [Int.toNat_natCast, drop_pre e1]
      exact e1
  · rw [if_pos h1] at h; exact absurd h h1
theorem rU_bad {l : List Int} {mx : Int} (h : (rU (l, 0) mx).2.2 ≠ 0) : (rU (l, 0) mx).2.1 = [] := by
  unfold rU at h ⊢
  rw [if_neg (by simp)] at h ⊢
  split
  · rfl
  · rename_i h1
    rw [if_neg h1] at h
    split
    · rfl
    · rename_i h2
      rw [if_neg h2] at h; exact absurd rfl h
theorem rRaw_inv {l : List Int} {n : Int} (hn : 0 ≤ n) (h : (rRaw (l, 0) n).2.2 = 0) : l = (rRaw (l, 0) n).1 ++ (rRaw (l, 0) n).2.1 ∧ ((rRaw (l, 0) n).1.length : Int) = n := by
  unfold rRaw at h ⊢
  rw [if_neg (by simp)] at h ⊢
  by_cases h1 : (l.length : Int) < n
  · rw [if_pos (by exact h1)] at h; exact absurd h (by decide)
  · rw [if_neg (by exact h1)]
    refine ⟨(List.take_append_drop ..).symm, ?_⟩
    show ((List.take n.toNat l).length : Int) = n
    rw [List.length_take]; omega
theorem rRaw_bad {l : List Int} {n : Int} (h : (rRaw (l, 0) n).2.2 ≠ 0) : (rRaw (l, 0) n).2.1 = [] := by
  unfold rRaw at h ⊢
  rw [if_neg (by simp)] at h ⊢
  split
  · rfl
  · rename_i h1
    rw [if_neg h1] at h; exact absurd rfl h
theorem rB_inv {l : List Int} (hb : By l) {mx : Int} (h : (rB (l, 0) mx).2.2 = 0) : l = eB (rB (l, 0) mx).1 ++ (rB (l, 0) mx).2.1 := by
  unfold rB at h ⊢
  by_cases h1 : (rU (l, 0) (max mx 0)).2.2 = 0
  · rw [if_neg (by simp [h1])] at h ⊢
    obtain ⟨m, e1, e2, -⟩ := rU_inv hb h1
    generalize rU (l, 0) (max mx 0) = q at *
    obtain ⟨n, r, e⟩ := q
    dsimp only at h h1 e1 e2 ⊢
    subst h1
    obtain ⟨f1, f2⟩ := rRaw_inv (by omega) h
    unfold eB
    rw [List.append_assoc, ← f1, show (rRaw (r, 0) n).1.length = m by omega]
    exact e1
  · rw [if_pos h1] at h; exact absurd h h1
theorem rB_bad {l : List Int} {mx : Int} (h : (rB (l, 0) mx).2.2 ≠ 0) : (rB (l, 0) mx).2.1 = [] := by
  unfold rB at h ⊢
  by_cases h1 : (rU (l, 0) (max mx 0)).2.2 = 0
  · rw [if_neg (by simp [h1])] at h ⊢
    generalize rU (l, 0) (max mx 0) = q at *
    obtain ⟨n, r, e⟩ := q
    dsimp only at h1 h ⊢
    subst h1
    exact rRaw_bad h
  · rw [if_pos h1]
    exact rU_bad h1
theorem beS_bV : ∀ {b : List Int}, By b → beS (bV b).toNat b.length = b
  | [], _ => rfl
  | c :: b, h => by
    have hc := h c (List.mem_cons_self ..)
    rw [u8R] at hc
    have hb : By b := fun x hx => h x (List.mem_cons_of_mem _ hx)
    obtain ⟨g1, g2⟩ := bV_b hb
    obtain ⟨d, rfl⟩ : ∃ d : Nat, c = (d : Int) := ⟨c.toNat, by omega⟩
    obtain ⟨V, hV⟩ : ∃ V : Nat, bV b = (V : Int) := ⟨(bV b).toNat, by omega⟩
    have e : (bV ((d : Int) :: b)).toNat = d * 256 ^ b.length + V := by
      have : bV ((d : Int) :: b) = ((d * 256 ^ b.length + V : Nat) : Int) := by
        rw [bV_cons, hV, Int.natCast_add, Int.natCast_mul, Int.natCast_pow]; rfl
      omega
    have hlt : V < 256 ^ b.length := by
      have : ((256 ^ b.length : Nat) : Int) = (256 : Int) ^ b.length := by simp
      omega
    rw [e, List.length_cons, beS]
    have hp : 0 < 256 ^ b.length := Nat.pow_pos (by decide)
    congr 1
    · unfold byt
      rw [Nat.mul_comm, Nat.mul_add_div hp, Nat.div_eq_of_lt hlt]
      omega
    · have ih := beS_bV hb
      rw [hV, Int.toNat_natCast] at ih
      have hlow : ∀ s, s ≤ b.length → beS (d * 256 ^ b.length + V) s = beS V s := by
        intro s
        induction s with
        | zero => intro _; rfl
        | succ s ih2 =>
          intro hs
          rw [beS, beS, ih2 (by omega)]
          congr 1
          unfold byt
          have e1 : 256 ^ b.length = 256 ^ s * (256 * 256 ^ (b.length - s - 1)) := by
            rw [← Nat.pow_succ', ← Nat.pow_add]; congr 1; omega
          rw [e1, Nat.mul_comm d, Nat.mul_assoc, Nat.mul_add_div (Nat.pow_pos (by decide)), Nat.mul_assoc, Nat.mul_add_mod]
      rw [hlow _ (Nat.le_refl _)]
      exact ih
/-- the number of bytes of a value whose first byte is not zero -/
theorem bsz_bV {b : List Int} (h : By b) (hb : b ≠ []) (h0 : b.getD 0 0 ≠ 0) : bsz (bV b) = b.length := by
  obtain ⟨c, l, rfl⟩ := List.exists_cons_of_ne_nil hb
  have h1 := bV_top h (show c ≠ 0 from h0)
  obtain ⟨g1, g2⟩ := bV_b h
  obtain ⟨q1, q2⟩ := bsz_spec g1
  obtain ⟨V, hV⟩ : ∃ V : Nat, bV (c :: l) = (V : Int) := ⟨(bV (c :: l)).toNat, by omega⟩
  rw [hV] at h1 g2 q1 q2 ⊢
  rw [Int.toNat_natCast] at q1 q2
  have e1 : (256 : Int) ^ l.length = ((256 ^ l.length : Nat) : Int) := by simp
  have e2 : (256 : Int) ^ (c :: l).length = ((256 ^ (c :: l).length : Nat) : Int) := by simp
  rw [e1] at h1
  rw [e2] at g2
  have p1 : 256 ^ l.length < 256 ^ bsz (V : Int) := by omega
  have p1 := (Nat.pow_lt_pow_iff_right (by decide)).1 p1
  have p2 := q2 (by omega)
  have p3 : 256 ^ (bsz (V : Int) - 1) < 256 ^ (c :: l).length := by omega
  have p3 := (Nat.pow_lt_pow_iff_right (by decide)).1 p3
  rw [List.length_cons] at p3 ⊢
  omega
theorem beN_bV {b : List Int} (h : By b) (h0 : b = [] ∨ b.getD 0 0 ≠ 0) : beN (bV b) = b := by
  by_cases hb : b = []
  · subst hb; decide +kernel
  · have h0 := h0.resolve_left hb
    unfold beN
    rw [bsz_bV h hb h0, beS_bV h]
theorem rN_inv {l : List Int} (hb : By l) (h : (rN (l, 0)).2.2 = 0) : l = eN (N (rN (l, 0)).1) ++ (rN (l, 0)).2.1 := by
  obtain ⟨f1, -⟩ := rB_f (s := (l, 0)) (mx := 8192) hb
  have hi := @rB_inv l hb 8192
  unfold rN at h ⊢
  generalize rB (l, 0) 8192 = q at *
  obtain ⟨b, r, e⟩ := q
  dsimp only at f1 hi h ⊢
  by_cases h1 : e ≠ 0 ∨ b = []
  · rw [if_pos h1] at h ⊢
    have h : e = 0 := h
    have h2 : b = [] := h1.resolve_left (by omega)
    have := hi h
    rw [h2] at this
    have e1 : eN (N []) = eB [] := by
      have : beN (N []) = [] := by decide +kernel
      unfold eN
      rw [this]
    show l = eN (N []) ++ r
    rw [e1]
    exact this
  · rw [if_neg h1] at h ⊢
    have h1 : e = 0 ∧ b ≠ [] := ⟨by omega, fun h => h1 (.inr h)⟩
    by_cases h2 : b.getD 0 0 = 0
    · rw [if_pos h2] at h; exact absurd h (by decide)
    · rw [if_neg h2]
      show l = eN (N (dg (bV b))) ++ r
      rw [N_dg (bV_b f1).1]
      unfold eN
      rw [beN_bV f1 (.inr h2)]
      exact hi h1.1
theorem rN_bad {l : List Int} (h : (rN (l, 0)).2.2 ≠ 0) : (rN (l, 0)).2.1 = [] := by
  have hi := @rB_bad l 8192
  unfold rN at h ⊢
  generalize rB (l, 0) 8192 = q at *
  split
  · rename_i h1
    rw [if_pos h1] at h
    exact hi h
  · rename_i h1
    rw [if_neg h1] at h
    split
    · rfl
    · rename_i h2
      rw [if_neg h2] at h
      exact absurd (.inl h) h1
@[go_sem] def lRtS : Spec := ⟨[.int .u64, bT, nT, .bool, nT], fun d => (.dat .bool true, [])⟩
theorem lRt_ok : SpecOk Try.prog 6 lRtS := by
  refine fn_ok ECG_ok lRtS Try.func6 rfl (by decide) (N := 107) rfl (res := [.tmp 10]) rfl (by decide) [(4, [(39, .ow), (1000000, .mx [(2, 1), (5, 1), (8, 1)])]), (5, [(50, .dt), (51, .fz 4), (52, .ow)]), (8, [(57, .ow), (61, .ow)]), (9, [(63, .ow), (65, .ow)]), (10, [(69, .tr true), (76, .tr true), (82, .tr true), (88, .tr true), (94, .tr true), (99, .tr true), (104, .tr true), (90, .ow), (96, .ow), (101, .ow), (1000000, .mx [])])] [] [] 100 (by kernel_rfl) ?_
  rintro ⟨(n:Int), b, x, neg, y, _⟩ hw hp
  refine ⟨rfl, fun H hH => ?_⟩
  dsimp only [go_sem] at hw hp ⊢
  have hx := bnat_len x
  have hy := bnat_len y
  obtain ⟨hn, ⟨-, hb⟩, ⟨-, hxr⟩, -, ⟨-, hyr⟩, -⟩ := hw
  rw [u64R] at hn
  have dx : Ds (bnat x) := bnat_ds fun d hd => inR_u32.1 (hxr d hd)
  have dy : Ds (bnat y) := bnat_ds fun d hd => inR_u32.1 (hyr d hd)
  have hfs : fs (neg, bnat x, bnat y) ≤ 8 := by
    show max (bnat x).length (bnat y).length ≤ 8
    omega
  refine ⟨fun h => h, fun h => h, fun h => h, fun h => h, fun h => h, fun h => h, fun _ => ⟨rfl, trivial⟩, fun h => ?_⟩
  simp only [Bool.or_eq_false_iff, decide_eq_false_iff_not] at h
  have hbl : List.length b ≤ 300 := by omega
  obtain ⟨c1, c2⟩ := qfq_small (f := (neg, bnat x, bnat y)) ⟨dx, dy⟩ hfs
  have hcan := isCan_qf (fq (neg, bnat x, bnat y))
  have k1 := canon_dg ((fq (neg, bnat x, bnat y)).num.natAbs : Int)
  have k2 := canon_dg ((fq (neg, bnat x, bnat y)).den : Int)
  have k1 : Canon (qf (fq (neg, bnat x, bnat y))).2.1 := k1
  have k2 : Canon (qf (fq (neg, bnat x, bnat y))).2.2 := k2
  generalize qf (fq (neg, bnat x, bnat y)) = c at *
  obtain ⟨k, rfl⟩ : ∃ k : Nat, n = (k : Int) := ⟨n.toNat, by omega⟩
  rw [Int.toNat_natCast]
  have e : eU k ++ eB b ++ eN (N (bnat x)) ++ eFc c ++ [9, 9] = eU k ++ (eB b ++ (eN (N (bnat x)) ++ (eFc c ++ [9, 9]))) := by
    simp only [List.append_assoc]
  have r1 := rU_eU (n := k) (by omega) (Int.le_refl _) (eB b ++ (eN (N (bnat x)) ++ (eFc c ++ [9, 9])))
  have r2 := rB_eB (b := b) (Int.le_refl _) (by show List.length b < _; omega) (eN (N (bnat x)) ++ (eFc c ++ [9, 9]))
  have hX := N_nonneg dx
  have hbs := bsz_le dx
  have r3 := rN_eN hX (by omega) (eFc c ++ [9, 9])
  have r4 := rF_eF k1 k2 hcan (by omega) (by omega) [9, 9]
  have l1 := eU_len10 k (by omega)
  have l2 := eB_len (b := b) (by show List.length b ≤ _; omega)
  have l3 := eN_len dx (by omega)
  have l4 := eF_len k1.1 k2.1 (by omega) (by omega)
  have r5 : rRaw ([9, 9], 0) (max 2 0) = ([9, 9], ([], 0)) := by decide +kernel
  have hl2 : (eB b ++ (eN (N (bnat x)) ++ (eFc c ++ [9, 9]))).length ≤ 1000000 := by
    simp only [List.length_append, List.length_cons, List.length_nil]; omega
  have hl3 : (eN (N (bnat x)) ++ (eFc c ++ [9, 9])).length ≤ 1000000 := by
    simp only [List.length_append, List.length_cons, List.length_nil]; omega
  have hl4 : (eFc c ++ [9, 9]).length ≤ 1000000 := by
    simp only [List.length_append, List.length_cons, List.length_nil]; omega
  have hl1 : (eU k ++ (eB b ++ (eN (N (bnat x)) ++ (eFc c ++ [9, 9])))).length ≤ 1000000 := by
    simp only [List.length_append, List.length_cons, List.length_nil]; omega
  rw [e, r1]
  dsimp only
  rw [r2]
  dsimp only
  rw [r3]
  dsimp only
  rw [r4]
  dsimp only
  rw [r5]
  dsimp only
  have hb6 : List.length b ≤ 1000000 := by omega
  refine ⟨hb6, by omega, rfl, by omega, ?_, rfl, by omega, ?_, rfl, ?_, rfl, hl1, ⟨_, rfl⟩, hl2, hl3, hl4, by simp, by simp, by omega, by simp, by omega, by simp, by decide, by decide, by decide, by decide, rfl, trivial⟩
  · simp only [List.length_append]; omega
  · simp only [List.length_append]; omega
  · simp only [List.length_append, List.length_cons, List.length_nil]; omega
end Go.Proofs.Ytadoinponngdiaa.Gx
