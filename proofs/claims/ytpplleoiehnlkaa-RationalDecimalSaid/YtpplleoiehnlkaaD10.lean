/-
  The reference's parser of fractions.
-/
import Derived.Test.YtpplleoiehnlkaaD9
namespace Go.Proofs.Ytpplleoiehnlkaa.Gx
open Go Go.RowKit Tw B Nt
set_option linter.unusedVariables false
set_option linter.unusedSimpArgs false
set_option maxHeartbeats 4000000
set_option maxRecDepth 20000
/-- no slash and no dot ahead of i -/
def Sep (L : List UInt8) (i : Nat) : Prop := i ≤ L.length ∧ ∀ c ∈ L.take i, c ≠ 47 ∧ c ≠ 46
theorem sep_stop {L : List UInt8} {i : Nat} (h : Sep L i) (hs : i = L.length ∨ L.getD i 0 = 47 ∨ L.getD i 0 = 46) (hd : digs (L.take i) = true) : ldig L = i ∧ i ≠ 0 := by
  unfold digs at hd
  simp only [Bool.and_eq_true, Bool.not_eq_true', List.isEmpty_eq_false_iff] at hd
  refine ⟨ldig_stop h.1 hd.2 ?_, fun e => hd.1 (by rw [e]; rfl)⟩
  rcases Nat.lt_or_ge i L.length with hl | hl
  · right
    refine ⟨L.getD i 0, by rw [List.getD_eq_getElem?_getD, List.getElem?_eq_getElem hl]; rfl, ?_⟩
    rcases hs with h | h | h
    · omega
    · rw [h]; decide
    · rw [h]; decide
  · left; have := h.1; omega
theorem ldig_lt {L : List UInt8} {i : Nat} (h : Sep L i) (hd : digs (L.take i) = false) (hi : i ≠ 0) : ldig L < i := by
  rcases Nat.lt_or_ge (ldig L) i with h' | h'
  · exact h'
  · exfalso
    unfold digs at hd
    have ha : (L.take i).all isD = true := by
      have := ldig_all L
      rw [List.all_eq_true] at this ⊢
      intro c hc
      refine this c ?_
      have e : L.take i = (L.take (ldig L)).take i := by rw [List.take_take]; congr 1; omega
      rw [e] at hc
      exact List.mem_of_mem_take hc
    rw [ha, Bool.and_true] at hd
    simp only [Bool.not_eq_false'] at hd
    have : L.take i = [] := List.isEmpty_iff.1 hd
    have h1 := h.1
    have := congrArg List.length this
    rw [List.length_take, List.length_nil] at this
    omega
theorem tC_a {L : List UInt8} {i : Nat} (h : Sep L i) (hs : i = L.length ∨ L.getD i 0 = 47 ∨ L.getD i 0 = 46) (hd : digs (L.take i) = false) : tC L = 2 := by
  unfold tC
  by_cases hz : ldig L = 0
  · rw [if_pos hz]
  · rw [if_neg hz]
    by_cases hi : i = 0
    · subst hi
      exfalso
      rcases L with _ | ⟨c, L⟩
      · exact hz rfl
      · rcases hs with h | h | h
        · simp at h
        · simp at h; subst h; exact hz rfl
        · simp at h; subst h; exact hz rfl
    · have hl := ldig_lt h hd hi
      have h1 := h.1
      rw [if_neg (by omega), if_pos (Or.inl ?_)]
      have hm : L[ldig L]'(by omega) ∈ L.take i := by
        rw [List.mem_take_iff_getElem]
        exact ⟨ldig L, by omega, rfl⟩
      have := h.2 _ hm
      rw [List.getElem?_eq_getElem (by omega)]
      exact ⟨fun e => this.1 (Option.some.inj e), fun e => this.2 (Option.some.inj e)⟩
theorem digs_iff {l : List UInt8} : digs l = true ↔ l ≠ [] ∧ ldig l = l.length := by
  unfold digs
  simp only [Bool.and_eq_true, Bool.not_eq_true', List.isEmpty_eq_false_iff]
  refine and_congr_right fun _ => ⟨fun h => ldig_stop (Nat.le_refl _) (by rw [List.take_of_length_le (Nat.le_refl _)]; exact h) (Or.inl rfl), fun h => ?_⟩
  have := ldig_all l
  rwa [h, List.take_of_length_le (Nat.le_refl _)] at this
theorem tC_c {L : List UInt8} {i : Nat} (e : ldig L = i) (hi : i ≠ 0) (hl : i < L.length) (hd : digs (L.drop (i + 1)) = false) : tC L = 2 := by
  unfold tC
  rw [e, if_neg hi, if_neg (by omega), if_pos (Or.inr ?_)]
  by_cases hn : L.drop (i + 1) = []
  · exact Or.inl hn
  · refine Or.inr fun hq => ?_
    rw [digs_iff.2 ⟨hn, hq⟩] at hd
    cases hd
theorem tC_d {L : List UInt8} (e : ldig L = L.length) (hi : L.length ≠ 0) : tC L = 0 := by
  unfold tC
  rw [e, if_neg hi, if_pos rfl]
theorem tC_e {L : List UInt8} {i : Nat} (e : ldig L = i) (hi : i ≠ 0) (hl : i < L.length) (h47 : L.getD i 0 = 47) (hd : digs (L.drop (i + 1)) = true) (ng : Bool) :
    tC L = (if dval (L.drop (i + 1)) = 0 then 20 else 0) ∧ tQ ng L = mk ng (dval (L.take i)) (dval (L.drop (i + 1))) := by
  have hg : L[i]? = some 47 := by rw [List.getD_eq_getElem?_getD, List.getElem?_eq_getElem hl] at h47; rw [List.getElem?_eq_getElem hl]; exact congrArg some h47
  obtain ⟨d1, d2⟩ := digs_iff.1 hd
  constructor
  · unfold tC
    rw [e, if_neg hi, if_neg (by omega), if_neg, if_neg (by rw [hg]; decide)]
    rintro (h | h | h)
    · exact h.1 hg
    · exact d1 h
    · exact h d2
  · unfold tQ
    rw [e, if_neg (by omega), if_neg (by rw [hg]; decide)]
theorem tC_f {L : List UInt8} {i : Nat} (e : ldig L = i) (hi : i ≠ 0) (hl : i < L.length) (h46 : L.getD i 0 = 46) (hd : digs (L.drop (i + 1)) = true) (ng : Bool) :
    tC L = 0 ∧ tQ ng L = mk ng (dval (L.take i ++ L.drop (i + 1))) (10 ^ (L.drop (i + 1)).length) := by
  have hg : L[i]? = some 46 := by rw [List.getD_eq_getElem?_getD, List.getElem?_eq_getElem hl] at h46; rw [List.getElem?_eq_getElem hl]; exact congrArg some h46
  obtain ⟨d1, d2⟩ := digs_iff.1 hd
  constructor
  · unfold tC
    rw [e, if_neg hi, if_neg (by omega), if_neg, if_pos hg]
    rintro (h | h | h)
    · exact h.2 hg
    · exact d1 h
    · exact h d2
  · unfold tQ
    rw [e, if_neg (by omega), if_pos hg]
theorem u8_eq {c : UInt8} {n : Nat} (hn : n < 256) : (c.toNat : Int) = (n : Int) ↔ c = UInt8.ofNat n := by
  constructor
  · intro h
    have h : c.toNat = n := by omega
    subst h
    simp
  · rintro rfl
    simp [UInt8.toNat_ofNat]
    omega
theorem sep_next {L : List UInt8} {i : Nat} (h : Sep L i) (hl : i < L.length) (h1 : L.getD i 0 ≠ 47) (h2 : L.getD i 0 ≠ 46) : Sep L (i + 1) := by
  refine ⟨hl, fun c hc => ?_⟩
  rw [take_get L i 0 hl] at hc
  rcases List.mem_append.1 hc with hc | hc
  · exact h.2 c hc
  · rw [List.mem_singleton] at hc
    subst hc
    exact ⟨h1, h2⟩
theorem loop2 {S : Sx} {H : List It → St → Prop} (hH : HOk S H) {c : Code} {k : List It} {st1 st2 : St} {A B C : Prop} {α : Type} (inv : α → St) (I : α → Prop) (μ : α → Nat) (x0 : α) (n : Nat) (h0 : I x0) (hC : A → C)
    (h1 : A → leS S.nb st1 (inv x0) n) (h2 : B → leS S.nb st2 (inv x0) n)
    (hb : ∀ x, I x → ∀ R : Act → World → Prop, (∀ st' y n', I y → μ y < μ x → leS S.nb st' (inv y) n' → H (.mark R :: k) st') → H (.code c :: .mark R :: k) (inv x)) :
    (A → C ∧ H (.code (.loop c) :: k) st1) ∧ (B → H (.code (.loop c) :: k) st2) :=
  ⟨fun a => ⟨hC a, hH.loop inv I μ x0 n h0 (h1 a) hb⟩, fun b => hH.loop inv I μ x0 n h0 (h2 b) hb⟩
theorem dl {l : List UInt8} (h : l.all isD = true) (hl : l.length ≤ 4000) : (dg (dval l)).length ≤ 5000000 ∧ 0 ≤ dval l := by
  obtain ⟨h1, h2⟩ := dval_lt h hl
  exact ⟨Nat.le_trans (dg_len h1 h2) (by decide), h1⟩
theorem digs_all {l : List UInt8} (h : digs l = true) : l.all isD = true := by
  unfold digs at h
  rw [Bool.and_eq_true] at h
  exact h.2
theorem dg_zero {n : Int} (h0 : 0 ≤ n) : (dg n).length = 0 ↔ n = 0 := by
  constructor
  · intro h
    have := N_dg h0
    rw [List.length_eq_zero_iff.1 h] at this
    exact this.symm
  · rintro rfl; rfl
theorem p10_eq : ∀ k : Nat, (10 : Int) ^ k = p10 k
  | 0 => rfl
  | k + 1 => by rw [Int.pow_succ, p10_eq k, Int.mul_comm]; rfl
theorem ten_lt {k : Nat} (h : k ≤ 4000) : (10 : Int) ^ k < Bp 501 := by
  rw [p10_eq]
  have h2 := p10_pow k
  have h3 := two_mono (show 4 * k + 1 ≤ 32 * 501 by omega)
  rw [← Bp_pow] at h3
  have := two_pos (4 * k)
  have e := Int.pow_succ 2 (4 * k)
  omega
theorem ten_len {k : Nat} (h : k ≤ 4000) : (dg ((10 : Int) ^ k)).length ≤ 5000000 :=
  Nat.le_trans (dg_len (Int.le_of_lt (Int.pow_pos (by decide))) (ten_lt h)) (by decide)
@[go_sem] def qInv (L : List UInt8) (ng : Bool) (i j : Nat) : St := ⟨[(0, .dat .str L), (2, .ref 0 0), (3, .dat (.int .i64) (0 : Int)), (4, .dat .bool ng), (5, .dat (.int .i64) (i : Int)), (7, .dat nT (dg ((10 : Int) ^ (j - (i + 1))))), (8, .dat (.int .i64) (j : Int))], [(0, .box 25 (zA fT .nil))], 1⟩
@[go_sem] def pInv (L : List UInt8) (ng : Bool) (i : Nat) : St := ⟨[(0, .dat .str L), (2, .ref 0 0), (3, .dat (.int .i64) (0 : Int)), (4, .dat .bool ng), (5, .dat (.int .i64) (i : Int))], [(0, .box 25 (zA fT .nil))], 1⟩
@[go_sem] def rFParseS : Spec := ⟨[.str], fun d => (.tup (.cons (.dat fT (if fpC d.1 = 0 then qf (fpQ d.1) else f0)) (.cons (.dat (.int .i64) (fpC d.1)) .nil)), [])⟩
theorem rFParse_ok : SpecOk Try.prog 17 rFParseS := by
  refine fn_ok E7_ok rFParseS Try.func17 rfl (by decide) (N := 115) rfl (res := [.cell 2 25, .tmp 3]) rfl (by decide) [] [] [9] 100 (by kernel_rfl) ?_
  rintro ⟨s, _⟩ hw hp
  refine ⟨rfl, fun H hH => ?_⟩
  dsimp only [go_sem] at hw hp ⊢
  refine ⟨fun h => ?_, fun h => ?_⟩ <;> simp only [decide_eq_true_eq, decide_eq_false_iff_not] at h
  · have e : fpC s = 4 := by unfold fpC; rw [if_pos (by omega)]
    rw [e]
    exact ⟨rfl, rfl, rfl, rfl, rfl, trivial⟩
  have hs : s.length ≤ 4000 := by omega
  have e0 : (decide (0 < (List.length s : Int)) && decide (strAt s 0 = 45)) = fpN s := by
    unfold fpN strAt
    rcases s with _ | ⟨c, s⟩
    · rfl
    · rw [Bool.eq_iff_iff]
      simp only [Bool.and_eq_true, decide_eq_true_eq, List.head?_cons, Option.some.injEq]
      have := u8_eq (c := c) (n := 45) (by decide)
      refine ⟨fun h => this.1 h.2, fun h => ⟨by simp, this.2 h⟩⟩
  rw [e0]
  have ec : fpC s = tC (fpS s) := by unfold fpC; rw [if_neg (by omega)]
  have eq : fpQ s = tQ (fpN s) (fpS s) := rfl
  have hl : (fpS s).length ≤ 4000 := by unfold fpS; split <;> (try rw [List.length_drop]) <;> omega
  have hd0 : fpN s = true → List.drop (Int.toNat 1) s = fpS s := fun h => by unfold fpS; rw [if_pos h]; rfl
  have hd1 : fpN s = false → s = fpS s := fun h => by unfold fpS; rw [if_neg (by rw [h]; decide)]
  refine ⟨fun h => h, fun h => ⟨Int.le_refl 0, of_decide_eq_true h⟩, fun h => h, fun h => h, ?_⟩
  have h0 : Sep (fpS s) 0 := ⟨Nat.zero_le _, fun c hc => by simp at hc⟩
  refine loop2 hH (pInv (fpS s) (fpN s)) (Sep (fpS s)) (fun i => (fpS s).length - i) 0 1 h0 (fun hn => ?_) (fun hn => ?_) (fun hn => ?_) ?_
  · have : s ≠ [] := fun e => by subst e; cases hn
    have := List.length_pos_iff.2 this
    change (0 : Int) ≤ 1 ∧ (1 : Int) ≤ (s.length : Int)
    omega
  · dsimp only [go_sem]
    have e := hd0 hn
    simp [← e]
  · dsimp only [go_sem]
    simp [← hd1 hn]
  · intro i hi R hm
    refine hH.run 100 _ _ ?_
    dsimp only [go_sem] at hm ⊢
    generalize fpN s = ng at *
    generalize fpS s = L at *
    simp only [imp_self, true_and]
    have hc : ∀ n : Nat, n < 256 → (strAt L (i : Int) = (n : Int) ↔ L.getD i 0 = UInt8.ofNat n) := fun n hn => u8_eq hn
    have c47 := hc 47 (by decide)
    have c46 := hc 46 (by decide)
    have hb : i < L.length → (0 : Int) ≤ (i : Int) ∧ (i : Int) < (L.length : Int) := fun h => by omega
    refine ⟨fun k => hb (by have := of_decide_eq_true k; omega), fun k => hb ?_, fun k => ?_, fun k => ?_⟩
    · rw [Bool.and_eq_true] at k
      have := of_decide_eq_true k.1
      omega
    · simp only [Bool.and_eq_true, decide_eq_true_eq] at k
      obtain ⟨⟨k1, k2⟩, k3⟩ := k
      refine ⟨by rw [inR_i64]; omega, ?_⟩
      refine hm _ (i + 1) 1 (sep_next hi (by omega) (fun e => k2 (c47.2 e)) (fun e => k3 (c46.2 e))) (by omega) ?_
      dsimp only [go_sem]
      simp
    · have hst : i = L.length ∨ L.getD i 0 = 47 ∨ L.getD i 0 = 46 := by
        rcases Nat.lt_or_ge i L.length with hlt | hlt
        · right
          by_cases q : L.getD i 0 = 47
          · exact Or.inl q
          · right
            by_cases r : L.getD i 0 = 46
            · exact r
            · exfalso
              have : (decide ((i : Int) < (L.length : Int)) && decide (strAt L (i : Int) ≠ 47) && decide (strAt L (i : Int) ≠ 46)) = true := by
                rw [Bool.and_eq_true, Bool.and_eq_true]
                exact ⟨⟨decide_eq_true (by omega), decide_eq_true fun e => q (c47.1 e)⟩, decide_eq_true fun e => r (c46.1 e)⟩
              rw [this] at k
              cases k
        · left; have := hi.1; omega
      clear k hm c47 c46 hc hb
      refine hH.weak (pInv L ng i) 1 ?_ ?_
      · dsimp only [go_sem]
        simp
      · refine hH.go [20] 100 _ _ ?_
        dsimp only [go_sem]
        simp only [imp_self, true_and]
        have t0 : ((i : Nat) : Int).toNat = i := by omega
        have t1 : (((i : Nat) : Int) + 1).toNat = i + 1 := by omega
        simp only [t0, t1, ec, eq]
        have hi1 := hi.1
        have b0 : (0 : Int) ≤ (i : Int) ∧ (i : Int) ≤ (L.length : Int) := by omega
        have in1 : inR .i64 ((i : Int) + 1) := by rw [inR_i64]; omega
        have b1 : i < L.length → (0 : Int) ≤ (i : Int) + 1 ∧ (i : Int) + 1 ≤ (L.length : Int) := by omega
        have b2 : i < L.length → (0 : Int) ≤ (i : Int) ∧ (i : Int) < (L.length : Int) := by omega
        refine ⟨b0, fun _ => in1, fun k => b1 (by have := of_decide_eq_true k.2; omega), fun a b => ⟨a, b⟩, fun k => ?_, fun k => ?_⟩
        · simp only [Bool.or_eq_true, Bool.and_eq_true, Bool.not_eq_true', decide_eq_true_eq] at k
          have h2 : tC L = 2 := by
            by_cases hd : digs (L.take i) = true
            · rcases k with k | ⟨k1, k2⟩
              · rw [hd] at k; cases k
              · obtain ⟨e, hz⟩ := sep_stop hi hst hd
                exact tC_c e hz (by omega) k2
            · exact tC_a hi hst (by simpa using hd)
          rw [h2]
          exact ⟨rfl, rfl, trivial⟩
        · have hd : digs (L.take i) = true := by
            cases hq : digs (L.take i)
            · rw [hq] at k; cases k
            · rfl
          have hr : i < L.length → digs (L.drop (i + 1)) = true := fun hlt => by
            cases hq : digs (L.drop (i + 1))
            · rw [hq, hd, decide_eq_true (show (i : Int) < (L.length : Int) by omega)] at k; cases k
            · rfl
          obtain ⟨e, hz⟩ := sep_stop hi hst hd
          refine ⟨fun q => ?_, fun q => ?_⟩ <;> simp only [decide_eq_true_eq, decide_eq_false_iff_not] at q
          · have e' : ldig L = L.length := by omega
            have ha := digs_all hd
            rw [List.take_of_length_le (by omega)] at ha
            obtain ⟨d1, d2⟩ := dl ha hl
            rw [tC_d e' (by omega), N_dg d2, N_dg (show (0 : Int) ≤ 1 by decide)]
            have : tQ ng L = mk ng (dval L) 1 := by unfold tQ; rw [if_pos e']
            rw [this]
            exact ⟨hl, ha, d1, by decide, rfl, rfl, trivial⟩
          · have hlt : i < L.length := by omega
            have hr := hr hlt
            have l1 : (L.drop (i + 1)).length ≤ 4000 := by rw [List.length_drop]; omega
            have l2 : (L.take i).length ≤ 4000 := by rw [List.length_take]; omega
            obtain ⟨d1, d2⟩ := dl (digs_all hr) l1
            obtain ⟨d3, d4⟩ := dl (digs_all hd) l2
            have hc47 : strAt L (i : Int) = 47 ↔ L.getD i 0 = 47 := u8_eq (n := 47) (by decide)
            refine ⟨b2 hlt, fun r => ?_, fun r => ?_⟩ <;> simp only [decide_eq_true_eq, decide_eq_false_iff_not] at r
            · obtain ⟨f1, f2⟩ := tC_e e hz hlt (hc47.1 r) hr ng
              refine ⟨in1, b1 hlt, l1, digs_all hr, fun z => ?_, fun z => ?_⟩ <;> simp only [decide_eq_true_eq, decide_eq_false_iff_not] at z
              · have z0 : dval (L.drop (i + 1)) = 0 := (dg_zero d2).1 (by omega)
                rw [f1, if_pos z0]
                exact ⟨rfl, rfl, trivial⟩
              · have z0 : dval (L.drop (i + 1)) ≠ 0 := fun q => z (by have := (dg_zero d2).2 q; omega)
                rw [f1, if_neg z0, f2, N_dg d2, N_dg d4]
                exact ⟨b0, l2, digs_all hd, d3, d1, rfl, rfl, trivial⟩
            · refine ⟨in1, ?_⟩
              refine hH.loop (qInv L ng i) (fun j => i + 1 ≤ j ∧ j ≤ L.length) (fun j => L.length - j) (i + 1) 1 ⟨Nat.le_refl _, hlt⟩ ?_ ?_
              · dsimp only [go_sem]
                simp
              · intro j hj R2 hm2
                refine hH.go [] 100 _ _ ?_
                dsimp only [go_sem]
                simp only [imp_self, true_and, t0, t1, ec, eq]
                have h46 : L.getD i 0 = 46 := by
                  rcases hst with h | h | h
                  · omega
                  · exact absurd (hc47.2 h) r
                  · exact h
                obtain ⟨f1, f2⟩ := tC_f e hz hlt h46 hr ng
                have tl := ten_len (k := j - (i + 1)) (by omega)
                have p0 : ∀ n : Nat, (0 : Int) ≤ 10 ^ n := fun n => Int.le_of_lt (Int.pow_pos (by decide))
                refine ⟨fun c => ?_, fun c => ?_⟩ <;> simp only [decide_eq_true_eq, decide_eq_false_iff_not] at c
                · refine ⟨tl, by decide, by rw [inR_i64]; omega, ?_⟩
                  refine hm2 _ (j + 1) 1 (by omega) (by omega) ?_
                  dsimp only [go_sem]
                  rw [N_dg (p0 _), N_dg (show (0 : Int) ≤ 10 by decide), ← Int.pow_succ, show (j - (i + 1)).succ = j + 1 - (i + 1) by omega]
                  simp
                · have hle : (L.take i ++ L.drop (i + 1)).length ≤ 4000 := by rw [List.length_append, List.length_take, List.length_drop]; omega
                  have ha : (L.take i ++ L.drop (i + 1)).all isD = true := by rw [List.all_append, digs_all hd, digs_all hr]; rfl
                  obtain ⟨g1, g2⟩ := dl ha hle
                  have ej : j - (i + 1) = (L.drop (i + 1)).length := by rw [List.length_drop]; omega
                  rw [ej] at tl ⊢
                  rw [f1, f2, N_dg g2, N_dg (p0 _)]
                  exact ⟨b0, in1, b1 hlt, by omega, hle, ha, g1, tl, rfl, rfl, trivial⟩
end Go.Proofs.Ytpplleoiehnlkaa.Gx
