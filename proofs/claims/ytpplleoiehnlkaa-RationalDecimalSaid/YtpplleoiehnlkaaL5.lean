/-
  The law RationalDecimal.
-/
import Derived.Test.YtpplleoiehnlkaaL4
namespace Go.Proofs.Ytpplleoiehnlkaa.Gx
open Go Go.RowKit Tw B Nt
set_option linter.unusedVariables false
set_option linter.unusedSimpArgs false
set_option maxHeartbeats 4000000
set_option maxRecDepth 20000
/-- texts of small numbers are short -/
theorem v10_ge : ∀ {l : List Int}, C10 l → l ≠ [] → p10 (l.length - 1) ≤ V10 l
  | [], _, h => absurd rfl h
  | [d], h, _ => by
    have h1 := h.1.head
    have h2 : d ≠ 0 := fun e => h.2 (by rw [e]; rfl)
    show (1 : Int) ≤ d + 10 * 0
    omega
  | d :: e :: l, h, _ => by
    have ih := v10_ge h.tail (by simp)
    have h1 := h.1.head
    show 10 * p10 l.length ≤ d + 10 * V10 (e :: l)
    have ih : p10 l.length ≤ V10 (e :: l) := ih
    omega
theorem decT_len10 {n : Int} {k : Nat} (h0 : 0 ≤ n) (h : n < p10 k) (hk : 1 ≤ k) : (decT n).length ≤ k := by
  obtain ⟨s, hs⟩ := dec_ex h0
  rw [decT_of hs]
  rcases hs with ⟨rfl, rfl⟩ | ⟨h1, l, h2, h3, rfl⟩
  · exact hk
  · have hl : l ≠ [] := by rintro rfl; rw [← h3] at h1; exact absurd h1 (by decide)
    have hv := v10_ge h2 hl
    have e : (decS l).data.toList.length = l.length := by simp [decS, decB]
    rw [e]
    rcases Nat.lt_or_ge k l.length with h' | h'
    · have := p10_mono (show k ≤ l.length - 1 by omega)
      omega
    · exact h'
/-- zeros ahead -/
def zP (z : Nat) (P : List UInt8) : List UInt8 := List.replicate z 48 ++ P
theorem zP_succ (z : Nat) (P : List UInt8) : zP (z + 1) P = 48 :: zP z P := by
  unfold zP; rw [List.replicate_succ]; rfl
theorem zP_ok {P : List UInt8} (h : digs P = true) : ∀ z : Nat, digs (zP z P) = true ∧ dval (zP z P) = dval P ∧ (zP z P).length = z + P.length
  | 0 => ⟨h, rfl, by simp [zP]⟩
  | z + 1 => by
    obtain ⟨h1, h2, h3⟩ := zP_ok h z
    rw [zP_succ, dval_zero]
    refine ⟨?_, h2, by rw [List.length_cons, h3]; omega⟩
    have := digs_all h1
    unfold digs
    simp only [List.isEmpty_cons, List.all_cons, this, Bool.not_false, Bool.and_true, Bool.true_and]
    decide
theorem pt_parts (ng : Bool) {W P : List UInt8} (hW : digs W = true) (hP : digs P = true) : tC (W ++ 46 :: P) = 0 ∧ tQ ng (W ++ 46 :: P) = mk ng (dval (W ++ P)) (10 ^ P.length) := by
  have hz : W.length ≠ 0 := fun e => (digs_iff.1 hW).1 (List.length_eq_zero_iff.1 e)
  have hlt : W.length < (W ++ 46 :: P).length := by simp
  have hg : (W ++ 46 :: P)[W.length]? = some 46 := by simp
  have ht : (W ++ 46 :: P).take W.length = W := by simp
  have hdr : (W ++ 46 :: P).drop (W.length + 1) = P := by simp
  have e : ldig (W ++ 46 :: P) = W.length := ldig_stop (Nat.le_of_lt hlt) (by rw [ht]; exact digs_all hW) (Or.inr ⟨46, hg, by decide⟩)
  have h46 : (W ++ 46 :: P).getD W.length 0 = 46 := by rw [List.getD_eq_getElem?_getD, hg]; rfl
  obtain ⟨f1, f2⟩ := tC_f e hz hlt h46 (by rw [hdr]; exact hP) ng
  rw [hdr, ht] at f2
  exact ⟨f1, f2⟩
theorem qt_parts (ng : Bool) {W P : List UInt8} (hW : digs W = true) (hP : digs P = true) : tC (W ++ 47 :: P) = (if dval P = 0 then 20 else 0) ∧ tQ ng (W ++ 47 :: P) = mk ng (dval W) (dval P) := by
  have hz : W.length ≠ 0 := fun e => (digs_iff.1 hW).1 (List.length_eq_zero_iff.1 e)
  have hlt : W.length < (W ++ 47 :: P).length := by simp
  have hg : (W ++ 47 :: P)[W.length]? = some 47 := by simp
  have ht : (W ++ 47 :: P).take W.length = W := by simp
  have hdr : (W ++ 47 :: P).drop (W.length + 1) = P := by simp
  have e : ldig (W ++ 47 :: P) = W.length := ldig_stop (Nat.le_of_lt hlt) (by rw [ht]; exact digs_all hW) (Or.inr ⟨47, hg, by decide⟩)
  have h47 : (W ++ 47 :: P).getD W.length 0 = 47 := by rw [List.getD_eq_getElem?_getD, hg]; rfl
  obtain ⟨f1, f2⟩ := tC_e e hz hlt h47 (by rw [hdr]; exact hP) ng
  rw [hdr] at f1 f2
  rw [ht] at f2
  exact ⟨f1, f2⟩
theorem fpN_dig {W : List UInt8} (hW : digs W = true) (r : List UInt8) : fpN (W ++ r) = false := by
  have h2 := digs_all hW
  have h3 := (digs_iff.1 hW).1
  unfold fpN
  rcases hA : W with _ | ⟨c, l⟩
  · exact absurd hA h3
  · rw [hA] at h2
    simp only [List.all_cons, Bool.and_eq_true] at h2
    refine decide_eq_false fun e => ?_
    simp at e
    rw [e] at h2
    exact absurd h2.1 (by decide)
/-- a text with its sign -/
theorem fp_txt (ng : Bool) {L : List UInt8} (hl : L.length ≤ 100) (hn : fpN L = false) : fpC ((if ng then [45] else []) ++ L) = tC L ∧ fpQ ((if ng then [45] else []) ++ L) = tQ ng L := by
  cases ng
  · have e : ((if false = true then [45] else []) ++ L : List UInt8) = L := rfl
    rw [e]
    unfold fpC fpQ fpS
    rw [hn, if_neg (by omega)]
    exact ⟨rfl, rfl⟩
  · have e : ((if true = true then [45] else []) ++ L : List UInt8) = 45 :: L := rfl
    rw [e]
    have h1 : fpN (45 :: L) = true := rfl
    unfold fpC fpQ fpS
    rw [h1, if_neg (by rw [List.length_cons]; omega)]
    exact ⟨rfl, rfl⟩
theorem and3 (x : Int) : 0 ≤ bitsI .and .u8 x 3 ∧ bitsI .and .u8 x 3 ≤ 3 := by
  have h : (BitVec.ofInt 8 x &&& BitVec.ofInt 8 3).toNat ≤ 3 := by
    rw [BitVec.toNat_and]
    exact Nat.and_le_right
  have e : bitsI .and .u8 x 3 = IntKind.u8.wrap (BitVec.ofInt 8 x &&& BitVec.ofInt 8 3).toNat := rfl
  rw [e, wrap_in (by simp only [inR, lo, hi]; omega)]
  omega
theorem dec_sum (p w : Int) (S : Nat) (hS : S ≠ 0) : Rat.divInt p (S : Int) + Rat.divInt w 1 = mk false (w * S + p) (S : Int) := by
  have e1 : Rat.divInt p (S : Int) = mkRat p S := Rat.divInt_ofNat p S
  have e2 : Rat.divInt w 1 = mkRat w 1 := Rat.divInt_ofNat w 1
  rw [e1, e2, Rat.mkRat_add_mkRat _ _ hS (by decide)]
  unfold mk
  rw [show ((S : Int)).toNat = S from rfl, Nat.mul_one]
  congr 1
  simp only [sg, Bool.false_eq_true, if_false]
  omega
@[go_sem] def lDecS : Spec := ⟨[.bool, .int .u32, .int .u32, .int .u8], fun d => (.dat .bool true, [])⟩
theorem lDec_ok : SpecOk Try.prog 5 lDecS := by
  refine fn_ok E8_ok lDecS Try.func5 rfl (by decide) (N := 155) rfl (res := [.tmp 8]) rfl (by decide) [] [] [] 100 (by kernel_rfl) ?_
  rintro ⟨ng, (wh:Int), (pt:Int), (z:Int), _⟩ hw hp
  refine ⟨rfl, fun H hH => ?_⟩
  dsimp only [go_sem] at hw hp ⊢
  simp only [inR, lo, hi] at hw
  obtain ⟨-, hw1, hw2, hw3, -⟩ := hw
  have n1 := N_dg hw1.1
  have n2 := N_dg hw2.1
  have l1 := dg_small hw1.1 (by omega)
  have l2 := dg_small hw2.1 (by omega)
  obtain ⟨W1, W2⟩ := decT_ok hw1.1
  obtain ⟨P1, P2⟩ := decT_ok hw2.1
  have W3 := decT_len10 (k := 10) hw1.1 (by have : p10 10 = 10000000000 := by decide
                                            omega) (by decide)
  have P3 := decT_len10 (k := 10) hw2.1 (by have : p10 10 = 10000000000 := by decide
                                            omega) (by decide)
  obtain ⟨z1, z2⟩ := and3 z
  rw [n1, n2]
  generalize decT wh = W at *
  generalize decT pt = P at *
  refine ⟨by simp only [inR, lo, hi]; omega, by omega, by simp only [inR, lo, hi]; omega, by omega, ?_⟩
  refine hH.loop (fun i : Nat => ⟨[(0, .dat .bool ng), (1, .dat (.int .u32) wh), (2, .dat (.int .u32) pt), (3, .dat (.int .u8) z), (9, .dat .str W), (10, .dat .str (zP i P)), (11, .dat (.int .i64) (1 : Int)), (12, .dat (.int .u8) (i : Int))], [], 0⟩) (fun i => (i : Int) ≤ bitsI .and .u8 z 3) (fun i => 3 - i) 0 0 z1 ?_ ?_
  · dsimp only [go_sem]
    simp [zP]
  · intro i hI R hm
    have hI : (i : Int) ≤ bitsI .and .u8 z 3 := hI
    obtain ⟨Z1, Z2, Z3⟩ := zP_ok P1 i
    refine hH.run 100 _ _ ?_
    dsimp only [go_sem]
    refine ⟨fun c => ?_, fun c => ?_⟩ <;> simp only [decide_eq_true_eq, decide_eq_false_iff_not] at c
    · refine ⟨by simp only [List.length_cons, List.length_nil]; omega, by simp only [inR, lo, hi]; omega, hm _ (i + 1) 0 (by omega) (by omega) ?_⟩
      dsimp only [go_sem]
      simp [zP_succ]
    · rw [P2] at Z2
      generalize zP i P = Q at *
      have Z3 : Q.length ≤ 13 := by omega
      refine hH.loop (fun k : Nat => ⟨[(0, .dat .bool ng), (1, .dat (.int .u32) wh), (2, .dat (.int .u32) pt), (9, .dat .str W), (10, .dat .str Q), (11, .dat (.int .i64) ((10 ^ k : Nat) : Int)), (13, .dat (.int .i64) (k : Int))], [], 0⟩) (fun k => k ≤ Q.length) (fun k => Q.length - k) 0 0 (Nat.zero_le _) ?_ ?_
      · dsimp only [go_sem]
        simp
      · intro k hk R hm
        have hk : k ≤ Q.length := hk
        refine hH.run 100 _ _ ?_
        dsimp only [go_sem]
        refine ⟨fun c => ?_, fun c => ?_⟩ <;> simp only [decide_eq_true_eq, decide_eq_false_iff_not] at c
        · have hp := Nat.pow_le_pow_right (show 0 < 10 by decide) (show k + 1 ≤ 13 by omega)
          have e := Nat.pow_succ 10 k
          refine ⟨by simp only [inR, lo, hi]; omega, by simp only [inR, lo, hi]; omega, hm _ (k + 1) 0 (by omega) (by omega) ?_⟩
          dsimp only [go_sem]
          simp [Int.pow_succ]
        · obtain rfl : k = Q.length := by omega
          have hS := Nat.pow_le_pow_right (show 0 < 10 by decide) Z3
          have hS0 := Nat.pow_pos (n := Q.length) (show 0 < 10 by decide)
          have eS : ((10 ^ Q.length : Nat) : Int) = p10 Q.length := by rw [← p10_eq]; simp
          have hT := dec_sum pt wh (10 ^ Q.length) (by omega)
          obtain ⟨a1, a2⟩ := pt_parts false W1 Z1
          obtain ⟨a3, a4⟩ := pt_parts true W1 Z1
          obtain ⟨b1, b2⟩ := qt_parts false W1 Z1
          obtain ⟨b3, b4⟩ := qt_parts true W1 Z1
          rw [dval_app, W2, Z2, p10_eq, ← eS] at a2 a4
          rw [W2, Z2] at b2 b4
          rw [Z2] at b1 b3
          rw [← hT] at a2
          rw [show mk true (wh * ((10 ^ Q.length : Nat) : Int) + pt) ((10 ^ Q.length : Nat) : Int) = -mk false (wh * ((10 ^ Q.length : Nat) : Int) + pt) ((10 ^ Q.length : Nat) : Int) from (mk_neg false _ _).symm, ← hT] at a4
          have L1 : (W ++ 46 :: Q).length ≤ 100 := by rw [List.length_append, List.length_cons]; omega
          have L2 : (W ++ 47 :: Q).length ≤ 100 := by rw [List.length_append, List.length_cons]; omega
          obtain ⟨c1, c2⟩ := fp_txt false L1 (fpN_dig W1 _)
          obtain ⟨c3, c4⟩ := fp_txt true L1 (fpN_dig W1 _)
          obtain ⟨d1, d2⟩ := fp_txt false L2 (fpN_dig W1 _)
          obtain ⟨d3, d4⟩ := fp_txt true L2 (fpN_dig W1 _)
          rw [a1] at c1
          rw [a2] at c2
          rw [a3] at c3
          rw [a4] at c4
          rw [b1] at d1
          rw [b2] at d2
          rw [b3] at d3
          rw [b4] at d4
          have e1 : W ++ [46] ++ Q = W ++ 46 :: Q := by simp
          have e2 : W ++ [47] ++ Q = W ++ 47 :: Q := by simp
          have c1 : fpC (W ++ 46 :: Q) = 0 := c1
          have c2 : fpQ (W ++ 46 :: Q) = Rat.divInt pt ((10 ^ Q.length : Nat) : Int) + Rat.divInt wh 1 := c2
          have c3 : fpC (45 :: (W ++ 46 :: Q)) = 0 := c3
          have c4 : fpQ (45 :: (W ++ 46 :: Q)) = -(Rat.divInt pt ((10 ^ Q.length : Nat) : Int) + Rat.divInt wh 1) := c4
          have d1 : fpC (W ++ 47 :: Q) = if pt = 0 then 20 else 0 := d1
          have d2 : fpQ (W ++ 47 :: Q) = mk false wh pt := d2
          have d3 : fpC (45 :: (W ++ 47 :: Q)) = if pt = 0 then 20 else 0 := d3
          have d4 : fpQ (45 :: (W ++ 47 :: Q)) = mk true wh pt := d4
          have s0 : (((10 ^ Q.length : Nat) : Int) = 0) = False := eq_false (by omega)
          have s1 : ((1 : Int) = 0) = False := eq_false (by decide)
          have dv : ∀ n d : Int, 0 ≤ d → Rat.divInt n d = mk false n d := by
            intro n d h
            obtain ⟨m, rfl⟩ := Int.eq_ofNat_of_zero_le h
            rw [Rat.divInt_ofNat]
            rfl
          have hB : Bp 2 = 18446744073709551616 := by decide
          have z1 : qs (Rat.divInt pt ((10 ^ Q.length : Nat) : Int)) ≤ 2 := by
            rw [dv _ _ (by omega)]
            exact qs_le (mk_b hw2.1 (by omega) (by omega) (by decide))
          have z2 : qs (Rat.divInt wh 1) ≤ 2 := by
            rw [dv _ _ (by omega)]
            exact qs_le (mk_b hw1.1 (by omega) (by omega) (by decide))
          have z3 : qs (Rat.divInt wh pt) ≤ 2 := by
            rw [dv _ _ hw2.1]
            exact qs_le (mk_b hw1.1 (by omega) (by omega) (by decide))
          have z4 := qs_add (Rat.divInt pt ((10 ^ Q.length : Nat) : Int)) (Rat.divInt wh 1)
          have g1 : Rat.divInt wh pt = mk false wh pt := dv _ _ hw2.1
          have g2 : -Rat.divInt wh pt = mk true wh pt := by rw [g1, mk_neg]; rfl
          rw [← g1] at d2
          rw [← g2] at d4
          generalize Rat.divInt pt ((10 ^ Q.length : Nat) : Int) = A at *
          generalize Rat.divInt wh 1 = B at *
          generalize Rat.divInt wh pt = C at *
          have q1 : inR .i64 pt := by simp only [inR, lo, hi]; omega
          have q2 : inR .i64 wh := by simp only [inR, lo, hi]; omega
          have t1 : qs A ≤ 5000000 := by omega
          have t2 : qs B ≤ 5000000 := by omega
          have t3 : qs (A + B) ≤ 5000000 := by omega
          have t4 : qs C ≤ 5000000 := by omega
          have q0 : inR .i64 0 := by decide
          have o1 : W.length ≤ 9223372036854775807 := by omega
          have o2 : W.length + 1 ≤ 9223372036854775807 := by omega
          have o3 : W.length + 1 + 1 ≤ 9223372036854775807 := by omega
          have o4 : W.length + 1 + Q.length ≤ 9223372036854775807 := by omega
          have o5 : W.length + 1 + 1 + Q.length ≤ 9223372036854775807 := by omega
          have o6 : 1 + W.length ≤ 9223372036854775807 := by omega
          by_cases hz : pt = 0 <;> cases ng
          all_goals simp only [e1, e2, c1, c2, c3, c4, d1, d2, d3, d4, s0, s1, q0, q1, q2, t1, t2, t3, t4, hz, if_true, if_false, fq_qf, fs_qf, decide_true, Bool.and_true, Bool.true_and, Bool.and_self, and_self, true_and, and_true, imp_self, implies_true, List.length_cons, List.length_nil, List.length_append, reduceCtorEq, false_implies, true_implies, Nat.zero_add, o1, o2, o3, o4, o5, o6]
          · exact ⟨by decide, q2⟩
          · exact ⟨by decide, q2⟩
          · exact ⟨q1, q2, fun h => by simp at h, fun _ => ⟨q2, q1⟩⟩
          · exact ⟨q1, q2, fun h => by simp at h, fun _ => ⟨q2, q1⟩⟩
end Go.Proofs.Ytpplleoiehnlkaa.Gx
