/-
  Contracts of credenceref1.size, frac, FracNorm, FracNeg, FracNew and FracSame.
-/
import Derived.Test.YthcbjhmdpehooaaGreatMRefH
import Derived.Test.YthcbjhmdpehooaaGreatMQMul
namespace Go.Proofs.YthcbjhmdpehooaaGreat.Nt
open Go.ChangeShapes Go.WideShapes Go.ChangeAt Go.RowKit B
set_option linter.unusedVariables false
theorem rSize (n : Int) (w : World) (h0 : -9223372036854775808 ≤ n) (h1 : n ≤ 9223372036854775807) :
    Calls Tryz.prog 67 #[.int .i64 n] w (Ret1 w.heap.size w (n.natAbs : Int)) := by
 by_cases hn : n < 0
 ·have HE := Lib.hid (show -(n + 1) + 1 = (n.natAbs : Int) by omega)
  go_enter Tryz.func67, Tryz.ntmps67
  go_wp2_with fail
  refine (rOf (-(n + 1) + 1) w (by omega) (by omega)).mono ?_
  rintro e w1 ⟨v, rfl, h, hb⟩
  rw [HE.out] at h
  go_wp2_with fail
  go_ret
  exact ⟨v, rfl, h, hb⟩
 ·have HE := Lib.hid (show n = (n.natAbs : Int) by omega)
  go_enter Tryz.func67, Tryz.ntmps67
  go_wp2_with fail
  refine (rOf n w (by omega) (by omega)).mono ?_
  rintro e w1 ⟨v, rfl, h, hb⟩
  rw [HE.out] at h
  go_wp2_with fail
  go_ret
  exact ⟨v, rfl, by rw [← HE.out] at h ⊢; exact h, hb⟩
theorem gcd_zero_parts {n d : Int} (hn : 0 ≤ n) (hd : 0 ≤ d) (h : n = 0 ∨ d = 0) : gcdI n d = 0 ∨ (gcdI n d ≠ 0 ∧ (n / gcdI n d = 0 ∨ d / gcdI n d = 0)) := by
 by_cases hg : gcdI n d = 0
 ·exact .inl hg
 ·refine .inr ⟨hg, ?_⟩
  rcases h with rfl | rfl
  ·left; rw [Int.zero_ediv]
  ·right; rw [Int.zero_ediv]
theorem gcdI_le2 {n d : Int} {c : Nat} (hn : 0 ≤ n) (hd : 0 ≤ d) (h1 : n < Bp c) (h2 : d < Bp c) : gcdI n d < Bp c := by
 obtain ⟨a, rfl⟩ := Int.eq_ofNat_of_zero_le hn
 obtain ⟨b, rfl⟩ := Int.eq_ofNat_of_zero_le hd
 rw [gcdI_nat]
 rcases Nat.eq_zero_or_pos a with h | h
 ·subst h; simp; exact h2
 ·have := Nat.gcd_le_left b h; omega
set_option maxHeartbeats 2000000 in
theorem rFrac (neg : Bool) (vn vd : Value) (c : Nat) (n d : Int) (w : World) (hn : Num w vn c n) (hd : Num w vd c d) (hc : c ≤ 16777216) :
    Calls Tryz.prog 66 #[.bool neg, vn, vd] w (RetQ w.heap.size w (mk neg n d)) := by
 obtain ⟨hR, hW, hS⟩ := pro1 w (.bool false) (.slice none 0 0) (.slice none 0 0) 38
 have HNN := Lib.hid (And.intro hn.nonneg hd.nonneg)
 have HLT := Lib.hid (And.intro hn.lt hd.lt)
 have HN := Lib.hid (hn.keep hW)
 have HD := Lib.hid (hd.keep hW)
 generalize hWe : w.alloc (.cells #[.bool false, .slice none 0 0, .slice none 0 0] 38 (0, 0)) = W at *
 have HWE := Lib.hid hWe
 have HWS := Lib.hid hS
 have HR := Lib.hid hR
 have HG := Lib.hid (gcdI_le2 HNN.out.1 HNN.out.2 HLT.out.1 HLT.out.2)
 obtain ⟨ok, hok⟩ : ∃ b, decide (gcdI n d ≠ 0) = b := ⟨_, rfl⟩
 have HOK := Lib.hid hok
 clear hn hd hWe hS hR hok
 go_enter Tryz.func66, Tryz.ntmps66
 go_wp2_with fail
 rw [HWE.out]
 refine (rGCD _ _ c n d W HN.out HD.out hc).mono ?_
 rintro e w1 ⟨v1, rfl, h1, hb1⟩
 have H1 := Lib.hid h1
 clear h1
 go_wp2_with fail
 refine (rDivMod _ _ c n (gcdI n d) w1 (HN.out.keep hb1) (H1.out.num c HG.out) hc).mono ?_
 rintro e w2 ⟨v2, x2, rfl, h2, g2, hb2⟩
 rw [HOK.out]
 have H2 := Lib.hid h2
 clear h2 g2
 go_wp2_with fail
 refine (rDivMod _ _ c d (gcdI n d) w2 ((HD.out.keep hb1).keep hb2) ((H1.out.keep hb2).num c HG.out) hc).mono ?_
 rintro e w3 ⟨v3, x3, rfl, h3, g3, hb3⟩
 rw [HOK.out]
 have H3 := Lib.hid h3
 have H2 := Lib.hid (H2.out.keep hb3)
 clear h3 g3
 have HB3 := Lib.hid ((hb1.trans (hb2.mono hb1.size)).trans (hb3.mono (Nat.le_trans hb1.size hb2.size)))
 have HS2 := Lib.hid (show w.heap.size + 1 ≤ w1.heap.size ∧ w.heap.size + 1 ≤ w2.heap.size ∧ w.heap.size + 1 ≤ w3.heap.size by
  have e1 := hb1.size; have e2 := hb2.size; have e3 := hb3.size; rw [HWS.out] at e1; omega)
 by_cases h0 : n = 0 ∨ d = 0
 ·have HQ := Lib.hid (mk_zero (neg := neg) h0)
  have hcs := gcd_zero_parts HNN.out.1 HNN.out.2 h0
  clear h0
  obtain ⟨a2, n2, p2, rfl⟩ := H2.out.form
  obtain ⟨a3, n3, p3, rfl⟩ := H3.out.form
  have hcs2 : ok = false ∨ (ok = true ∧ ((n2 : Int) == 0) = true) ∨ (ok = true ∧ ((n2 : Int) == 0) = false ∧ ((n3 : Int) == 0) = true) := by
   rcases hcs with h | ⟨h, h'⟩
   ·left; rw [← HOK.out]; simpa using h
   ·right
    have e0 : ok = true := by rw [← HOK.out]; simpa using h
    by_cases hz : n2 = 0
    ·left; exact ⟨e0, by rw [hz]; rfl⟩
    ·right
     refine ⟨e0, by rw [beq_eq_false_iff_ne]; omega, ?_⟩
     rcases h' with h1 | h1
     ·obtain ⟨_, _, e⟩ := IsNew.zero H2.out h1
      cases e; exact absurd rfl hz
     ·obtain ⟨_, _, e⟩ := IsNew.zero H3.out h1
      cases e; rfl
  clear hcs HOK
  rcases hcs2 with h | ⟨h, h'⟩ | ⟨h, h', h''⟩
  all_goals
   subst h
   go_wp2_with fail
   refine (rOf 1 w3 (by decide) (by decide)).mono ?_
   rintro e w4 ⟨v4, rfl, h4, hb4⟩
   obtain ⟨a4, n4, p4, rfl⟩ := h4.form
   have H4 := Lib.hid (h4.mono (base' := w.heap.size + 1) HS2.out.2.2)
   have HBW := Lib.hid (HB3.out.trans (hb4.mono HB3.out.size))
   obtain ⟨⟨rc0, rc1, rc2⟩, rf0, rf1, rf2⟩ := HR.out.keep HBW.out
   clear h4
   go_wp2_with fail
   have hbw := hW.trans (HBW.out.mono (by have := HWS.out; omega))
   refine bodyPost_ret (v := .agg #[.bool false, .slice none 0 0, .slice a4 n4 p4]) (by simp [results, Tryz.results66, go_sem, rc0, rc1, rc2]) rfl ?_
   rw [HQ.out]
   exact fin_q (base := w.heap.size + 1) ⟨.slice none 0 0, .slice a4 n4 p4, rfl, IsNew.nil _ _, H4.out⟩ (by omega) hbw (by omega)
 ·have hn0 : 0 < n := by have := HNN.out.1; omega
  have hd0 : 0 < d := by have := HNN.out.2; omega
  have HP := Lib.hid (mk_parts (neg := neg) hn0 hd0)
  have HNE := Lib.hid (show gcdI n d ≠ 0 by have := HP.out.2.2.1; omega)
  obtain ⟨a2, n2, p2, rfl, hn2, _, _⟩ := IsNew.lenPos H2.out (by have := HP.out.2.2.2.1; omega)
  obtain ⟨a3, n3, p3, rfl, hn3, _, _⟩ := IsNew.lenPos H3.out (by have := HP.out.2.2.2.2; omega)
  have k2 : ((n2 : Int) == 0) = false := by rw [beq_eq_false_iff_ne]; omega
  have k3 : ((n3 : Int) == 0) = false := by rw [beq_eq_false_iff_ne]; omega
  have hok : ok = true := by rw [← HOK.out]; exact decide_eq_true HNE.out
  clear HOK
  subst hok
  obtain ⟨⟨rc0, rc1, rc2⟩, rf0, rf1, rf2⟩ := HR.out.keep HB3.out
  clear h0
  go_wp2_with fail
  have hbw := hW.trans (HB3.out.mono (by have := HWS.out; omega))
  refine bodyPost_ret (v := .agg #[.bool neg, .slice a2 n2 p2, .slice a3 n3 p3]) (by simp [results, Tryz.results66, go_sem, rc0, rc1, rc2]) rfl ?_
  refine fin_q (base := w.heap.size + 1) ⟨.slice a2 n2 p2, .slice a3 n3 p3, ?_, ?_, ?_⟩ (by omega) hbw (by omega)
  ·rw [HP.out.1, sg_neg HP.out.2.2.2.1]
  ·rw [HP.out.1, sg_abs (Int.le_of_lt HP.out.2.2.2.1)]; exact H2.out.mono HS2.out.1
  ·rw [HP.out.2.1]; exact H3.out.mono HS2.out.2.1
set_option maxHeartbeats 1000000 in
theorem rFNew0 (n : Int) (w : World) : Calls Tryz.prog 48 #[.int .i64 n, .int .i64 0] w (ErrQ w 20) := by
 obtain ⟨hR, hW, hS⟩ := pro1 w (.bool false) (.slice none 0 0) (.slice none 0 0) 38
 have HW := Lib.hid hW
 clear hR hW hS
 go_enter Tryz.func48, Tryz.ntmps48
 go_wp2_with fail
 refine bodyPost_ret (v := .tuple #[.agg #[.bool false, .slice none 0 0, .slice none 0 0], .int .i64 20]) (by simp [results, Tryz.results48, go_sem]) rfl ?_
 exact ⟨rfl, HW.out⟩
set_option maxHeartbeats 1000000 in
theorem rFNew (n d : Int) (w : World) (h0 : -9223372036854775808 ≤ n) (h1 : n ≤ 9223372036854775807) (h2 : -9223372036854775808 ≤ d) (h3 : d ≤ 9223372036854775807) (hd : d ≠ 0) :
    Calls Tryz.prog 48 #[.int .i64 n, .int .i64 d] w (RetQE w.heap.size w (Rat.divInt n d) 0) := by
 obtain ⟨hR, hW, hS⟩ := pro1 w (.bool false) (.slice none 0 0) (.slice none 0 0) 38
 have HQ := Lib.hid (mk_new (n := n) hd)
 have HB1 := Lib.hid (And.intro (abs_b h0 h1) (abs_b h2 h3))
 have hz : (d == 0) = false := by rw [beq_eq_false_iff_ne]; exact hd
 generalize hWe : w.alloc (.cells #[.bool false, .slice none 0 0, .slice none 0 0] 38 (0, 0)) = W at *
 have HWE := Lib.hid hWe
 have HWS := Lib.hid hS
 have HR := Lib.hid hR
 obtain ⟨bn, hbn⟩ : ∃ b, decide (n < 0) = b := ⟨_, rfl⟩
 obtain ⟨bd, hbd⟩ : ∃ b, decide (d < 0) = b := ⟨_, rfl⟩
 rw [hbn, hbd] at HQ
 clear hWe hS hR hd
 go_enter Tryz.func48, Tryz.ntmps48
 go_wp2_with fail
 rw [HWE.out]
 clear hz
 refine (rSize n W h0 h1).mono ?_
 rintro e w1 ⟨v1, rfl, g1, hb1⟩
 have H1 := Lib.hid g1
 clear g1
 go_wp2_with fail
 refine (rSize d w1 h2 h3).mono ?_
 rintro e w2 ⟨v2, rfl, g2, hb2⟩
 have H2 := Lib.hid g2
 clear g2
 go_wp2_with fail
 refine (rFrac _ v1 v2 2 (n.natAbs : Int) (d.natAbs : Int) w2 ((H1.out.keep hb2).num 2 HB1.out.1) (H2.out.num 2 HB1.out.2) (by omega)).mono ?_
 rintro e w3 ⟨v3, rfl, h, hb3⟩
 rw [HQ.out] at h
 obtain ⟨qb, qa, qn, qc, ra, rn, rc, rfl⟩ := h.form
 have HI := Lib.hid h
 have HBW := Lib.hid ((hb1.trans (hb2.mono hb1.size)).trans (hb3.mono (Nat.le_trans hb1.size hb2.size)))
 have HBS := Lib.hid (show w.heap.size + 1 ≤ w2.heap.size by have e1 := hb1.size; have e2 := hb2.size; rw [HWS.out] at e1; omega)
 obtain ⟨⟨rc0, rc1, rc2⟩, rf0, rf1, rf2⟩ := HR.out.keep HBW.out
 clear h
 go_wp2_with fail
 have hbw := hW.trans (HBW.out.mono (by have := HWS.out; omega))
 refine bodyPost_ret (v := .tuple #[.agg #[.bool qb, .slice qa qn qc, .slice ra rn rc], .int .i64 0]) (by simp [results, Tryz.results48, go_sem, rc0, rc1, rc2]) rfl ?_
 exact fin_qe (base := w.heap.size + 1) (HI.out.mono HBS.out) (by omega) hbw (by omega)
def FRow (w : World) (v : Value) (neg : Bool) (ln ld : List Int) : Prop := ∃ vn vd, v = .agg #[.bool neg, vn, vd] ∧ Row .u32 w vn ln ∧ Row .u32 w vd ld
set_option maxHeartbeats 1000000 in
theorem rFSameR (va vb : Value) (p q : Bool) (la ma lb mb : List Int) (w : World) (ha : FRow w va p la ma) (hb : FRow w vb q lb mb) :
    Calls Tryz.prog 26 #[va, vb] w fun e w' => e = .returned (.bool (decide (p = q ∧ la = lb ∧ ma = mb))) ∧ Below w.heap.size w w' := by
 obtain ⟨vna, vda, rfl, hna, hda⟩ := ha
 obtain ⟨vnb, vdb, rfl, hnb, hdb⟩ := hb
 obtain ⟨ana, pna, rfl, _⟩ := Row.parts hna
 obtain ⟨ada, pda, rfl, _⟩ := Row.parts hda
 obtain ⟨anb, pnb, rfl, _⟩ := Row.parts hnb
 obtain ⟨adb, pdb, rfl, _⟩ := Row.parts hdb
 obtain ⟨hA, hB, hW, hS⟩ := pro2 w (.bool p) (.slice ana la.length pna) (.slice ada ma.length pda) (.bool q) (.slice anb lb.length pnb) (.slice adb mb.length pdb) 38 38
 have HNA := Lib.hid (hna.keep hW)
 have HDA := Lib.hid (hda.keep hW)
 have HNB := Lib.hid (hnb.keep hW)
 have HDB := Lib.hid (hdb.keep hW)
 generalize hWe : (w.alloc (.cells #[.bool p, .slice ana la.length pna, .slice ada ma.length pda] 38 (0, 0))).alloc (.cells #[.bool q, .slice anb lb.length pnb, .slice adb mb.length pdb] 38 (0, 0)) = W at *
 have HWE := Lib.hid hWe
 have HWS := Lib.hid hS
 have HA := Lib.hid hA
 have HB := Lib.hid hB
 clear hna hda hnb hdb hWe hS hA hB
 by_cases hpq : p = q
 ·subst hpq
  go_enter Tryz.func26, Tryz.ntmps26
  go_wp2_with fail
  rw [HWE.out]
  refine (natSame _ _ la lb W HNA.out HNB.out).mono ?_
  rintro e w1 ⟨rfl, hb1⟩
  obtain ⟨⟨a0, a1, a2⟩, _, _, _⟩ := HA.out.keep hb1
  obtain ⟨⟨b0, b1, b2⟩, _, _, _⟩ := HB.out.keep hb1
  have hbw1 := hW.trans (hb1.mono (by have := HWS.out; omega))
  by_cases hl : la = lb
  ·have HL := Lib.hid hl
   rw [decide_eq_true hl]
   clear hl
   go_wp2_with fail
   refine (natSame _ _ ma mb w1 (HDA.out.keep hb1) (HDB.out.keep hb1)).mono ?_
   rintro e w2 ⟨rfl, hb2⟩
   have HD := Lib.hid (show decide (p = p ∧ la = lb ∧ ma = mb) = decide (ma = mb) by simp [HL.out])
   generalize decide (ma = mb) = z at *
   go_wp2_with fail
   go_ret
   exact ⟨by rw [HD.out]; rfl, hbw1.trans (hb2.mono hbw1.size)⟩
  ·have HD := Lib.hid (show decide (p = p ∧ la = lb ∧ ma = mb) = false by simp [hl])
   rw [decide_eq_false hl]
   clear hl
   go_wp2_with fail
   go_ret
   exact ⟨by rw [HD.out]; rfl, hbw1⟩
 ·have HD := Lib.hid (show decide (p = q ∧ la = lb ∧ ma = mb) = false by simp [hpq])
  have hbe : (p == q) = false := by rw [beq_eq_false_iff_ne]; exact hpq
  clear hpq
  go_enter Tryz.func26, Tryz.ntmps26
  go_wp2_with fail
  rw [HWE.out]
  go_ret
  exact ⟨by rw [HD.out]; rfl, hW⟩
end Go.Proofs.YthcbjhmdpehooaaGreat.Nt
