/-
  Contract of rational.New.
-/
import Derived.Test.YtpplleoiehnlkaaQDiv
namespace Go.Proofs.Ytpplleoiehnlkaa.Nt
open Go.ChangeShapes Go.WideShapes Go.ChangeAt Go.RowKit B
set_option linter.unusedVariables false

theorem mk_new {n d : Int} (hd : d ≠ 0) : mk (!(decide (n < 0) == decide (d < 0))) (n.natAbs : Int) (d.natAbs : Int) = Rat.divInt n d := by
  unfold mk
  rw [Int.toNat_natCast]
  rcases Int.lt_or_gt_of_ne hd with h | h
  · obtain ⟨k, rfl⟩ : ∃ k : Nat, d = -(k : Int) := ⟨d.natAbs, by omega⟩
    rw [Rat.divInt_neg', Rat.divInt_ofNat, Int.natAbs_neg, Int.natAbs_natCast]
    congr 1
    rw [decide_eq_true h]
    by_cases hn : n < 0
    · rw [decide_eq_true hn]; simp [sg]; omega
    · rw [decide_eq_false hn]; simp [sg]; omega
  · obtain ⟨k, rfl⟩ : ∃ k : Nat, d = (k : Int) := ⟨d.natAbs, by omega⟩
    rw [Rat.divInt_ofNat, Int.natAbs_natCast]
    congr 1
    rw [decide_eq_false (show ¬ ((k : Int) < 0) by omega)]
    by_cases hn : n < 0
    · rw [decide_eq_true hn]; simp [sg]; omega
    · rw [decide_eq_false hn]; simp [sg]; omega
theorem abs_b {n : Int} (h0 : -9223372036854775808 ≤ n) (h1 : n ≤ 9223372036854775807) : (n.natAbs : Int) < Bp 2 := bp_lit (by omega)
set_option maxHeartbeats 1000000 in
theorem qNew0 (n : Int) (w : World) : Calls Try.prog 11 #[.int .i64 n, .int .i64 0] w (ErrQ w 20) := by
  obtain ⟨hR, hW, hS⟩ := pro1 w (.bool false) (.slice none 0 0) (.slice none 0 0) 25
  have HW := Lib.hid hW
  clear hR hW hS
  go_enter Try.func11, Try.ntmps11
  go_wp2_with fail
  refine bodyPost_ret (v := .tuple #[.agg #[.bool false, .slice none 0 0, .slice none 0 0], .int .i64 20]) (by simp [results, Try.results11, go_sem]) rfl ?_
  exact ⟨rfl, HW.out⟩
set_option maxHeartbeats 1000000 in
theorem qNew (n d : Int) (w : World) (h0 : -9223372036854775808 ≤ n) (h1 : n ≤ 9223372036854775807) (h2 : -9223372036854775808 ≤ d) (h3 : d ≤ 9223372036854775807) (hd : d ≠ 0) :
    Calls Try.prog 11 #[.int .i64 n, .int .i64 d] w (RetQE w.heap.size w (Rat.divInt n d) 0) := by
  obtain ⟨hR, hW, hS⟩ := pro1 w (.bool false) (.slice none 0 0) (.slice none 0 0) 25
  have HQ := Lib.hid (mk_new (n := n) hd)
  have HB1 := Lib.hid (And.intro (abs_b h0 h1) (abs_b h2 h3))
  have hz : (d == 0) = false := by rw [beq_eq_false_iff_ne]; exact hd
  generalize hWe : w.alloc (.cells #[.bool false, .slice none 0 0, .slice none 0 0] 25 (0, 0)) = W at *
  have HWE := Lib.hid hWe
  have HWS := Lib.hid hS
  have HR := Lib.hid hR
  obtain ⟨bn, hbn⟩ : ∃ b, decide (n < 0) = b := ⟨_, rfl⟩
  obtain ⟨bd, hbd⟩ : ∃ b, decide (d < 0) = b := ⟨_, rfl⟩
  rw [hbn, hbd] at HQ
  clear hWe hS hR hd
  go_enter Try.func11, Try.ntmps11
  go_wp2_with fail
  rw [HWE.out]
  clear hz
  refine (qMagnitude n W h0 h1).mono ?_
  rintro e w1 ⟨v1, rfl, g1, hb1⟩
  have H1 := Lib.hid g1
  clear g1
  go_wp2_with fail
  refine (qMagnitude d w1 h2 h3).mono ?_
  rintro e w2 ⟨v2, rfl, g2, hb2⟩
  have H2 := Lib.hid g2
  clear g2
  go_wp2_with fail
  refine (qReduce _ v1 v2 2 (n.natAbs : Int) (d.natAbs : Int) w2 ((H1.out.keep hb2).num 2 HB1.out.1) (H2.out.num 2 HB1.out.2) (by omega)).mono ?_
  rintro e w3 ⟨v3, rfl, h, hb3⟩
  rw [HQ.out] at h
  obtain ⟨qb, qa, qn, qc, ra, rn, rc, rfl⟩ := h.form
  have HI := Lib.hid h
  have HBW := Lib.hid ((hb1.trans (hb2.mono hb1.size)).trans (hb3.mono (Nat.le_trans hb1.size hb2.size)))
  have HBS := Lib.hid (show w.heap.size + 1 ≤ w2.heap.size by have e1 := hb1.size; have e2 := hb2.size; rw [HWS.out] at e1; omega)
  obtain ⟨⟨rc0, rc1, rc2⟩, rf0, rf1, rf2⟩ := HR.out.keep HBW.out
  clear h
  go_wp2_with fail
  have hbw := hW.trans (HBW.out.mono (by have := HWS.out; omega))
  refine bodyPost_ret (v := .tuple #[.agg #[.bool qb, .slice qa qn qc, .slice ra rn rc], .int .i64 0]) (by simp [results, Try.results11, go_sem, rc0, rc1, rc2]) rfl ?_
  exact fin_qe (base := w.heap.size + 1) (HI.out.mono HBS.out) (by omega) hbw (by omega)

end Go.Proofs.Ytpplleoiehnlkaa.Nt
