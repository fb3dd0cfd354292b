/-
  Contract of credenceref1.NatDivMod.
-/
import Derived.Test.YtpplleoiehnlkaaRefEPlain
namespace Go.Proofs.Ytpplleoiehnlkaa.Nt
open Go.ChangeShapes Go.WideShapes Go.ChangeAt Go.RowKit B
set_option linter.unusedVariables false

theorem IsNew.only {w w' : World} {g base : Nat} {v : Value} {n : Int} (h : IsNew base w v n) (hg : g < base) (ho : Only g w w') : IsNew base w' v n := by
  obtain ⟨l, h1, h2, h3, h4⟩ := h
  refine ⟨l, Fresh.only h4 h1 hg ho, h2, h3, ?_⟩
  rintro b off sp m c rfl
  obtain ⟨q1, cs, q2⟩ := h4 b off sp m c rfl
  refine ⟨q1, cs, ?_⟩
  have : b < w.heap.size := by
    rcases Nat.lt_or_ge b w.heap.size with h | h
    · exact h
    · rw [Array.getElem?_eq_none h] at q2; cases q2
  obtain ⟨_, _, _, _, hh⟩ := ho
  rw [hh b this (by simp; omega)]; exact q2
theorem IsNew.lenPos {base : Nat} {w : World} {v : Value} {n : Int} (h : IsNew base w v n) (e : n ≠ 0) : ∃ a len cap, v = .slice a len cap ∧ 0 < len ∧ len ≤ cap ∧ cap ≤ 9223372036854775807 := by
  obtain ⟨l, h1, h2, h3, h4⟩ := h
  obtain ⟨a, cap, rfl, h5, h6, _⟩ := Row.parts h1
  refine ⟨a, l.length, cap, rfl, ?_, h5, h6⟩
  rcases l with _ | ⟨d, l⟩
  · exact absurd h3.symm e
  · simp

theorem Row.cellAt {w : World} {a : Option Addr} {n cap : Nat} {l : List Int} (h : Row .u32 w (.slice a n cap) l) (i : Nat) (hi : i < n) :
    ∃ b off, a = some ⟨b, off, none⟩ ∧ w.cell? ⟨b, off + i, none⟩ = some (.int .u32 (l[i]?.getD 0)) ∧ (Lit.int .u32 (l[i]?.getD 0)).wf = true := by
  obtain ⟨_, _, e, _, _, hc⟩ := Row.parts h
  cases e
  exact hc i hi
theorem qstep (A : Int) (j : Nat) : A * 2 ^ (j + 1) = 2 * A * 2 ^ j := by rw [Int.pow_succ, Int.mul_comm ((2 : Int) ^ j) 2, ← Int.mul_assoc, Int.mul_comm A 2]
theorem shl1 (s : Nat) (hs : s < 32) : (2 : Int) ^ s % 4294967296 = 2 ^ s := by
  have h := pow_bd hs
  have := two_pos s
  rw [Int.emod_eq_of_lt] <;> omega
set_option maxHeartbeats 2000000 in
theorem rDivMod (va vb : Value) (c : Nat) (x y : Int) (w : World) (ha : Num w va c x) (hb : Num w vb c y) (hc : c ≤ 16777216) :
    Calls Try.prog 78 #[va, vb] w (RetDM w.heap.size w x y) := by
  have HXL := Lib.hid (And.intro ha.lt hb.lt)
  have HA := Lib.hid ha
  have HB := Lib.hid hb
  clear ha hb
  go_enter Try.func78, Try.ntmps78
  go_wp2_with fail
  refine (rNorm va c x w HA.out (by omega)).mono ?_
  rintro e w1 ⟨v1, rfl, ⟨l1, r1, C1, N1, _f1⟩, hb1⟩
  clear _f1
  have HR1 := Lib.hid r1
  have HC1 := Lib.hid (And.intro C1 N1)
  have hn1c : l1.length ≤ c := C1.len c (by rw [N1]; exact HXL.out.1)
  obtain ⟨a1, p1, rfl, g1, m1, _h1⟩ := Row.parts r1
  clear _h1 r1 C1 N1
  go_wp2_with fail
  refine (rNorm vb c y w1 (HB.out.keep hb1) (by omega)).mono ?_
  rintro e w2 ⟨v2, rfl, h2, hb2⟩
  have HY := Lib.hid h2
  clear h2
  have hbw : Below w.heap.size w w2 := hb1.trans (hb2.mono hb1.size)
  by_cases hy : y = 0
  · obtain ⟨a2, p2, rfl⟩ := IsNew.zero HY.out hy
    have HZ := Lib.hid hy
    clear hy
    go_wp2_with fail
    go_ret3
    refine ⟨.slice none 0 0, .slice none 0 0, ?_, ?_, ?_, hbw⟩
    · rw [decide_eq_false (by have := HZ.out; omega)]; rfl
    · rw [HZ.out, Int.ediv_zero]; exact IsNew.nil _ _
    · rw [if_pos HZ.out]; exact IsNew.nil _ _
  · have hy0 : 0 < y := by have := HY.out.nonneg; omega
    obtain ⟨a2, n2, p2, rfl, hn2, _, _⟩ := IsNew.lenPos HY.out hy
    have hd : ((n2 : Int) == 0) = false := by rw [beq_eq_false_iff_ne]; omega
    have hx2 := HR1.out.keep hb2
    have HR2 := Lib.hid hx2
    clear HR1 hx2
    generalize hL1 : l1.length = n1 at *
    have HL1 := Lib.hid hL1
    have HNZ := Lib.hid hy
    clear hL1 hy
    go_wp2_with (at_make; refine make_row rfl (.tmp 20) (.tmp 20) 23 rfl w2.heap.size 37 .u32 4 Try.underlying23 info32 _ n1 rfl rfl rfl (by omega) (by unfold maxLen; omega) (Nat.le_refl _) ?_; intro w3 ho3 hb3)
    have HG := Lib.hid (own_lt ho3).1
    have hws : w.heap.size ≤ w2.heap.size := hbw.size
    have HB2 := Lib.hid hb3
    have hs3 : w2.heap.size < w3.heap.size := (own_lt ho3).1
    have HO3 := Lib.hid ho3
    clear ho3
    generalize hG : w2.heap.size = G at *
    have HGE := Lib.hid hG
    clear hG
    go_wp2_with fail
    go_loopg [10, 11] (32 * n1) (fun gk v i wr => ∃ (k : Nat) (q : List Int), k ≤ 32 * n1 ∧ k ≤ gk ∧ i = .int .i64 ((k : Int) - 1) ∧ Hid (IsNew w3.heap.size wr v (x / 2 ^ k % y)) ∧ Hid (q.length = n1 ∧ Ds q ∧ N q = x / 2 ^ k / y * 2 ^ k) ∧
        Hid (wr.ownsRow G 37 1 (.slice (some ⟨G, 0, none⟩) n1 n1) n1 (q.map (Value.int .u32))) ∧ Hid (Only G w3 wr))
    case atStart =>
      have e0 : x / 2 ^ (32 * n1) = 0 := by
        rw [← Bp_pow, ← HC1.out.2, ← HL1.out]
        exact Int.ediv_eq_zero_of_lt (N_nonneg HC1.out.1.1) (N_lt HC1.out.1.1)
      refine ⟨32 * n1, List.replicate n1 0, Nat.le_refl _, Nat.le_refl _, by first | rfl | (congr 1; omega), ?_, ?_, HO3.out, Only.refl _ _⟩
      · rw [e0, Int.zero_emod]; exact IsNew.nil _ _
      · refine ⟨by simp, Ds.zeros _, ?_⟩
        rw [e0, Int.zero_ediv, Int.zero_mul, N_zeros]
    case round =>
      obtain ⟨k, q, hk, hgk, rfl, HR, HQ, HO, hon⟩ := hrel
      have HBR : Hid (Below w2.heap.size w2 wr) := by rw [HGE.out]; exact HB2.out.trans (hon.out.below (by omega) (by omega))
      have hbr : Below w.heap.size w wr := hbw.trans (HBR.out.mono (by rw [HGE.out]; omega))
      have HRC := Lib.hid (show x / 2 ^ k % y < Bp c by have := Int.emod_lt_of_pos (x / 2 ^ k) hy0; have := HXL.out.2; omega)
      rcases k with _ | j
      · rw [Int.pow_zero, Int.ediv_one] at HR HRC HQ
        rw [Int.mul_one] at HQ
        go_wp2_with fail
        refine (rNorm _ n1 (x / y) wr ⟨q, Row.ofOwn HO.out (fun n hn => wf32 (HQ.out.2.1 n hn)), by rw [HQ.out.1]; omega, HQ.out.2.2⟩ (by omega)).mono ?_
        rintro e w5 ⟨v5, rfl, hn5, hb5⟩
        have HN5 := Lib.hid hn5
        clear hn5
        have hbr5 := hb5
        go_wp2_with fail
        refine (rNorm u10 c (x % y) w5 ((HR.out.keep hbr5).num c HRC.out) (by omega)).mono ?_
        rintro e w6 ⟨v6, rfl, hn6, hb6⟩
        have HN6 := Lib.hid hn6
        clear hn6
        go_wp2_with fail
        go_ret3
        refine ⟨v5, v6, ?_, (HN5.out.keep hb6).mono hbr.size, ?_, hbr.trans ((hb5.trans (hb6.mono hb5.size)).mono hbr.size)⟩
        · rw [decide_eq_true HNZ.out]; rfl
        · rw [if_neg HNZ.out]; exact HN6.out.mono (Nat.le_trans hbr.size hb5.size)
      · have hm : j / 32 < n1 := by omega
        obtain ⟨b1, o1, rfl, q1, wx⟩ := Row.cellAt HR2.out (j / 32) hm
        have q1 := cell_later HBR.out q1
        have dx := wf_u32 wx
        have HBIT := Lib.hid (N_bit HC1.out.1.1 (j / 32) (j % 32) (by omega))
        rw [show 32 * (j / 32) + j % 32 = j by omega, HC1.out.2] at HBIT
        clear wx
        generalize l1[j / 32]?.getD 0 = d at *
        have hd0 : 0 ≤ d / 2 ^ (j % 32) ∧ d / 2 ^ (j % 32) < 4294967296 := by
          have h1 := two_pos (j % 32)
          have h2 := Int.ediv_nonneg dx.1 (show (0 : Int) ≤ 2 ^ (j % 32) by omega)
          have h3 := Int.ediv_le_self (2 ^ (j % 32)) dx.1
          omega
        have HAND := Lib.hid (and_one _ hd0)
        have HST := Lib.hid (divBit_step y (x / 2 ^ (j + 1) % y) hy0 (x / 2 ^ (j + 1)) (x / 2 ^ j % 2) (by omega) rfl)
        rw [← half_pow] at HST
        have HNN := Lib.hid (Int.emod_nonneg (x / 2 ^ (j + 1)) HNZ.out)
        have HLT := Lib.hid (Int.emod_lt_of_pos (x / 2 ^ (j + 1)) hy0)
        clear hd0
        go_wp2_with fail
        rw [HAND.out, HBIT.out]
        generalize hT : x / 2 ^ (j + 1) % y = r at *
        generalize hbt : x / 2 ^ j % 2 = bt at *
        have hbt2 : 0 ≤ bt ∧ bt ≤ 1 := by omega
        have HTT := Lib.hid (And.intro hT hbt)
        clear hT hbt
        refine (rDouble u10 (c + 1) r bt wr (HR.out.num (c + 1) (by rw [Bp]; have := Bp_pos c; have := HRC.out; omega)) hbt2 (by omega)).mono ?_
        rintro e w5 ⟨v5, rfl, hn5, hb5⟩
        have HN5 := Lib.hid hn5
        clear hn5
        have HR5 := Lib.hid (show 2 * r + bt < Bp (c + 1) by rw [Bp]; have := Bp_pos c; have := HRC.out; omega)
        have HYC := Lib.hid (show y < Bp (c + 1) by rw [Bp]; have := Bp_pos c; have := HXL.out.2; omega)
        have HY5 := Lib.hid ((HY.out.keep HBR.out).keep hb5)
        go_wp2_with fail
        refine (rCmp v5 (.slice a2 n2 p2) (c + 1) (2 * r + bt) y w5 (HN5.out.num (c + 1) HR5.out) (HY5.out.num (c + 1) HYC.out) (by omega)).mono ?_
        rintro e w6 ⟨rfl, hb6⟩
        have hb65 := hb5.trans (hb6.mono hb5.size)
        by_cases hge : y ≤ 2 * r + bt
        · have hc1 : 0 ≤ cmpI (2 * r + bt) y := by rw [cmpI, if_neg (by omega)]; split <;> omega
          generalize cmpI (2 * r + bt) y = t at *
          have hc2 : decide (0 ≤ t) = true := by simpa using hc1
          rw [if_pos hge, if_pos hge] at HST
          have HGE2 := Lib.hid hge
          clear hge
          go_wp2_with fail
          refine (rSub v5 (.slice a2 n2 p2) (c + 1) (2 * r + bt) y w6 ((HN5.out.keep hb6).num (c + 1) HR5.out) ((HY5.out.keep hb6).num (c + 1) HYC.out) (by omega)).mono ?_
          rintro e w7 ⟨v7, rfl, hn7, hb7⟩
          rw [if_pos HGE2.out] at hn7
          rw [decide_eq_true HGE2.out]
          have HN7 := Lib.hid hn7
          clear hn7
          have hb75 := hb65.trans (hb7.mono hb65.size)
          have HO7 := Lib.hid (own_below HO.out hb75)
          obtain ⟨hce, hfz⟩ := own_cell HO7.out (j / 32) hm
          obtain ⟨td, htd⟩ := digit_div HQ.out.2.1 (j / 32) (j % 32) (by omega) (x / 2 ^ (j + 1) / y) (by rw [show 32 * (j / 32) + j % 32 = j by omega]; exact HQ.out.2.2)
          have hdd := HQ.out.2.1.at (j / 32)
          have HOR := Lib.hid (or_bit _ (j % 32) hdd (by omega) td htd)
          have HNS := Lib.hid (N_set (l := q) (m := j / 32) (by rw [HQ.out.1]; exact hm) (q[j / 32]?.getD 0 + 2 ^ (j % 32)))
          have HSTORE := Lib.hid (own_store HO7.out (j / 32) (q[j / 32]?.getD 0 + 2 ^ (j % 32)))
          have HDS := Lib.hid (HQ.out.2.1.set (j / 32) (x := q[j / 32]?.getD 0 + 2 ^ (j % 32)) (by have := HOR.out.2; have := two_pos (j % 32); omega))
          have HSHL := Lib.hid (shl1 (j % 32) (by omega))
          clear htd
          generalize q[j / 32]?.getD 0 = qd at *
          go_wp2_with fail
          rw [HSHL.out, HOR.out.1]
          have HQN := Lib.hid (show N (q.set (j / 32) (qd + 2 ^ (j % 32))) = x / 2 ^ j / y * 2 ^ j by
            have e2 : Bp (j / 32) * (qd + 2 ^ (j % 32) - qd) = 2 ^ j := by
              rw [show qd + 2 ^ (j % 32) - qd = 2 ^ (j % 32) by omega, ← pow_split, show 32 * (j / 32) + j % 32 = j by omega]
            rw [HNS.out, e2, HQ.out.2.2, HST.out.1, Int.add_mul, Int.one_mul, qstep])
          have hon7 := hon.out.trans (Only.of_below (g := G) hb75)
          have hs7 : w3.heap.size ≤ w7.heap.size := hon7.size
          go_roundg j
          case measure => omega
          case rel =>
            refine ⟨j, q.set (j / 32) (qd + 2 ^ (j % 32)), by omega, Nat.le_refl _, by go_num, ?_, ⟨by rw [List.length_set]; exact HQ.out.1, HDS.out, HQN.out⟩, HSTORE.out, hon7.set _ _⟩
            rw [HST.out.2]
            refine IsNew.only (HN7.out.mono ?_) hs3 ((Only.refl _ _).set _ _)
            exact Nat.le_trans hon.out.size hb65.size
        · have hc1 : cmpI (2 * r + bt) y < 0 := by rw [cmpI, if_pos (by omega)]; decide
          generalize cmpI (2 * r + bt) y = t at *
          have hc2 : decide (0 ≤ t) = false := by simpa using hc1
          rw [if_neg hge, if_neg hge, Int.add_zero] at HST
          have HO7 := Lib.hid (own_below HO.out hb65)
          have HQN := Lib.hid (show N q = x / 2 ^ j / y * 2 ^ j by
            rw [HQ.out.2.2, HST.out.1, qstep])
          have hon7 := hon.out.trans (Only.of_below (g := G) hb65)
          clear hge
          go_wp2_with fail
          go_roundg j
          case measure => omega
          case rel =>
            refine ⟨j, q, by omega, Nat.le_refl _, by go_num, ?_, ⟨HQ.out.1, HQ.out.2.1, HQN.out⟩, HO7.out, hon7⟩
            rw [HST.out.2]
            exact (HN5.out.keep hb6).mono hon.out.size
end Go.Proofs.Ytpplleoiehnlkaa.Nt
