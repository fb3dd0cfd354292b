/-
  Contract of credenceref1.NatMul.
-/
import Derived.Test.YtpplleoiehnlkaaRefB
namespace Go.Proofs.Ytpplleoiehnlkaa.Nt
open Go.ChangeShapes Go.WideShapes Go.ChangeAt Go.RowKit B
set_option linter.unusedVariables false

set_option maxHeartbeats 1000000 in
theorem rMul (va vb : Value) (c : Nat) (x y : Int) (w : World) (ha : Num w va c x) (hb : Num w vb c y) (hc : c ≤ 2147483648) :
    Calls Try.prog 58 #[va, vb] w (Ret1 w.heap.size w (x * y)) := by
  obtain ⟨la, hra, hla, rfl⟩ := ha
  obtain ⟨lb, hrb, hlb, rfl⟩ := hb
  have HC := Lib.hid (And.intro (Row.ds hra) (Row.ds hrb))
  obtain ⟨a1, p1, rfl, g1, m1, hcell1⟩ := Row.parts hra
  obtain ⟨a2, p2, rfl, g2, m2, hcell2⟩ := Row.parts hrb
  have HX := Lib.hid hcell1
  have HY := Lib.hid hcell2
  clear hra hrb hcell1 hcell2
  generalize hnX : la.length = nX at *
  generalize hnY : lb.length = nY at *
  have HL := Lib.hid (And.intro hnX hnY)
  clear hnX hnY
  go_enter Try.func58, Try.ntmps58
  have HCAP := Lib.hid (show (nX : Int) + (nY : Int) = ((nX + nY : Nat) : Int) by omega)
  go_wp2_with (at_make; refine make_row rfl (.tmp 13) (.tmp 13) 23 rfl w.heap.size 37 .u32 4 Try.underlying23 info32 _ (nX + nY) rfl rfl HCAP.out (by omega) (by unfold maxLen; omega) (Nat.le_refl _) ?_; intro w1 ho1 hb1)
  clear HCAP
  go_loopw [6] (fun i wr => ∃ (k : Nat) (r : List Int), k ≤ nX ∧ i = .int .i64 k ∧ Hid (r.length = nX + nY ∧ Ds r ∧ r.drop (k + nY) = List.replicate (nX - k) 0 ∧ N r = N (la.take k) * N lb) ∧
      wr.ownsRow w.heap.size 37 1 (.slice (some ⟨w.heap.size, 0, none⟩) (nX + nY) (nX + nY)) (nX + nY) (r.map (Value.int .u32)) ∧ Below w.heap.size w wr) (fun i _ => nX - (intOf i).toNat)
  case atStart => exact ⟨0, List.replicate (nX + nY) 0, Nat.zero_le _, rfl, ⟨by simp, Ds.zeros _, by simp, by simp [N, N_zeros]⟩, ho1, hb1⟩
  case round =>
    obtain ⟨k, r, hk, rfl, hp, ho, hb⟩ := hrel
    by_cases hlt : k < nX
    · obtain ⟨bx, ox, rfl, qx, wx⟩ := HX.out k (by omega)
      have QX := Lib.hid qx
      have qx := cell_later hb qx
      have dx := wf_u32 wx
      have HM := Lib.hid (mul_row r la lb k (by rw [HL.out.1]; exact hlt) (by rw [HL.out.1, HL.out.2]; exact hp.out.1) (by rw [HL.out.1, HL.out.2]; exact hp.out.2.2.1) hp.out.2.2.2)
      rw [HL.out.1, HL.out.2] at HM
      have HQ := Lib.hid (mulL_ds dx (r.drop k) lb 0 (hp.out.2.1.drop k) HC.out.2 (by omega))
      generalize la[k]?.getD 0 = x at *
      clear wx
      obtain ⟨wo, rfl⟩ : ∃ wo : World, wo = wr := ⟨_, rfl⟩
      go_wp2
      go_loopw [7, 8] (fun t i wr => ∃ (j : Nat) (cy : Int) (pre : List Int), j ≤ nY ∧ i = .int .i64 j ∧ t = .int .u64 cy ∧ 0 ≤ cy ∧ cy < 4294967296 ∧
          Hid (pre.length = k + j ∧ Ds pre ∧ pre ++ mulL x (r.drop (k + j)) (lb.drop j) cy = r.take k ++ mulL x (r.drop k) lb 0) ∧
          wr.ownsRow w.heap.size 37 1 (.slice (some ⟨w.heap.size, 0, none⟩) (nX + nY) (nX + nY)) (nX + nY) ((pre ++ r.drop (k + j)).map (Value.int .u32)) ∧ Below w.heap.size w wr) (fun _ i _ => nY - (intOf i).toNat)
      case atStart => exact ⟨0, 0, r.take k, Nat.zero_le _, rfl, rfl, by omega, by omega, ⟨by simp; have := hp.out.1; omega, hp.out.2.1.take k, rfl⟩, by rw [Nat.add_zero, List.take_append_drop]; exact ho, hb⟩
      case round =>
        obtain ⟨j, cy, pre, hj, rfl, rfl, hc0, hc1, hq, ho2, hb2⟩ := hrel
        have hkj : k + j < r.length := by have := hp.out.1; omega
        by_cases hlt2 : j < nY
        · obtain ⟨by_, oy, rfl, qy, wy⟩ := HY.out j (by omega)
          have qy := cell_later hb2 qy
          have qxx := cell_later hb2 QX.out
          have dy := wf_u32 wy
          have hxy := mul_bd dx dy
          obtain ⟨hce, hfz⟩ := own_cell ho2 (k + j) (by omega)
          rw [at_border hq.out.1 hkj] at hce
          have HS := Lib.hid (mulL_step x r lb k j cy hkj (by rw [HL.out.2]; exact hlt2))
          have HB := Lib.hid (set_border hq.out.1 hkj)
          have dr := hp.out.2.1.at (k + j)
          generalize lb[j]?.getD 0 = y at *
          generalize r[k + j]?.getD 0 = z at *
          clear wy
          have HX0 := Lib.hid (show cy + z + x * y = x * y + z + cy by omega)
          go_wp2
          go_quiet (fail)
          have hb2 := below_drewN hb2 nq
          have ho2 := own_below ho2 (below_drewN (Below.refl _ wr) nq)
          obtain ⟨hce, hfz⟩ := own_cell ho2 (k + j) (by omega)
          generalize wr.drewN nq = wr at *
          rw [HX0.out]
          go_wp2
          refine ⟨⟨j + 1, (x * y + z + cy) / 4294967296, pre ++ [(x * y + z + cy) % 4294967296], by omega, by go_num, rfl, by omega, by omega, ⟨?_, hq.out.2.1.app (Ds.cons (by omega) Ds.nil), ?_⟩, ?_, hb2.setCell (Nat.le_refl _) _⟩, by simp [intOf]; omega⟩
          · have := hq.out.1; simp; omega
          · rw [← hq.out.2.2, HS.out, List.append_assoc]; rfl
          · have := own_store ho2 (k + j) ((x * y + z + cy) % 4294967296)
            rwa [HB.out] at this
        · obtain rfl : j = nY := by omega
          obtain ⟨hce, hfz⟩ := own_cell ho2 (k + j) (by omega)
          have HE := Lib.hid (show (pre ++ [cy]) ++ r.drop (k + j + 1) = r.take k ++ mulL x (r.drop k) lb 0 by
            have e := mulL_last x r lb k cy (by rw [HL.out.2]; exact hkj)
            rw [HL.out.2] at e
            rw [← hq.out.2.2, e, List.append_assoc]; rfl)
          have hs := own_store ho2 (k + j) cy
          rw [set_border hq.out.1 hkj, HE.out] at hs
          have hb3 := hb2.setCell (p := ⟨w.heap.size, k + j, none⟩) (Nat.le_refl _) (.int .u32 cy)
          go_wp2
          refine ⟨⟨k + 1, r.take k ++ mulL x (r.drop k) lb 0, by omega, by go_num, ⟨HM.out.2.1, (hp.out.2.1.take k).app HQ.out, HM.out.2.2, HM.out.1⟩, hs, hb3⟩, by simp [intOf]; omega⟩
    · obtain rfl : k = nX := by omega
      have HE := Lib.hid (show N r = N la * N lb by
        rw [hp.out.2.2.2, List.take_of_length_le (by rw [HL.out.1]; exact Nat.le_refl _)])
      have HD := Lib.hid hp.out.2.1
      have HLEN := Lib.hid hp.out.1
      clear hp
      go_wp2_with fail
      refine (rNormN ho HD.out (by have := HLEN.out; omega) hb hb.size).mono ?_
      rintro e w9 h
      obtain ⟨v', rfl, hn, hb9⟩ := RetOwn.ret h
      clear h
      rw [HE.out] at hn
      go_wp2_with fail
      go_ret
      exact ⟨v', rfl, hn, hb9⟩
end Go.Proofs.Ytpplleoiehnlkaa.Nt
