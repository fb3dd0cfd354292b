/-
  Contract of bignat.Add.
-/
import Derived.Test.YtpplleoiehnlkaaSmall
namespace Go.Proofs.Ytpplleoiehnlkaa.Nt
open Go.ChangeShapes Go.WideShapes Go.ChangeAt Go.RowKit B
set_option linter.unusedVariables false

/-- the sum, digit by digit; the second row is not longer than the first -/
def addL : List Int → List Int → Int → List Int
  | [], _, c => [c]
  | d :: a, [], c => ((d + c) % 4294967296) :: addL a [] ((d + c) / 4294967296)
  | d :: a, e :: b, c => ((d + c + e) % 4294967296) :: addL a b ((d + c + e) / 4294967296)
theorem addL_N (a b : List Int) (c : Int) (h : b.length ≤ a.length) : N (addL a b c) = N a + N b + c := by
  induction a generalizing b c with
  | nil =>
    rcases b with _ | ⟨e, b⟩
    · simp [addL, N]
    · simp at h
  | cons d a ih =>
    rcases b with _ | ⟨e, b⟩
    · show (d + c) % 4294967296 + 4294967296 * N (addL a [] ((d + c) / 4294967296)) = d + 4294967296 * N a + 0 + c
      rw [ih [] _ (by simp)]
      simp only [N]
      omega
    · show (d + c + e) % 4294967296 + 4294967296 * N (addL a b ((d + c + e) / 4294967296)) = d + 4294967296 * N a + (e + 4294967296 * N b) + c
      rw [ih b _ (by simpa using h)]
      omega
theorem addL_both (x y : List Int) (k : Nat) (c : Int) (h1 : k < x.length) (h2 : k < y.length) :
    addL (x.drop k) (y.drop k) c = ((x[k]?.getD 0 + c + y[k]?.getD 0) % 4294967296) :: addL (x.drop (k + 1)) (y.drop (k + 1)) ((x[k]?.getD 0 + c + y[k]?.getD 0) / 4294967296) := by
  rw [drop_cons h1, drop_cons h2, addL]
theorem addL_one (x y : List Int) (k : Nat) (c : Int) (h1 : k < x.length) (h2 : y.length ≤ k) :
    addL (x.drop k) (y.drop k) c = ((x[k]?.getD 0 + c) % 4294967296) :: addL (x.drop (k + 1)) (y.drop (k + 1)) ((x[k]?.getD 0 + c) / 4294967296) := by
  rw [drop_cons h1, List.drop_eq_nil_of_le h2, List.drop_eq_nil_of_le (show y.length ≤ k + 1 by omega), addL]
theorem set_zeros {pre : List Int} {k n : Nat} (hp : pre.length = k) (hk : k < n) {x : Int} : (pre ++ List.replicate (n - k) 0).set k x = (pre ++ [x]) ++ List.replicate (n - (k + 1)) 0 := by
  rw [List.set_append_right _ _ (by omega), hp, Nat.sub_self]
  obtain ⟨m, hm⟩ : ∃ m, n - k = m + 1 := ⟨n - k - 1, by omega⟩
  rw [hm, List.replicate_succ, List.set_cons_zero, show n - (k + 1) = m by omega, List.append_assoc]; rfl

set_option maxHeartbeats 1000000 in
theorem add (va vb : Value) (c : Nat) (x y : Int) (w : World) (ha : Num w va c x) (hb : Num w vb c y) (hc : c ≤ 4294967296) :
    Calls Try.prog 66 #[va, vb] w (Ret1 w.heap.size w (x + y)) := by
  obtain ⟨la, hra, hla, rfl⟩ := ha
  obtain ⟨lb, hrb, hlb, rfl⟩ := hb
  have HA := Lib.hid hra
  have HB := Lib.hid hrb
  clear hra hrb
  go_enter Try.func66, Try.ntmps66
  go_wp2_with fail
  refine (trimR va la w HA.out).mono ?_
  rintro e w' ⟨v1, l1, rfl, r1, N1, C1, L1, _, rfl⟩
  go_wp2_with fail
  refine (trimR vb lb w HB.out).mono ?_
  rintro e w' ⟨v2, l2, rfl, r2, N2, C2, L2, _, rfl⟩
  clear HA HB
  have HN := Lib.hid (And.intro N1 N2)
  have HC := Lib.hid (And.intro C1 C2)
  obtain ⟨a1, p1, rfl, g1, m1, hcell1⟩ := Row.parts r1
  obtain ⟨a2, p2, rfl, g2, m2, hcell2⟩ := Row.parts r2
  clear r1 r2 N1 N2 C1 C2
  by_cases hlen : l1.length < l2.length
  · have HX := Lib.hid hcell2
    have HY := Lib.hid hcell1
    clear hcell1 hcell2
    have HA := Lib.hid (show N (addL l2 l1 0) = N la + N lb by rw [addL_N _ _ _ (by omega), HN.out.1, HN.out.2]; omega)
    have HCAP := Lib.hid (show (l2.length : Int) + 1 = ((l2.length + 1 : Nat) : Int) by omega)
    go_wp2_with (at_make; refine make_row rfl (.tmp 23) (.tmp 23) 23 rfl w.heap.size 37 .u32 4 Try.underlying23 info32 _ (l2.length + 1) rfl rfl HCAP.out (by omega) (by unfold maxLen; omega) (Nat.le_refl _) ?_; intro w1 ho1 hb1)
    clear HCAP
    generalize hnX : l2.length = nX at *
    generalize hnY : l1.length = nY at *
    have HL := Lib.hid (And.intro hnX hnY)
    clear hnX hnY
    go_loopw [6, 27] (fun t i wr => ∃ (k : Nat) (cy : Int) (pre : List Int), k ≤ nX ∧ i = .int .i64 k ∧ t = .int .u64 cy ∧ 0 ≤ cy ∧ cy ≤ 1 ∧ Hid (pre.length = k ∧ Ds pre ∧ pre ++ addL (l2.drop k) (l1.drop k) cy = addL l2 l1 0) ∧
        wr.ownsRow w.heap.size 37 1 (.slice (some ⟨w.heap.size, 0, none⟩) (nX + 1) (nX + 1)) (nX + 1) ((pre ++ List.replicate (nX + 1 - k) 0).map (Value.int .u32)) ∧ Below w.heap.size w wr) (fun _ i _ => nX - (intOf i).toNat)
    case atStart => exact ⟨0, 0, [], Nat.zero_le _, rfl, rfl, by omega, by omega, ⟨rfl, Ds.nil, rfl⟩, ho1, hb1⟩
    case round =>
      obtain ⟨k, cy, pre, hk, rfl, rfl, hc0, hc1, hp, ho, hb⟩ := hrel
      by_cases hlt : k < nX
      · obtain ⟨bx, ox, rfl, qx, wx⟩ := HX.out k (by omega)
        have qx := cell_later hb qx
        have dx := wf_u32 wx
        have hlX : k < l2.length := by rw [HL.out.1]; exact hlt
        obtain ⟨hce, hfz⟩ := own_cell ho k (by omega)
        by_cases hlt2 : k < nY
        · obtain ⟨by_, oy, rfl, qy, wy⟩ := HY.out k (by omega)
          have qy := cell_later hb qy
          have dy := wf_u32 wy
          have HS := Lib.hid (addL_both l2 l1 k cy hlX (by rw [HL.out.2]; exact hlt2))
          generalize l2[k]?.getD 0 = x at *
          generalize l1[k]?.getD 0 = y at *
          clear wx wy
          go_wp2
          refine ⟨⟨k + 1, (x + cy + y) / 4294967296, pre ++ [(x + cy + y) % 4294967296], by omega, by go_num, rfl, by omega, by omega, ?_, ?_, hb.setCell (Nat.le_refl _) _⟩, by simp [intOf]; omega⟩
          · refine ⟨by simp [hp.out.1], hp.out.2.1.app (Ds.cons (by omega) Ds.nil), ?_⟩
            rw [← hp.out.2.2, HS.out, List.append_assoc]; rfl
          · have := own_store ho k ((x + cy + y) % 4294967296)
            rwa [set_zeros hp.out.1 (show k < nX + 1 by omega)] at this
        · have HS := Lib.hid (addL_one l2 l1 k cy hlX (by rw [HL.out.2]; omega))
          generalize l2[k]?.getD 0 = x at *
          clear wx
          go_wp2
          refine ⟨⟨k + 1, (x + cy) / 4294967296, pre ++ [(x + cy) % 4294967296], by omega, by go_num, rfl, by omega, by omega, ?_, ?_, hb.setCell (Nat.le_refl _) _⟩, by simp [intOf]; omega⟩
          · refine ⟨by simp [hp.out.1], hp.out.2.1.app (Ds.cons (by omega) Ds.nil), ?_⟩
            rw [← hp.out.2.2, HS.out, List.append_assoc]; rfl
          · have := own_store ho k ((x + cy) % 4294967296)
            rwa [set_zeros hp.out.1 (show k < nX + 1 by omega)] at this
      · obtain rfl : k = nX := by omega
        obtain ⟨hce, hfz⟩ := own_cell ho k (by omega)
        have HE := Lib.hid (show pre ++ [cy] = addL l2 l1 0 by
          rw [← hp.out.2.2, List.drop_eq_nil_of_le (by rw [HL.out.1]; exact Nat.le_refl _)]; simp [addL])
        have hs := own_store ho k cy
        rw [set_zeros hp.out.1 (show k < k + 1 by omega), Nat.sub_self, List.replicate_zero, List.append_nil, HE.out] at hs
        have HD := Lib.hid (show Ds (addL l2 l1 0) by rw [← HE.out]; exact hp.out.2.1.app (Ds.cons (by omega) Ds.nil))
        have hb2 := hb.setCell (p := ⟨w.heap.size, k, none⟩) (Nat.le_refl _) (.int .u32 cy)
        clear HE hp ho
        go_wp2_with fail
        refine (trimN hs HD.out).mono ?_
        rintro e w' ⟨v', rfl, hn, rfl⟩
        rw [HA.out] at hn
        go_wp2_with fail
        go_ret
        exact ⟨v', rfl, hn, hb2⟩
  · have HX := Lib.hid hcell1
    have HY := Lib.hid hcell2
    clear hcell1 hcell2
    have HA := Lib.hid (show N (addL l1 l2 0) = N la + N lb by rw [addL_N _ _ _ (by omega), HN.out.1, HN.out.2]; omega)
    have HCAP := Lib.hid (show (l1.length : Int) + 1 = ((l1.length + 1 : Nat) : Int) by omega)
    go_wp2_with (at_make; refine make_row rfl (.tmp 23) (.tmp 23) 23 rfl w.heap.size 37 .u32 4 Try.underlying23 info32 _ (l1.length + 1) rfl rfl HCAP.out (by omega) (by unfold maxLen; omega) (Nat.le_refl _) ?_; intro w1 ho1 hb1)
    clear HCAP
    generalize hnX : l1.length = nX at *
    generalize hnY : l2.length = nY at *
    have HL := Lib.hid (And.intro hnX hnY)
    clear hnX hnY
    go_loopw [6, 27] (fun t i wr => ∃ (k : Nat) (cy : Int) (pre : List Int), k ≤ nX ∧ i = .int .i64 k ∧ t = .int .u64 cy ∧ 0 ≤ cy ∧ cy ≤ 1 ∧ Hid (pre.length = k ∧ Ds pre ∧ pre ++ addL (l1.drop k) (l2.drop k) cy = addL l1 l2 0) ∧
        wr.ownsRow w.heap.size 37 1 (.slice (some ⟨w.heap.size, 0, none⟩) (nX + 1) (nX + 1)) (nX + 1) ((pre ++ List.replicate (nX + 1 - k) 0).map (Value.int .u32)) ∧ Below w.heap.size w wr) (fun _ i _ => nX - (intOf i).toNat)
    case atStart => exact ⟨0, 0, [], Nat.zero_le _, rfl, rfl, by omega, by omega, ⟨rfl, Ds.nil, rfl⟩, ho1, hb1⟩
    case round =>
      obtain ⟨k, cy, pre, hk, rfl, rfl, hc0, hc1, hp, ho, hb⟩ := hrel
      by_cases hlt : k < nX
      · obtain ⟨bx, ox, rfl, qx, wx⟩ := HX.out k (by omega)
        have qx := cell_later hb qx
        have dx := wf_u32 wx
        have hlX : k < l1.length := by rw [HL.out.1]; exact hlt
        obtain ⟨hce, hfz⟩ := own_cell ho k (by omega)
        by_cases hlt2 : k < nY
        · obtain ⟨by_, oy, rfl, qy, wy⟩ := HY.out k (by omega)
          have qy := cell_later hb qy
          have dy := wf_u32 wy
          have HS := Lib.hid (addL_both l1 l2 k cy hlX (by rw [HL.out.2]; exact hlt2))
          generalize l1[k]?.getD 0 = x at *
          generalize l2[k]?.getD 0 = y at *
          clear wx wy
          go_wp2
          refine ⟨⟨k + 1, (x + cy + y) / 4294967296, pre ++ [(x + cy + y) % 4294967296], by omega, by go_num, rfl, by omega, by omega, ?_, ?_, hb.setCell (Nat.le_refl _) _⟩, by simp [intOf]; omega⟩
          · refine ⟨by simp [hp.out.1], hp.out.2.1.app (Ds.cons (by omega) Ds.nil), ?_⟩
            rw [← hp.out.2.2, HS.out, List.append_assoc]; rfl
          · have := own_store ho k ((x + cy + y) % 4294967296)
            rwa [set_zeros hp.out.1 (show k < nX + 1 by omega)] at this
        · have HS := Lib.hid (addL_one l1 l2 k cy hlX (by rw [HL.out.2]; omega))
          generalize l1[k]?.getD 0 = x at *
          clear wx
          go_wp2
          refine ⟨⟨k + 1, (x + cy) / 4294967296, pre ++ [(x + cy) % 4294967296], by omega, by go_num, rfl, by omega, by omega, ?_, ?_, hb.setCell (Nat.le_refl _) _⟩, by simp [intOf]; omega⟩
          · refine ⟨by simp [hp.out.1], hp.out.2.1.app (Ds.cons (by omega) Ds.nil), ?_⟩
            rw [← hp.out.2.2, HS.out, List.append_assoc]; rfl
          · have := own_store ho k ((x + cy) % 4294967296)
            rwa [set_zeros hp.out.1 (show k < nX + 1 by omega)] at this
      · obtain rfl : k = nX := by omega
        obtain ⟨hce, hfz⟩ := own_cell ho k (by omega)
        have HE := Lib.hid (show pre ++ [cy] = addL l1 l2 0 by
          rw [← hp.out.2.2, List.drop_eq_nil_of_le (by rw [HL.out.1]; exact Nat.le_refl _)]; simp [addL])
        have hs := own_store ho k cy
        rw [set_zeros hp.out.1 (show k < k + 1 by omega), Nat.sub_self, List.replicate_zero, List.append_nil, HE.out] at hs
        have HD := Lib.hid (show Ds (addL l1 l2 0) by rw [← HE.out]; exact hp.out.2.1.app (Ds.cons (by omega) Ds.nil))
        have hb2 := hb.setCell (p := ⟨w.heap.size, k, none⟩) (Nat.le_refl _) (.int .u32 cy)
        clear HE hp ho
        go_wp2_with fail
        refine (trimN hs HD.out).mono ?_
        rintro e w' ⟨v', rfl, hn, rfl⟩
        rw [HA.out] at hn
        go_wp2_with fail
        go_ret
        exact ⟨v', rfl, hn, hb2⟩
end Go.Proofs.Ytpplleoiehnlkaa.Nt
