/-
  Contract of credenceref1.NatSub.
-/
import Derived.Test.YtpplleoiehnlkaaRefC
namespace Go.Proofs.Ytpplleoiehnlkaa.Nt
open Go.ChangeShapes Go.WideShapes Go.ChangeAt Go.RowKit B
set_option linter.unusedVariables false

theorem Fresh.only {w w' : World} {g base : Nat} {v : Value} {l : List Int} (h : Fresh 37 base w v) (hr : Row .u32 w v l) (hg : g < base) (ho : Only g w w') : Row .u32 w' v l := by
  refine Row.of_heap hr ?_
  rintro b off sp n c rfl
  obtain ⟨h1, cs, h2⟩ := h b off sp n c rfl
  have : b < w.heap.size := by
    rcases Nat.lt_or_ge b w.heap.size with h | h
    · exact h
    · rw [Array.getElem?_eq_none h] at h2; cases h2
  obtain ⟨_, _, _, _, hh⟩ := ho
  exact hh b this (by simp; omega)

set_option maxHeartbeats 1000000 in
theorem rSub (va vb : Value) (c : Nat) (x y : Int) (w : World) (ha : Num w va c x) (hb : Num w vb c y) (hc : c ≤ 2147483648) :
    Calls Try.prog 74 #[va, vb] w (RetSub w.heap.size w x y) := by
  have hxl := ha.lt
  have hyl := hb.lt
  have HXY := Lib.hid (And.intro hxl hyl)
  have HA := Lib.hid ha
  have HB := Lib.hid hb
  clear ha hb hxl hyl
  go_enter Try.func74, Try.ntmps74
  go_wp2_with fail
  refine (rCmp va vb c x y w HA.out HB.out (by omega)).mono ?_
  rintro e w0 ⟨rfl, hb0⟩
  by_cases hlt : x < y
  · have e1 : cmpI x y = -1 := by rw [cmpI, if_pos hlt]
    rw [e1]
    have HF := Lib.hid (show ¬ y ≤ x by omega)
    clear hlt e1
    go_wp2_with fail
    go_ret2
    refine ⟨.slice none 0 0, ?_, ?_, hb0⟩
    · rw [decide_eq_false (by have := HF.out; omega)]; rfl
    · rw [if_neg (by have := HF.out; omega)]; exact IsNew.nil _ _
  · have hle : ¬ cmpI x y < 0 := by rw [cmpI, if_neg hlt]; split <;> omega
    have HF := Lib.hid (show y ≤ x by omega)
    generalize cmpI x y = r at *
    have hr : decide (r < 0) = false := by simp; omega
    clear hlt
    go_wp2_with fail
    refine (rNormO va c x w0 (HA.out.keep hb0) (by omega)).mono ?_
    rintro e w1 ⟨v1, l1, rfl, o1, C1, N1, hb1⟩
    have HO1 := Lib.hid o1
    have HCN1 := Lib.hid (And.intro C1 N1)
    clear o1 C1 N1
    go_wp2_with fail
    refine (rNorm vb c y w1 ((HB.out.keep hb0).keep hb1) (by omega)).mono ?_
    rintro e w2 ⟨v2, rfl, ⟨l2, r2, C2, N2, f2⟩, hb2⟩
    have hbw : Below w.heap.size w w2 := (hb0.trans (hb1.mono hb0.size)).trans (hb2.mono (Nat.le_trans hb0.size hb1.size))
    have hll : l2.length ≤ l1.length := by
      rcases Nat.lt_or_ge l1.length l2.length with h | h
      · have := len_lt HCN1.out.1 C2 h
        have := HF.out; rw [HCN1.out.2, N2] at *; omega
      · exact h
    have HSUB := Lib.hid (show N (subL l1 l2 0) = x - y by rw [sub_N HCN1.out.1.1 C2.1 hll (by rw [HCN1.out.2, N2]; exact HF.out), HCN1.out.2, N2])
    have hlc : l1.length ≤ c := HCN1.out.1.len c (by rw [HCN1.out.2]; exact HXY.out.1)
    rcases l1 with _ | ⟨dd, l1'⟩
    · have hl0 : ([] : List Int).length = 0 := rfl
      obtain ⟨a1, cap1, rfl, _⟩ := Row.parts (Row.ofOwn HO1.out (by intro n hn; cases hn))
      have HO2 := Lib.hid (own_below HO1.out hb2)
      clear r2 C2 N2 f2
      go_wp2
      go_loopg [8, 9] 0 (fun gk t i wr => t = .int .u64 0 ∧ i = .int .i64 0 ∧ wr = w2)
      case atStart => exact ⟨rfl, rfl, rfl⟩
      case round =>
        obtain ⟨rfl, rfl, rfl⟩ := hrel
        go_wp2_with fail
        refine (rNormN (own_mono HO2.out hb0.size) Ds.nil (by simp) hbw hbw.size).mono ?_
        rintro e w3 h
        obtain ⟨v3, rfl, hn, hb3⟩ := RetOwn.ret h
        clear h
        have hn' : N [] = x - y := by have := HSUB.out; simpa [subL] using this
        rw [hn'] at hn
        clear hn'
        go_wp2_with fail
        go_ret2
        refine ⟨v3, ?_, ?_, hb3⟩
        · rw [decide_eq_true HF.out]; rfl
        · rw [if_pos HF.out]; exact hn
    · generalize hl1 : dd :: l1' = l1 at *
      have hpos : 0 < l1.length := by rw [← hl1]; simp
      obtain ⟨g, cap, rfl, hg⟩ := own_pos HO1.out hpos
      have hglt := (own_lt HO1.out).1
      have HY := Lib.hid (fun wr (h : Only g w2 wr) => Fresh.only f2 r2 hglt h)
      obtain ⟨a2, p2, rfl, g2, m2, _⟩ := Row.parts r2
      have HO2 := Lib.hid (own_below HO1.out hb2)
      have HC := Lib.hid (And.intro HCN1.out.1 C2)
      clear r2 C2 N2 f2 hl1 HO1
      generalize hnX : l1.length = nX at *
      generalize hnY : l2.length = nY at *
      have HL := Lib.hid (And.intro hnX hnY)
      clear hnX hnY
      go_wp2
      go_loopg [8, 9] nX (fun gk t i wr => ∃ (k : Nat) (cy : Int) (pre : List Int), k ≤ nX ∧ nX - k ≤ gk ∧ i = .int .i64 k ∧ t = .int .u64 cy ∧ 0 ≤ cy ∧ cy ≤ 1 ∧
          Hid (pre.length = k ∧ pre ++ subL (l1.drop k) (l2.drop k) cy = subL l1 l2 0) ∧ Hid (wr.ownsRow w0.heap.size 37 1 (.slice (some ⟨g, 0, none⟩) nX cap) nX ((pre ++ l1.drop k).map (Value.int .u32))) ∧ Hid (Only g w2 wr))
      case atStart => exact ⟨0, 0, [], Nat.zero_le _, by omega, rfl, rfl, by omega, by omega, ⟨rfl, rfl⟩, HO2.out, Only.refl _ _⟩
      case round =>
        obtain ⟨k, cy, pre, hk, hgk, rfl, rfl, hc0, hc1, hp, ho, hon⟩ := hrel
        by_cases hlt : k < nX
        · have hlX : k < l1.length := by rw [HL.out.1]; exact hlt
          obtain ⟨hce, hfz⟩ := own_cell ho.out k (by omega)
          rw [at_border hp.out.1 hlX] at hce
          have HB := Lib.hid (set_border hp.out.1 hlX)
          have dx := HC.out.1.1.at k
          by_cases hlt2 : k < nY
          · obtain ⟨_, _, e2, _, _, hcell2⟩ := Row.parts (HY.out wr hon.out)
            obtain ⟨by_, oy, e3, qy, wy⟩ := hcell2 k (by rw [HL.out.2]; exact hlt2)
            have dy := wf_u32 wy
            have HS := Lib.hid (subL_both l1 l2 k cy hlX (by rw [HL.out.2]; exact hlt2))
            clear hcell2
            cases e2
            subst e3
            generalize l1[k]?.getD 0 = x at *
            generalize l2[k]?.getD 0 = y at *
            clear wy
            by_cases hge : cy + y ≤ x
            · have e1 : (x - (cy + y)) % 4294967296 = x - (cy + y) := by omega
              have e2 : -((x - (cy + y)) / 4294967296) = 0 := by omega
              rw [e1, e2] at HS
              clear e1 e2
              have hs := own_store ho.out k (x - (cy + y))
              rw [HB.out] at hs
              have HO' := Lib.hid hs
              clear hs
              go_wp2
              go_roundg (nX - (k + 1))
              case measure => omega
              case rel => exact ⟨k + 1, 0, pre ++ [x - (cy + y)], by omega, Nat.le_refl _, by go_num, by go_num, by omega, by omega, ⟨by simp [hp.out.1], by rw [← hp.out.2, HS.out, List.append_assoc]; rfl⟩, HO', hon.out.set _ _⟩
            · have e1 : (x - (cy + y)) % 4294967296 = x + 4294967296 - (cy + y) := by omega
              have e2 : -((x - (cy + y)) / 4294967296) = 1 := by omega
              rw [e1, e2] at HS
              clear e1 e2
              have hs := own_store ho.out k (x + 4294967296 - (cy + y))
              rw [HB.out] at hs
              have HO' := Lib.hid hs
              clear hs
              go_wp2
              go_roundg (nX - (k + 1))
              case measure => omega
              case rel => exact ⟨k + 1, 1, pre ++ [x + 4294967296 - (cy + y)], by omega, Nat.le_refl _, by go_num, by go_num, by omega, by omega, ⟨by simp [hp.out.1], by rw [← hp.out.2, HS.out, List.append_assoc]; rfl⟩, HO', hon.out.set _ _⟩
          · have HS := Lib.hid (subL_one l1 l2 k cy hlX (by rw [HL.out.2]; omega))
            generalize l1[k]?.getD 0 = x at *
            by_cases hge : cy ≤ x
            · have e1 : (x - cy) % 4294967296 = x - cy := by omega
              have e2 : -((x - cy) / 4294967296) = 0 := by omega
              rw [e1, e2] at HS
              clear e1 e2
              have hs := own_store ho.out k (x - cy)
              rw [HB.out] at hs
              have HO' := Lib.hid hs
              clear hs
              go_wp2
              go_roundg (nX - (k + 1))
              case measure => omega
              case rel => exact ⟨k + 1, 0, pre ++ [x - cy], by omega, Nat.le_refl _, by go_num, by go_num, by omega, by omega, ⟨by simp [hp.out.1], by rw [← hp.out.2, HS.out, List.append_assoc]; rfl⟩, HO', hon.out.set _ _⟩
            · have e1 : (x - cy) % 4294967296 = x + 4294967296 - cy := by omega
              have e2 : -((x - cy) / 4294967296) = 1 := by omega
              rw [e1, e2] at HS
              clear e1 e2
              have hs := own_store ho.out k (x + 4294967296 - cy)
              rw [HB.out] at hs
              have HO' := Lib.hid hs
              clear hs
              go_wp2
              go_roundg (nX - (k + 1))
              case measure => omega
              case rel => exact ⟨k + 1, 1, pre ++ [x + 4294967296 - cy], by omega, Nat.le_refl _, by go_num, by go_num, by omega, by omega, ⟨by simp [hp.out.1], by rw [← hp.out.2, HS.out, List.append_assoc]; rfl⟩, HO', hon.out.set _ _⟩
        · obtain rfl : k = nX := by omega
          have hd : l1.drop k = [] := List.drop_eq_nil_of_le (by rw [HL.out.1]; omega)
          have hpre : pre = subL l1 l2 0 := by
            have := hp.out.2; rw [hd] at this; simpa [subL] using this
          have hoo := ho.out
          rw [hd, List.append_nil, hpre] at hoo
          have HOO := Lib.hid hoo
          have hbo := hbw.trans (hon.out.below (hbw.size) (Nat.le_trans hb0.size hg))
          clear hoo hpre hd
          go_wp2_with fail
          refine (rNormN (own_mono HOO.out hb0.size) (subL_ds _ _ _) (by rw [subL_len, HL.out.1]; omega) hbo hbo.size).mono ?_
          rintro e w3 h
          obtain ⟨v3, rfl, hn, hb3⟩ := RetOwn.ret h
          clear h
          rw [HSUB.out] at hn
          go_wp2_with fail
          go_ret2
          refine ⟨v3, ?_, ?_, hb3⟩
          · rw [decide_eq_true HF.out]; rfl
          · rw [if_pos HF.out]; exact hn
end Go.Proofs.Ytpplleoiehnlkaa.Nt
