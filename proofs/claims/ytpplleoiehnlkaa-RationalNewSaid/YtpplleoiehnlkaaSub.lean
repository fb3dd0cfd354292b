/-
  Contract of bignat.Sub.
-/
import Derived.Test.YtpplleoiehnlkaaAdd
namespace Go.Proofs.Ytpplleoiehnlkaa.Nt
open Go.ChangeShapes Go.WideShapes Go.ChangeAt Go.RowKit B
set_option linter.unusedVariables false

/-- the difference, digit by digit -/
def subL : List Int → List Int → Int → List Int
  | [], _, _ => []
  | d :: a, [], b => ((d - b) % 4294967296) :: subL a [] (-((d - b) / 4294967296))
  | d :: a, e :: c, b => ((d - (b + e)) % 4294967296) :: subL a c (-((d - (b + e)) / 4294967296))
/-- what is still owed at the end -/
def subF : List Int → List Int → Int → Int
  | [], _, b => b
  | d :: a, [], b => subF a [] (-((d - b) / 4294967296))
  | d :: a, e :: c, b => subF a c (-((d - (b + e)) / 4294967296))
theorem subL_len (a c : List Int) (b : Int) : (subL a c b).length = a.length := by
  induction a generalizing c b with
  | nil => rfl
  | cons d a ih => rcases c with _ | ⟨e, c⟩ <;> simp [subL, ih]
theorem subL_ds (a c : List Int) (b : Int) : Ds (subL a c b) := by
  induction a generalizing c b with
  | nil => exact Ds.nil
  | cons d a ih =>
    rcases c with _ | ⟨e, c⟩
    · exact Ds.cons (by omega) (ih _ _)
    · exact Ds.cons (by omega) (ih _ _)
theorem subL_N (a c : List Int) (b : Int) (h : c.length ≤ a.length) : N (subL a c b) = N a - N c - b + Bp a.length * subF a c b := by
  induction a generalizing c b with
  | nil =>
    rcases c with _ | ⟨e, c⟩
    · simp [subL, subF, N, Bp]; omega
    · simp at h
  | cons d a ih =>
    rcases c with _ | ⟨e, c⟩
    · show (d - b) % 4294967296 + 4294967296 * N (subL a [] (-((d - b) / 4294967296))) = d + 4294967296 * N a - 0 - b + 4294967296 * Bp a.length * subF a [] (-((d - b) / 4294967296))
      rw [ih [] _ (by simp), Int.mul_assoc]
      simp only [N]
      omega
    · show (d - (b + e)) % 4294967296 + 4294967296 * N (subL a c (-((d - (b + e)) / 4294967296))) = d + 4294967296 * N a - (e + 4294967296 * N c) - b + 4294967296 * Bp a.length * subF a c (-((d - (b + e)) / 4294967296))
      rw [ih c _ (by simpa using h), Int.mul_assoc]
      omega
theorem subF_bd (a c : List Int) (b : Int) (ha : Ds a) (hc : Ds c) (hb : 0 ≤ b ∧ b ≤ 1) : 0 ≤ subF a c b ∧ subF a c b ≤ 1 := by
  induction a generalizing c b with
  | nil => exact hb
  | cons d a ih =>
    have hd := ha.head
    rcases c with _ | ⟨e, c⟩
    · exact ih _ _ ha.tail Ds.nil (by omega)
    · have he := hc.head
      exact ih _ _ ha.tail hc.tail (by omega)
theorem sub_N {x y : List Int} (hx : Ds x) (hy : Ds y) (h : y.length ≤ x.length) (hle : N y ≤ N x) : N (subL x y 0) = N x - N y := by
  have e := subL_N x y 0 h
  have f := subF_bd x y 0 hx hy (by omega)
  have l := N_lt (subL_ds x y 0)
  rw [subL_len] at l
  have hB := Bp_pos x.length
  have : subF x y 0 = 0 ∨ subF x y 0 = 1 := by omega
  rcases this with q | q
  · rw [q, Int.mul_zero] at e; omega
  · rw [q, Int.mul_one] at e; omega
theorem subL_both (x y : List Int) (k : Nat) (c : Int) (h1 : k < x.length) (h2 : k < y.length) :
    subL (x.drop k) (y.drop k) c = ((x[k]?.getD 0 - (c + y[k]?.getD 0)) % 4294967296) :: subL (x.drop (k + 1)) (y.drop (k + 1)) (-((x[k]?.getD 0 - (c + y[k]?.getD 0)) / 4294967296)) := by
  rw [drop_cons h1, drop_cons h2, subL]
theorem subL_one (x y : List Int) (k : Nat) (c : Int) (h1 : k < x.length) (h2 : y.length ≤ k) :
    subL (x.drop k) (y.drop k) c = ((x[k]?.getD 0 - c) % 4294967296) :: subL (x.drop (k + 1)) (y.drop (k + 1)) (-((x[k]?.getD 0 - c) / 4294967296)) := by
  rw [drop_cons h1, List.drop_eq_nil_of_le h2, List.drop_eq_nil_of_le (show y.length ≤ k + 1 by omega), subL]

/-- the difference, or nothing -/
def RetSub (base : Nat) (w : World) (x y : Int) (e : Ending) (w' : World) : Prop :=
  ∃ v, e = .returned (.tuple #[v, .bool (decide (y ≤ x))]) ∧ IsNew base w' v (if y ≤ x then x - y else 0) ∧ Below base w w'

set_option maxHeartbeats 1000000 in
theorem sub (va vb : Value) (c : Nat) (x y : Int) (w : World) (ha : Num w va c x) (hb : Num w vb c y) (hc : c ≤ 4294967296) :
    Calls Try.prog 67 #[va, vb] w (RetSub w.heap.size w x y) := by
  obtain ⟨la, hra, hla, rfl⟩ := ha
  obtain ⟨lb, hrb, hlb, rfl⟩ := hb
  have HA := Lib.hid hra
  have HB := Lib.hid hrb
  clear hra hrb
  go_enter Try.func67, Try.ntmps67
  go_wp2_with fail
  refine (trimR va la w HA.out).mono ?_
  rintro e w' ⟨v1, l1, rfl, r1, N1, C1, L1, _, rfl⟩
  go_wp2_with fail
  refine (trimR vb lb w HB.out).mono ?_
  rintro e w' ⟨v2, l2, rfl, r2, N2, C2, L2, _, rfl⟩
  clear HA HB
  have HN := Lib.hid (And.intro N1 N2)
  have HC := Lib.hid (And.intro C1 C2)
  have HR := Lib.hid (And.intro r1 r2)
  clear r1 r2 N1 N2 C1 C2
  go_wp2_with fail
  refine (cmp v1 v2 c (N l1) (N l2) w ⟨l1, HR.out.1, by omega, rfl⟩ ⟨l2, HR.out.2, by omega, rfl⟩ hc).mono ?_
  rintro e w0 ⟨rfl, hb0⟩
  by_cases hlt : N l1 < N l2
  · have e1 : cmpI (N l1) (N l2) = -1 := by rw [cmpI, if_pos hlt]
    rw [e1]
    have HF := Lib.hid (show ¬ N lb ≤ N la by rw [← HN.out.1, ← HN.out.2]; omega)
    clear hlt e1
    go_wp2_with fail
    go_ret2
    refine ⟨.slice none 0 0, ?_, ?_, hb0⟩
    · rw [decide_eq_false (by have := HF.out; omega)]; rfl
    · rw [if_neg (by have := HF.out; omega)]; exact IsNew.nil _ _
  · have hle : ¬ cmpI (N l1) (N l2) < 0 := by rw [cmpI, if_neg hlt]; split <;> omega
    have HF := Lib.hid (show N lb ≤ N la by rw [← HN.out.1, ← HN.out.2]; omega)
    have hll : l2.length ≤ l1.length := by
      rcases Nat.lt_or_ge l1.length l2.length with h | h
      · have := len_lt HC.out.1 HC.out.2 h; omega
      · exact h
    have HA := Lib.hid (show N (subL l1 l2 0) = N la - N lb by rw [sub_N HC.out.1.1 HC.out.2.1 hll (by omega), HN.out.1, HN.out.2])
    obtain ⟨a1, p1, rfl, g1, m1, hcell1⟩ := Row.parts (HR.out.1.keep hb0)
    obtain ⟨a2, p2, rfl, g2, m2, hcell2⟩ := Row.parts (HR.out.2.keep hb0)
    have HX := Lib.hid hcell1
    have HY := Lib.hid hcell2
    clear hcell1 hcell2 hlt HR
    generalize cmpI (N l1) (N l2) = r at *
    have hr : decide (r < 0) = false := by simp; omega
    generalize hnX : l1.length = nX at *
    generalize hnY : l2.length = nY at *
    have HL := Lib.hid (And.intro hnX hnY)
    clear hnX hnY
    go_wp2_with (at_make; refine make_row rfl (.tmp 20) (.tmp 20) 23 rfl w0.heap.size 37 .u32 4 Try.underlying23 info32 _ nX rfl rfl rfl (by omega) (by unfold maxLen; omega) (Nat.le_refl _) ?_; intro w1 ho1 hb1)
    go_loopw [7, 24] (fun t i wr => ∃ (k : Nat) (cy : Int) (pre : List Int), k ≤ nX ∧ i = .int .i64 k ∧ t = .int .u64 cy ∧ 0 ≤ cy ∧ cy ≤ 1 ∧ Hid (pre.length = k ∧ pre ++ subL (l1.drop k) (l2.drop k) cy = subL l1 l2 0) ∧
        wr.ownsRow w0.heap.size 37 1 (.slice (some ⟨w0.heap.size, 0, none⟩) nX nX) nX ((pre ++ List.replicate (nX - k) 0).map (Value.int .u32)) ∧ Below w0.heap.size w0 wr) (fun _ i _ => nX - (intOf i).toNat)
    case atStart => exact ⟨0, 0, [], Nat.zero_le _, rfl, rfl, by omega, by omega, ⟨rfl, rfl⟩, ho1, hb1⟩
    case round =>
      obtain ⟨k, cy, pre, hk, rfl, rfl, hc0, hc1, hp, ho, hb⟩ := hrel
      by_cases hlt : k < nX
      · obtain ⟨bx, ox, rfl, qx, wx⟩ := HX.out k (by omega)
        have qx := cell_later hb qx
        have dx := wf_u32 wx
        have hlX : k < l1.length := by rw [HL.out.1]; exact hlt
        obtain ⟨hce, hfz⟩ := own_cell ho k (by omega)
        by_cases hlt2 : k < nY
        · obtain ⟨by_, oy, rfl, qy, wy⟩ := HY.out k (by omega)
          have qy := cell_later hb qy
          have dy := wf_u32 wy
          have HS := Lib.hid (subL_both l1 l2 k cy hlX (by rw [HL.out.2]; exact hlt2))
          generalize l1[k]?.getD 0 = x at *
          generalize l2[k]?.getD 0 = y at *
          clear wx wy
          by_cases hge : cy + y ≤ x
          · have e1 : (x - (cy + y)) % 4294967296 = x - (cy + y) := by omega
            have e2 : -((x - (cy + y)) / 4294967296) = 0 := by omega
            rw [e1, e2] at HS
            clear e1 e2
            go_wp2
            refine ⟨⟨k + 1, 0, pre ++ [x - (cy + y)], by omega, by go_num, rfl, by omega, by omega, ⟨by simp [hp.out.1], ?_⟩, ?_, hb.setCell (Nat.le_refl _) _⟩, by simp [intOf]; omega⟩
            · rw [← hp.out.2, HS.out, List.append_assoc]; rfl
            · have := own_store ho k (x - (cy + y))
              rwa [set_zeros hp.out.1 hlt] at this
          · have e1 : (x - (cy + y)) % 4294967296 = x + 4294967296 - (cy + y) := by omega
            have e2 : -((x - (cy + y)) / 4294967296) = 1 := by omega
            rw [e1, e2] at HS
            clear e1 e2
            go_wp2
            refine ⟨⟨k + 1, 1, pre ++ [x + 4294967296 - (cy + y)], by omega, by go_num, rfl, by omega, by omega, ⟨by simp [hp.out.1], ?_⟩, ?_, hb.setCell (Nat.le_refl _) _⟩, by simp [intOf]; omega⟩
            · rw [← hp.out.2, HS.out, List.append_assoc]; rfl
            · have := own_store ho k (x + 4294967296 - (cy + y))
              rwa [set_zeros hp.out.1 hlt] at this
        · have HS := Lib.hid (subL_one l1 l2 k cy hlX (by rw [HL.out.2]; omega))
          generalize l1[k]?.getD 0 = x at *
          clear wx
          by_cases hge : cy ≤ x
          · have e1 : (x - cy) % 4294967296 = x - cy := by omega
            have e2 : -((x - cy) / 4294967296) = 0 := by omega
            rw [e1, e2] at HS
            clear e1 e2
            go_wp2
            refine ⟨⟨k + 1, 0, pre ++ [x - cy], by omega, by go_num, rfl, by omega, by omega, ⟨by simp [hp.out.1], ?_⟩, ?_, hb.setCell (Nat.le_refl _) _⟩, by simp [intOf]; omega⟩
            · rw [← hp.out.2, HS.out, List.append_assoc]; rfl
            · have := own_store ho k (x - cy)
              rwa [set_zeros hp.out.1 hlt] at this
          · have e1 : (x - cy) % 4294967296 = x + 4294967296 - cy := by omega
            have e2 : -((x - cy) / 4294967296) = 1 := by omega
            rw [e1, e2] at HS
            clear e1 e2
            go_wp2
            refine ⟨⟨k + 1, 1, pre ++ [x + 4294967296 - cy], by omega, by go_num, rfl, by omega, by omega, ⟨by simp [hp.out.1], ?_⟩, ?_, hb.setCell (Nat.le_refl _) _⟩, by simp [intOf]; omega⟩
            · rw [← hp.out.2, HS.out, List.append_assoc]; rfl
            · have := own_store ho k (x + 4294967296 - cy)
              rwa [set_zeros hp.out.1 hlt] at this
      · obtain rfl : k = nX := by omega
        have HE := Lib.hid (show pre = subL l1 l2 0 by
          rw [← hp.out.2, List.drop_eq_nil_of_le (by rw [HL.out.1]; exact Nat.le_refl _)]; simp [subL])
        rw [Nat.sub_self, List.replicate_zero, List.append_nil, HE.out] at ho
        clear HE hp
        go_wp2_with fail
        refine (trimN ho (subL_ds l1 l2 0)).mono ?_
        rintro e w' ⟨v', rfl, hn, rfl⟩
        rw [HA.out] at hn
        go_wp2_with fail
        go_ret2
        refine ⟨v', ?_, ?_, hb0.trans (hb.mono hb0.size)⟩
        · rw [decide_eq_true HF.out]; rfl
        · rw [if_pos HF.out]
          obtain ⟨l, h1, h2, h3, h4⟩ := hn
          exact ⟨l, h1, h2, h3, h4.mono hb0.size⟩
end Go.Proofs.Ytpplleoiehnlkaa.Nt
