/-
  Contracts of credenceref1.NatAdd, double and half.
-/
import Derived.Test.YtpplleoiehnlkaaRefA
namespace Go.Proofs.Ytpplleoiehnlkaa.Nt
open Go.ChangeShapes Go.WideShapes Go.ChangeAt Go.RowKit B
set_option linter.unusedVariables false

theorem bp_split (k : Nat) (s T : Int) : Bp k * (s + 4294967296 * T) = Bp k * s + Bp (k + 1) * T := by
  rw [Int.mul_add, Bp, ← Int.mul_assoc, Int.mul_comm (Bp k) 4294967296]
theorem N_snoc (l : List Int) (x : Int) : N (l ++ [x]) = N l + Bp l.length * x := by rw [N_app]; simp [N]
theorem N_dropd (l : List Int) (k : Nat) : N (l.drop k) = l[k]?.getD 0 + 4294967296 * N (l.drop (k + 1)) := by
  rcases Nat.lt_or_ge k l.length with h | h
  · exact N_drop h
  · rw [List.drop_eq_nil_of_le h, List.drop_eq_nil_of_le (by omega), List.getElem?_eq_none h]; rfl
/-- a number that is written digit by digit: written are 'pre', still to come is T -/
def Acc (pre : List Int) (k : Nat) (T n : Int) : Prop := pre.length = k ∧ Ds pre ∧ N pre + Bp k * T = n
theorem Acc.step {pre : List Int} {k : Nat} {T n : Int} (h : Acc pre k T n) (d T' : Int) (hd : 0 ≤ d ∧ d < 4294967296) (e : T = d + 4294967296 * T') : Acc (pre ++ [d]) (k + 1) T' n := by
  obtain ⟨h1, h2, h3⟩ := h
  refine ⟨by simp [h1], h2.app (Ds.cons hd Ds.nil), ?_⟩
  rw [N_snoc, h1, ← h3, e, bp_split]; omega
theorem Acc.done {pre : List Int} {k : Nat} {n : Int} (h : Acc pre k 0 n) : N pre = n := by
  have := h.2.2; rw [Int.mul_zero] at this; omega
theorem Acc.nil (n : Int) : Acc [] 0 n n := ⟨rfl, Ds.nil, by simp [N, Bp]⟩
/-- one digit in a new block -/
theorem Row.one (w : World) (x : Int) (h : 0 ≤ x ∧ x < 4294967296) : Row .u32 (w.alloc (.cells #[.int .u32 x] 37 (0, 0))) (.slice (some ⟨w.heap.size, 0, none⟩) 1 1) [x] :=
  Row.new w [x] 37 (0, 0) #[.int .u32 x] 1 rfl rfl (by simp [maxLen]) (by intro n hn; rw [List.mem_singleton.1 hn]; exact wf32 h)

set_option maxHeartbeats 1000000 in
theorem rAdd (va vb : Value) (c : Nat) (x y : Int) (w : World) (ha : Num w va c x) (hb : Num w vb c y) (hc : c ≤ 2147483648) :
    Calls Try.prog 73 #[va, vb] w (Ret1 w.heap.size w (x + y)) := by
  obtain ⟨la, hra, hla, rfl⟩ := ha
  obtain ⟨lb, hrb, hlb, rfl⟩ := hb
  obtain ⟨a1, p1, rfl, g1, m1, c1⟩ := Row.parts hra
  obtain ⟨a2, p2, rfl, g2, m2, c2⟩ := Row.parts hrb
  have H1 := Lib.hid c1
  have H2 := Lib.hid c2
  clear hra hrb c1 c2
  generalize hnA : la.length = nA at *
  generalize hnB : lb.length = nB at *
  have HL := Lib.hid (And.intro hnA hnB)
  clear hnA hnB
  go_enter Try.func73, Try.ntmps73
  go_wp2
  go_loopg [5, 6, 7] (nA + nB) (fun gk v t i wr => ∃ (k : Nat) (cy : Int) (pre : List Int), k ≤ nA + nB ∧ nA + nB - k ≤ gk ∧ i = .int .i64 k ∧ t = .int .u64 cy ∧ 0 ≤ cy ∧ cy ≤ 1 ∧
      Hid (Acc pre k (cy + N (la.drop k) + N (lb.drop k)) (N la + N lb)) ∧ Hid (wr.ownsRow w.heap.size 37 1 v k (pre.map (Value.int .u32))) ∧ Below w.heap.size w wr)
  case atStart => exact ⟨0, 0, [], Nat.zero_le _, by omega, rfl, rfl, by omega, by omega, by have := Acc.nil (N la + N lb); simpa [Hid] using this, ⟨rfl, .inl ⟨rfl, rfl⟩⟩, Below.refl _ _⟩
  case round =>
    obtain ⟨k, cy, pre, hk, hgk, rfl, rfl, hc0, hc1, hA, HO, hb⟩ := hrel
    have hgs : w.heap.size ≤ wr.heap.size := hb.size
    have hpl : pre.length = k := hA.out.1
    have eA := N_dropd la k
    have eB := N_dropd lb k
    have hst : ∀ s, s = cy + la[k]?.getD 0 + lb[k]?.getD 0 → Acc (pre ++ [s % 4294967296]) (k + 1) (s / 4294967296 + N (la.drop (k + 1)) + N (lb.drop (k + 1))) (N la + N lb) := by
      rintro s rfl
      exact hA.out.step _ _ (by omega) (by rw [eA, eB]; omega)
    have HST := Lib.hid hst
    have HPL := Lib.hid hpl
    clear eA eB hst hpl
    by_cases h1 : k < nA
    · have d1 : decide ((k : Int) < (nA : Int)) = true := by simp; omega
      obtain ⟨b1, o1, rfl, q1, wx⟩ := H1.out k h1
      have q1 := cell_later hb q1
      have dx := wf_u32 wx
      by_cases h2 : k < nB
      · have d2 : decide ((k : Int) < (nB : Int)) = true := by simp; omega
        obtain ⟨b2, o2, rfl, q2, wy⟩ := H2.out k h2
        have q2 := cell_later hb q2
        have dy := wf_u32 wy
        have HS : Hid _ := HST.out _ rfl
        generalize la[k]?.getD 0 = x at *
        generalize lb[k]?.getD 0 = y at *
        have HROW := Lib.hid (Row.one wr ((cy + x + y) % 4294967296) (by omega))
        clear wx wy HST
        go_wp2_with (at_builtin; refine app_row rfl (.tmp 42) (.tmp 45) 23 rfl w.heap.size 37 .u32 4 Try.underlying23 info32 _ k pre rfl (HO.out.alloc _) _ [(cy + x + y) % 4294967296] rfl HROW.out (by rw [HPL.out]; simp [maxLen]; omega) (by rw [HPL.out]; simp; omega) (by simp; omega) ?_; intro v' w' ho' hb')
        have HO' := Lib.hid ho'
        clear ho'
        go_roundg (nA + nB - (k + 1))
        case measure => omega
        case rel => exact ⟨k + 1, (cy + x + y) / 4294967296, _, by omega, Nat.le_refl _, by go_num, by go_num, by omega, by omega, HS, HO', (hb.alloc hb.size _).trans hb'⟩
      · have d2 : decide ((k : Int) < (nB : Int)) = false := by simp; omega
        have HS : Hid _ := HST.out (cy + la[k]?.getD 0) (by rw [List.getElem?_eq_none (show lb.length ≤ k by rw [HL.out.2]; omega)]; simp)
        generalize la[k]?.getD 0 = x at *
        have HROW := Lib.hid (Row.one wr ((cy + x) % 4294967296) (by omega))
        clear wx HST
        go_wp2_with (at_builtin; refine app_row rfl (.tmp 42) (.tmp 45) 23 rfl w.heap.size 37 .u32 4 Try.underlying23 info32 _ k pre rfl (HO.out.alloc _) _ [(cy + x) % 4294967296] rfl HROW.out (by rw [HPL.out]; simp [maxLen]; omega) (by rw [HPL.out]; simp; omega) (by simp; omega) ?_; intro v' w' ho' hb')
        have HO' := Lib.hid ho'
        clear ho'
        go_roundg (nA + nB - (k + 1))
        case measure => omega
        case rel => exact ⟨k + 1, (cy + x) / 4294967296, _, by omega, Nat.le_refl _, by go_num, by go_num, by omega, by omega, HS, HO', (hb.alloc hb.size _).trans hb'⟩
    · have d1 : decide ((k : Int) < (nA : Int)) = false := by simp; omega
      by_cases h2 : k < nB
      · have d2 : decide ((k : Int) < (nB : Int)) = true := by simp; omega
        obtain ⟨b2, o2, rfl, q2, wy⟩ := H2.out k h2
        have q2 := cell_later hb q2
        have dy := wf_u32 wy
        have HS : Hid _ := HST.out (cy + lb[k]?.getD 0) (by rw [List.getElem?_eq_none (show la.length ≤ k by rw [HL.out.1]; omega)]; simp)
        generalize lb[k]?.getD 0 = y at *
        have HROW := Lib.hid (Row.one wr ((cy + y) % 4294967296) (by omega))
        clear wy HST
        go_wp2_with (at_builtin; refine app_row rfl (.tmp 42) (.tmp 45) 23 rfl w.heap.size 37 .u32 4 Try.underlying23 info32 _ k pre rfl (HO.out.alloc _) _ [(cy + y) % 4294967296] rfl HROW.out (by rw [HPL.out]; simp [maxLen]; omega) (by rw [HPL.out]; simp; omega) (by simp; omega) ?_; intro v' w' ho' hb')
        have HO' := Lib.hid ho'
        clear ho'
        go_roundg (nA + nB - (k + 1))
        case measure => omega
        case rel => exact ⟨k + 1, (cy + y) / 4294967296, _, by omega, Nat.le_refl _, by go_num, by go_num, by omega, by omega, HS, HO', (hb.alloc hb.size _).trans hb'⟩
      · have d2 : decide ((k : Int) < (nB : Int)) = false := by simp; omega
        have hF : Acc (pre ++ [cy]) (k + 1) 0 (N la + N lb) := hA.out.step cy 0 (by omega) (by
          rw [List.drop_eq_nil_of_le (by rw [HL.out.1]; omega), List.drop_eq_nil_of_le (by rw [HL.out.2]; omega)]; simp [N])
        have HF := Lib.hid hF
        have HROW := Lib.hid (Row.one wr cy (by omega))
        clear hF HST
        go_wp2_with (at_builtin; refine app_row rfl (.tmp 49) (.tmp 52) 23 rfl w.heap.size 37 .u32 4 Try.underlying23 info32 _ k pre rfl (HO.out.alloc _) _ [cy] rfl HROW.out (by rw [HPL.out]; simp [maxLen]; omega) (by rw [HPL.out]; simp; omega) (by simp; omega) ?_; intro v' w' ho' hb')
        have hbb := (hb.alloc hb.size (.cells #[.int .u32 cy] 37 (0, 0))).trans hb'
        refine (rNormN ho' HF.out.2.1 (by rw [HF.out.1]; omega) hbb hbb.size).mono ?_
        rintro e w3 h
        obtain ⟨v3, rfl, hn, hb3⟩ := RetOwn.ret h
        rw [HF.out.done] at hn
        clear h ho'
        go_wp2_with fail
        go_ret
        exact ⟨v3, rfl, hn, hb3⟩

set_option maxHeartbeats 1000000 in
theorem rDouble (va : Value) (c : Nat) (x b : Int) (w : World) (ha : Num w va c x) (hb0 : 0 ≤ b ∧ b ≤ 1) (hc : c ≤ 2147483648) :
    Calls Try.prog 88 #[va, .int .u32 b] w (Ret1 w.heap.size w (2 * x + b)) := by
  obtain ⟨la, hra, hla, rfl⟩ := ha
  obtain ⟨a1, p1, rfl, g1, m1, c1⟩ := Row.parts hra
  have H1 := Lib.hid c1
  clear hra c1
  generalize hnA : la.length = nA at *
  have HL := Lib.hid hnA
  clear hnA
  go_enter Try.func88, Try.ntmps88
  go_wp2
  go_loopg [5, 6, 1] nA (fun gk v i t wr => ∃ (k : Nat) (cy : Int) (pre : List Int), k ≤ nA ∧ nA - k ≤ gk ∧ i = .int .i64 k ∧ t = .int .u32 cy ∧ 0 ≤ cy ∧ cy ≤ 1 ∧
      Hid (Acc pre k (2 * N (la.drop k) + cy) (2 * N la + b)) ∧ Hid (wr.ownsRow w.heap.size 37 1 v k (pre.map (Value.int .u32))) ∧ Below w.heap.size w wr)
  case atStart => exact ⟨0, b, [], Nat.zero_le _, by omega, rfl, rfl, by omega, by omega, by have := Acc.nil (2 * N la + b); simpa [Hid] using this, ⟨rfl, .inl ⟨rfl, rfl⟩⟩, Below.refl _ _⟩
  case round =>
    obtain ⟨k, cy, pre, hk, hgk, rfl, rfl, hc0, hc1, hA, HO, hb⟩ := hrel
    have hgs : w.heap.size ≤ wr.heap.size := hb.size
    have hpl : pre.length = k := hA.out.1
    have HPL := Lib.hid hpl
    clear hpl
    by_cases h1 : k < nA
    · obtain ⟨b1, o1, rfl, q0, wx⟩ := H1.out k h1
      have q1 := cell_later hb q0
      have Q0 := Lib.hid q0
      clear q0
      have dx := wf_u32 wx
      have eA := N_dropd la k
      generalize la[k]?.getD 0 = x at *
      have HS := Lib.hid (hA.out.step (x * 2 % 4294967296 + cy) (2 * N (la.drop (k + 1)) + x / 2147483648) (by omega) (by rw [eA]; omega))
      have HR : Hid (bits .or .u32 (x * 2 % 4294967296) cy = x * 2 % 4294967296 + cy) := shl_or32 (s := 1) (by omega) x cy (by omega)
      have HROW := Lib.hid (Row.one wr (x * 2 % 4294967296 + cy) (by omega))
      rw [← HR.out] at HROW
      have hall := hb.alloc hb.size (.cells #[.int .u32 (bits .or .u32 (x * 2 % 4294967296) cy)] 37 (0, 0))
      have HALL := Lib.hid hall
      clear wx eA hall
      go_wp2_with (at_builtin; refine app_row rfl (.tmp 13) (.tmp 21) 23 rfl w.heap.size 37 .u32 4 Try.underlying23 info32 _ k pre rfl (HO.out.alloc _) _ [bits .or .u32 (x * 2 % 4294967296) cy] rfl HROW.out (by rw [HPL.out]; simp [maxLen]; omega) (by rw [HPL.out]; simp; omega) (by simp; omega) ?_; intro v' w' ho' hb'; rw [HR.out] at ho'; have HO' := Lib.hid ho'; clear ho'; have hbb := HALL.out.trans hb'; have q2 := cell_later (HALL.out.trans hb') Q0.out; have hi0 : (0 : Int) ≤ k := by omega)
      go_roundg (nA - (k + 1))
      case measure => omega
      case rel => exact ⟨k + 1, x / 2147483648, _, by omega, Nat.le_refl _, by go_num, by go_num, by omega, by omega, HS, HO', hbb⟩
    · have hF : Acc (pre ++ [cy]) (k + 1) 0 (2 * N la + b) := hA.out.step cy 0 (by omega) (by
          rw [List.drop_eq_nil_of_le (by rw [HL.out]; omega)]; simp [N])
      have HF := Lib.hid hF
      have HROW := Lib.hid (Row.one wr cy (by omega))
      clear hF
      go_wp2_with (at_builtin; refine app_row rfl (.tmp 28) (.tmp 30) 23 rfl w.heap.size 37 .u32 4 Try.underlying23 info32 _ k pre rfl (HO.out.alloc _) _ [cy] rfl HROW.out (by rw [HPL.out]; simp [maxLen]; omega) (by rw [HPL.out]; simp; omega) (by simp; omega) ?_; intro v' w' ho' hb')
      have hbb := (hb.alloc hb.size (.cells #[.int .u32 cy] 37 (0, 0))).trans hb'
      refine (rNormN ho' HF.out.2.1 (by rw [HF.out.1]; omega) hbb hbb.size).mono ?_
      rintro e w3 h
      obtain ⟨v3, rfl, hn, hb3⟩ := RetOwn.ret h
      rw [HF.out.done] at hn
      clear h ho'
      go_wp2_with fail
      go_ret
      exact ⟨v3, rfl, hn, hb3⟩


set_option maxHeartbeats 1000000 in
theorem rHalf (va : Value) (c : Nat) (x : Int) (w : World) (ha : Num w va c x) (hc : c ≤ 2147483648) :
    Calls Try.prog 87 #[va] w (Ret1 w.heap.size w (x / 2)) := by
  obtain ⟨la, hra, hla, rfl⟩ := ha
  obtain ⟨a1, p1, rfl, g1, m1, c1⟩ := Row.parts hra
  have H1 := Lib.hid c1
  clear hra c1
  generalize hnA : la.length = nA at *
  have HL := Lib.hid hnA
  clear hnA
  go_enter Try.func87, Try.ntmps87
  go_wp2
  go_loopg [3, 4] nA (fun gk v i wr => ∃ (k : Nat) (pre : List Int), k ≤ nA ∧ nA - k ≤ gk ∧ i = .int .i64 k ∧
      Hid (Acc pre k (N (la.drop k) / 2) (N la / 2)) ∧ Hid (wr.ownsRow w.heap.size 37 1 v k (pre.map (Value.int .u32))) ∧ Below w.heap.size w wr)
  case atStart => exact ⟨0, [], Nat.zero_le _, by omega, rfl, by have := Acc.nil (N la / 2); simpa [Hid] using this, ⟨rfl, .inl ⟨rfl, rfl⟩⟩, Below.refl _ _⟩
  case round =>
    obtain ⟨k, pre, hk, hgk, rfl, hA, HO, hb⟩ := hrel
    have hgs : w.heap.size ≤ wr.heap.size := hb.size
    have hpl : pre.length = k := hA.out.1
    have HPL := Lib.hid hpl
    clear hpl
    by_cases h1 : k < nA
    · obtain ⟨b1, o1, rfl, q0, wx⟩ := H1.out k h1
      have q1 := cell_later hb q0
      have dx := wf_u32 wx
      have eA := N_dropd la k
      have eB := N_dropd la (k + 1)
      generalize la[k]?.getD 0 = x at *
      clear q0
      by_cases h2 : k + 1 < nA
      · obtain ⟨b2, o2, e2, q2, wy⟩ := H1.out (k + 1) h2
        cases e2
        have q2 := cell_later hb q2
        have dy := wf_u32 wy
        generalize la[k + 1]?.getD 0 = y at *
        have HR : Hid (bits .or .u32 (x / 2) (y * 2147483648 % 4294967296) = x / 2 + y * 2147483648 % 4294967296) := (shr_or32 (s := 1) (by omega) x y dx dy).1
        have HS := Lib.hid (hA.out.step (x / 2 + y * 2147483648 % 4294967296) (N (la.drop (k + 1)) / 2) (by omega) (by rw [eA, eB]; omega))
        have HROW := Lib.hid (Row.one wr (x / 2 + y * 2147483648 % 4294967296) (by omega))
        rw [← HR.out] at HROW
        clear wx wy eA eB
        go_wp2_with (at_builtin; refine app_row rfl (.tmp 30) (.tmp 32) 23 rfl w.heap.size 37 .u32 4 Try.underlying23 info32 _ k pre rfl (HO.out.alloc _) _ [bits .or .u32 (x / 2) (y * 2147483648 % 4294967296)] rfl HROW.out (by rw [HPL.out]; simp [maxLen]; omega) (by rw [HPL.out]; simp; omega) (by simp; omega) ?_; intro v' w' ho' hb'; rw [HR.out] at ho'; have HO' := Lib.hid ho'; clear ho')
        go_roundg (nA - (k + 1))
        case measure => omega
        case rel => exact ⟨k + 1, _, by omega, Nat.le_refl _, by go_num, HS, HO', (hb.alloc hb.size _).trans hb'⟩
      · have HS := Lib.hid (hA.out.step (x / 2) (N (la.drop (k + 1)) / 2) (by omega) (by
          rw [eA, List.drop_eq_nil_of_le (show la.length ≤ k + 1 by rw [HL.out]; omega)]; simp [N]))
        have HROW := Lib.hid (Row.one wr (x / 2) (by omega))
        have d2 : decide ((k : Int) + 1 < (nA : Int)) = false := by simp; omega
        clear wx eA eB
        go_wp2_with (at_builtin; refine app_row rfl (.tmp 30) (.tmp 32) 23 rfl w.heap.size 37 .u32 4 Try.underlying23 info32 _ k pre rfl (HO.out.alloc _) _ [x / 2] rfl HROW.out (by rw [HPL.out]; simp [maxLen]; omega) (by rw [HPL.out]; simp; omega) (by simp; omega) ?_; intro v' w' ho' hb'; have HO' := Lib.hid ho'; clear ho')
        go_roundg (nA - (k + 1))
        case measure => omega
        case rel => exact ⟨k + 1, _, by omega, Nat.le_refl _, by go_num, HS, HO', (hb.alloc hb.size _).trans hb'⟩
    · have hF : Acc pre k 0 (N la / 2) := by
        have := hA.out
        rw [List.drop_eq_nil_of_le (by rw [HL.out]; omega)] at this
        exact this
      have HF := Lib.hid hF
      clear hF
      go_wp2_with fail
      refine (rNormN HO.out HF.out.2.1 (by rw [HF.out.1]; omega) hb hb.size).mono ?_
      rintro e w3 h
      obtain ⟨v3, rfl, hn, hb3⟩ := RetOwn.ret h
      rw [HF.out.done] at hn
      clear h
      go_wp2_with fail
      go_ret
      exact ⟨v3, rfl, hn, hb3⟩
end Go.Proofs.Ytpplleoiehnlkaa.Nt
