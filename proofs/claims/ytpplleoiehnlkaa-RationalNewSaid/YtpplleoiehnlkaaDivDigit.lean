/-
  Contract of bignat.divideByDigit.
-/
import Derived.Test.YtpplleoiehnlkaaMul
namespace Go.Proofs.Ytpplleoiehnlkaa.Nt
open Go.ChangeShapes Go.WideShapes Go.ChangeAt Go.RowKit B
set_option linter.unusedVariables false

theorem div_bd (rest x d : Int) (h0 : 0 ≤ rest) (h1 : rest < d) (hx : 0 ≤ x ∧ x < 4294967296) : 0 ≤ (rest * 4294967296 + x) / d ∧ (rest * 4294967296 + x) / d < 4294967296 := by
  refine ⟨Int.ediv_nonneg (by omega) (by omega), ?_⟩
  apply Int.ediv_lt_of_lt_mul (by omega)
  have : (rest + 1) * 4294967296 ≤ d * 4294967296 := by omega
  rw [Int.mul_comm 4294967296 d]
  omega
theorem div_step (rest x d Q T : Int) (h : T = d * Q + rest) : x + 4294967296 * T = d * ((rest * 4294967296 + x) / d + 4294967296 * Q) + (rest * 4294967296 + x) % d := by
  have e := Int.mul_ediv_add_emod (rest * 4294967296 + x) d
  rw [Int.mul_add, Int.mul_left_comm d 4294967296 Q]
  omega
theorem set_front {l : List Int} {j n : Nat} (h : n = j + 1) (x : Int) : (List.replicate n (0 : Int) ++ l).set j x = List.replicate j 0 ++ x :: l := by
  subst h
  rw [List.replicate_succ', List.append_assoc, List.set_append_right _ _ (by simp), List.length_replicate, Nat.sub_self]; rfl

/-- quotient and rest -/
def RetDig (base : Nat) (w : World) (x d : Int) (e : Ending) (w' : World) : Prop :=
  ∃ v, e = .returned (.tuple #[v, .int .u32 (x % d)]) ∧ IsNew base w' v (x / d) ∧ Below base w w'

set_option maxHeartbeats 1000000 in
theorem divDigit (va : Value) (c : Nat) (x d : Int) (w : World) (ha : Num w va c x) (hc : c ≤ 4294967296) (hd : 0 < d) (hd2 : d < 4294967296) :
    Calls Try.prog 63 #[va, .int .u32 d] w (RetDig w.heap.size w x d) := by
  obtain ⟨l1, hra, hla, rfl⟩ := ha
  have HD := Lib.hid (Row.ds hra)
  obtain ⟨a1, p1, rfl, g1, m1, hcell1⟩ := Row.parts hra
  have HX := Lib.hid hcell1
  clear hra hcell1
  generalize hnX : l1.length = nX at *
  have HL := Lib.hid hnX
  clear hnX
  go_enter Try.func63, Try.ntmps63
  go_wp2_with (at_make; refine make_row rfl (.tmp 11) (.tmp 11) 23 rfl w.heap.size 37 .u32 4 Try.underlying23 info32 _ nX rfl rfl rfl (by omega) (by unfold maxLen; omega) (Nat.le_refl _) ?_; intro w1 ho1 hb1)
  go_loopw [7, 8] (fun t i wr => ∃ (k : Nat) (rest : Int) (qs : List Int), k ≤ nX ∧ i = .int .i64 ((k : Int) - 1) ∧ t = .int .u64 rest ∧ 0 ≤ rest ∧ rest < d ∧ Hid (Ds qs ∧ N (l1.drop k) = d * N qs + rest) ∧
      wr.ownsRow w.heap.size 37 1 (.slice (some ⟨w.heap.size, 0, none⟩) nX nX) nX ((List.replicate k 0 ++ qs).map (Value.int .u32)) ∧ Below w.heap.size w wr) (fun _ i _ => (intOf i + 1).toNat)
  case atStart => exact ⟨nX, 0, [], Nat.le_refl _, rfl, rfl, by omega, hd, ⟨Ds.nil, by rw [List.drop_eq_nil_of_le (by rw [HL.out]; exact Nat.le_refl _)]; simp [N]⟩, by rw [List.append_nil]; exact ho1, hb1⟩
  case round =>
    obtain ⟨k, rest, qs, hk, rfl, rfl, hr0, hr1, hp, ho, hb⟩ := hrel
    rcases k with _ | j
    · have HF := Lib.hid (show N l1 / d = N qs ∧ N l1 % d = rest by
        have e := hp.out.2
        rw [List.drop_zero] at e
        have e2 := (Int.ediv_emod_unique (a := N l1) (b := d) (r := rest) (q := N qs) hd).2 ⟨by rw [e]; omega, hr0, hr1⟩
        exact e2)
      have HQ := Lib.hid hp.out.1
      rw [List.replicate_zero, List.nil_append] at ho
      clear hp
      have hr2 : rest < 4294967296 := by omega
      go_wp2_with fail
      refine (trimN ho HQ.out).mono ?_
      rintro e w' ⟨v', rfl, hn, rfl⟩
      go_wp2_with fail
      go_ret2
      refine ⟨v', ?_, by rw [HF.out.1]; exact hn, hb⟩
      rw [HF.out.2]; rfl
    · obtain ⟨bx, ox, rfl, qx, wx⟩ := HX.out j (by omega)
      have qx := cell_later hb qx
      have dx := wf_u32 wx
      have HS := Lib.hid (N_drop (l := l1) (k := j) (by rw [HL.out]; omega))
      obtain ⟨hce, hfz⟩ := own_cell ho j (by omega)
      generalize l1[j]?.getD 0 = x at *
      clear wx
      have hor := shl_or rest x (by omega) dx
      have hbd := div_bd rest x d hr0 hr1 dx
      have hmod : 0 ≤ (rest * 4294967296 + x) % d ∧ (rest * 4294967296 + x) % d < d := ⟨Int.emod_nonneg _ (by omega), Int.emod_lt_of_pos _ hd⟩
      obtain ⟨hm0, hm1⟩ := hmod
      go_wp2
      refine ⟨⟨j, (rest * 4294967296 + x) % d, ((rest * 4294967296 + x) / d) :: qs, by omega, by go_num, rfl, hm0, hm1, ⟨Ds.cons hbd hp.out.1, ?_⟩, ?_, hb.setCell (Nat.le_refl _) _⟩, by simp [intOf]⟩
      · rw [HS.out, N]
        exact div_step rest x d (N qs) _ hp.out.2
      · have := own_store ho j ((rest * 4294967296 + x) / d)
        rwa [set_front rfl] at this
end Go.Proofs.Ytpplleoiehnlkaa.Nt
