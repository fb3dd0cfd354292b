/-
  Contracts of credenceref1.small, NatPow, Digits and NatFormat.
-/
import Derived.Test.YtpplleoiehnlkaaRefF
namespace Go.Proofs.Ytpplleoiehnlkaa.Nt
open Go.ChangeShapes Go.WideShapes Go.ChangeAt Go.RowKit B
set_option linter.unusedVariables false

/-- quotient and rest -/
def RetDig64 (base : Nat) (w : World) (x d : Int) (e : Ending) (w' : World) : Prop :=
  ∃ v, e = .returned (.tuple #[v, .int .u64 (x % d)]) ∧ IsNew base w' v (x / d) ∧ Below base w w'

set_option maxHeartbeats 1000000 in
theorem rSmall (va : Value) (c : Nat) (x d : Int) (w : World) (ha : Num w va c x) (hc : c ≤ 4294967296) (hd : 0 < d) (hd2 : d < 4294967296) :
    Calls Try.prog 83 #[va, .int .u64 d] w (RetDig64 w.heap.size w x d) := by
  obtain ⟨l1, hra, hla, rfl⟩ := ha
  have HD := Lib.hid (Row.ds hra)
  obtain ⟨a1, p1, rfl, g1, m1, hcell1⟩ := Row.parts hra
  have HX := Lib.hid hcell1
  clear hra hcell1
  generalize hnX : l1.length = nX at *
  have HL := Lib.hid hnX
  clear hnX
  go_enter Try.func83, Try.ntmps83
  go_wp2_with (at_make; refine make_row rfl (.tmp 10) (.tmp 10) 23 rfl w.heap.size 37 .u32 4 Try.underlying23 info32 _ nX rfl rfl rfl (by omega) (by unfold maxLen; omega) (Nat.le_refl _) ?_; intro w1 ho1 hb1)
  go_loopw [7, 8] (fun t i wr => ∃ (k : Nat) (rest : Int) (qs : List Int), k ≤ nX ∧ i = .int .i64 ((k : Int) - 1) ∧ t = .int .u64 rest ∧ 0 ≤ rest ∧ rest < d ∧ Hid (Ds qs ∧ N (l1.drop k) = d * N qs + rest ∧ qs.length = nX - k) ∧
      wr.ownsRow w.heap.size 37 1 (.slice (some ⟨w.heap.size, 0, none⟩) nX nX) nX ((List.replicate k 0 ++ qs).map (Value.int .u32)) ∧ Below w.heap.size w wr) (fun _ i _ => (intOf i + 1).toNat)
  case atStart => exact ⟨nX, 0, [], Nat.le_refl _, rfl, rfl, by omega, hd, ⟨Ds.nil, by rw [List.drop_eq_nil_of_le (by rw [HL.out]; exact Nat.le_refl _)]; simp [N], by simp⟩, by rw [List.append_nil]; exact ho1, hb1⟩
  case round =>
    obtain ⟨k, rest, qs, hk, rfl, rfl, hr0, hr1, hp, ho, hb⟩ := hrel
    rcases k with _ | j
    · have HF := Lib.hid (show N l1 / d = N qs ∧ N l1 % d = rest by
        have e := hp.out.2.1
        rw [List.drop_zero] at e
        have e2 := (Int.ediv_emod_unique (a := N l1) (b := d) (r := rest) (q := N qs) hd).2 ⟨by rw [e]; omega, hr0, hr1⟩
        exact e2)
      have HQ := Lib.hid hp.out.1
      have HQL := Lib.hid hp.out.2.2
      rw [List.replicate_zero, List.nil_append] at ho
      clear hp
      have hr2 : rest < 4294967296 := by omega
      go_wp2_with fail
      refine (rNormN ho HQ.out (by rw [HQL.out]; omega) hb hb.size).mono ?_
      rintro e w' h
      obtain ⟨v', rfl, hn, hb'⟩ := RetOwn.ret h
      clear h
      go_wp2_with fail
      go_ret2
      refine ⟨v', ?_, by rw [HF.out.1]; exact hn, hb'⟩
      rw [HF.out.2]; rfl
    · obtain ⟨bx, ox, rfl, qx, wx⟩ := HX.out j (by omega)
      have qx := cell_later hb qx
      have dx := wf_u32 wx
      have HS := Lib.hid (N_drop (l := l1) (k := j) (by rw [HL.out]; omega))
      obtain ⟨hce, hfz⟩ := own_cell ho j (by omega)
      generalize l1[j]?.getD 0 = x at *
      clear wx
      have hbd := div_bd rest x d hr0 hr1 dx
      have hmod : 0 ≤ (rest * 4294967296 + x) % d ∧ (rest * 4294967296 + x) % d < d := ⟨Int.emod_nonneg _ (by omega), Int.emod_lt_of_pos _ hd⟩
      obtain ⟨hm0, hm1⟩ := hmod
      go_wp2
      refine ⟨⟨j, (rest * 4294967296 + x) % d, ((rest * 4294967296 + x) / d) :: qs, by omega, by go_num, rfl, hm0, hm1, ⟨Ds.cons hbd hp.out.1, ?_, ?_⟩, ?_, hb.setCell (Nat.le_refl _) _⟩, by simp [intOf]⟩
      · rw [HS.out, N]
        exact div_step rest x d (N qs) _ hp.out.2.1
      · have := hp.out.2.2; simp; omega
      · have := own_store ho j ((rest * 4294967296 + x) / d)
        rwa [set_front rfl] at this

end Go.Proofs.Ytpplleoiehnlkaa.Nt
