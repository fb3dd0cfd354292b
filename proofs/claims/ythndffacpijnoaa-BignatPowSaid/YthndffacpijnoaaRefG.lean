/-
  Contracts of credenceref1.small, NatPow, Digits and NatFormat.
-/
import Derived.Test.YthndffacpijnoaaRefF
namespace Go.Proofs.Ythndffacpijnoaa.Nt
open Go.ChangeShapes Go.WideShapes Go.ChangeAt Go.RowKit B
set_option linter.unusedVariables false

/-- quotient and rest -/
def RetDig64 (base : Nat) (w : World) (x d : Int) (e : Ending) (w' : World) : Prop :=
  ∃ v, e = .returned (.tuple #[v, .int .u64 (x % d)]) ∧ IsNew base w' v (x / d) ∧ Below base w w'

set_option maxHeartbeats 1000000 in
theorem rSmall (va : Value) (c : Nat) (x d : Int) (w : World) (ha : Num w va c x) (hc : c ≤ 4294967296) (hd : 0 < d) (hd2 : d < 4294967296) :
    Calls Try.prog 46 #[va, .int .u64 d] w (RetDig64 w.heap.size w x d) := by
  obtain ⟨l1, hra, hla, rfl⟩ := ha
  have HD := Lib.hid (Row.ds hra)
  obtain ⟨a1, p1, rfl, g1, m1, hcell1⟩ := Row.parts hra
  have HX := Lib.hid hcell1
  clear hra hcell1
  generalize hnX : l1.length = nX at *
  have HL := Lib.hid hnX
  clear hnX
  go_enter Try.func46, Try.ntmps46
  go_wp2_with (at_make; refine make_row rfl (.tmp 10) (.tmp 10) 23 rfl w.heap.size 43 .u32 4 Try.underlying23 info32 _ nX rfl rfl rfl (by omega) (by unfold maxLen; omega) (Nat.le_refl _) ?_; intro w1 ho1 hb1)
  go_loopw [7, 8] (fun t i wr => ∃ (k : Nat) (rest : Int) (qs : List Int), k ≤ nX ∧ i = .int .i64 ((k : Int) - 1) ∧ t = .int .u64 rest ∧ 0 ≤ rest ∧ rest < d ∧ Hid (Ds qs ∧ N (l1.drop k) = d * N qs + rest ∧ qs.length = nX - k) ∧
      wr.ownsRow w.heap.size 43 1 (.slice (some ⟨w.heap.size, 0, none⟩) nX nX) nX ((List.replicate k 0 ++ qs).map (Value.int .u32)) ∧ Below w.heap.size w wr) (fun _ i _ => (intOf i + 1).toNat)
  case atStart => exact ⟨nX, 0, [], Nat.le_refl _, rfl, rfl, by omega, hd, ⟨Ds.nil, by rw [List.drop_eq_nil_of_le (by rw [HL.out]; exact Nat.le_refl _)]; simp [N], by simp⟩, by rw [List.append_nil]; exact ho1, hb1⟩
  case round =>
    obtain ⟨k, rest, qs, hk, rfl, rfl, hr0, hr1, hp, ho, hb⟩ := hrel
    rcases k with _ | j
    · have HF := Lib.hid (show N l1 / d = N qs ∧ N l1 % d = rest by
        have e := hp.out.2.1
        rw [List.drop_zero] at e
        have e2 := (Int.ediv_emod_unique (a := N l1) (b := d) (r := rest) (q := N qs) hd).2 ⟨by rw [e]; omega, hr0, hr1⟩
        exact e2)
      have HQ := Lib.hid hp.out.1
      have HQL := Lib.hid hp.out.2.2
      rw [List.replicate_zero, List.nil_append] at ho
      clear hp
      have hr2 : rest < 4294967296 := by omega
      go_wp2_with fail
      refine (rNormN ho HQ.out (by rw [HQL.out]; omega) hb hb.size).mono ?_
      rintro e w' h
      obtain ⟨v', rfl, hn, hb'⟩ := RetOwn.ret h
      clear h
      go_wp2_with fail
      go_ret2
      refine ⟨v', ?_, by rw [HF.out.1]; exact hn, hb'⟩
      rw [HF.out.2]; rfl
    · obtain ⟨bx, ox, rfl, qx, wx⟩ := HX.out j (by omega)
      have qx := cell_later hb qx
      have dx := wf_u32 wx
      have HS := Lib.hid (N_drop (l := l1) (k := j) (by rw [HL.out]; omega))
      obtain ⟨hce, hfz⟩ := own_cell ho j (by omega)
      generalize l1[j]?.getD 0 = x at *
      clear wx
      have hbd := div_bd rest x d hr0 hr1 dx
      have hmod : 0 ≤ (rest * 4294967296 + x) % d ∧ (rest * 4294967296 + x) % d < d := ⟨Int.emod_nonneg _ (by omega), Int.emod_lt_of_pos _ hd⟩
      obtain ⟨hm0, hm1⟩ := hmod
      go_wp2
      refine ⟨⟨j, (rest * 4294967296 + x) % d, ((rest * 4294967296 + x) / d) :: qs, by omega, by go_num, rfl, hm0, hm1, ⟨Ds.cons hbd hp.out.1, ?_, ?_⟩, ?_, hb.setCell (Nat.le_refl _) _⟩, by simp [intOf]⟩
      · rw [HS.out, N]
        exact div_step rest x d (N qs) _ hp.out.2.1
      · have := hp.out.2.2; simp; omega
      · have := own_store ho j ((rest * 4294967296 + x) / d)
        rwa [set_front rfl] at this

set_option maxHeartbeats 2000000 in
theorem rPow (va : Value) (c : Nat) (x n : Int) (w : World) (ha : Num w va c x) (hc : c ≤ 1073741824) (hn0 : -9223372036854775808 ≤ n) (hn1 : n ≤ 9223372036854775807) :
    Calls Try.prog 29 #[va, .int .i64 n] w (RetPow w.heap.size w x n) := by
  have HA := Lib.hid ha
  have hx0 := ha.nonneg
  have HXC := Lib.hid ha.lt
  clear ha
  by_cases hneg : n < 0
  · have HR := Lib.hid (show powE x n = 1 ∧ powX x n = 0 by rw [powE, powX, if_pos hneg, if_pos hneg]; exact ⟨rfl, rfl⟩)
    go_enter Try.func29, Try.ntmps29
    go_wp2_with fail
    go_ret2
    exact ⟨.slice none 0 0, by rw [HR.out.1]; rfl, by rw [HR.out.2]; exact IsNew.nil _ _, Below.refl _ _⟩
  obtain ⟨m, rfl⟩ := Int.eq_ofNat_of_zero_le (show 0 ≤ n by omega)
  clear hneg hn0
  go_enter Try.func29, Try.ntmps29
  go_wp2_with fail
  refine (rNorm va c x w HA.out (by omega)).mono ?_
  rintro e w1 ⟨v1, rfl, h1, hb1⟩
  have HX1 := Lib.hid h1
  clear h1
  go_wp2_with fail
  refine (rOf 1 w1 (by decide) (by decide)).mono ?_
  rintro e w2 ⟨v2, rfl, h2, hb2⟩
  have HO2 := Lib.hid (h2.mono (base' := w.heap.size) hb1.size)
  have HX2 := Lib.hid (HX1.out.keep hb2)
  have hbw : Below w.heap.size w w2 := hb1.trans (hb2.mono hb1.size)
  clear h2 HX1
  by_cases hm0 : m = 0
  · subst hm0
    have HR := Lib.hid (pow_done (x := x) (n := 0) (by rw [Int.pow_zero]; decide))
    rw [Int.pow_zero] at HR
    have hz : (((0 : Nat) : Int) == 0) = true := rfl
    go_wp2_with fail
    go_ret2
    exact ⟨v2, by rw [HR.out.1]; rfl, by rw [HR.out.2]; exact HO2.out, hbw⟩
  have hmz : ((m : Int) == 0) = false := by rw [beq_eq_false_iff_ne]; omega
  have hcp := Bp_mono (show 0 ≤ c by omega)
  go_wp2_with fail
  refine (rCmp v1 v2 (c + 1) x 1 w2 (HX2.out.num (c + 1) (by rw [Bp]; have := Bp_pos c; have := HXC.out; omega)) (HO2.out.num (c + 1) (by rw [Bp]; have := Bp_pos c; omega)) (by omega)).mono ?_
  rintro e w3 ⟨rfl, hb3⟩
  have hbw3 : Below w.heap.size w w3 := hbw.trans (hb3.mono hbw.size)
  have HO3 := Lib.hid (HO2.out.keep hb3)
  have HX3 := Lib.hid (HX2.out.keep hb3)
  clear HO2 HX2
  by_cases hx1 : x = 1
  · subst hx1
    have HR := Lib.hid (pow_done (x := 1) (n := m) (by rw [one_pow]; decide))
    rw [one_pow] at HR
    rw [show cmpI 1 1 = 0 by decide]
    go_wp2_with fail
    go_ret2
    exact ⟨v2, by rw [HR.out.1]; rfl, by rw [HR.out.2]; exact HO3.out, hbw3⟩
  have hne : (cmpI x 1 == 0) = false := by
    rw [beq_eq_false_iff_ne, cmpI]
    split
    · decide
    · first | decide | (rw [if_neg hx1]; decide)
  generalize cmpI x 1 = t at *
  by_cases hxz : x = 0
  · subst hxz
    obtain ⟨a1, p1, rfl⟩ := IsNew.zero HX3.out rfl
    have HR := Lib.hid (pow_done (x := 0) (n := m) (by rw [zero_pow (by omega)]; decide))
    rw [zero_pow (by omega)] at HR
    clear hx1
    go_wp2_with fail
    go_ret2
    exact ⟨.slice none 0 0, by rw [HR.out.1]; rfl, by rw [HR.out.2]; exact IsNew.nil _ _, hbw3⟩
  obtain ⟨a1, n1, p1, rfl, hn1, hp1, hq1⟩ := IsNew.lenPos HX3.out hxz
  have hd1 : ((n1 : Int) == 0) = false := by rw [beq_eq_false_iff_ne]; omega
  have hx2 : 2 ≤ x := by omega
  clear hxz hx1 hx0
  go_wp2_with fail
  clear hd1 hn1 hp1 hq1
  go_loopg [7, 8] m (fun gk v i wr => ∃ k : Nat, k ≤ m ∧ m - k ≤ gk ∧ i = .int .i64 k ∧ Hid (IsNew w.heap.size wr v (x ^ k)) ∧ Hid (IsNew w.heap.size wr (.slice a1 n1 p1) x) ∧ Hid (blen (x ^ k) ≤ 65536) ∧ Below w.heap.size w wr)
  case atStart => exact ⟨0, Nat.zero_le _, Nat.le_refl _, rfl, by rw [Int.pow_zero]; exact HO3, HX3, by rw [Int.pow_zero]; show _ ≤ _; decide, hbw3⟩
  case round =>
    clear HO3 HX3
    obtain ⟨k, hk, hgk, rfl, HO, HX, HB, hb⟩ := hrel
    have HP := Lib.hid (pow_pos' (show 1 ≤ x by omega) k)
    have HP1 := Lib.hid (pow_pos' (show 1 ≤ x by omega) (k + 1))
    have HL := Lib.hid (show x ^ k < Bp (2048 + c) by
      have h1 := (blen_spec (show 0 < x ^ k by have := HP.out; omega)).2.1
      have h2 := two_mono HB.out
      have h3 : Bp 2048 = 2 ^ 65536 := by rw [Bp_pow]
      have h4 := Bp_mono (show 2048 ≤ 2048 + c by omega)
      rw [← h3] at h2
      omega)
    have HXC2 := Lib.hid (show x < Bp (2048 + c) by have := HXC.out; have := Bp_mono (show c ≤ 2048 + c by omega); omega)
    by_cases hlt : k < m
    · go_wp2_with fail
      refine (rMul _ _ (2048 + c) (x ^ k) x wr (HO.out.num _ HL.out) (HX.out.num _ HXC2.out) (by omega)).mono ?_
      rintro e w4 ⟨v4, rfl, h4, hb4⟩
      rw [← Int.pow_succ] at h4
      have HO4 := Lib.hid (h4.mono (base' := w.heap.size) hb.size)
      clear h4
      have HL4 := Lib.hid (show x ^ (k + 1) < Bp (2048 + c + (2048 + c)) by
        rw [Int.pow_succ]; exact bp_mul (by have := HP.out; omega) HL.out (by omega) HXC2.out)
      have HBL := Lib.hid (show (blen (x ^ (k + 1)) : Int) ≤ 137438953472 by
        have h1 := HL4.out
        rw [Bp_pow] at h1
        have := blen_lt (by have := HP1.out; omega) (32 * (2048 + c + (2048 + c))) h1
        omega)
      go_wp2_with fail
      refine (rBits v4 (2048 + c + (2048 + c)) (x ^ (k + 1)) w4 (HO4.out.num _ HL4.out) (by omega)).mono ?_
      rintro e w5 ⟨rfl, hb5⟩
      by_cases hbig : 65536 < blen (x ^ (k + 1))
      · have HR := Lib.hid (pow_over (x := x) (n := m) (by
          have h1 := pow_mono (show 1 ≤ x by omega) (show k + 1 ≤ m by omega)
          have h2 := (blen_spec (show 0 < x ^ (k + 1) by have := HP1.out; omega)).1
          have h3 := two_mono (show 65536 ≤ blen (x ^ (k + 1)) - 1 by omega)
          exact blen_big (by omega)))
        generalize blen (x ^ (k + 1)) = bl at *
        have hd : decide ((bl : Int) > 65536) = true := by simp; omega
        go_wp2_with fail
        go_ret2
        exact ⟨.slice none 0 0, by rw [HR.out.1]; rfl, by rw [HR.out.2]; exact IsNew.nil _ _, (hb.trans (hb4.mono hb.size)).trans (hb5.mono (Nat.le_trans hb.size hb4.size))⟩
      · have HB5 := Lib.hid (show blen (x ^ (k + 1)) ≤ 65536 by omega)
        have HB6 := Lib.hid HB5.out
        generalize hbl : blen (x ^ (k + 1)) = bl at *
        have HBL5 := Lib.hid hbl
        clear hbl
        have hd : decide ((bl : Int) > 65536) = false := by simp; omega
        go_wp2_with fail
        go_roundg (m - (k + 1))
        case measure => omega
        case rel => exact ⟨k + 1, by omega, Nat.le_refl _, by go_num, HO4.out.keep hb5, (HX.out.keep hb4).keep hb5, by rw [HBL5.out]; exact HB6.out, (hb.trans (hb4.mono hb.size)).trans (hb5.mono (Nat.le_trans hb.size hb4.size))⟩
    · obtain rfl : k = m := by omega
      have HR := Lib.hid (pow_done HB.out)
      go_wp2_with fail
      go_ret2
      exact ⟨_, by rw [HR.out.1]; rfl, by rw [HR.out.2]; exact HO.out, hb⟩
end Go.Proofs.Ythndffacpijnoaa.Nt
