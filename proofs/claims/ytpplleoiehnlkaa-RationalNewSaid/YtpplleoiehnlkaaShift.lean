/-
  Contracts of bignat.shiftLeft and shiftRight.
-/
import Derived.Test.YtpplleoiehnlkaaDivDigit
import Derived.Test.YtpplleoiehnlkaaShiftPlain
namespace Go.Proofs.Ytpplleoiehnlkaa.Nt
open Go.ChangeShapes Go.WideShapes Go.ChangeAt Go.RowKit B
set_option linter.unusedVariables false

/-- the shifted row, in memory of its own -/
def RetShl (w : World) (l : List Int) (s size : Nat) (e : Ending) (w' : World) : Prop :=
  ∃ r : List Int, e = .returned (.slice (some ⟨w.heap.size, 0, none⟩) size size) ∧ Ds r ∧ N r = N l * 2 ^ s ∧ w'.ownsRow w.heap.size 37 1 (.slice (some ⟨w.heap.size, 0, none⟩) size size) size (r.map (Value.int .u32)) ∧ Below w.heap.size w w'

set_option maxHeartbeats 1000000 in
theorem shiftLeft (va : Value) (l : List Int) (s size : Nat) (w : World) (hr : Row .u32 w va l) (hl : l.length ≤ 4294967296) (hs : s < 32) (hsz : size = l.length ∨ size = l.length + 1) (hfit : N l * 2 ^ s < Bp size) :
    Calls Try.prog 93 #[va, .int .u64 (s : Int), .int .i64 (size : Int)] w (RetShl w l s size) := by
  have HD := Lib.hid (Row.ds hr)
  have HFIT := Lib.hid hfit
  have HP := Lib.hid (pow_bd hs)
  obtain ⟨a1, p1, rfl, g1, m1, hcell1⟩ := Row.parts hr
  have HX := Lib.hid hcell1
  clear hr hcell1 hfit
  generalize hnX : l.length = nX at *
  have HL := Lib.hid hnX
  have HSZ := Lib.hid hsz
  have hsz1 : nX ≤ size ∧ size ≤ nX + 1 := by omega
  clear hnX hsz
  go_enter Try.func93, Try.ntmps93
  go_wp2_with (at_make; refine make_row rfl (.tmp 11) (.tmp 11) 23 rfl w.heap.size 37 .u32 4 Try.underlying23 info32 _ size rfl rfl rfl (by omega) (by unfold maxLen; omega) (Nat.le_refl _) ?_; intro w1 ho1 hb1)
  go_loopw [8, 15] (fun t i wr => ∃ (k : Nat) (cy : Int) (pre : List Int), k ≤ nX ∧ i = .int .i64 k ∧ t = .int .u32 cy ∧ Hid (0 ≤ cy ∧ cy < 2 ^ s) ∧ Hid (pre.length = k ∧ pre ++ shlL (2 ^ s) (l.drop k) cy = shlL (2 ^ s) l 0 ∧ shlC (2 ^ s) (l.drop k) cy = shlC (2 ^ s) l 0) ∧
      wr.ownsRow w.heap.size 37 1 (.slice (some ⟨w.heap.size, 0, none⟩) size size) size ((pre ++ List.replicate (size - k) 0).map (Value.int .u32)) ∧ Below w.heap.size w wr) (fun _ i _ => nX - (intOf i).toNat)
  case atStart => exact ⟨0, 0, [], Nat.zero_le _, rfl, rfl, ⟨by omega, Int.lt_of_lt_of_le (by decide) (two_pos s)⟩, ⟨rfl, rfl, rfl⟩, ho1, hb1⟩
  case round =>
    obtain ⟨k, cy, pre, hk, rfl, rfl, hcy, hp, ho, hb⟩ := hrel
    by_cases hlt : k < nX
    · obtain ⟨bx, ox, rfl, qx, wx⟩ := HX.out k (by omega)
      have qx := cell_later hb qx
      have dx := wf_u32 wx
      obtain ⟨hce, hfz⟩ := own_cell ho k (by omega)
      have HS := Lib.hid (shlL_step (2 ^ s) l k cy (by rw [HL.out]; exact hlt))
      generalize l[k]?.getD 0 = x at *
      clear wx
      have HO := Lib.hid (shl_or32 hs x cy hcy.out)
      have HG := Lib.hid (shl_digit hs x cy dx hcy.out)
      have HC := Lib.hid (show x / 2 ^ (32 - s) % 4294967296 = x * 2 ^ s / 4294967296 by
        rw [← shl_div hs]
        have := HG.out.2
        have := HP.out
        rw [Int.emod_eq_of_lt] <;> omega)
      go_wp2
      refine ⟨⟨k + 1, x * 2 ^ s / 4294967296, pre ++ [x * 2 ^ s % 4294967296 + cy], by omega, by go_num, by rw [HC.out], HG.out.2, ⟨by simp [hp.out.1], ?_, ?_⟩, ?_, hb.setCell (Nat.le_refl _) _⟩, by simp [intOf]; omega⟩
      · rw [← hp.out.2.1, HS.out.1, List.append_assoc]; rfl
      · rw [← hp.out.2.2, HS.out.2]
      · have := own_store ho k (x * 2 ^ s % 4294967296 + cy)
        rw [set_zeros hp.out.1 (show k < size by omega)] at this
        rw [HO.out]
        exact this
    · obtain rfl : k = nX := by omega
      have HE := Lib.hid (show pre = shlL (2 ^ s) l 0 ∧ cy = shlC (2 ^ s) l 0 by
        have e1 := hp.out.2.1
        have e2 := hp.out.2.2
        rw [List.drop_eq_nil_of_le (by rw [HL.out]; exact Nat.le_refl _)] at e1 e2
        simp only [shlL, shlC, List.append_nil] at e1 e2
        exact ⟨e1, e2⟩)
      have HDS := Lib.hid (shlL_ds hs l 0 HD.out ⟨by omega, Int.lt_of_lt_of_le (by decide) (two_pos s)⟩)
      have HV := Lib.hid (shlL_N (2 ^ s) l 0)
      rw [HL.out, ← HE.out.1, ← HE.out.2] at HV
      rw [← HE.out.1, ← HE.out.2] at HDS
      by_cases hgt : k < size
      · have hcy2 : cy < 4294967296 ∧ 0 ≤ cy := by have := HDS.out.2; have := HP.out; omega
        obtain ⟨hce, hfz⟩ := own_cell ho k (by omega)
        have hs2 := own_store ho k cy
        rw [set_zeros hp.out.1 hgt, show size - (k + 1) = 0 by omega, List.replicate_zero, List.append_nil] at hs2
        have HX2 := Lib.hid (show Ds (pre ++ [cy]) ∧ N (pre ++ [cy]) = N l * 2 ^ s by
          refine ⟨HDS.out.1.app (Ds.cons (by omega) Ds.nil), ?_⟩
          have := HV.out
          rw [N_app, hp.out.1]
          simp only [N, Int.mul_zero, Int.add_zero]
          omega)
        go_wp2
        go_ret
        exact ⟨pre ++ [cy], rfl, HX2.out.1, HX2.out.2, hs2, hb.setCell (Nat.le_refl _) _⟩
      · obtain rfl : size = k := by omega
        rw [Nat.sub_self, List.replicate_zero, List.append_nil] at ho
        have HX2 := Lib.hid (show N pre = N l * 2 ^ s by
          have h1 := HV.out
          have h2 := HFIT.out
          have h3 := N_nonneg HDS.out.1
          have h4 := HDS.out.2.1
          have h5 := Bp_pos size
          rcases Int.lt_or_eq_of_le h4 with h6 | h6
          · have := Int.mul_le_mul_of_nonneg_left (show 1 ≤ cy by omega) (show 0 ≤ Bp size by omega)
            omega
          · rw [← h6, Int.mul_zero] at h1; omega)
        go_wp2
        go_ret
        exact ⟨pre, rfl, HDS.out.1, HX2.out, ho, hb⟩

theorem shr_or32 {s : Nat} (hs : s < 32) (d e : Int) (hd : 0 ≤ d ∧ d < 4294967296) (he : 0 ≤ e ∧ e < 4294967296) :
    bits .or .u32 (d / 2 ^ s) (e * 2 ^ (32 - s) % 4294967296) = d / 2 ^ s + e * 2 ^ (32 - s) % 4294967296 ∧ 0 ≤ d / 2 ^ s + e * 2 ^ (32 - s) % 4294967296 ∧ d / 2 ^ s + e * 2 ^ (32 - s) % 4294967296 < 4294967296 := by
  have h1 := pow_bd hs
  have h2 := pow_bd2 hs
  have h3 := pow32 hs
  have a0 : 0 ≤ d / 2 ^ s := Int.ediv_nonneg hd.1 (by omega)
  have a1 : d / 2 ^ s < 2 ^ (32 - s) := by
    apply Int.ediv_lt_of_lt_mul (by omega)
    rw [Int.mul_comm, h3]; exact hd.2
  have em : e * 2 ^ (32 - s) % 4294967296 = (e % 2 ^ s) * 2 ^ (32 - s) := by
    conv => lhs; rw [← h3]
    rw [emod_mul _ _ (show (0 : Int) < 2 ^ (32 - s) by omega)]
  have m0 : 0 ≤ e % 2 ^ s := Int.emod_nonneg _ (by omega)
  have m1 : e % 2 ^ s < 2 ^ s := Int.emod_lt_of_pos _ (by omega)
  rw [em]
  generalize d / 2 ^ s = x at *
  generalize e % 2 ^ s = m at *
  have b2 := Int.mul_le_mul_of_nonneg_right (show m + 1 ≤ 2 ^ s by omega) (show 0 ≤ (2 : Int) ^ (32 - s) by omega)
  rw [h3, Int.add_mul, Int.one_mul] at b2
  have b3 := Int.mul_nonneg m0 (show 0 ≤ (2 : Int) ^ (32 - s) by omega)
  refine ⟨?_, by omega, by omega⟩
  have hR : (2 : Int) ^ (32 - s) = ((2 ^ (32 - s) : Nat) : Int) := by simp
  rw [hR] at b2 b3 a1 ⊢
  obtain ⟨a, rfl⟩ := Int.eq_ofNat_of_zero_le a0
  obtain ⟨b, rfl⟩ := Int.eq_ofNat_of_zero_le m0
  rw [← Int.natCast_mul] at b2 b3 ⊢
  rw [u32_or_nat _ _ (by omega) (by omega), Nat.or_comm]
  have := Nat.shiftLeft_add_eq_or_of_lt (i := 32 - s) (b := a) (by omega) b
  rw [Nat.shiftLeft_eq] at this
  rw [← this]
  omega
theorem shrL_step (P R : Int) (x : List Int) (k : Nat) (h : k + 1 < x.length) :
    shrL P R (x.drop k) = (x[k]?.getD 0 / P + x[k + 1]?.getD 0 * R % 4294967296) :: shrL P R (x.drop (k + 1)) := by
  rw [drop_cons (show k < x.length by omega), drop_cons h, shrL]
theorem shrL_last (P R : Int) (x : List Int) (k : Nat) (h : k + 1 = x.length) :
    shrL P R (x.drop k) = (x[k]?.getD 0 / P) :: shrL P R (x.drop (k + 1)) := by
  rw [drop_cons (show k < x.length by omega), List.drop_eq_nil_of_le (by omega), shrL, shrL]

set_option maxHeartbeats 1000000 in
theorem shiftRight (va : Value) (l : List Int) (s : Nat) (w : World) (hr : Row .u32 w va l) (hl : l.length ≤ 4294967296) (hs : s < 32) :
    Calls Try.prog 97 #[va, .int .u64 (s : Int)] w (Ret1 w.heap.size w (N l / 2 ^ s)) := by
  have HD := Lib.hid (Row.ds hr)
  have HP := Lib.hid (pow_bd hs)
  obtain ⟨a1, p1, rfl, g1, m1, hcell1⟩ := Row.parts hr
  have HX := Lib.hid hcell1
  clear hr hcell1
  generalize hnX : l.length = nX at *
  have HL := Lib.hid hnX
  clear hnX
  go_enter Try.func97, Try.ntmps97
  go_wp2_with (at_make; refine make_row rfl (.tmp 9) (.tmp 9) 23 rfl w.heap.size 37 .u32 4 Try.underlying23 info32 _ nX rfl rfl rfl (by omega) (by unfold maxLen; omega) (Nat.le_refl _) ?_; intro w1 ho1 hb1)
  go_loopw [13] (fun i wr => ∃ (k : Nat) (pre : List Int), k ≤ nX ∧ i = .int .i64 k ∧ Hid (pre.length = k ∧ Ds pre ∧ pre ++ shrL (2 ^ s) (2 ^ (32 - s)) (l.drop k) = shrL (2 ^ s) (2 ^ (32 - s)) l) ∧
      wr.ownsRow w.heap.size 37 1 (.slice (some ⟨w.heap.size, 0, none⟩) nX nX) nX ((pre ++ List.replicate (nX - k) 0).map (Value.int .u32)) ∧ Below w.heap.size w wr) (fun i _ => nX - (intOf i).toNat)
  case atStart => exact ⟨0, [], Nat.zero_le _, rfl, ⟨rfl, Ds.nil, rfl⟩, ho1, hb1⟩
  case round =>
    obtain ⟨k, pre, hk, rfl, hp, ho, hb⟩ := hrel
    by_cases hlt : k < nX
    · obtain ⟨bx, ox, rfl, qx, wx⟩ := HX.out k (by omega)
      have qx := cell_later hb qx
      have dx := wf_u32 wx
      obtain ⟨hce, hfz⟩ := own_cell ho k (by omega)
      have hpow : (2 : Int) ^ s = 2 ^ s := rfl
      by_cases hlt2 : k + 1 < nX
      · obtain ⟨by_, oy, ey, qy, wy⟩ := HX.out (k + 1) (by omega)
        simp only [Option.some.injEq, Addr.mk.injEq, and_true] at ey
        obtain ⟨rfl, rfl⟩ := ey
        have dy := wf_u32 wy
        have HS := Lib.hid (shrL_step (2 ^ s) (2 ^ (32 - s)) l k (by rw [HL.out]; exact hlt2))
        have QY := Lib.hid qy
        have HWR := Lib.hid (show IntKind.u64.wrap (l[k + 1]?.getD 0 * 2 ^ (32 - s)) % 4294967296 = l[k + 1]?.getD 0 * 2 ^ (32 - s) % 4294967296 by
          rw [IntKind.wrap_u64]
          generalize l[k + 1]?.getD 0 * 2 ^ (32 - s) = z
          omega)
        generalize l[k]?.getD 0 = x at *
        generalize l[k + 1]?.getD 0 = y at *
        have HO := Lib.hid (shr_or32 hs x y dx dy)
        have HA := Lib.hid (show ((pre ++ [x / 2 ^ s]) ++ List.replicate (nX - (k + 1)) 0)[k]?.getD 0 = x / 2 ^ s by
          rw [List.append_assoc, List.getElem?_append_right (by rw [hp.out.1]; exact Nat.le_refl _), hp.out.1, Nat.sub_self]; rfl)
        clear wx wy hpow qy
        go_wp2
        have ho2 := own_store ho k (x / 2 ^ s)
        rw [set_zeros hp.out.1 hlt] at ho2
        have hb2 := hb.setCell (p := ⟨w.heap.size, k, none⟩) (Nat.le_refl _) (.int .u32 (x / 2 ^ s))
        have qy := cell_later hb2 QY.out
        obtain ⟨hce2, hfz2⟩ := own_cell ho2 k (by omega)
        rw [HA.out] at hce2
        generalize (wr.setCell ⟨w.heap.size, k, none⟩ (.int .u32 (x / 2 ^ s))) = w2 at *
        clear hce hfz qx
        go_region
        go_wp2
        rw [HWR.out, HO.out.1]
        refine ⟨⟨k + 1, pre ++ [x / 2 ^ s + y * 2 ^ (32 - s) % 4294967296], by omega, by go_num, ⟨by simp [hp.out.1], hp.out.2.1.app (Ds.cons HO.out.2 Ds.nil), ?_⟩, ?_, (hb2.setCell (Nat.le_refl _) _).drew⟩, by simp [intOf]; omega⟩
        · rw [← hp.out.2.2, HS.out, List.append_assoc]; rfl
        · have := (own_store ho2 k (x / 2 ^ s + y * 2 ^ (32 - s) % 4294967296)).drew
          rw [List.append_assoc, List.set_append_right _ _ (by rw [hp.out.1]; exact Nat.le_refl _), hp.out.1, Nat.sub_self] at this
          rw [List.append_assoc]
          exact this
      · have HS := Lib.hid (shrL_last (2 ^ s) (2 ^ (32 - s)) l k (by rw [HL.out]; omega))
        have HB := Lib.hid (show 0 ≤ l[k]?.getD 0 / 2 ^ s ∧ l[k]?.getD 0 / 2 ^ s < 4294967296 by
          have := HP.out
          refine ⟨Int.ediv_nonneg dx.1 (by omega), ?_⟩
          have := Int.ediv_le_self (2 ^ s) dx.1
          omega)
        generalize l[k]?.getD 0 = x at *
        clear wx hpow
        go_wp2
        refine ⟨⟨k + 1, pre ++ [x / 2 ^ s], by omega, by go_num, ⟨by simp [hp.out.1], hp.out.2.1.app (Ds.cons HB.out Ds.nil), ?_⟩, ?_, hb.setCell (Nat.le_refl _) _⟩, by simp [intOf]; omega⟩
        · rw [← hp.out.2.2, HS.out, List.append_assoc]; rfl
        · have := own_store ho k (x / 2 ^ s)
          rwa [set_zeros hp.out.1 hlt] at this
    · obtain rfl : k = nX := by omega
      have HE := Lib.hid (show pre = shrL (2 ^ s) (2 ^ (32 - s)) l by
        have e1 := hp.out.2.2
        rw [List.drop_eq_nil_of_le (by rw [HL.out]; exact Nat.le_refl _), shrL, List.append_nil] at e1
        exact e1)
      have HV := Lib.hid (shrL_N hs l)
      rw [← HE.out] at HV
      have HQ := Lib.hid hp.out.2.1
      rw [Nat.sub_self, List.replicate_zero, List.append_nil] at ho
      clear hp HE
      go_wp2_with fail
      refine (trimN ho HQ.out).mono ?_
      rintro e w' ⟨v', rfl, hn, rfl⟩
      rw [HV.out] at hn
      go_wp2_with fail
      go_ret
      exact ⟨v', rfl, hn, hb⟩
end Go.Proofs.Ytpplleoiehnlkaa.Nt
