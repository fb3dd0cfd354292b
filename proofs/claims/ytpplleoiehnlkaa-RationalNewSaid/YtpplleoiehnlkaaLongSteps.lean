/-
  Contracts of bignat.subtractMultiple and addBack: they write into a window of a row of their caller's.
-/
import Derived.Test.YtpplleoiehnlkaaShift
import Derived.Test.YtpplleoiehnlkaaLongPlain
namespace Go.Proofs.Ytpplleoiehnlkaa.Nt
open Go.ChangeShapes Go.WideShapes Go.ChangeAt Go.RowKit B
set_option linter.unusedVariables false

/-- the caller's row as it comes back -/
def OwnN (base g m : Nat) (w : World) (L : List Int) : Prop := w.ownsRow base 37 1 (.slice (some ⟨g, 0, none⟩) m m) m (L.map (Value.int .u32))
/-- a row that stays while only blocks from 'base' on are written -/
def Firm (base : Nat) (w : World) (v : Value) (l : List Int) : Prop := ∀ w', Below base w w' → Row .u32 w' v l

def RetSm (base g m : Nat) (w : World) (L V : List Int) (j : Nat) (f : Int) (e : Ending) (w' : World) : Prop :=
  ∃ b : Bool, e = .returned (.bool b) ∧ (smF f (L.drop j) V 0 0 = if b then 1 else 0) ∧ OwnN base g m w' (L.take j ++ smL f (L.drop j) V 0 0) ∧ Only g w w'

theorem and_mask (t : Int) (h0 : 0 ≤ t) (h1 : t < 18446744073709551616) : bits .and .u64 t 4294967295 = t % 4294967296 := by
  obtain ⟨n, rfl⟩ := Int.eq_ofNat_of_zero_le h0
  rw [show (4294967295 : Int) = ((4294967295 : Nat) : Int) from rfl, u64_and_nat _ _ (by omega) (by decide), show (4294967295 : Nat) = 2 ^ 32 - 1 from rfl, Nat.and_two_pow_sub_one_eq_mod]
  omega

set_option maxHeartbeats 1000000 in
theorem subMul (vv : Value) (base g m cw : Nat) (L V : List Int) (j : Nat) (f : Int) (w : World) (ho : OwnN base g m w L) (hV : Firm base w vv V) (hbg : base ≤ g) (hbs : base ≤ w.heap.size) (hL : Ds L)
    (hj : j + V.length + 1 ≤ m) (hm : m ≤ 8589934592) (hcw : V.length + 1 ≤ cw) (hf : 0 ≤ f ∧ f < 4294967296) :
    Calls Try.prog 95 #[.slice (some ⟨g, j, none⟩) (V.length + 1) cw, vv, .int .u64 f] w (RetSm base g m w L V j f) := by
  have hLm : L.length = m := by have := ho.1; simpa using this
  have HO := Lib.hid ho
  have HV := Lib.hid hV
  have HLD := Lib.hid hL
  have HLM := Lib.hid hLm
  have hrow := hV w (Below.refl _ _)
  have HVD := Lib.hid (Row.ds hrow)
  obtain ⟨a2, p2, rfl, g2, m2, _⟩ := Row.parts hrow
  clear ho hV hL hLm hrow
  generalize hn : V.length = n at *
  have HN := Lib.hid hn
  clear hn
  go_enter Try.func95, Try.ntmps95
  go_wp2
  go_loopw [8, 9, 19] (fun t u i wr => ∃ (k : Nat) (c b : Int) (pre : List Int), k ≤ n ∧ i = .int .i64 k ∧ t = .int .u64 c ∧ u = .int .u64 b ∧ 0 ≤ c ∧ c < 4294967296 ∧ 0 ≤ b ∧ b ≤ 1 ∧
      Hid (pre.length = j + k ∧ Ds pre ∧ pre ++ smL f (L.drop (j + k)) (V.drop k) c b = L.take j ++ smL f (L.drop j) V 0 0 ∧ smF f (L.drop (j + k)) (V.drop k) c b = smF f (L.drop j) V 0 0) ∧
      OwnN base g m wr (pre ++ L.drop (j + k)) ∧ Only g w wr) (fun _ _ i _ => n - (intOf i).toNat)
  case atStart => exact ⟨0, 0, 0, L.take j, Nat.zero_le _, rfl, rfl, rfl, by omega, by omega, by omega, by omega, ⟨by simp; have := HLM.out; omega, HLD.out.take j, rfl, rfl⟩, by rw [Nat.add_zero, List.take_append_drop]; exact HO.out, Only.refl _ _⟩
  case round =>
    obtain ⟨k, c, b, pre, hk, rfl, rfl, rfl, hc0, hc1, hb0, hb1, hp, ho, hb⟩ := hrel
    have hkj : j + k < L.length := by have := HLM.out; omega
    obtain ⟨hce, hfz⟩ := own_cell ho (j + k) (by omega)
    rw [at_border hp.out.1 hkj] at hce
    have dr := HLD.out.at (j + k)
    by_cases hlt : k < n
    · obtain ⟨a', c', e', _, _, hcell⟩ := Row.parts (HV.out wr (hb.below hbs hbg))
      simp only [Value.slice.injEq] at e'
      obtain ⟨rfl, _, rfl⟩ := e'
      obtain ⟨by_, oy, rfl, qy, wy⟩ := hcell k (by rw [HN.out]; exact hlt)
      have dy := wf_u32 wy
      clear hcell wy
      have hxy := mul_bd hf dy
      have HS := Lib.hid (smL_step f L V j k c b hkj (by rw [HN.out]; exact hlt))
      have HB := Lib.hid (set_border hp.out.1 hkj)
      generalize V[k]?.getD 0 = y at *
      generalize L[j + k]?.getD 0 = z at *
      have hand := and_mask (f * y + c) (by omega) (by omega)
      have HU := Lib.hid (u64_sub2 z ((f * y + c) % 4294967296) b dr (by omega) (by omega))
      go_wp2
      rw [HU.out.1, HU.out.2]
      refine ⟨⟨k + 1, (f * y + c) / 4294967296, -((z - (f * y + c) % 4294967296 - b) / 4294967296), pre ++ [(z - (f * y + c) % 4294967296 - b) % 4294967296], by omega, by go_num, rfl, rfl, by omega, by omega, by omega, by omega, ⟨?_, hp.out.2.1.app (Ds.cons (by omega) Ds.nil), ?_, ?_⟩, ?_, hb.set _ _⟩, by simp [intOf]; omega⟩
      · have := hp.out.1; simp; omega
      · rw [← hp.out.2.2.1, HS.out.1, List.append_assoc]; rfl
      · rw [← hp.out.2.2.2, HS.out.2]
      · have := own_store ho (j + k) ((z - (f * y + c) % 4294967296 - b) % 4294967296)
        rw [HB.out] at this
        exact this
    · obtain rfl : k = n := by omega
      have HS := Lib.hid (smL_last f L V j c b (by rw [HN.out]; exact hkj))
      rw [HN.out] at HS
      have HB := Lib.hid (set_border hp.out.1 hkj)
      generalize L[j + k]?.getD 0 = z at *
      have HU := Lib.hid (u64_sub2 z c b dr (by omega) (by omega))
      have hs2 := own_store ho (j + k) ((z - c - b) % 4294967296)
      rw [HB.out, List.append_assoc] at hs2
      have HE := Lib.hid (show pre ++ ([(z - c - b) % 4294967296] ++ L.drop (j + k + 1)) = L.take j ++ smL f (L.drop j) V 0 0 by
        rw [← hp.out.2.2.1, HS.out.1]; rfl)
      have HF := Lib.hid (show smF f (L.drop j) V 0 0 = -((z - c - b) / 4294967296) by
        rw [← hp.out.2.2.2, HS.out.2])
      rw [HE.out] at hs2
      go_wp2
      go_ret
      refine ⟨decide (-((z - c - b) / 4294967296) = 1), ?_, ?_, ?_, hb.set _ _⟩
      · show Ending.returned (.bool (IntKind.u64.wrap (IntKind.u64.wrap (z - c) - b) / 9223372036854775808 == 1)) = _
        rw [HU.out.2]; rfl
      · rw [HF.out]
        by_cases h1 : -((z - c - b) / 4294967296) = 1
        · simp [h1]
        · simp [h1]; omega
      · rw [HU.out.1]
        exact hs2

def RetAb (base g m : Nat) (w : World) (L V : List Int) (j : Nat) (e : Ending) (w' : World) : Prop :=
  e = .returned (.tuple #[]) ∧ OwnN base g m w' (L.take j ++ abL (L.drop j) V 0) ∧ Only g w w'

set_option maxHeartbeats 1000000 in
theorem addBack (vv : Value) (base g m cw : Nat) (L V : List Int) (j : Nat) (w : World) (ho : OwnN base g m w L) (hV : Firm base w vv V) (hbg : base ≤ g) (hbs : base ≤ w.heap.size) (hL : Ds L)
    (hj : j + V.length + 1 ≤ m) (hm : m ≤ 8589934592) (hcw : V.length + 1 ≤ cw) :
    Calls Try.prog 96 #[.slice (some ⟨g, j, none⟩) (V.length + 1) cw, vv] w (RetAb base g m w L V j) := by
  have hLm : L.length = m := by have := ho.1; simpa using this
  have HO := Lib.hid ho
  have HV := Lib.hid hV
  have HLD := Lib.hid hL
  have HLM := Lib.hid hLm
  have hrow := hV w (Below.refl _ _)
  have HVD := Lib.hid (Row.ds hrow)
  obtain ⟨a2, p2, rfl, g2, m2, _⟩ := Row.parts hrow
  clear ho hV hL hLm hrow
  generalize hn : V.length = n at *
  have HN := Lib.hid hn
  clear hn
  go_enter Try.func96, Try.ntmps96
  go_wp2
  go_loopw [4, 10] (fun t i wr => ∃ (k : Nat) (c : Int) (pre : List Int), k ≤ n ∧ i = .int .i64 k ∧ t = .int .u64 c ∧ 0 ≤ c ∧ c ≤ 1 ∧
      Hid (pre.length = j + k ∧ Ds pre ∧ pre ++ abL (L.drop (j + k)) (V.drop k) c = L.take j ++ abL (L.drop j) V 0) ∧
      OwnN base g m wr (pre ++ L.drop (j + k)) ∧ Only g w wr) (fun _ i _ => n - (intOf i).toNat)
  case atStart => exact ⟨0, 0, L.take j, Nat.zero_le _, rfl, rfl, by omega, by omega, ⟨by simp; have := HLM.out; omega, HLD.out.take j, rfl⟩, by rw [Nat.add_zero, List.take_append_drop]; exact HO.out, Only.refl _ _⟩
  case round =>
    obtain ⟨k, c, pre, hk, rfl, rfl, hc0, hc1, hp, ho, hb⟩ := hrel
    have hkj : j + k < L.length := by have := HLM.out; omega
    obtain ⟨hce, hfz⟩ := own_cell ho (j + k) (by omega)
    rw [at_border hp.out.1 hkj] at hce
    have dr := HLD.out.at (j + k)
    by_cases hlt : k < n
    · obtain ⟨a', c', e', _, _, hcell⟩ := Row.parts (HV.out wr (hb.below hbs hbg))
      simp only [Value.slice.injEq] at e'
      obtain ⟨rfl, _, rfl⟩ := e'
      obtain ⟨by_, oy, rfl, qy, wy⟩ := hcell k (by rw [HN.out]; exact hlt)
      have dy := wf_u32 wy
      clear hcell wy
      have HS := Lib.hid (abL_step L V j k c hkj (by rw [HN.out]; exact hlt))
      have HB := Lib.hid (set_border hp.out.1 hkj)
      generalize V[k]?.getD 0 = y at *
      generalize L[j + k]?.getD 0 = z at *
      go_wp2
      refine ⟨⟨k + 1, (z + y + c) / 4294967296, pre ++ [(z + y + c) % 4294967296], by omega, by go_num, rfl, by omega, by omega, ⟨?_, hp.out.2.1.app (Ds.cons (by omega) Ds.nil), ?_⟩, ?_, hb.set _ _⟩, by simp [intOf]; omega⟩
      · have := hp.out.1; simp; omega
      · rw [← hp.out.2.2, HS.out, List.append_assoc]; rfl
      · have := own_store ho (j + k) ((z + y + c) % 4294967296)
        rw [HB.out] at this
        exact this
    · obtain rfl : k = n := by omega
      have HS := Lib.hid (abL_last L V j c (by rw [HN.out]; exact hkj))
      rw [HN.out] at HS
      have HB := Lib.hid (set_border hp.out.1 hkj)
      generalize L[j + k]?.getD 0 = z at *
      have hs2 := own_store ho (j + k) ((z + c) % 4294967296)
      rw [HB.out, List.append_assoc] at hs2
      have HE := Lib.hid (show pre ++ ([(z + c) % 4294967296] ++ L.drop (j + k + 1)) = L.take j ++ abL (L.drop j) V 0 by
        rw [← hp.out.2.2, HS.out]; rfl)
      rw [HE.out] at hs2
      go_wp2
      go_end0
      refine ⟨rfl, ?_, hb.set _ _⟩
      exact hs2
end Go.Proofs.Ytpplleoiehnlkaa.Nt
