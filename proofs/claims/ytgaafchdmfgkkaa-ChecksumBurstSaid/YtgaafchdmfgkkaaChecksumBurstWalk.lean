/-
  The walk of ChecksumBurst.
-/
import Derived.Test.YtgaafchdmfgkkaaKnown
import Derived.Test.YtgaafchdmfgkkaaLaws2
namespace Go.Proofs.Ytgaafchdmfgkkaa.checksumBurst
open Go.ChangeShapes Go.WideShapes Go.ChangeAt Go.RowKit B Crc
set_option linter.unusedVariables false

theorem idx (a1 : Int) (n : Nat) (h1 : 5 ≤ n) (h2 : n ≤ 300) : ∃ j : Nat, wrap64 ((IntKind.u64.wrap a1).tmod (8 * (n : Int) - 32)) = (j : Int) ∧ j + 32 < 8 * n := by
  rw [IntKind.wrap_u64]
  generalize hx : a1 % 18446744073709551616 = x
  have h0 : 0 ≤ x := by omega
  have e : x.tmod (8 * (n : Int) - 32) = x % (8 * (n : Int) - 32) := Int.tmod_eq_emod_of_nonneg h0
  have hl : x % (8 * (n : Int) - 32) < 8 * (n : Int) - 32 := Int.emod_lt_of_pos _ (by omega)
  have hg : 0 ≤ x % (8 * (n : Int) - 32) := Int.emod_nonneg _ (by omega)
  refine ⟨(x % (8 * (n : Int) - 32)).toNat, ?_, by omega⟩
  rw [e, IntWalk.wrap64_in _ (by omega)]
  omega
def cut (l : List Int) (x : BitVec 32) (k : Nat) : Nat → List Int
  | 0 => l
  | i + 1 => if x.getLsbD i then (cut l x k i).set ((k + i) / 8) (bits .xor .u8 ((cut l x k i)[(k + i) / 8]?.getD 0) (2 ^ ((k + i) % 8) % 256)) else cut l x k i
theorem cut_len (l : List Int) (x : BitVec 32) (k i : Nat) : (cut l x k i).length = l.length := by
  induction i with
  | zero => rfl
  | succ i ih => rw [cut]; split <;> simp [ih]
theorem cut_succ (l : List Int) (x : BitVec 32) (k i : Nat) : cut l x k (i + 1) = if x.getLsbD i = true then (cut l x k i).set ((k + i) / 8) (bits .xor .u8 ((cut l x k i)[(k + i) / 8]?.getD 0) (2 ^ ((k + i) % 8) % 256)) else cut l x k i := rfl
theorem pow8 (t : Nat) (h : t < 8) : ∃ n : Nat, (2 : Int) ^ t % 256 = (n : Int) ∧ n = 2 ^ t ∧ n < 256 := by
  have : t = 0 ∨ t = 1 ∨ t = 2 ∨ t = 3 ∨ t = 4 ∨ t = 5 ∨ t = 6 ∨ t = 7 := by omega
  rcases this with rfl | rfl | rfl | rfl | rfl | rfl | rfl | rfl <;> exact ⟨_, rfl, rfl, by decide⟩
theorem flip_val (c : Int) (h0 : 0 ≤ c ∧ c < 256) (t : Nat) (ht : t < 8) : (0 ≤ bits .xor .u8 c (2 ^ t % 256) ∧ bits .xor .u8 c (2 ^ t % 256) < 256) ∧
    ∀ m, m < 8 → (bits .xor .u8 c (2 ^ t % 256)).toNat.testBit m = (c.toNat.testBit m ^^ decide (t = m)) := by
  obtain ⟨n, e, hn, hl⟩ := pow8 t ht
  obtain ⟨d, rfl⟩ := Int.eq_ofNat_of_zero_le h0.1
  rw [e, u8_xor_nat _ _ (by omega) hl]
  have hb : d ^^^ n < 2 ^ 8 := Nat.xor_lt_two_pow (by omega) (by omega)
  refine ⟨by omega, fun m hm => ?_⟩
  rw [Int.toNat_natCast, Int.toNat_natCast, Nat.testBit_xor, hn, Nat.testBit_two_pow]
theorem cut_bd (l : List Int) (x : BitVec 32) (k : Nat) (hl : ∀ c ∈ l, 0 ≤ c ∧ c < 256) (i : Nat) : ∀ c ∈ cut l x k i, 0 ≤ c ∧ c < 256 := by
  induction i with
  | zero => exact hl
  | succ i ih =>
    rw [cut]
    split
    · intro c hc
      rcases List.mem_or_eq_of_mem_set hc with h | h
      · exact ih c h
      · subst h
        refine (flip_val _ ?_ _ (by omega)).1
        rcases Nat.lt_or_ge ((k + i) / 8) (cut l x k i).length with hh | hh
        · rw [List.getElem?_eq_getElem hh]
          exact ih _ (List.getElem_mem hh)
        · rw [List.getElem?_eq_none hh]; simp
    · exact ih
theorem at_bd (l : List Int) (hl : ∀ c ∈ l, 0 ≤ c ∧ c < 256) (i : Nat) : 0 ≤ l[i]?.getD 0 ∧ l[i]?.getD 0 < 256 := by
  rcases Nat.lt_or_ge i l.length with hh | hh
  · rw [List.getElem?_eq_getElem hh]
    exact hl _ (List.getElem_mem hh)
  · rw [List.getElem?_eq_none hh]; simp
theorem cut_bit (l : List Int) (x : BitVec 32) (k : Nat) (hl : ∀ c ∈ l, 0 ≤ c ∧ c < 256) (i : Nat) (hk : k + i ≤ 8 * l.length) (m : Nat) :
    bitAt (cut l x k i) m = (bitAt l m ^^ (decide (k ≤ m ∧ m < k + i) && x.getLsbD (m - k))) := by
  induction i with
  | zero =>
    have : decide (k ≤ m ∧ m < k + 0) = false := by simp
    rw [this]; simp [cut]
  | succ i ih =>
    have ih := ih (by omega)
    have hbd := at_bd (cut l x k i) (cut_bd l x k hl i)
    have hlen := cut_len l x k i
    by_cases hx : x.getLsbD i = true
    · rw [cut, if_pos hx]
      generalize cut l x k i = c at *
      by_cases hm : m / 8 = (k + i) / 8
      · have e1 : bitAt (c.set ((k + i) / 8) (bits .xor .u8 (c[(k + i) / 8]?.getD 0) (2 ^ ((k + i) % 8) % 256))) m = (bitAt c m ^^ decide ((k + i) % 8 = m % 8)) := by
          unfold bitAt
          rw [hm, List.getElem?_set_self (by omega), Option.getD_some, (flip_val _ (hbd _) _ (by omega)).2 _ (by omega)]
        rw [e1, ih]
        by_cases hd : m = k + i
        · subst hd
          have : ¬ (k + i < k + i) := by omega
          simp [hx]
        · have h1 : decide ((k + i) % 8 = m % 8) = false := by simp; omega
          have h2 : (m < k + (i + 1)) ↔ (m < k + i) := by omega
          simp [h1, h2]
      · have e1 : bitAt (c.set ((k + i) / 8) (bits .xor .u8 (c[(k + i) / 8]?.getD 0) (2 ^ ((k + i) % 8) % 256))) m = bitAt c m := by
          unfold bitAt
          rw [List.getElem?_set_ne (by omega)]
        rw [e1, ih]
        have h2 : (m < k + (i + 1)) ↔ (m < k + i) := by
          have : m ≠ k + i := by intro e; subst e; exact hm rfl
          omega
        simp [h2]
    · rw [cut, if_neg hx, ih]
      by_cases hd : m = k + i
      · subst hd; simp [hx]
      · have h2 : (m < k + (i + 1)) ↔ (m < k + i) := by omega
        simp [h2]
theorem bit_t (x : BitVec 32) (i : Nat) (h : i < 32) (hx : x.getLsbD i = true) : (bits .and .u32 ((x.toNat : Int) / 2 ^ i) 1 == 1) = true := by
  have e : ((x.toNat : Int) / 2 ^ i) = ((x >>> i).toNat : Int) := by rw [BitVec.toNat_ushiftRight, Nat.shiftRight_eq_div_pow]; simp
  rw [e]
  exact and_one_t _ ((and_one _).2 (by simpa using hx))
theorem bit_f (x : BitVec 32) (i : Nat) (h : i < 32) (hx : ¬ x.getLsbD i = true) : (bits .and .u32 ((x.toNat : Int) / 2 ^ i) 1 == 1) = false := by
  have e : ((x.toNat : Int) / 2 ^ i) = ((x >>> i).toNat : Int) := by rw [BitVec.toNat_ushiftRight, Nat.shiftRight_eq_div_pow]; simp
  rw [e]
  exact and_one_f _ (fun h' => hx (by simpa using (and_one _).1 h'))
theorem fin (l : List Int) (x : BitVec 32) (hx : x ≠ 0) (k : Nat) (hl : ∀ c ∈ l, 0 ≤ c ∧ c < 256) (hk : k + 32 < 8 * l.length) : ext 0 l ≠ ext 0 (cut l x k 32) := by
  refine burst l _ hl (cut_bd l x k hl 32) (cut_len l x k 32) x hx k (by omega) (fun i => ?_)
  rw [cut_bit l x k hl 32 (by omega)]
  congr 1
  by_cases h1 : k ≤ i
  · by_cases h2 : i < k + 32
    · simp [h1, h2]
    · have : x.getLsbD (i - k) = false := BitVec.getLsbD_of_ge _ _ (by omega)
      simp [this]
  · simp [h1]

set_option maxHeartbeats 400000 in
theorem walk (a0 : Option Addr) (len0 cap0 : Nat) (z0 : List Int) (a1 : Int) (a2 : Int) (w : World) (w0 : IsRow .u8 w a0 len0 cap0 z0) (w1 : (Lit.int .i64 a1).wf = true) (w2 : (Lit.int .u32 a2).wf = true) :
    Calls Try.prog 5 #[.slice a0 len0 cap0, .int .i64 a1, .int .u32 a2] w fun e w' => e = .returned (.bool true) ∧ Below w.heap.size w w' := by
  have H0 := Lib.hid (Row.of w0)
  clear w0
  generalize z0.take len0 = l0 at *
  obtain ⟨x, rfl⟩ : ∃ r : BitVec 32, a2 = (r.toNat : Int) := by
    have : 0 ≤ a2 ∧ a2 ≤ 4294967295 := by simpa [Lit.wf, IntKind.min, IntKind.max, IntKind.signed, IntKind.bits] using w2
    obtain ⟨m, rfl⟩ := Int.eq_ofNat_of_zero_le this.1
    exact ⟨BitVec.ofNat 32 m, by rw [BitVec.toNat_ofNat, Nat.mod_eq_of_lt (by omega)]⟩
  clear w1 w2
  by_cases h1 : len0 < 5
  · go_enter Try.func5, Try.ntmps5
    go_wp2_with fail
    go_ret
    exact ⟨rfl, Below.refl _ _⟩
  by_cases h2 : 300 < len0
  · go_enter Try.func5, Try.ntmps5
    go_wp2_with fail
    go_ret
    exact ⟨rfl, Below.refl _ _⟩
  by_cases h3 : x = 0
  · have h3' : ((x.toNat : Int) == 0) = true := by subst h3; rfl
    go_enter Try.func5, Try.ntmps5
    go_wp2_with fail
    go_ret
    exact ⟨rfl, Below.refl _ _⟩
  have h1' : (decide ((len0 : Int) < 5)) = false := by simp; omega
  have h2' : (decide (300 < (len0 : Int))) = false := by simp; omega
  have h3' : ((x.toNat : Int) == 0) = false := by
    rw [beq_eq_false_iff_ne]; intro e; exact h3 (BitVec.eq_of_toNat_eq (by simpa using e))
  have E : l0.length ≤ 300 := by have := Row.len H0.out; omega
  have hn : Below w.heap.size w (w.alloc (.cells #[] 5)) := (Below.refl _ _).alloc (Nat.le_refl _) _
  obtain ⟨j, hj, hjl⟩ := idx a1 len0 (by omega) (by omega)
  have L0 := Lib.hid (Row.len H0.out)
  go_enter Try.func5, Try.ntmps5
  go_wp2_with (first
      | (at_builtin; refine append8 rfl (.tmp 23) (.tmp 24) rfl w.heap.size _ 0 [] rfl (own0 w _ _) _ l0 rfl (H0.out.keep hn) (by simp; omega) hn.size ?_; intro v1 w1 ho1 hb1; have hb1 := hn.trans hb1; rw [L0.out, Nat.zero_add, List.nil_append] at ho1; obtain ⟨g, cp, rfl, hg⟩ := own_pos ho1 (by omega)))
  simp only [hj]
  clear hj
  have HN := Lib.hid (fin l0 x h3 j (fun c hc => wf_u8 (H0.out.wf c hc)) (by rw [L0.out]; exact hjl))
  have HW := Lib.hid (fun i c hc => wf8 (cut_bd l0 x j (fun c hc => wf_u8 (H0.out.wf c hc)) i c hc))
  have hx := x.isLt
  clear h3 hn
  go_loopw [9] (fun t wr => ∃ i : Nat, i ≤ 32 ∧ t = .int .i64 i ∧ wr.ownsRow w.heap.size 5 1 (.slice (some ⟨g, 0, none⟩) len0 cp) len0 ((cut l0 x j i).map (Value.int .u8)) ∧ Below w.heap.size w wr) (fun t _ => 32 - (intOf t).toNat)
  case atStart => exact ⟨0, by omega, rfl, ho1, hb1⟩
  case round =>
    obtain ⟨i, hi, rfl, ho, hb⟩ := hrel
    by_cases hlt : i < 32
    · obtain ⟨hce, hfz⟩ := own_cell ho ((j + i) / 8) (by omega)
      have HC := Lib.hid (cut_succ l0 x j i)
      generalize cut l0 x j i = li at *
      by_cases hbit : x.getLsbD i = true
      · have hbt := bit_t x i hlt hbit
        rw [if_pos hbit] at HC
        go_wp2
        refine ⟨⟨i + 1, by omega, by go_num, ?_, hb.setCell hg _⟩, by simp [intOf]; omega⟩
        rw [HC.out]
        exact own_store ho _ _
      · have hbt := bit_f x i hlt hbit
        rw [if_neg hbit] at HC
        go_wp2
        refine ⟨⟨i + 1, by omega, by go_num, ?_, hb⟩, by simp [intOf]; omega⟩
        rw [HC.out]
        exact ho
    · obtain rfl : i = 32 := by omega
      have HR := Lib.hid (Row.ofOwn ho (HW.out 32))
      have hd : (((ext 0#32 l0).toNat : Int) != ((ext 0#32 (cut l0 x j 32)).toNat : Int)) = true := by
        rw [bne_iff_ne]; intro e; exact HN.out (BitVec.eq_of_toNat_eq (Int.ofNat.inj e))
      generalize cut l0 x j 32 = li at *
      go_wp2_with fail
      refine (crc _ _ _ (H0.out.keep hb)).mono ?_
      rintro e w' ⟨rfl, rfl⟩
      go_wp2_with fail
      refine (crc _ _ _ HR.out).mono ?_
      rintro e w' ⟨rfl, rfl⟩
      go_wp2_with fail
      refine (known _).mono ?_
      rintro e w' ⟨rfl, hk⟩
      go_wp2_with fail
      go_ret
      exact ⟨rfl, hb.trans (hk.mono hb.size)⟩
end Go.Proofs.Ytgaafchdmfgkkaa.checksumBurst
