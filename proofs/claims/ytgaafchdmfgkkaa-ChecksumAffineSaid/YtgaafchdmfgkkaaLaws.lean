/-
  The plain laws of the checksums: changing one byte changes the hash; the checksum is affine; a change within 32 consecutive bits changes the checksum; a string followed by its checksum.
-/
import Derived.Test.YtgaafchdmfgkkaaPlain
namespace Go.Proofs.Ytgaafchdmfgkkaa.Crc

theorem mul_inj (x y : BitVec 64) (h : x * 1099511628211#64 = y * 1099511628211#64) : x = y := by
  have e : ∀ z : BitVec 64, z * 1099511628211#64 * 14886173955864302971#64 = z := by
    intro z
    rw [BitVec.mul_assoc, show 1099511628211#64 * 14886173955864302971#64 = 1#64 by decide, BitVec.mul_one]
  rw [← e x, ← e y, h]
theorem hstep_inj (x y : BitVec 64) (c : Int) (h : hstep x c = hstep y c) : x = y := by
  have := mul_inj _ _ h
  have e : ∀ z : BitVec 64, (z ^^^ BitVec.ofInt 64 c) ^^^ BitVec.ofInt 64 c = z := by intro z; rw [BitVec.xor_assoc, BitVec.xor_self, BitVec.xor_zero]
  rw [← e x, ← e y, this]
theorem hstep_byte (x : BitVec 64) (c d : Int) (hc : 0 ≤ c ∧ c < 256) (hd : 0 ≤ d ∧ d < 256) (h : hstep x c = hstep x d) : c = d := by
  have := mul_inj _ _ h
  have e : ∀ z : BitVec 64, x ^^^ (x ^^^ z) = z := by intro z; rw [← BitVec.xor_assoc, BitVec.xor_self, BitVec.zero_xor]
  have e2 : BitVec.ofInt 64 c = BitVec.ofInt 64 d := by rw [← e (BitVec.ofInt 64 c), ← e (BitVec.ofInt 64 d), this]
  have e3 := congrArg BitVec.toNat e2
  obtain ⟨m, rfl⟩ := Int.eq_ofNat_of_zero_le hc.1
  obtain ⟨n, rfl⟩ := Int.eq_ofNat_of_zero_le hd.1
  rw [BitVec.ofInt_natCast, BitVec.ofInt_natCast, BitVec.toNat_ofNat, BitVec.toNat_ofNat, Nat.mod_eq_of_lt (by omega), Nat.mod_eq_of_lt (by omega)] at e3
  omega
theorem foldl_inj (l : List Int) : ∀ x y : BitVec 64, l.foldl hstep x = l.foldl hstep y → x = y := by
  induction l with
  | nil => intro x y h; exact h
  | cons c l ih => intro x y h; exact hstep_inj x y c (ih _ _ h)
theorem split_at {l : List Int} {j : Nat} (h : j < l.length) : l = l.take j ++ l[j]?.getD 0 :: l.drop (j + 1) := by
  have : l[j]?.getD 0 = l[j] := by simp [h]
  rw [this, ← List.drop_eq_getElem_cons h, List.take_append_drop]
theorem set_at {l : List Int} {j : Nat} (x : Int) (h : j < l.length) : l.set j x = l.take j ++ x :: l.drop (j + 1) := List.set_eq_take_append_cons_drop ▸ by simp [h]
theorem hash_set (l : List Int) (j : Nat) (x : Int) (h : j < l.length) (hx : 0 ≤ x ∧ x < 256) (hl : 0 ≤ l[j]?.getD 0 ∧ l[j]?.getD 0 < 256) (hne : x ≠ l[j]?.getD 0) : hash l ≠ hash (l.set j x) := by
  intro e
  rw [set_at x h] at e
  generalize hc : l[j]?.getD 0 = c at *
  have e1 : hash l = hash (l.take j ++ c :: l.drop (j + 1)) := by rw [← hc, ← split_at h]
  rw [e1, hash, hash, List.foldl_append, List.foldl_append, List.foldl_cons, List.foldl_cons] at e
  exact hne (hstep_byte _ _ _ hl hx (foldl_inj _ _ _ e)).symm

end Go.Proofs.Ytgaafchdmfgkkaa.Crc
