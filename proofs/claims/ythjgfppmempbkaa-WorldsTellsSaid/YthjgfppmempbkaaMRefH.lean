/-
  RefH, RefI, in one text: see the remarks at the head of each part.
-/
import Derived.Test.YthjgfppmempbkaaMRefE
import Derived.Deep.RegionHeld3
/-
  Contracts of credenceref1.Digits, NatDigits, NatParse and NatFormat.
-/
namespace Go.Proofs.Ythjgfppmempbkaa.Nt
open Go.ChangeShapes Go.WideShapes Go.ChangeAt Go.RowKit B
set_option linter.unusedVariables false

/-- one or more decimal digits -/
def digs (b : List UInt8) : Bool := !b.isEmpty && b.all isD
theorem p10_pow (k : Nat) : p10 k ≤ 2 ^ (4 * k) := by
  induction k with
  | zero => decide
  | succ k ih =>
    rw [p10, show 4 * (k + 1) = 4 * k + 4 by omega, Int.pow_add]
    have : (2 : Int) ^ 4 = 16 := by decide
    have := two_pos (4 * k)
    omega
theorem dval_lt {b : List UInt8} (h : b.all isD = true) (hl : b.length ≤ 4000) : 0 ≤ dval b ∧ dval b < Bp 500 := by
  have h1 := dval_bd b h
  have h2 := p10_pow b.length
  have h3 := two_mono (show 4 * b.length ≤ 32 * 500 by omega)
  rw [← Bp_pow] at h3
  omega
theorem all_take {b : List UInt8} (h : b.all isD = true) (k : Nat) : (b.take k).all isD = true := by
  rw [List.all_eq_true] at h ⊢
  exact fun x hx => h x (List.mem_of_mem_take hx)

end Go.Proofs.Ythjgfppmempbkaa.Nt

/-
  Contract of credenceref1.NatFormat.
-/
namespace Go.Proofs.Ythjgfppmempbkaa.Nt
open Go.ChangeShapes Go.WideShapes Go.ChangeAt Go.RowKit B
set_option linter.unusedVariables false

theorem decS_cons (R : List Int) (d : Int) : (⟨#[UInt8.ofNat (d + 48).toNat]⟩ : ByteArray) ++ decS R = decS (R ++ [d]) := by
  apply ByteArray.ext
  simp [decS, decB]
theorem conv_one (w : World) (d : Int) (h : 0 ≤ d ∧ d < 10) :
    (convert 106 9 (.slice (some ⟨w.heap.size, 0, none⟩) 1 1)).run Try.prog (w.alloc (.cells #[.int .u8 (48 + d)] 5 (0, 0))) = .ok (.string ⟨#[UInt8.ofNat (d + 48).toNat]⟩) (w.alloc (.cells #[.int .u8 (48 + d)] 5 (0, 0))) := by
  have := run_convert_bytes_back (P := Try.prog) (w.alloc (.cells #[.int .u8 (48 + d)] 5 (0, 0))) 106 9 5 ⟨w.heap.size, 0, none⟩ 1 [UInt8.ofNat (d + 48).toNat] Try.underlying106 Try.underlying5 Try.underlying9 ?_
  · exact this
  · intro j hj
    obtain rfl : j = 0 := by simpa using hj
    have ea : Addr.add ⟨w.heap.size, 0, none⟩ 0 = ⟨w.heap.size, 0, none⟩ := by
      unfold Addr.add; split <;> simp_all
    rw [ea, World.cell?_alloc_mark]
    simp
    omega

end Go.Proofs.Ythjgfppmempbkaa.Nt
