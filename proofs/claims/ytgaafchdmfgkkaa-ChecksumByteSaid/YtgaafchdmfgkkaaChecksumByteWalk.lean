/-
  The walk of ChecksumByte.
-/
import Derived.Test.YtgaafchdmfgkkaaKnown
import Derived.Test.YtgaafchdmfgkkaaLaws
namespace Go.Proofs.Ytgaafchdmfgkkaa.checksumByte
open Go.ChangeShapes Go.WideShapes Go.ChangeAt Go.RowKit B Crc
set_option linter.unusedVariables false

theorem idx (a1 : Int) (n : Nat) (h1 : 1 ≤ n) (h2 : n ≤ 300) : ∃ j : Nat, wrap64 ((IntKind.u64.wrap a1).tmod (n : Int)) = (j : Int) ∧ j < n := by
  rw [IntKind.wrap_u64]
  generalize hx : a1 % 18446744073709551616 = x
  have h0 : 0 ≤ x := by omega
  have e : x.tmod (n : Int) = x % (n : Int) := Int.tmod_eq_emod_of_nonneg h0
  have hl : x % (n : Int) < n := Int.emod_lt_of_pos _ (by omega)
  have hg : 0 ≤ x % (n : Int) := Int.emod_nonneg _ (by omega)
  refine ⟨(x % (n : Int)).toNat, ?_, by omega⟩
  rw [e, IntWalk.wrap64_in _ (by omega)]
  omega

theorem xor8 (x y : Int) (hx : 0 ≤ x ∧ x < 256) (hy : 0 ≤ y ∧ y < 256) (h : y ≠ 0) : bits .xor .u8 x y ≠ x ∧ 0 ≤ bits .xor .u8 x y ∧ bits .xor .u8 x y < 256 := by
  rw [u8_xor x y hx.1 hx.2 hy.1 hy.2]
  have hb : x.toNat ^^^ y.toNat < 2 ^ 8 := Nat.xor_lt_two_pow (by omega) (by omega)
  refine ⟨fun e => h ?_, by omega, by omega⟩
  have e2 : x.toNat ^^^ y.toNat = x.toNat := by omega
  have e3 : x.toNat ^^^ (x.toNat ^^^ y.toNat) = x.toNat ^^^ x.toNat := by rw [e2]
  rw [← Nat.xor_assoc, Nat.xor_self, Nat.zero_xor] at e3
  omega

set_option maxHeartbeats 400000 in
theorem walk (a0 : Option Addr) (len0 cap0 : Nat) (z0 : List Int) (a1 : Int) (a2 : Int) (w : World) (w0 : IsRow .u8 w a0 len0 cap0 z0) (w1 : (Lit.int .i64 a1).wf = true) (w2 : (Lit.int .u8 a2).wf = true) :
    Calls Try.prog 6 #[.slice a0 len0 cap0, .int .i64 a1, .int .u8 a2] w fun e w' => e = .returned (.bool true) ∧ Below w.heap.size w w' := by
  have H0 := Lib.hid (Row.of w0)
  clear w0
  generalize z0.take len0 = l0 at *
  have g2 := wf_u8 w2
  clear w1 w2
  by_cases hF : len0 < 1 ∨ 300 < len0 ∨ a2 = 0
  · by_cases h1 : len0 < 1
    · go_enter Try.func6, Try.ntmps6
      go_wp2_with fail
      go_ret
      exact ⟨rfl, Below.refl _ _⟩
    · by_cases h2 : 300 < len0
      · go_enter Try.func6, Try.ntmps6
        go_wp2_with fail
        go_ret
        exact ⟨rfl, Below.refl _ _⟩
      · obtain rfl : a2 = 0 := by omega
        go_enter Try.func6, Try.ntmps6
        go_wp2_with fail
        go_ret
        exact ⟨rfl, Below.refl _ _⟩
  · have h1 : 1 ≤ len0 ∧ len0 ≤ 300 := by omega
    have h2 : (a2 == 0) = false := by rw [beq_eq_false_iff_ne]; omega
    clear hF
    have E : l0.length ≤ 300 := by have := Row.len H0.out; omega
    have hn : Below w.heap.size w (w.alloc (.cells #[] 5)) := (Below.refl _ _).alloc (Nat.le_refl _) _
    obtain ⟨j, hj, hjl⟩ := idx a1 len0 h1.1 h1.2
    have L0 := Lib.hid (Row.len H0.out)
    go_enter Try.func6, Try.ntmps6
    go_wp2_with (first
      | (at_builtin; refine append8 rfl (.tmp 20) (.tmp 21) rfl w.heap.size _ 0 [] rfl (own0 w _ _) _ l0 rfl (H0.out.keep hn) (by simp; omega) hn.size ?_; intro v1 w1 ho1 hb1; have hb1 := hn.trans hb1; rw [L0.out, Nat.zero_add, List.nil_append] at ho1; obtain ⟨g, cp, rfl, hg⟩ := own_pos ho1 (by omega); obtain ⟨hce, hfz⟩ := own_cell ho1 j hjl))
    have hbj : 0 ≤ l0[j]?.getD 0 ∧ l0[j]?.getD 0 < 256 := by
      have := wf_u8 (H0.out.wf _ (getD_mem (l := l0) (i := j) (by rw [L0.out]; exact hjl)))
      rwa [List.getD_eq_getElem?_getD] at this
    have hx := xor8 _ a2 hbj g2 (by rw [beq_eq_false_iff_ne] at h2; exact h2)
    have HN := hash_set l0 j _ (by rw [L0.out]; exact hjl) hx.2 hbj hx.1
    have ho2 := own_store ho1 j (bits .xor .u8 (l0[j]?.getD 0) a2)
    have hb2 : Below w.heap.size w (w1.setCell ⟨g, j, none⟩ (.int .u8 (bits .xor .u8 (l0[j]?.getD 0) a2))) := hb1.setCell hg _
    generalize (w1.setCell ⟨g, j, none⟩ (.int .u8 (bits .xor .u8 (l0[j]?.getD 0) a2))) = w2 at *
    have HR := Lib.hid (Row.ofOwn ho2 (B.wf_set H0.out.wf (wf8 hx.2)))
    generalize l0.set j (bits .xor .u8 (l0[j]?.getD 0) a2) = l1 at *
    have hd : (((Crc.hash l0).toNat : Int) != ((Crc.hash l1).toNat : Int)) = true := by
      rw [bne_iff_ne]; intro e; exact HN (BitVec.eq_of_toNat_eq (by omega))
    clear HN ho1 ho2 hce hfz hx hbj hb1
    refine (hashC _ _ _ (H0.out.keep hb2)).mono ?_
    rintro e w' ⟨rfl, rfl⟩
    go_wp2_with fail
    refine (hashC _ _ _ HR.out).mono ?_
    rintro e w' ⟨rfl, rfl⟩
    go_wp2_with fail
    refine (known _).mono ?_
    rintro e w' ⟨rfl, hk⟩
    go_wp2_with fail
    go_ret
    exact ⟨rfl, hb2.trans (hk.mono hb2.size)⟩
end Go.Proofs.Ytgaafchdmfgkkaa.checksumByte
