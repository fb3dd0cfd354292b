/-
  The walk of ChecksumSealed.
-/
import Derived.Test.YtgaafchdmfgkkaaKnown
import Derived.Test.YtgaafchdmfgkkaaLaws2
namespace Go.Proofs.Ytgaafchdmfgkkaa.checksumSealed
open Go.ChangeShapes Go.WideShapes Go.ChangeAt Go.RowKit B Crc
set_option linter.unusedVariables false

def le4 (p : BitVec 32) : List Int := [(p.toNat : Int) % 256, (p.toNat : Int) / 256 % 256, (p.toNat : Int) / 65536 % 256, (p.toNat : Int) / 16777216]
theorem le4_bd (p : BitVec 32) : ∀ c ∈ le4 p, 0 ≤ c ∧ c < 256 := by
  have := p.isLt
  intro c hc
  simp only [le4, List.mem_cons, List.not_mem_nil, or_false] at hc
  rcases hc with h | h | h | h <;> omega
theorem le4_bit (p : BitVec 32) (i : Nat) (h : i < 32) : bitAt (le4 p) i = p.getLsbD i := by
  have hl := p.isLt
  rw [BitVec.getLsbD]
  have le4f : le4 p = [(p.toNat : Int) % 256, (p.toNat : Int) / 256 % 256, (p.toNat : Int) / 65536 % 256, (p.toNat : Int) / 16777216] := rfl
  generalize p.toNat = n at *
  have e : ∀ (q j : Nat), (n / 2 ^ q % 256).testBit j = (decide (j < 8) && n.testBit (q + j)) := by
    intro q j
    rw [show (256 : Nat) = 2 ^ 8 from rfl, Nat.testBit_mod_two_pow, Nat.testBit_div_two_pow, Nat.add_comm]
  have hm : i % 8 < 8 := by omega
  have e1 := e 0 (i % 8)
  have e2 := e 8 (i % 8)
  have e3 := e 16 (i % 8)
  have e4 := e 24 (i % 8)
  simp only [Nat.reducePow, Nat.div_one, hm, decide_true, Bool.true_and] at e1 e2 e3 e4
  have g : i / 8 = 0 ∨ i / 8 = 1 ∨ i / 8 = 2 ∨ i / 8 = 3 := by omega
  rcases g with g | g | g | g
  · have : i = 0 + i % 8 := by omega
    rw [bitAt, g, le4f]
    simp only [List.getElem?_cons_zero, Option.getD_some]
    rw [show ((n : Int) % 256).toNat = n % 256 by omega, e1, ← this]
  · have : i = 8 + i % 8 := by omega
    rw [bitAt, g, le4f]
    simp only [List.getElem?_cons_zero, List.getElem?_cons_succ, Option.getD_some]
    rw [show ((n : Int) / 256 % 256).toNat = n / 256 % 256 by omega, e2, ← this]
  · have : i = 16 + i % 8 := by omega
    rw [bitAt, g, le4f]
    simp only [List.getElem?_cons_zero, List.getElem?_cons_succ, Option.getD_some]
    rw [show ((n : Int) / 65536 % 256).toNat = n / 65536 % 256 by omega, e3, ← this]
  · have : i = 24 + i % 8 := by omega
    rw [bitAt, g, le4f]
    simp only [List.getElem?_cons_zero, List.getElem?_cons_succ, Option.getD_some]
    rw [show ((n : Int) / 16777216).toNat = n / 16777216 % 256 by omega, e4, ← this]
theorem fin (l : List Int) (p : BitVec 32) (h : ext 0 l = p) : ext 0 (l ++ le4 p) = ~~~ (bits8 32 (BitVec.allOnes 32)) :=
  endsAlike l (le4 p) rfl (le4_bd p) (fun i hi => by rw [h]; exact le4_bit p i hi)
theorem row4 (w : World) (p : BitVec 32) : Row .u8 (w.alloc (.cells #[.int .u8 ((p.toNat : Int) % 256), .int .u8 ((p.toNat : Int) / 256 % 256), .int .u8 ((p.toNat : Int) / 65536 % 256), .int .u8 ((p.toNat : Int) / 16777216)] 5)) (.slice (some ⟨w.heap.size, 0, none⟩) 4 4) (le4 p) :=
  Row.new w (le4 p) _ _ _ _ rfl rfl (by simp [le4, maxLen]) (fun n hn => wf8 (le4_bd p n hn))

set_option maxHeartbeats 400000 in
theorem walk (a0 : Option Addr) (len0 cap0 : Nat) (z0 : List Int) (a1 : Option Addr) (len1 cap1 : Nat) (z1 : List Int) (w : World) (w0 : IsRow .u8 w a0 len0 cap0 z0) (w1 : IsRow .u8 w a1 len1 cap1 z1) :
    Calls Try.prog 8 #[.slice a0 len0 cap0, .slice a1 len1 cap1] w fun e w' => e = .returned (.bool true) ∧ Below w.heap.size w w' := by
  have H0 := Lib.hid (Row.of w0)
  have H1 := Lib.hid (Row.of w1)
  clear w0 w1
  generalize z0.take len0 = l0 at *
  generalize z1.take len1 = l1 at *
  by_cases h0 : 200 < len0
  · go_enter Try.func8, Try.ntmps8
    go_wp2_with fail
    go_ret
    exact ⟨rfl, Below.refl _ _⟩
  by_cases h1 : 200 < len1
  · go_enter Try.func8, Try.ntmps8
    go_wp2_with fail
    go_ret
    exact ⟨rfl, Below.refl _ _⟩
  have E : l0.length ≤ 200 ∧ l1.length ≤ 200 := by have := Row.len H0.out; have := Row.len H1.out; omega
  have hn : Below w.heap.size w (w.alloc (.cells #[] 5)) := (Below.refl _ _).alloc (Nat.le_refl _) _
  go_enter Try.func8, Try.ntmps8
  go_wp2_with fail
  refine (crc _ _ _ H0.out).mono ?_
  rintro e w' ⟨rfl, rfl⟩
  generalize hp : ext 0 l0 = p
  have HP := Lib.hid hp
  clear hp
  go_wp2_with fail
  refine (crc _ _ _ H1.out).mono ?_
  rintro e w' ⟨rfl, rfl⟩
  generalize hq : ext 0 l1 = q
  have HQ := Lib.hid hq
  clear hq
  go_wp2_with (first
      | (at_builtin; refine append8 rfl (.tmp 21) (.tmp 22) rfl w.heap.size _ 0 [] rfl (own0 w _ _) _ l0 rfl (H0.out.keep hn) (by simp; omega) hn.size ?_; intro v1 w1 ho1 hb1; have hb1 := hn.trans hb1)
      | (at_builtin; refine append8 rfl (.tmp 23) (.tmp 35) rfl w.heap.size _ _ _ rfl (ho1.alloc _) _ (le4 p) rfl (row4 w1 p) (by simp [le4]; omega) (hb1.alloc hb1.size _).size ?_; intro v2 w2 ho2 hb2; have hb2 := (hb1.alloc hb1.size _).trans hb2)
      | (at_builtin; refine append8 rfl (.tmp 37) (.tmp 38) rfl w2.heap.size _ 0 [] rfl (own0 w2 _ _) _ l1 rfl (H1.out.keep (hb2.alloc hb2.size _)) (by simp; omega) ((Below.refl _ w2).alloc (Nat.le_refl _) _).size ?_; intro v3 w3 ho3 hb3; have hb3 := ((Below.refl _ w2).alloc (Nat.le_refl _) _).trans hb3)
      | (at_builtin; refine append8 rfl (.tmp 39) (.tmp 51) rfl w2.heap.size _ _ _ rfl (ho3.alloc _) _ (le4 q) rfl (row4 w3 q) (by simp [le4]; omega) (hb3.alloc hb3.size _).size ?_; intro v4 w4 ho4 hb4; have hb4 := (hb3.alloc hb3.size _).trans hb4))
  have R2 := Lib.hid ((Row.ofOwn ho2 (wf_app (wf_app (by simp) H0.out.wf) (fun n hn => wf8 (le4_bd p n hn)))).keep hb4)
  have R4 := Lib.hid (Row.ofOwn ho4 (wf_app (wf_app (by simp) H1.out.wf) (fun n hn => wf8 (le4_bd q n hn))))
  have hb : Below w.heap.size w w4 := hb2.trans (hb4.mono hb2.size)
  clear ho1 ho2 ho3 ho4 hb1 hb2 hb3 hb4
  refine (crc _ _ _ R2.out).mono ?_
  rintro e w' ⟨rfl, rfl⟩
  rw [List.nil_append, fin l0 p HP.out]
  go_wp2_with fail
  refine (crc _ _ _ R4.out).mono ?_
  rintro e w' ⟨rfl, rfl⟩
  rw [List.nil_append, fin l1 q HQ.out]
  go_wp2_with fail
  refine (known _).mono ?_
  rintro e w' ⟨rfl, hk⟩
  go_wp2_with fail
  go_ret
  exact ⟨rfl, hb.trans (hk.mono hb.size)⟩
end Go.Proofs.Ytgaafchdmfgkkaa.checksumSealed
