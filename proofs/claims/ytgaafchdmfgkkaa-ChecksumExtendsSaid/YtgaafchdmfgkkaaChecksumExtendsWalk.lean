/-
  The walk of ChecksumExtends.
-/
import Derived.Test.YtgaafchdmfgkkaaKnown
namespace Go.Proofs.Ytgaafchdmfgkkaa.checksumExtends
open Go.ChangeShapes Go.WideShapes Go.ChangeAt Go.RowKit B Crc
set_option linter.unusedVariables false

theorem ext_append (r : BitVec 32) (a b : List Int) : ext (ext r a) b = ext r (a ++ b) := by
  simp [ext, run, List.foldl_append]

set_option maxHeartbeats 400000 in
theorem walk (a0 : Option Addr) (len0 cap0 : Nat) (z0 : List Int) (a1 : Option Addr) (len1 cap1 : Nat) (z1 : List Int) (a2 : Option Addr) (len2 cap2 : Nat) (z2 : List Int) (w : World) (w0 : IsRow .u8 w a0 len0 cap0 z0) (w1 : IsRow .u8 w a1 len1 cap1 z1) (w2 : IsRow .u8 w a2 len2 cap2 z2) :
    Calls Try.prog 4 #[.slice a0 len0 cap0, .slice a1 len1 cap1, .slice a2 len2 cap2] w fun e w' => e = .returned (.bool true) ∧ Below w.heap.size w w' := by
  have H0 := Lib.hid (Row.of w0)
  have H1 := Lib.hid (Row.of w1)
  have H2 := Lib.hid (Row.of w2)
  clear w0 w1 w2
  generalize z0.take len0 = l0 at *
  generalize z1.take len1 = l1 at *
  generalize z2.take len2 = l2 at *
  have F : 200 < len0 ∨ 200 < len1 ∨ 200 < len2 ∨ (len0 ≤ 200 ∧ len1 ≤ 200 ∧ len2 ≤ 200) := by omega
  rcases F with h | h | h | ⟨g0, g1, g2⟩
  · go_enter Try.func4, Try.ntmps4
    go_wp2_with fail
    go_ret
    exact ⟨rfl, Below.refl _ _⟩
  · by_cases g0 : 200 < len0
    all_goals
      go_enter Try.func4, Try.ntmps4
      go_wp2_with fail
      go_ret
      exact ⟨rfl, Below.refl _ _⟩
  · by_cases g0 : 200 < len0
    · go_enter Try.func4, Try.ntmps4
      go_wp2_with fail
      go_ret
      exact ⟨rfl, Below.refl _ _⟩
    · by_cases g1 : 200 < len1
      all_goals
        go_enter Try.func4, Try.ntmps4
        go_wp2_with fail
        go_ret
        exact ⟨rfl, Below.refl _ _⟩
  · have f0 := Row.len H0.out
    have f1 := Row.len H1.out
    have f2 := Row.len H2.out
    have E : l0.length ≤ 200 ∧ l1.length ≤ 200 ∧ l2.length ≤ 200 := by omega
    clear f0 f1 f2
    have hn : Below w.heap.size w (w.alloc (.cells #[] 5)) := (Below.refl _ _).alloc (Nat.le_refl _) _
    go_enter Try.func4, Try.ntmps4
    go_wp2_with (first
      | (at_builtin; refine append8 rfl (.tmp 21) (.tmp 22) rfl w.heap.size _ 0 [] rfl (own0 w _ _) _ l0 rfl (H0.out.keep hn) (by simp; omega) hn.size ?_; intro v1 w1 ho1 hb1; have hb1 := hn.trans hb1)
      | (at_builtin; refine append8 rfl (.tmp 23) (.tmp 24) rfl w.heap.size _ _ _ rfl ho1 _ l1 rfl (H1.out.keep hb1) (by simp; omega) hb1.size ?_; intro v2 w2 ho2 hb2; have hb2 := hb1.trans hb2)
      | (at_builtin; refine append8 rfl (.tmp 25) (.tmp 26) rfl w.heap.size _ _ _ rfl ho2 _ l2 rfl (H2.out.keep hb2) (by simp; omega) hb2.size ?_; intro v3 w3 ho3 hb3; have hb3 := hb2.trans hb3; have HO := Lib.hid (Row.ofOwn ho3 (wf_app (wf_app (wf_app (by simp) H0.out.wf) H1.out.wf) H2.out.wf)); clear ho1 ho2 ho3 hb1 hb2))
    refine (crc _ _ _ (H0.out.keep hb3)).mono ?_
    rintro e w' ⟨rfl, rfl⟩
    go_wp2_with fail
    refine (extend _ _ _ _ (H1.out.keep hb3)).mono ?_
    rintro e w' ⟨rfl, rfl⟩
    go_wp2_with fail
    refine (extend _ _ _ _ (H2.out.keep hb3)).mono ?_
    rintro e w' ⟨rfl, rfl⟩
    go_wp2_with fail
    refine (crc _ _ _ HO.out).mono ?_
    rintro e w' ⟨rfl, rfl⟩
    rw [ext_append, ext_append]
    go_wp2_with fail
    refine (extend _ _ 0 _ (H0.out.keep hb3)).mono ?_
    rintro e w' ⟨rfl, rfl⟩
    go_wp2_with fail
    refine (crc _ _ _ (H0.out.keep hb3)).mono ?_
    rintro e w' ⟨rfl, rfl⟩
    go_wp2_with fail
    refine (known _).mono ?_
    rintro e w' ⟨rfl, hk⟩
    go_wp2_with fail
    go_ret
    exact ⟨rfl, hb3.trans (hk.mono hb3.size)⟩
end Go.Proofs.Ytgaafchdmfgkkaa.checksumExtends
