/-
  Contract of bignat.guessDigit.
-/
import Derived.Test.YtpplleoiehnlkaaLongSteps
import Derived.Test.YtpplleoiehnlkaaGuessPlain
namespace Go.Proofs.Ytpplleoiehnlkaa.Nt
open Go.ChangeShapes Go.WideShapes Go.ChangeAt Go.RowKit B
set_option linter.unusedVariables false

def RetGuess (w : World) (q : Int) (e : Ending) (w' : World) : Prop :=
  ∃ g : Int, e = .returned (.int .u64 g) ∧ 0 ≤ g ∧ g < 4294967296 ∧ q ≤ g ∧ g ≤ q + 1 ∧ Below w.heap.size w w'

set_option maxHeartbeats 1000000 in
theorem guess (vu vv : Value) (W V : List Int) (n : Nat) (w : World) (hu : Row .u32 w vu W) (hv : Row .u32 w vv V) (hW : W.length = n + 3) (hV : V.length = n + 2) (hn : n ≤ 4294967296)
    (htop : 2147483648 ≤ V[n + 1]?.getD 0) (hlt : N W < N V * 4294967296) :
    Calls Try.prog 94 #[vu, vv] w (RetGuess w (N W / N V)) := by
  have DW := Row.ds hu
  have DV := Row.ds hv
  obtain ⟨eW, uL, uH⟩ := N_top3 DW n hW
  obtain ⟨eV, vL, vH⟩ := N_top2 DV n hV
  have hM := Bp_pos n
  obtain ⟨a1, p1, rfl, g1, m1, cu⟩ := Row.parts hu
  obtain ⟨a2, p2, rfl, g2, m2, cv⟩ := Row.parts hv
  obtain ⟨b1, o1, rfl, q0, _⟩ := cu n (by omega)
  obtain ⟨b1', o1', e1, q1, _⟩ := cu (n + 1) (by omega)
  simp only [Option.some.injEq, Addr.mk.injEq, and_true] at e1
  obtain ⟨rfl, rfl⟩ := e1
  obtain ⟨b1', o1', e1, q2, _⟩ := cu (n + 2) (by omega)
  simp only [Option.some.injEq, Addr.mk.injEq, and_true] at e1
  obtain ⟨rfl, rfl⟩ := e1
  obtain ⟨b2, o2, rfl, r0, _⟩ := cv n (by omega)
  obtain ⟨b2', o2', e1, r1, _⟩ := cv (n + 1) (by omega)
  simp only [Option.some.injEq, Addr.mk.injEq, and_true] at e1
  obtain ⟨rfl, rfl⟩ := e1
  have d0 := DW.at n
  have d1 := DW.at (n + 1)
  have d2 := DW.at (n + 2)
  have f0 := DV.at n
  have f1 := DV.at (n + 1)
  rw [hW] at g1 ⊢
  rw [hV] at g2 ⊢
  clear cu cv hu hv DW DV
  generalize W[n]?.getD 0 = u2 at *
  generalize W[n + 1]?.getD 0 = u1 at *
  generalize W[n + 2]?.getD 0 = u0 at *
  generalize V[n]?.getD 0 = v2 at *
  generalize V[n + 1]?.getD 0 = v1 at *
  generalize N (W.take n) = Ul at *
  generalize N (V.take n) = Vl at *
  generalize Bp n = M at *
  generalize N W = Wn at *
  generalize N V = Vn at *
  have htop2 : u0 * 4294967296 + u1 ≤ v1 * 4294967296 + 4294967295 := gd_top hM vH uL f0.2 d0.1 eW eV hlt
  have hV1 : 1 ≤ Vn := by
    have := Int.mul_le_mul_of_nonneg_left (show 1 ≤ v2 + 4294967296 * v1 by omega) (show 0 ≤ M by omega)
    omega
  have hq0 : 0 ≤ Wn / Vn := Int.ediv_nonneg (by
    have := Int.mul_nonneg (show 0 ≤ M by omega) (show 0 ≤ u2 + 4294967296 * (u0 * 4294967296 + u1) by omega)
    omega) (by omega)
  have hq1 : Wn / Vn * Vn ≤ Wn := Int.ediv_mul_le _ (by omega)
  have hq2 : Wn < (Wn / Vn + 1) * Vn := by
    have := Int.lt_ediv_add_one_mul_self Wn (show 0 < Vn by omega)
    exact this
  have HST := Lib.hid (gd_start hM vL uH (show 1 ≤ v1 by omega) f0.1 d0.2 hq0 eW eV hq1)
  have HDN : Hid (∀ g rest : Int, 0 ≤ g → u0 * 4294967296 + u1 = g * v1 + rest → (4294967296 ≤ g ∨ rest * 4294967296 + u2 < g * v2) → Wn / Vn ≤ g - 1) :=
    fun g rest hg ht hbad => gd_down hM vL uH hg hV1 eW eV hq1 hlt ht hbad
  have HEN : Hid (∀ g rest : Int, 0 ≤ g ∧ g < 4294967296 → u0 * 4294967296 + u1 = g * v1 + rest → (4294967296 ≤ rest ∨ g * v2 ≤ rest * 4294967296 + u2) → g ≤ Wn / Vn + 1) :=
    fun g rest hg ht hgood => gd_end hM ⟨vL, vH⟩ uL hg (by omega) f0 d0.1 eW eV hq2 ht hgood
  generalize Wn / Vn = q at *
  clear eW eV hlt hq1 hq2 hM vL vH uL uH hW hV
  have hor := shl_or u0 u1 d2 d1
  have hdiv : 0 ≤ (u0 * 4294967296 + u1) / v1 ∧ 0 ≤ (u0 * 4294967296 + u1) % v1 ∧ (u0 * 4294967296 + u1) % v1 < v1 := ⟨Int.ediv_nonneg (by omega) (by omega), Int.emod_nonneg _ (by omega), Int.emod_lt_of_pos _ (by omega)⟩
  have HDE := Lib.hid (Int.mul_ediv_add_emod (u0 * 4294967296 + u1) v1)
  go_enter Try.func94, Try.ntmps94
  go_wp2
  go_quiet (fail)
  have hb1 := below_drewN (Below.refl w.heap.size w) nq
  have CQ := Lib.hid (And.intro q0 (And.intro r0 r1))
  have q0 := cell_later hb1 q0
  have q1 := cell_later hb1 q1
  have q2 := cell_later hb1 q2
  have r0 := cell_later hb1 r0
  have r1 := cell_later hb1 r1
  generalize w.drewN nq = w1 at *
  go_wp2
  have hg0 : (u0 * 4294967296 + u1) / v1 ≤ 4294967297 := by
    have h1 := HDE.out
    rcases Int.lt_or_le 4294967297 ((u0 * 4294967296 + u1) / v1) with hh | hh
    · have := Int.mul_le_mul_of_nonneg_left (show 4294967298 ≤ (u0 * 4294967296 + u1) / v1 by omega) (show 0 ≤ v1 by omega)
      omega
    · exact hh
  have HDE2 := Lib.hid (show u0 * 4294967296 + u1 = (u0 * 4294967296 + u1) / v1 * v1 + (u0 * 4294967296 + u1) % v1 by rw [Int.mul_comm _ v1]; exact HDE.out.symm)
  clear HDE hor
  have HTOP := Lib.hid htop2
  clear htop2
  generalize (u0 * 4294967296 + u1) / v1 = g00 at *
  generalize (u0 * 4294967296 + u1) % v1 = r00 at *
  generalize u0 * 4294967296 + u1 = top at *
  obtain ⟨hdiv0, hdiv1, hdiv2⟩ := hdiv
  go_loopw [7, 8] (fun a b wr => ∃ g rest : Int, a = .int .u64 g ∧ b = .int .u64 rest ∧ 0 ≤ g ∧ g ≤ 4294967297 ∧ 0 ≤ rest ∧ rest < 4294967296 ∧ Hid (top = g * v1 + rest) ∧ Hid (q ≤ g) ∧ Below w.heap.size w wr) (fun a _ _ => (intOf a).toNat)
  case atStart => exact ⟨g00, r00, rfl, rfl, hdiv0, hg0, hdiv1, by omega, HDE2.out, HST.out, hb1⟩
  case round =>
    obtain ⟨g, rest, rfl, rfl, hg, hgB, hr0, hr1, ht, hq, hb⟩ := hrel
    have q0 := cell_later hb CQ.out.1
    have r0 := cell_later hb CQ.out.2.1
    have r1 := cell_later hb CQ.out.2.2
    by_cases hge : 4294967296 ≤ g
    · have hdn := HDN.out g rest hg ht.out (.inl hge)
      have hgd : decide (4294967296 ≤ g) = true := by simp; omega
      have HT2 := Lib.hid (show top = (g - 1) * v1 + (rest + v1) by rw [Int.sub_mul, Int.one_mul]; have := ht.out; omega)
      have HQ2 := Lib.hid hdn
      clear hdn
      go_wp2
      go_quiet (fail)
      have hb3 := below_drewN hb nq
      have r1 := cell_later (below_drewN (Below.refl _ wr) nq) r1
      generalize wr.drewN nq = w2 at *
      by_cases hbr : 4294967296 ≤ rest + v1
      · have hgl : g - 1 < 4294967296 := by
          rcases Int.lt_or_le 4294967296 g with hh | hh
          · obtain rfl : g = 4294967297 := by omega
            have := ht.out
            have := HTOP.out
            omega
          · omega
        have hfin := HEN.out (g - 1) (rest + v1) ⟨by omega, hgl⟩ HT2.out (.inl hbr)
        have HFIN := Lib.hid hfin
        clear hfin
        go_wp2
        go_ret
        exact ⟨g - 1, rfl, by omega, hgl, HQ2.out, HFIN.out, hb3⟩
      · go_wp2
        exact ⟨⟨g - 1, rest + v1, rfl, rfl, by omega, by omega, by omega, by omega, HT2.out, HQ2.out, hb3⟩, by simp [intOf]; omega⟩
    · have hgd : decide (4294967296 ≤ g) = false := by simp; omega
      have hmb := mul_bd (x := g) (y := v2) ⟨hg, by omega⟩ f0
      have hor := shl_or rest u2 ⟨hr0, hr1⟩ d0
      by_cases hbad : rest * 4294967296 + u2 < g * v2
      · have hdn := HDN.out g rest hg ht.out (.inr hbad)
        have HT2 := Lib.hid (show top = (g - 1) * v1 + (rest + v1) by rw [Int.sub_mul, Int.one_mul]; have := ht.out; omega)
        have HQ2 := Lib.hid hdn
        have hg1 : 1 ≤ g := by omega
        clear hdn
        go_wp2
        go_quiet (fail)
        have hb3 := below_drewN hb nq
        have r1 := cell_later (below_drewN (Below.refl _ wr) nq) r1
        generalize wr.drewN nq = w2 at *
        by_cases hbr : 4294967296 ≤ rest + v1
        · have hfin := HEN.out (g - 1) (rest + v1) ⟨by omega, by omega⟩ HT2.out (.inl hbr)
          have HFIN := Lib.hid hfin
          clear hfin
          go_wp2
          go_ret
          exact ⟨g - 1, rfl, by omega, by omega, HQ2.out, HFIN.out, hb3⟩
        · go_wp2
          exact ⟨⟨by omega, by omega⟩, by simp [intOf]; omega⟩
      · have hfin := HEN.out g rest ⟨hg, by omega⟩ ht.out (.inr (by omega))
        have HFIN := Lib.hid hfin
        clear hfin
        go_wp2
        go_quiet (fail)
        have hb3 := below_drewN hb nq
        generalize wr.drewN nq = w2 at *
        go_wp2
        go_ret
        exact ⟨g, rfl, hg, by omega, hq.out, HFIN.out, hb3⟩
end Go.Proofs.Ytpplleoiehnlkaa.Nt
