/-
  The walk of BignatFresh.
-/
import Derived.Test.YthndffacpijnoaaKnown
import Derived.Test.YthndffacpijnoaaRefI
namespace Go.Proofs.Ythndffacpijnoaa.bignatFresh
open Go.ChangeShapes Go.WideShapes Go.ChangeAt Go.RowKit B Nt
set_option linter.unusedVariables false

/-- a slice whose cells may be written: they lie from block 'base' on, below block L -/
def Wr (base L : Nat) (w : World) (v : Value) : Prop :=
  ∃ a len cap, v = .slice a len cap ∧ len ≤ cap ∧ cap ≤ 9223372036854775807 ∧ ∀ i, i < len → ∃ b off x, a = some ⟨b, off, none⟩ ∧ base ≤ b ∧ b < L ∧ w.cell? ⟨b, off + i, none⟩ = some x ∧ w.frozen? ⟨b, off + i, none⟩ = false
theorem Wr.of {base base' : Nat} {w w' : World} {v : Value} {n : Int} (h : IsNew base' w v n) (hb : base ≤ base') (hk : Below w.heap.size w w') (L : Nat) (hL : w'.heap.size ≤ L) : Wr base L w' v := by
  obtain ⟨l, h1, h2, h3, h4⟩ := (h.keep hk)
  obtain ⟨a, cap, rfl, h5, h6, hc⟩ := Row.parts h1
  refine ⟨a, l.length, cap, rfl, h5, h6, fun i hi => ?_⟩
  obtain ⟨b, off, rfl, q, wx⟩ := hc i hi
  obtain ⟨g1, cur, g2⟩ := h4 b off none _ _ rfl
  exact ⟨b, off, _, rfl, Nat.le_trans hb g1, Nat.lt_of_lt_of_le (heap_lt g2) hL, q, Fresh.frozen h4 _⟩
theorem Wr.alloc {base L : Nat} {w : World} {v : Value} (h : Wr base L w v) (hL : L = w.heap.size) (o : Obj) : Wr base L (w.alloc o) v := by
  obtain ⟨a, len, cap, rfl, h1, h2, h3⟩ := h
  refine ⟨a, len, cap, rfl, h1, h2, fun i hi => ?_⟩
  obtain ⟨b, off, x, rfl, g1, g2, g3, g4⟩ := h3 i hi
  refine ⟨b, off, x, rfl, g1, g2, ?_, ?_⟩
  · rw [((Below.refl w.heap.size w).alloc (Nat.le_refl _) o).cell (p := ⟨b, off + i, none⟩) (by subst hL; exact g2)]; exact g3
  · rw [((Below.refl w.heap.size w).alloc (Nat.le_refl _) o).frozen (p := ⟨b, off + i, none⟩) (by subst hL; exact g2)]; exact g4
theorem Wr.set {base L : Nat} {w : World} {v : Value} (h : Wr base L w v) (p : Addr) (y : Value) : Wr base L (w.setCell p y) v := by
  obtain ⟨a, len, cap, rfl, h1, h2, h3⟩ := h
  refine ⟨a, len, cap, rfl, h1, h2, fun i hi => ?_⟩
  obtain ⟨b, off, x, rfl, g1, g2, g3, g4⟩ := h3 i hi
  obtain ⟨x', g5⟩ := cell?_setCell_some (p := p) (x := y) g3
  exact ⟨b, off, x', rfl, g1, g2, g5, by rw [World.frozen?_setCell]; exact g4⟩
theorem IsNew.form {base : Nat} {w : World} {v : Value} {n : Int} (h : IsNew base w v n) : ∃ a len cap, v = .slice a len cap := by
  obtain ⟨l, h1, _⟩ := h
  obtain ⟨a, cap, rfl, _⟩ := Row.parts h1
  exact ⟨a, _, cap, rfl⟩
/-- what the loops keep -/
def Inv (base L : Nat) (vs : List Value) (w0 w : World) : Prop :=
  Below base w0 w ∧ (∀ j, j < vs.length → w.cell? ⟨L, j, none⟩ = some (vs[j]?.getD (.bool false))) ∧ ∀ v ∈ vs, Wr base L w v
theorem Inv.at {base L : Nat} {vs : List Value} {w0 w : World} (h : Inv base L vs w0 w) (j : Nat) (hj : j < vs.length) :
    ∃ a len cap, w.cell? ⟨L, j, none⟩ = some (.slice a len cap) ∧ len ≤ cap ∧ cap ≤ 9223372036854775807 ∧ ∀ w', Inv base L vs w0 w' → w'.cell? ⟨L, j, none⟩ = some (.slice a len cap) ∧ ∀ i, i < len → ∃ b off x, a = some ⟨b, off, none⟩ ∧ base ≤ b ∧ b < L ∧ w'.cell? ⟨b, off + i, none⟩ = some x ∧ w'.frozen? ⟨b, off + i, none⟩ = false := by
  have e : vs[j]?.getD (.bool false) = vs[j] := by rw [List.getElem?_eq_getElem hj]; rfl
  have hm : vs[j] ∈ vs := List.getElem_mem hj
  obtain ⟨a, len, cap, hv, h1, h2, h3⟩ := h.2.2 _ hm
  refine ⟨a, len, cap, by rw [h.2.1 j hj, e, hv], h1, h2, fun w' h' => ⟨by rw [h'.2.1 j hj, e, hv], ?_⟩⟩
  obtain ⟨a', len', cap', hv', g1, g2, g3⟩ := h'.2.2 _ hm
  rw [hv] at hv'
  cases hv'
  exact g3
theorem Inv.set {base L : Nat} {vs : List Value} {w0 w : World} (h : Inv base L vs w0 w) {b o : Nat} (h1 : base ≤ b) (h2 : b < L) (y : Value) : Inv base L vs w0 (w.setCell ⟨b, o, none⟩ y) := by
  refine ⟨h.1.setCell (p := ⟨b, o, none⟩) h1 y, fun j hj => ?_, fun v hv => (h.2.2 v hv).set _ _⟩
  rw [World.cell?_setCell_far w ⟨b, o, none⟩ ⟨L, j, none⟩ y (by show b ≠ L; omega)]
  exact h.2.1 j hj

set_option maxHeartbeats 4000000 in
set_option maxRecDepth 100000 in
theorem walk (a0 : Option Addr) (len0 cap0 : Nat) (z0 : List Int) (a1 : Option Addr) (len1 cap1 : Nat) (z1 : List Int) (w : World) (w0 : IsRow .u32 w a0 len0 cap0 z0) (w1 : IsRow .u32 w a1 len1 cap1 z1) :
    Calls Try.prog 7 #[.slice a0 len0 cap0, .slice a1 len1 cap1] w fun e w' => e = .returned (.bool true) ∧ Below w.heap.size w w' := by
  have X0 := Lib.hid (Row.of w0)
  have X1 := Lib.hid (Row.of w1)
  clear w0 w1
  generalize z0.take len0 = l0 at *
  generalize z1.take len1 = l1 at *
  go_enter Try.func7, Try.ntmps7
  go_wp2_with fail
  refine (baseNat _ l0 _ X0.out).mono ?_
  rintro e wn1 ⟨vn1, rfl, rn2, hbn1⟩
  have Hn3 : Hid (Num wn1 vn1 8 (N (bnat l0))) := ⟨_, rn2, bnat_len _, rfl⟩
  have Rn4 := Lib.hid rn2
  clear rn2
  go_wp2_with fail
  refine (baseNat _ l1 _ (X1.out.keep hbn1)).mono ?_
  rintro e wn2 ⟨vn5, rfl, rn6, hbn2⟩
  have Hn7 : Hid (Num wn2 vn5 8 (N (bnat l1))) := ⟨_, rn6, bnat_len _, rfl⟩
  have Rn8 := Lib.hid rn6
  clear rn6
  obtain ⟨Z, hZ⟩ : ∃ S : Bool, decide (N (bnat l1) ≠ 0) = S := ⟨_, rfl⟩
  have HZ := Lib.hid hZ
  clear hZ
  have HNIL : Hid (∀ w : World, Num w (.slice none 0 0) 8 0) := fun w => ⟨[], Row.nil _ _, by simp, rfl⟩
  go_wp2_with fail
  refine (Nt.divMod _ _ 8 (N (bnat l0)) (N (bnat l1)) _ (Hn3.out.keep hbn2) Hn7.out (by omega)).mono ?_
  rintro e wn3 ⟨vqn9, vrn10, rfl, rqn11, rrn12, hbn3⟩
  rw [HZ.out]
  have HQn13 := Lib.hid rqn11
  have HRn14 := Lib.hid rrn12
  clear rqn11 rrn12
  go_wp2_with fail
  refine (normalize _ 8 (N (bnat l0)) _ ((Hn3.out.keep hbn2).keep hbn3) (by omega)).mono ?_
  rintro e wn4 ⟨vn15, rfl, rn16, hbn4⟩
  have Hn17 := Lib.hid rn16
  clear rn16
  go_wp2_with fail
  refine (Nt.add _ _ 8 (N (bnat l0)) 0 _ (((Hn3.out.keep hbn2).keep hbn3).keep hbn4) (HNIL.out _) (by omega)).mono ?_
  rintro e wn5 ⟨vn18, rfl, rn19, hbn5⟩
  have Hn20 := Lib.hid rn19
  clear rn19
  go_wp2_with fail
  refine (fromUint64 1 _ (by decide) (by decide)).mono ?_
  rintro e wn6 ⟨vn21, rfl, rn22, hbn6⟩
  have Hn23 := Lib.hid rn22
  clear rn22
  go_wp2_with fail
  refine (Nt.mul _ _ 8 (N (bnat l0)) 1 _ (((((Hn3.out.keep hbn2).keep hbn3).keep hbn4).keep hbn5).keep hbn6) (IsNew.num Hn23.out 8 (Int.lt_of_lt_of_le (bp_lit (by decide)) (Bp_mono (by omega)))) (by omega)).mono ?_
  rintro e wn7 ⟨vn24, rfl, rn25, hbn7⟩
  have Hn26 := Lib.hid rn25
  clear rn25
  go_wp2_with fail
  refine (Nt.gcd _ _ 8 (N (bnat l0)) 0 _ ((((((Hn3.out.keep hbn2).keep hbn3).keep hbn4).keep hbn5).keep hbn6).keep hbn7) (HNIL.out _) (by omega)).mono ?_
  rintro e wn8 ⟨vn27, rfl, rn28, hbn8⟩
  have Hn29 := Lib.hid rn28
  clear rn28
  obtain ⟨sa0, sn0, sc0, rfl⟩ := IsNew.form Hn17.out
  obtain ⟨sa1, sn1, sc1, rfl⟩ := IsNew.form Hn20.out
  obtain ⟨sa2, sn2, sc2, rfl⟩ := IsNew.form Hn26.out
  obtain ⟨sa3, sn3, sc3, rfl⟩ := IsNew.form Hn29.out
  obtain ⟨sa4, sn4, sc4, rfl⟩ := IsNew.form HQn13.out
  obtain ⟨sa5, sn5, sc5, rfl⟩ := IsNew.form HRn14.out
  have hz1 := hbn1.size
  have hz2 := hbn2.size
  have hz3 := hbn3.size
  have hz4 := hbn4.size
  have hz5 := hbn5.size
  have hz6 := hbn6.size
  have hz7 := hbn7.size
  have hz8 := hbn8.size
  have HW0 := Lib.hid ((Wr.of (base := wn2.heap.size) Hn17.out (by omega) (((hbn5.trans (hbn6.mono (by omega))).trans (hbn7.mono (by omega))).trans (hbn8.mono (by omega))) wn8.heap.size (Nat.le_refl _)).alloc rfl (.cells #[Value.slice sa0 sn0 sc0, Value.slice sa1 sn1 sc1, Value.slice sa2 sn2 sc2, Value.slice sa3 sn3 sc3, Value.slice sa4 sn4 sc4, Value.slice sa5 sn5 sc5] 23 (0, 0)))
  have HW1 := Lib.hid ((Wr.of (base := wn2.heap.size) Hn20.out (by omega) ((hbn6.trans (hbn7.mono (by omega))).trans (hbn8.mono (by omega))) wn8.heap.size (Nat.le_refl _)).alloc rfl (.cells #[Value.slice sa0 sn0 sc0, Value.slice sa1 sn1 sc1, Value.slice sa2 sn2 sc2, Value.slice sa3 sn3 sc3, Value.slice sa4 sn4 sc4, Value.slice sa5 sn5 sc5] 23 (0, 0)))
  have HW2 := Lib.hid ((Wr.of (base := wn2.heap.size) Hn26.out (by omega) hbn8 wn8.heap.size (Nat.le_refl _)).alloc rfl (.cells #[Value.slice sa0 sn0 sc0, Value.slice sa1 sn1 sc1, Value.slice sa2 sn2 sc2, Value.slice sa3 sn3 sc3, Value.slice sa4 sn4 sc4, Value.slice sa5 sn5 sc5] 23 (0, 0)))
  have HW3 := Lib.hid ((Wr.of (base := wn2.heap.size) Hn29.out (by omega) (Below.refl _ _) wn8.heap.size (Nat.le_refl _)).alloc rfl (.cells #[Value.slice sa0 sn0 sc0, Value.slice sa1 sn1 sc1, Value.slice sa2 sn2 sc2, Value.slice sa3 sn3 sc3, Value.slice sa4 sn4 sc4, Value.slice sa5 sn5 sc5] 23 (0, 0)))
  have HW4 := Lib.hid ((Wr.of (base := wn2.heap.size) HQn13.out (by omega) ((((hbn4.trans (hbn5.mono (by omega))).trans (hbn6.mono (by omega))).trans (hbn7.mono (by omega))).trans (hbn8.mono (by omega))) wn8.heap.size (Nat.le_refl _)).alloc rfl (.cells #[Value.slice sa0 sn0 sc0, Value.slice sa1 sn1 sc1, Value.slice sa2 sn2 sc2, Value.slice sa3 sn3 sc3, Value.slice sa4 sn4 sc4, Value.slice sa5 sn5 sc5] 23 (0, 0)))
  have HW5 := Lib.hid ((Wr.of (base := wn2.heap.size) HRn14.out (by omega) ((((hbn4.trans (hbn5.mono (by omega))).trans (hbn6.mono (by omega))).trans (hbn7.mono (by omega))).trans (hbn8.mono (by omega))) wn8.heap.size (Nat.le_refl _)).alloc rfl (.cells #[Value.slice sa0 sn0 sc0, Value.slice sa1 sn1 sc1, Value.slice sa2 sn2 sc2, Value.slice sa3 sn3 sc3, Value.slice sa4 sn4 sc4, Value.slice sa5 sn5 sc5] 23 (0, 0)))
  have HINV : Hid (Inv wn2.heap.size wn8.heap.size [Value.slice sa0 sn0 sc0, Value.slice sa1 sn1 sc1, Value.slice sa2 sn2 sc2, Value.slice sa3 sn3 sc3, Value.slice sa4 sn4 sc4, Value.slice sa5 sn5 sc5] wn2 (wn8.alloc (.cells #[Value.slice sa0 sn0 sc0, Value.slice sa1 sn1 sc1, Value.slice sa2 sn2 sc2, Value.slice sa3 sn3 sc3, Value.slice sa4 sn4 sc4, Value.slice sa5 sn5 sc5] 23 (0, 0)))) := by
    refine ⟨(((((hbn3.trans (hbn4.mono (by omega))).trans (hbn5.mono (by omega))).trans (hbn6.mono (by omega))).trans (hbn7.mono (by omega))).trans (hbn8.mono (by omega))).alloc (by omega) _, fun j hj => ?_, fun v hv => ?_⟩
    · rw [World.cell?_alloc_mark]
      rcases j with _ | _ | _ | _ | _ | _ | j <;> first | rfl | (simp at hj; omega)
    · simp only [List.mem_cons, List.not_mem_nil, or_false] at hv
      rcases hv with rfl | rfl | rfl | rfl | rfl | rfl
      · exact HW0.out
      · exact HW1.out
      · exact HW2.out
      · exact HW3.out
      · exact HW4.out
      · exact HW5.out
  have hbw2 : Below w.heap.size w wn2 := hbn1.trans (hbn2.mono (by omega))
  clear hz1
  clear hz2
  clear hz3
  clear hz4
  clear hz5
  clear hz6
  clear hz7
  clear hz8
  clear HW0 HW1 HW2 HW3 HW4 HW5 hbn3 hbn4 hbn5 hbn6 hbn7 hbn8
  go_wp2_with fail
  generalize hvs : [Value.slice sa0 sn0 sc0, Value.slice sa1 sn1 sc1, Value.slice sa2 sn2 sc2, Value.slice sa3 sn3 sc3, Value.slice sa4 sn4 sc4, Value.slice sa5 sn5 sc5] = vs at *
  have HVL := Lib.hid (show vs.length = 6 by rw [← hvs]; rfl)
  clear hvs
  generalize wn8.heap.size = L at *
  go_loopg [11] 6 (fun gk i wr => ∃ k : Nat, k ≤ 6 ∧ 6 - k ≤ gk ∧ i = .int .i64 k ∧ Hid (Inv wn2.heap.size L vs wn2 wr))
  case atStart => exact ⟨0, by omega, by omega, rfl, HINV⟩
  case round =>
    clear HINV
    obtain ⟨k, hk, hgk, rfl, HI⟩ := hrel
    by_cases hlt : k < 6
    · obtain ⟨a, len, cap, hcell, hlc, hcm, hnext⟩ := HI.out.at k (by rw [HVL.out]; exact hlt)
      have HNX := Lib.hid hnext
      clear hnext
      go_wp2_with fail
      clear hcell
      go_loopg [12] len (fun gk i wr => ∃ j : Nat, j ≤ len ∧ len - j ≤ gk ∧ i = .int .i64 j ∧ Hid (Inv wn2.heap.size L vs wn2 wr))
      case atStart => exact ⟨0, Nat.zero_le _, Nat.le_refl _, rfl, HI⟩
      case round =>
        clear HI
        obtain ⟨j, hj, hgj, rfl, HI⟩ := hrel
        obtain ⟨hcell, hin⟩ := HNX.out _ HI.out
        by_cases hjl : j < len
        · obtain ⟨b, off, x, rfl, g1, g2, g3, g4⟩ := hin j hjl
          clear hin
          have hbL : b ≠ L := by omega
          go_wp2
          go_roundg (len - (j + 1))
          case measure => omega
          case rel => exact ⟨j + 1, by omega, Nat.le_refl _, by go_num, HI.out.set g1 g2 _⟩
        · clear hin
          go_wp2
          go_roundg (6 - (k + 1))
          case measure => omega
          case rel => exact ⟨k + 1, by omega, Nat.le_refl _, by go_num, HI.out⟩
    · have hb2 := HI.out.1
      clear HI HNIL
      have hW := hbw2.trans (hb2.mono hbw2.size)
      have A0 := Lib.hid ((Hn3.out.keep hbn2).keep hb2)
      have B0 := Lib.hid (Hn7.out.keep hb2)
      have RA := Lib.hid ((Rn4.out.keep hbn2).keep hb2)
      have RB := Lib.hid (Rn8.out.keep hb2)
      have X0 := Lib.hid (X0.out.keep hW)
      have X1 := Lib.hid (X1.out.keep hW)
      go_wp2_with fail
      refine (Nt.divMod _ _ 8 (N (bnat l0)) (N (bnat l1)) _ A0.out B0.out (by omega)).mono ?_
      rintro e wm1 ⟨vqm1, vrm2, rfl, rqm3, rrm4, hbm1⟩
      rw [HZ.out]
      have HQm5 := Lib.hid rqm3
      have HRm6 := Lib.hid rrm4
      clear rqm3 rrm4
      go_wp2_with fail
      refine (rDivMod _ _ 8 (N (bnat l0)) (N (bnat l1)) _ (A0.out.keep hbm1) (B0.out.keep hbm1) (by omega)).mono ?_
      rintro e wm2 ⟨vqm7, vrm8, rfl, rqm9, rrm10, hbm2⟩
      rw [HZ.out]
      have HQm11 := Lib.hid rqm9
      have HRm12 := Lib.hid rrm10
      clear rqm9 rrm10
      go_wp2_with fail
      refine (baseNat _ l0 _ ((X0.out.keep hbm1).keep hbm2)).mono ?_
      rintro e wm3 ⟨vm13, rfl, rm14, hbm3⟩
      have Rm15 := Lib.hid rm14
      clear rm14
      go_wp2_with fail
      refine (Nt.same _ _ _ _ _ (((RA.out.keep hbm1).keep hbm2).keep hbm3) Rm15.out).mono ?_
      rintro e wm4 ⟨rfl, hbm4⟩
      rw [decide_eq_true rfl]
      go_wp2_with fail
      refine (baseNat _ l1 _ ((((X1.out.keep hbm1).keep hbm2).keep hbm3).keep hbm4)).mono ?_
      rintro e wm5 ⟨vm16, rfl, rm17, hbm5⟩
      have Rm18 := Lib.hid rm17
      clear rm17
      go_wp2_with fail
      refine (Nt.same _ _ _ _ _ (((((RB.out.keep hbm1).keep hbm2).keep hbm3).keep hbm4).keep hbm5) Rm18.out).mono ?_
      rintro e wm6 ⟨rfl, hbm6⟩
      rw [decide_eq_true rfl]
      go_wp2_with fail
      refine (sameN (((((HQm5.out.keep hbm2).keep hbm3).keep hbm4).keep hbm5).keep hbm6) ((((HQm11.out.keep hbm3).keep hbm4).keep hbm5).keep hbm6)).mono ?_
      rintro e wm7 ⟨rfl, hbm7⟩
      rw [decide_eq_true (rfl)]
      go_wp2_with fail
      refine (sameN ((((((HRm6.out.keep hbm2).keep hbm3).keep hbm4).keep hbm5).keep hbm6).keep hbm7) (((((HRm12.out.keep hbm3).keep hbm4).keep hbm5).keep hbm6).keep hbm7)).mono ?_
      rintro e wm8 ⟨rfl, hbm8⟩
      rw [decide_eq_true (rfl)]
      go_wp2_with fail
      refine (Nt.known _).mono ?_
      rintro e wm9 ⟨rfl, hbm9⟩
      go_wp2_with fail
      have hbm1_s := hbm1.size
      have hbm2_s := hbm2.size
      have hbm3_s := hbm3.size
      have hbm4_s := hbm4.size
      have hbm5_s := hbm5.size
      have hbm6_s := hbm6.size
      have hbm7_s := hbm7.size
      have hbm8_s := hbm8.size
      have hW_s := hW.size
      go_ret
      exact ⟨rfl, hW.trans (((((((((hbm1.trans (hbm2.mono (by omega))).trans (hbm3.mono (by omega))).trans (hbm4.mono (by omega))).trans (hbm5.mono (by omega))).trans (hbm6.mono (by omega))).trans (hbm7.mono (by omega))).trans (hbm8.mono (by omega))).trans (hbm9.mono (by omega))).mono hW_s)⟩
end Go.Proofs.Ythndffacpijnoaa.bignatFresh
