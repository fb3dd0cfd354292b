/-
  Contracts of credenceref1.NatSame, credencelaw1.same, credencebase.Nat and credencelaw1.known.
-/
import Derived.Test.YtpplleoiehnlkaaFormat
namespace Go.Proofs.Ytpplleoiehnlkaa.Nt
open Go.ChangeShapes Go.WideShapes Go.ChangeAt Go.RowKit B
set_option linter.unusedVariables false

theorem list_ne {la lb : List Int} (hl : la.length = lb.length) (k : Nat) (hk : k < la.length) (h : la[k]?.getD 0 ≠ lb[k]?.getD 0) : la ≠ lb := by
  rintro rfl; exact h rfl

set_option maxHeartbeats 1000000 in
theorem natSame (va vb : Value) (la lb : List Int) (w : World) (ha : Row .u32 w va la) (hb : Row .u32 w vb lb) :
    Calls Try.prog 79 #[va, vb] w fun e w' => e = .returned (.bool (decide (la = lb))) ∧ Below w.heap.size w w' := by
  obtain ⟨a1, p1, rfl, g1, m1, c1⟩ := Row.parts ha
  obtain ⟨a2, p2, rfl, g2, m2, c2⟩ := Row.parts hb
  have H1 := Lib.hid c1
  have H2 := Lib.hid c2
  clear ha hb c1 c2
  by_cases hne : la.length = lb.length
  · have hd : ((la.length : Int) != (lb.length : Int)) = false := by rw [hne]; simp
    have HL := Lib.hid hne
    rw [← hne] at g2 H2 hd ⊢
    clear hne
    go_enter Try.func79, Try.ntmps79
    go_wp2
    go_loopg [5] la.length (fun gk i wr => ∃ k : Nat, k ≤ la.length ∧ la.length - k ≤ gk ∧ i = .int .i64 k ∧ la.take k = lb.take k ∧ Below w.heap.size w wr)
    case atStart => exact ⟨0, Nat.zero_le _, Nat.le_refl _, rfl, rfl, Below.refl _ _⟩
    case round =>
      obtain ⟨k, hk, hgk, rfl, ht, hb⟩ := hrel
      have HT := Lib.hid ht
      clear ht
      by_cases hlt : k < la.length
      · obtain ⟨b1, o1, rfl, q1, _⟩ := H1.out k hlt
        obtain ⟨b2, o2, rfl, q2, _⟩ := H2.out k hlt
        have q1 := cell_later hb q1
        have q2 := cell_later hb q2
        have HX := Lib.hid (take_snoc (l := la) (k := k) hlt)
        have HY := Lib.hid (take_snoc (l := lb) (k := k) (by rw [← HL.out]; exact hlt))
        have HNE := Lib.hid (list_ne HL.out k hlt)
        generalize la[k]?.getD 0 = x at *
        generalize lb[k]?.getD 0 = y at *
        by_cases hxy : x = y
        · subst hxy
          go_wp2
          go_quiet (fail)
          have hb1 := below_drewN hb nq
          generalize wr.drewN nq = w2 at *
          go_wp2
          go_roundg (la.length - (k + 1))
          case measure => omega
          case rel => exact ⟨k + 1, by omega, Nat.le_refl _, by go_num, by rw [HX.out, HY.out, HT.out], hb1⟩
        · have hxd : (x != y) = true := by rw [bne_iff_ne]; exact hxy
          have HF := Lib.hid (HNE.out hxy)
          clear hxy
          go_wp2
          go_quiet (fail)
          have hb1 := below_drewN hb nq
          generalize wr.drewN nq = w2 at *
          go_wp2
          go_ret
          exact ⟨by rw [decide_eq_false HF.out]; rfl, hb1⟩
      · have HE := Lib.hid (show la = lb by
          have h := HT.out
          rwa [List.take_of_length_le (by omega), List.take_of_length_le (by have := HL.out; omega)] at h)
        go_wp2
        go_ret
        exact ⟨by rw [decide_eq_true HE.out]; rfl, hb⟩
  · have hd : ((la.length : Int) != (lb.length : Int)) = true := by rw [bne_iff_ne]; omega
    have HF := Lib.hid (show la ≠ lb by rintro rfl; exact hne rfl)
    go_enter Try.func79, Try.ntmps79
    go_wp2
    go_ret
    exact ⟨by rw [decide_eq_false HF.out]; rfl, Below.refl _ _⟩


/-- the digits that credencebase.Nat makes -/
def bdig (d : Int) : Int := if bits .and .u32 d 7 = 7 then 4294967295 - d / 268435456 else d
def bnat (l : List Int) : List Int := (l.take 8).map bdig
theorem bdig_bd {d : Int} (h : 0 ≤ d ∧ d < 4294967296) : 0 ≤ bdig d ∧ bdig d < 4294967296 := by
  unfold bdig; split <;> omega
theorem bnat_ds {l : List Int} (h : Ds l) : Ds (bnat l) := by
  intro d hd
  simp only [bnat, List.mem_map] at hd
  obtain ⟨x, hx, rfl⟩ := hd
  exact bdig_bd (h x (List.mem_of_mem_take hx))
theorem bnat_len (l : List Int) : (bnat l).length ≤ 8 := by simp [bnat]; omega

def RetRow (base : Nat) (w : World) (l : List Int) (e : Ending) (w' : World) : Prop := ∃ v, e = .returned v ∧ Row .u32 w' v l ∧ Below base w w'

set_option maxHeartbeats 1000000 in
theorem baseNat (va : Value) (l : List Int) (w : World) (ha : Row .u32 w va l) :
    Calls Try.prog 51 #[va] w (RetRow w.heap.size w (bnat l)) := by
  have HD := Lib.hid (Row.ds ha)
  obtain ⟨a1, p1, rfl, g1, m1, c1⟩ := Row.parts ha
  have H1 := Lib.hid c1
  clear ha c1
  go_enter Try.func51, Try.ntmps51
  go_wp2
  go_loopg [3, 4] 8 (fun gk v i wr => ∃ k : Nat, k ≤ l.length ∧ k ≤ 8 ∧ 8 - k ≤ gk ∧ i = .int .i64 k ∧ wr.ownsRow w.heap.size 37 1 v k (((l.take k).map bdig).map (Value.int .u32)) ∧ Below w.heap.size w wr)
  case atStart => exact ⟨0, Nat.zero_le _, by omega, by omega, rfl, ⟨rfl, .inl ⟨rfl, rfl⟩⟩, Below.refl _ _⟩
  case round =>
    obtain ⟨k, hk, hk8, hgk, rfl, ho, hb⟩ := hrel
    have HO := Lib.hid ho
    clear ho
    by_cases hlt : k < l.length
    · have hdl : decide ((k : Int) < (l.length : Int)) = true := by simp; omega
      have hdl2 : decide (k < l.length) = true := by simp; omega
      by_cases hlt8 : k < 8
      · obtain ⟨b1, o1, rfl, q1, wd⟩ := H1.out k hlt
        have q1 := cell_later hb q1
        have dd := wf_u32 wd
        have HT := Lib.hid (take_snoc (l := l) (k := k) hlt)
        generalize l[k]?.getD 0 = d at *
        have hbd := bdig_bd dd
        have hlk : ((l.take k).map bdig).length = k := by simp; omega
        have hgs : w.heap.size ≤ wr.heap.size := hb.size
        have HNXT : Hid (∀ x, x = bdig d → ((l.take k).map bdig) ++ [x] = (l.take (k + 1)).map bdig) := by
          rintro x rfl; rw [HT.out]; simp
        clear wd
        by_cases h7 : bits .and .u32 d 7 = 7
        · have hb7 : (bits .and .u32 d 7 == 7) = true := by rw [h7]; rfl
          have hbe : bdig d = 4294967295 - d / 268435456 := by rw [bdig, if_pos h7]
          have HBE := Lib.hid hbe
          have HROW := Lib.hid (Row.new wr [4294967295 - d / 268435456] 37 (0, 0) #[.int .u32 (4294967295 - d / 268435456)] 1 rfl rfl (by simp [maxLen]) (by intro n hn; rw [List.mem_singleton.1 hn]; exact wf32 (by omega)))
          clear hbe h7
          go_wp2_with (at_builtin; refine app_row rfl (.tmp 26) (.tmp 28) 23 rfl w.heap.size 37 .u32 4 Try.underlying23 info32 _ k ((l.take k).map bdig) rfl (HO.out.alloc _) _ [4294967295 - d / 268435456] rfl HROW.out (by rw [hlk]; simp [maxLen]; omega) (by rw [hlk]; simp; omega) (by simp; omega) ?_; intro v' w' ho' hb')
          rw [HNXT.out _ HBE.out.symm] at ho'
          have HO' := Lib.hid ho'
          clear ho'
          go_roundg (8 - (k + 1))
          case measure => omega
          case rel => exact ⟨k + 1, by omega, by omega, Nat.le_refl _, by go_num, HO'.out, (hb.alloc hb.size _).trans hb'⟩
        · have hb7 : (bits .and .u32 d 7 == 7) = false := by rw [beq_eq_false_iff_ne]; exact h7
          have hbe : bdig d = d := by rw [bdig, if_neg h7]
          have HBE := Lib.hid hbe
          have HROW := Lib.hid (Row.new wr [d] 37 (0, 0) #[.int .u32 d] 1 rfl rfl (by simp [maxLen]) (by intro n hn; rw [List.mem_singleton.1 hn]; exact wf32 (by omega)))
          clear hbe h7
          go_wp2_with (at_builtin; refine app_row rfl (.tmp 26) (.tmp 28) 23 rfl w.heap.size 37 .u32 4 Try.underlying23 info32 _ k ((l.take k).map bdig) rfl (HO.out.alloc _) _ [d] rfl HROW.out (by rw [hlk]; simp [maxLen]; omega) (by rw [hlk]; simp; omega) (by simp; omega) ?_; intro v' w' ho' hb')
          rw [HNXT.out _ HBE.out.symm] at ho'
          have HO' := Lib.hid ho'
          clear ho'
          go_roundg (8 - (k + 1))
          case measure => omega
          case rel => exact ⟨k + 1, by omega, by omega, Nat.le_refl _, by go_num, HO'.out, (hb.alloc hb.size _).trans hb'⟩
      · have hd8 : decide ((k : Int) < 8) = false := by simp; omega
        obtain rfl : k = 8 := by omega
        have HR := Lib.hid (Row.ofOwn HO.out (fun n hn => wf32 (bnat_ds HD.out n hn)))
        go_wp2
        go_ret
        exact ⟨_, rfl, HR.out, hb⟩
    · have hdl : decide ((k : Int) < (l.length : Int)) = false := by simp; omega
      have hdl2 : decide (k < l.length) = false := by simp; omega
      have HE := Lib.hid (show (l.take k).map bdig = bnat l by
        rw [bnat, List.take_of_length_le (by omega), List.take_of_length_le (show l.length ≤ 8 by omega)])
      have HR := Lib.hid (Row.ofOwn HO.out (fun n hn => wf32 (bnat_ds HD.out n (by rw [← HE.out]; exact hn))))
      rw [HE.out] at HR
      go_wp2
      go_ret
      exact ⟨_, rfl, HR.out, hb⟩
end Go.Proofs.Ytpplleoiehnlkaa.Nt
