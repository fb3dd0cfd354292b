/-
  Hierarchy: CQs built from numbers.
-/
import Derived.Test.YtfidddcjieoblaaH7
namespace Go.Proofs.Ytfidddcjieoblaa.Gx
open Go Go.RowKit Tw B Nt
set_option linter.unusedVariables false
set_option linter.unusedSimpArgs false
set_option maxHeartbeats 4000000
set_option maxRecDepth 20000
@[go_sem] def hieS : Spec := ⟨[cqT], fun d => (.dat .bool (!(viR d.1 (vio d.1)).2), [cqP d.1])⟩
@[go_sem] noncomputable def EH14 : Env := (EH13).add 11 cmpS
theorem EH14_ok : EH14.Ok := (EH13_ok).add cmp_ok
theorem hie_ok : SpecOk Try.prog 9 hieS := by
  refine fn_ok EH14_ok hieS Try.func9 rfl (by decide) (N := 12) rfl (res := [.tmp 2]) rfl (by decide) [] [] [] 100 (by kernel_rfl) ?_
  rintro ⟨c, _⟩ hw hp
  refine ⟨rfl, fun H hH => ?_⟩
  dsimp only [go_sem] at hw hp ⊢
  obtain ⟨hp, -⟩ := hp
  refine ⟨hp, ?_⟩
  and_intros <;> first | trivial | rfl
def nm8 : List Str := [[65], [66], [67], [68], [69], [70], [65], [66]]
def vn8 : List Str := [[120], [121], [122], [119], [120], [121], [], []]
def vn4 : List Str := [[120], [121], [122], [119]]
/-- the k-th digit of three bits of a term -/
def dg3 (x : Int) (k : Nat) : Int := x / 2 ^ (8 + 3 * k) % 8
def bTerm (x : Int) (k : Nat) : Term := (vn8.getD (dg3 x k).toNat [], if 6 ≤ dg3 x k then (1, dg3 x k, []) else (0, 0, []))
def nTerm (x : Int) : Nat := 1 + (x / 64 % 4).toNat
def bAtom (x : Int) : Atom := (nm8.getD (x % 8).toNat [], decide (x / 8 % 8 = 7), (List.range (nTerm x)).map (bTerm x))
def bCmp (x : Int) : Cmp := (3, (vn4.getD (x % 4).toNat [], 0, 0, []), (vn4.getD (x / 4 % 4).toNat [], 0, 0, []))
def bld (l : List Int) : Cq := ((l.take 7).map bAtom, if 7 < l.length then [bCmp (l.getD 7 0)] else [])
theorem bld_P (l : List Int) : cqP (bld l) := by
  refine ⟨?_, ?_, ?_⟩
  · show ((l.take 7).map bAtom).length ≤ 1000
    rw [List.length_map, List.length_take]; omega
  · intro a ha
    obtain ⟨x, hx, rfl⟩ := List.mem_map.1 ha
    show ((List.range (nTerm x)).map (bTerm x)).length ≤ 1000
    rw [List.length_map, List.length_range]
    unfold nTerm
    omega
  · show (if 7 < l.length then [bCmp (l.getD 7 0)] else []).length ≤ 1000
    split
    · exact Nat.le_of_ble_eq_true rfl
    · exact Nat.zero_le _
@[go_sem] def buiS : Spec := ⟨[.slice (.int .i64)], fun d => (.dat cqT (bld d.1), [])⟩
@[go_sem] noncomputable def EH15 : Env := (EH14).add 9 hieS
theorem EH15_ok : EH15.Ok := (EH14_ok).add hie_ok
theorem bui_ok : SpecOk Try.prog 7 buiS := by
  refine fn_ok EH15_ok buiS Try.func7 rfl (by decide) (N := 106) rfl (res := [.cell 2 26]) rfl (by decide) [(1, [(9, .ag)]), (5, [(20, .dt), (35, .ag)]), (10, [(57, .dt)]), (13, [(70, .dt)]), (14, [(76, .dt)]), (16, [(84, .dt), (92, .dt), (102, .dt)])] [(14, [4])] [] 100 (by kernel_rfl) ?_
  rintro ⟨l, _⟩ hw hp
  refine ⟨rfl, fun H hH => ?_⟩
  dsimp only [go_sem] at hw hp ⊢
  obtain ⟨⟨hl1, hl2⟩, -⟩ := hw
  change List Int at l
  refine hH.loop (fun i : Nat => ⟨[(4, .dat (.int .i64) (i : Int)), (3, .ref 1 0), (2, .ref 0 0), (0, .dat (.slice (.int .i64)) l)], [(0, .box 26 (zA cqT .nil)), (1, .box 26 (.cons (.own 2) (.cons (.val (.slice none 0 0)) .nil))), (2, .row 41 atomT ((l.take i).map bAtom))], 3⟩) (fun i => i ≤ l.length ∧ i ≤ 7) (fun i => l.length - i) 0 2 ⟨Nat.zero_le _, Nat.zero_le _⟩ ?_ ?_
  · dsimp only [go_sem]
    and_intros <;> first | trivial | rfl | omega
  · rintro i ⟨hi, hi7⟩ R hm
    refine hH.run 100 _ _ ?_
    dsimp only [go_sem]
    simp only [Int.toNat_natCast]
    have a7 : ∀ x : Int, bitsI .and .i64 x 7 = x % 8 := fun x => andMask x 3 (by omega)
    have a3 : ∀ x : Int, bitsI .and .i64 x 3 = x % 4 := fun x => andMask x 2 (by omega)
    have s3 : ∀ x : Int, shrI .i64 x 3 = x / 8 := fun x => Int.fdiv_eq_ediv_of_nonneg x (by decide)
    have s6 : ∀ x : Int, shrI .i64 x 6 = x / 64 := fun x => Int.fdiv_eq_ediv_of_nonneg x (by decide)
    have hz0 : zd (.int .i64) = (0 : Int) := rfl
    have hzs : zd .str = ([] : Str) := rfl
    simp only [a7, a3, s3, hz0, hzs]
    refine ⟨fun h => h, fun h => h, fun h => ?_, fun h => ?_⟩
    · simp only [Bool.and_eq_true, decide_eq_true_eq] at h
      have d : i < l.length := by omega
      have d7 : i < 7 := by omega
      have hb : (0 : Int) ≤ (i : Int) ∧ (i : Int) < (l.length : Int) := by omega
      have hs := take_snoc (0 : Int) d
      have hin : inR .i64 (l.getD i 0) := hl2 _ (getDm 0 d)
      generalize hx : l.getD i 0 = x at hs hin ⊢
      have h8 : (0 : Int) ≤ x % 8 ∧ x % 8 < (8 : Int) := by omega
      refine ⟨hb, h8, hb, by decide, ?_⟩
      have hsn : ∀ k, (List.range (k + 1)).map (bTerm x) = (List.range k).map (bTerm x) ++ [bTerm x k] := fun k => by rw [List.range_succ, List.map_append]; rfl
      refine HOk.loop (by assumption) (fun k : Nat => ⟨[(6, .dat (.int .i64) (k : Int)), (5, .ref 3 0), (4, .dat (.int .i64) (i : Int)), (3, .ref 1 0), (2, .ref 0 0), (0, .dat (.slice (.int .i64)) l)], [(3, .box 41 (.cons (.dat .str (nm8.getD (x % 8).toNat [])) (.cons (.dat .bool (decide (x / 8 % 8 = 7))) (.cons (.own 4) .nil)))), (4, .row 45 termT ((List.range k).map (bTerm x))), (0, .box 26 (zA cqT .nil)), (1, .box 26 (.cons (.own 2) (.cons (.val (.slice none 0 0)) .nil))), (2, .row 41 atomT ((l.take i).map bAtom))], 5⟩) (fun k => k ≤ nTerm x) (fun k => nTerm x - k) 0 4 (Nat.zero_le _) ?_ ?_
      · dsimp only [go_sem]
        and_intros <;> first | trivial | rfl | omega
      · intro k hk R2 hm2
        refine hH.run 100 _ _ ?_
        dsimp only [go_sem]
        simp only [Int.toNat_natCast, a7, a3, s6, hz0, hzs, hx]
        have hnT : ((nTerm x : Nat) : Int) = 1 + x / 64 % 4 := by unfold nTerm; omega
        have hk4 : k ≤ 4 := by unfold nTerm at hk; omega
        have i1 : inR .i64 (1 + x / 64 % 4) := by rw [inR_i64]; omega
        have i2 : inR .i64 (3 * (k : Int)) := by rw [inR_i64]; omega
        have i3 : inR .i64 (8 + 3 * (k : Int)) := by rw [inR_i64]; omega
        have i4 : inR .u64 (8 + 3 * (k : Int)) := by simp only [inR, lo, Gx.hi]; omega
        have i5 : (0 : Int) ≤ 8 + 3 * (k : Int) := by omega
        have i6 : inR .i64 ((k : Int) + 1) := by rw [inR_i64]; omega
        have i7 : inR .i64 ((i : Int) + 1) := by rw [inR_i64]; omega
        have hdg : shrI .i64 x (8 + 3 * (k : Int)) % 8 = dg3 x k := by
          unfold dg3 shrI
          have e : (8 + 3 * (k : Int)).toNat = 8 + 3 * k := by omega
          rw [e, Nat.min_eq_left (by show 8 + 3 * k ≤ 64; omega), Int.fdiv_eq_ediv_of_nonneg _ (Int.pow_nonneg (by decide))]
        have hd8 : (0 : Int) ≤ dg3 x k ∧ dg3 x k < (8 : Int) := by unfold dg3; omega
        have hl : ∀ t : Term, (((List.range k).map (bTerm x)).length + ([t] : List Term).length) * 48 ≤ 140737488355328 := fun t => by rw [List.length_map, List.length_range, List.length_singleton]; omega
        have hbt : bTerm x k = (vn8.getD (dg3 x k).toNat [], if 6 ≤ dg3 x k then (1, dg3 x k, []) else (0, 0, [])) := rfl
        rw [hdg]
        refine ⟨hb, by decide, i1, fun e => ?_, fun e => ?_⟩ <;> simp only [decide_eq_true_eq, decide_eq_false_iff_not] at e
        · have dk : k < nTerm x := by omega
          refine ⟨hb, i2, i3, i4, i5, hd8, fun e6 => ?_, fun e6 => ?_⟩ <;> simp only [decide_eq_true_eq, decide_eq_false_iff_not] at e6
          · rw [if_pos e6] at hbt
            refine ⟨hl _, trivial, i6, hm2 _ (k + 1) 5 dk (by omega) ?_⟩
            dsimp only [go_sem]
            rw [hsn, hbt]
            and_intros <;> first | trivial | rfl | omega
          · rw [if_neg e6] at hbt
            refine ⟨hl _, trivial, i6, hm2 _ (k + 1) 5 dk (by omega) ?_⟩
            dsimp only [go_sem]
            rw [hsn, hbt]
            and_intros <;> first | trivial | rfl | omega
        · have dk : k = nTerm x := by omega
          have hba : bAtom x = (nm8.getD (x % 8).toNat [], decide (x / 8 % 8 = 7), (List.range k).map (bTerm x)) := by rw [dk]; rfl
          have hl2 : ∀ t : Atom, (((l.take i).map bAtom).length + ([t] : List Atom).length) * 48 ≤ 140737488355328 := fun t => by rw [List.length_map, List.length_take, List.length_singleton]; omega
          have hss : (l.take (i + 1)).map bAtom = (l.take i).map bAtom ++ [bAtom x] := by rw [hs, List.map_append]; rfl
          refine ⟨hl2 _, trivial, i7, hm _ (i + 1) 3 ⟨d, d7⟩ (by omega) ?_⟩
          dsimp only [go_sem]
          rw [hss, hba]
          and_intros <;> first | trivial | rfl | omega
    · simp only [Bool.and_eq_false_iff, decide_eq_false_iff_not] at h
      have hit : l.take i = l.take 7 := by
        rcases Nat.lt_or_ge i 7 with h7 | h7
        · rw [List.take_of_length_le (by omega), List.take_of_length_le (by omega)]
        · rw [show i = 7 by omega]
      rw [hit]
      have hb7 : 7 < l.length → (0 : Int) ≤ 7 ∧ (7 : Int) < (l.length : Int) := fun h => by omega
      have s2 : ∀ x : Int, shrI .i64 x 2 = x / 4 := fun x => Int.fdiv_eq_ediv_of_nonneg x (by decide)
      have h7 : Int.toNat 7 = 7 := rfl
      simp only [s2, h7]
      generalize hx : l.getD 7 0 = x
      have h4 : (0 : Int) ≤ x % 4 ∧ x % 4 < (4 : Int) := by omega
      have h4' : (0 : Int) ≤ x / 4 % 4 ∧ x / 4 % 4 < (4 : Int) := by omega
      refine ⟨fun e => ?_, fun e => ?_⟩ <;> simp only [decide_eq_true_eq, decide_eq_false_iff_not] at e
      · have e7 : 7 < l.length := by omega
        refine ⟨hb7 e7, h4, hb7 e7, by decide, h4', by show 1 * 104 ≤ 140737488355328; decide, ?_, trivial⟩
        unfold bld
        rw [if_pos e7, hx]
        rfl
      · have e7 : ¬ 7 < l.length := by omega
        refine ⟨?_, trivial⟩
        unfold bld
        rw [if_neg e7]
end Go.Proofs.Ytfidddcjieoblaa.Gx
