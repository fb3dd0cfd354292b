/-
  RelationChecks.
-/
import Derived.Test.YtnbeehcdnbanfaaGreatRH
namespace Go.Proofs.YtnbeehcdnbanfaaGreat.Gx
open Go Go.RowKit Tw B Nt
set_option linter.unusedVariables false
set_option linter.unusedSimpArgs false
set_option maxHeartbeats 4000000
set_option maxRecDepth 20000
theorem ch_p0 : relP (([], false, []), []) := by unfold relP; decide +kernel
theorem ch_v0 : vldR (([], false, []), []) = 1 := by decide +kernel
@[go_sem] def lChS : Spec := ⟨[.slice (.int .i64), .int .u8, .bool], fun d => (.dat .bool true, [])⟩
theorem lCh_ok : SpecOk Tryz.prog 3 lChS := by
 refine fn_ok ERK_ok lChS Tryz.func3 rfl (by decide) (N := 108) rfl (res := [.tmp 6]) rfl (by decide) [(3, [(17, .dt), (1000000, .mx [(2000000, 8)])]), (15, [(87, .dt), (93, .fz 4), (1000000, .mx [(4, 3), (5, 3), (6, 3), (7, 3)])])] [] [] 100 (by kernel_rfl) ?_
 rintro ⟨(l:List Int), (kind:Int), srt, _⟩ hw hp
 refine ⟨rfl, fun H hH => ?_⟩
 dsimp only [go_sem] at hw hp ⊢
 change List Int at l
 obtain ⟨⟨hll, hli⟩, hki, -⟩ := hw
 refine ⟨fun _ => ⟨rfl, trivial⟩, fun h => ?_⟩
 have hlen : l.length ≤ 20 := by
  have h : ¬ (20 : Int) < (l.length : Int) := of_decide_eq_false h
  omega
 have hk0 : inR .u8 kind := hki
 have hk3 : 0 ≤ kind.tmod 3 ∧ kind.tmod 3 < 3 := by
  have h1 : 0 ≤ kind := hk0.1
  rw [Int.tmod_eq_emod_of_nonneg h1]
  omega
 have hkc : kind.tmod 3 = 0 ∨ kind.tmod 3 = 1 ∨ kind.tmod 3 = 2 := by omega
 obtain ⟨s, hs⟩ : ∃ s : Sch, schs.getD (([0, 2, 3] : List Int).getD (kind.tmod 3).toNat (zd (.int .i64))).toNat (zd schT) = s := ⟨_, rfl⟩
 have hcl : s.2.2.length ≤ 1000 := by
  rw [← hs]
  rcases hkc with e | e | e <;> rw [e] <;> decide
 refine ⟨by decide, by rcases hkc with e | e | e <;> rw [e] <;> decide, by rcases hkc with e | e | e <;> rw [e] <;> decide, by rcases hkc with e | e | e <;> rw [e] <;> decide, ?_⟩
 simp only [hs]
 refine hH.loop (fun x : Nat × List Tup => ⟨[(9, .dat (.int .i64) (x.1 : Int)), (8, .ref 1 0), (7, .ref 0 0), (2, .dat .bool srt), (0, .dat (.slice (.int .i64)) l)], [(0, .box 25 (.cons (.dat .str s.1) (.cons (.dat .bool s.2.1) (.cons (.dat (.slice colT) s.2.2) .nil)))), (1, .box 30 (.cons (.dat .str s.1) (.cons (.dat .bool s.2.1) (.cons (.dat (.slice colT) s.2.2) (.cons (.dat (.slice tupT) x.2) .nil)))))], 2⟩) (fun x => x.1 ≤ l.length ∧ x.2.length ≤ x.1 ∧ ∀ t ∈ x.2, t.1.length ≤ 2 ∧ fs t.2 ≤ 64) (fun x => l.length - x.1) (0, []) 2 ⟨Nat.zero_le _, Nat.zero_le _, fun t ht => by cases ht⟩ ?_ ?_
 ·dsimp only [go_sem]
  and_intros <;> first | trivial | rfl | omega
 ·rintro ⟨i, L⟩ ⟨hi, hL, hLt⟩ R hm
  dsimp only at hi hL hLt hm
  refine hH.run 100 _ _ ?_
  dsimp only [go_sem]
  simp only [Int.toNat_natCast]
  have hzz : l.getD i (zd (.int .i64)) = l.getD i 0 := rfl
  simp only [hzz]
  have hx := tup9_le (l.getD i 0)
  generalize tup9 (l.getD i 0) = T at hx ⊢
  have hz : decide (ckT s T ≠ ckT s T) = false := decide_eq_false fun h => h rfl
  simp only [hz, imp_self, true_and, forall_const, Bool.false_or, decide_true, Bool.not_true]
  have hrp : relP (s, L) := ⟨hcl, (show L.length ≤ 400 by omega), fun t ht => by have := hLt t ht; omega⟩
  refine ⟨fun d => ?_, fun d => ⟨hrp, hrp, ch_p0, ?_, trivial⟩⟩
  ·have d : i < l.length := by have d : (i : Int) < (l.length : Int) := of_decide_eq_true d; omega
   have hb : (0 : Int) ≤ (i : Int) ∧ (i : Int) < (l.length : Int) := by omega
   refine ⟨hb, by omega, by omega, hcl, hcl, fun h => Bool.noConfusion h, ?_⟩
   refine hH.loop (fun q : Nat => ⟨[(11, .dat (.int .i64) (q : Int)), (10, .ref 2 0), (9, .dat (.int .i64) (i : Int)), (8, .ref 1 0), (7, .ref 0 0), (2, .dat .bool srt), (0, .dat (.slice (.int .i64)) l)], [(2, .box 37 (.cons (.dat (.slice valT) T.1) (.cons (.dat .bool T.2.1) (.cons (.dat (.slice (.int .u32)) T.2.2.1) (.cons (.dat (.slice (.int .u32)) T.2.2.2) .nil))))), (0, .box 25 (.cons (.dat .str s.1) (.cons (.dat .bool s.2.1) (.cons (.dat (.slice colT) s.2.2) .nil)))), (1, .box 30 (.cons (.dat .str s.1) (.cons (.dat .bool s.2.1) (.cons (.dat (.slice colT) s.2.2) (.cons (.dat (.slice tupT) L) .nil)))))], 3⟩) (fun q => q ≤ L.length) (fun q => q) L.length 3 (Nat.le_refl _) ?_ ?_
   ·dsimp only [go_sem]
    and_intros <;> first | trivial | rfl | omega
   ·rintro q hq R2 hm2
    refine hH.run 100 _ _ ?_
    dsimp only [go_sem]
    have hq0 : (srt && decide ((0 : Int) < (q : Int))) = true → 0 < q := fun h => by
     have h := (Bool.and_eq_true _ _ ▸ h).2
     have : (0 : Int) < (q : Int) := of_decide_eq_true h
     omega
    have hLg : (srt && decide ((0 : Int) < (q : Int))) = true → (L.getD ((q : Int) - 1).toNat (zd tupT)).1.length ≤ 2 := fun h => by
     have := hq0 h
     exact (hLt _ (getDm _ (show ((q : Int) - 1).toNat < L.length by omega))).1
    simp only [imp_self, true_and]
    refine ⟨fun h => by have := hq0 h; rw [inR_i64]; omega, fun h => (show (0 : Int) ≤ (q : Int) - 1 ∧ (q : Int) - 1 < (L.length : Int) by have := hq0 h; omega), fun h => ⟨?_, ?_⟩, fun h => ?_, fun h => ?_⟩
    ·have := hLg h
     exact Nat.le_trans this (by decide)
    ·omega
    ·rw [Bool.and_eq_true] at h
     have h0 := hq0 h.1
     have e1 : (q : Int) - 1 = ((q - 1 : Nat) : Int) := by omega
     refine ⟨by rw [inR_i64]; omega, hm2 _ (q - 1) 3 (show q - 1 ≤ L.length by omega) (show q - 1 < q by omega) ?_⟩
     dsimp only [go_sem]
     and_intros <;> first | trivial | rfl | exact e1 | omega
    ·have hl1 : ((L.take q ++ [T]) ++ L.drop q).length = L.length + 1 := by
       rw [List.length_append, List.length_append, List.length_take, List.length_drop]
       show min q L.length + 1 + (L.length - q) = L.length + 1
       omega
     have hbd : (0 : Int) ≤ (q : Int) ∧ (q : Int) ≤ (L.length : Int) := by omega
     refine ⟨hbd, ?_, ?_, hbd, ?_, by rw [inR_i64]; omega, hm _ (i + 1, (L.take q ++ [T]) ++ L.drop q) 2 ⟨d, (show _ ≤ i + 1 by rw [hl1]; omega), fun t ht => ?_⟩ (show l.length - (i + 1) < l.length - i by omega) ?_⟩
     ·show (0 + (L.take q).length) * 80 ≤ _
      rw [List.length_take]
      omega
     ·show ((L.take q).length + 1) * 80 ≤ _
      rw [List.length_take]
      omega
     ·show ((L.take q ++ [T]).length + (L.drop q).length) * 80 ≤ _
      rw [← List.length_append, hl1]
      omega
     ·rcases List.mem_append.1 ht with ht | ht
      ·rcases List.mem_append.1 ht with ht | ht
       ·exact hLt t (List.mem_of_mem_take ht)
       ·rw [List.mem_singleton] at ht
        rw [ht]; exact hx
      ·exact hLt t (List.mem_of_mem_drop ht)
     ·dsimp only [go_sem]
      and_intros <;> first | trivial | rfl | omega
  ·rw [ch_v0]; rfl
end Go.Proofs.YtnbeehcdnbanfaaGreat.Gx
