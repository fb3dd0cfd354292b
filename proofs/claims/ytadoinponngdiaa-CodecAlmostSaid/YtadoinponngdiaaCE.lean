/-
  The law CodecAlmost.
-/
import Derived.Test.YtadoinponngdiaaCD
import Derived.Test.YtadoinponngdiaaCA
namespace Go.Proofs.Ytadoinponngdiaa.Gx
open Go Go.RowKit Tw B Nt
set_option linter.unusedVariables false
set_option linter.unusedSimpArgs false
set_option maxHeartbeats 4000000
set_option maxRecDepth 20000
@[go_sem] def lAlS : Spec := ⟨[.int .u64, nT, .bool, nT, .int .i64, .int .u8, .slice opT], fun d => (.dat .bool true, [])⟩
theorem lAl_ok : SpecOk Try.prog 5 lAlS := by
  refine fn_ok ECG_ok lAlS Try.func5 rfl (by decide) (N := 100) rfl (res := [.tmp 14]) rfl (by decide) [(3, [(33, .ow), (41, .ow)]), (4, [(46, .wr)]), (5, [(58, .ow)]), (6, [(68, .ow), (75, .ow), (82, .ow), (71, .tr false), (78, .tr false)]), (11, [(97, .ow)])] [(5, [0])] [] 100 (by kernel_rfl) ?_
  rintro ⟨(n:Int), x, neg, y, (pos:Int), (by':Int), l, _⟩ hw hp
  refine ⟨rfl, fun H hH => ?_⟩
  dsimp only [go_sem] at hw hp ⊢
  have hx := bnat_len x
  have hy := bnat_len y
  obtain ⟨hn, ⟨-, hxr⟩, -, ⟨-, hyr⟩, -, hby, -⟩ := hw
  rw [u64R] at hn
  have dx : Ds (bnat x) := bnat_ds fun d hd => inR_u32.1 (hxr d hd)
  have dy : Ds (bnat y) := bnat_ds fun d hd => inR_u32.1 (hyr d hd)
  have hfs : fs (neg, bnat x, bnat y) ≤ 8 := by
    show max (bnat x).length (bnat y).length ≤ 8
    omega
  refine ⟨fun h => h, fun h => h, fun h => h, fun h => h, fun h => h, fun h => h, fun _ => ⟨rfl, trivial⟩, fun h => ?_⟩
  simp only [Bool.or_eq_false_iff, decide_eq_false_iff_not] at h
  have hl : List.length l ≤ 6 := by omega
  obtain ⟨c1, c2⟩ := qfq_small (f := (neg, bnat x, bnat y)) ⟨dx, dy⟩ hfs
  have k1 : Ds (qf (fq (neg, bnat x, bnat y))).2.1 := dg_ds _
  have k2 : Ds (qf (fq (neg, bnat x, bnat y))).2.2 := dg_ds _
  generalize qf (fq (neg, bnat x, bnat y)) = c at *
  obtain ⟨k, rfl⟩ : ∃ k : Nat, n = (k : Int) := ⟨n.toNat, by omega⟩
  rw [Int.toNat_natCast]
  have l1 := eU_len10 k (by omega)
  have l2 := eB_len (b := [98, 121, 116, 101, 115]) (by decide)
  have l2' : ([98, 121, 116, 101, 115] : List Int).length = 5 := rfl
  have l4 := eF_len k1 k2 (by omega) (by omega)
  have hl1 : ((eU k).length + (eFc c).length) * 1 ≤ 140737488355328 := by omega
  have hl2 : ((eU k ++ eFc c).length + (eB [98, 121, 116, 101, 115]).length) * 1 ≤ 140737488355328 := by
    simp only [List.length_append]; omega
  have hwl : (eU k ++ eFc c ++ eB [98, 121, 116, 101, 115]).length ≤ 1000 := by
    simp only [List.length_append]; omega
  have hwp : 0 < (eU k ++ eFc c ++ eB [98, 121, 116, 101, 115]).length := by
    have : 0 < (eU k).length := List.length_pos_iff.2 (eU_ne k)
    simp only [List.length_append]; omega
  have hwby : By (eU k ++ eFc c ++ eB [98, 121, 116, 101, 115]) := ((eU_By k).app (eFc_By c)).app (eB_By (by unfold By; decide))
  generalize eU k ++ eFc c ++ eB [98, 121, 116, 101, 115] = w at *
  have hwr : inR .u64 (IntKind.u64.wrap pos) := inR_wrap _ _
  rw [u64R] at hwr
  have ht0 : 0 ≤ (IntKind.u64.wrap pos).tmod (w.length : Int) := Int.tmod_nonneg _ hwr.1
  have ht1 : (IntKind.u64.wrap pos).tmod (w.length : Int) < (w.length : Int) := Int.tmod_lt_of_pos _ (by omega)
  generalize (IntKind.u64.wrap pos).tmod (w.length : Int) = t at *
  obtain ⟨j, rfl⟩ : ∃ j : Nat, t = (j : Int) := ⟨t.toNat, by omega⟩
  rw [Int.toNat_natCast]
  have hz8 : (zd (Ty.int IntKind.u8)) = (0 : Int) := rfl
  rw [hz8]
  have hxb : inR .u8 (bitsI .xor .u8 (w.getD j 0) by') := inR_wrap _ _
  generalize bitsI .xor .u8 (w.getD j 0) by' = q at *
  have hW : By (w.set j q) := fun z hz => by
    rcases List.mem_or_eq_of_mem_set hz with h' | rfl
    · exact hwby z h'
    · exact hxb
  have hWl : (w.set j q).length ≤ 1000 := by rw [List.length_set]; exact hwl
  generalize w.set j q = W at *
  have s1 := stp_f (s := (W, 0)) ((0 : Int), (18446744073709551615 : Int), (0 : Int)) hW
  generalize stp (W, 0) ((0 : Int), (18446744073709551615 : Int), (0 : Int)) = S1 at *
  have s2 := stp_f (s := S1) ((3 : Int), (0 : Int), (0 : Int)) s1.1
  generalize stp S1 ((3 : Int), (0 : Int), (0 : Int)) = S2 at *
  have s3 := stp_f (s := S2) ((1 : Int), (0 : Int), (5 : Int)) s2.1
  generalize stp S2 ((1 : Int), (0 : Int), (5 : Int)) = S3 at *
  have hbr : (0 : Int) ≤ (j : Int) ∧ (j : Int) < (w.length : Int) := ⟨ht0, ht1⟩
  dsimp only at s1
  refine ⟨by omega, hl1, rfl, by decide, by decide, hl2, rfl, by rw [u64R]; omega, by omega, by rw [u64R]; omega, by rw [inR_i64]; omega, hbr, by omega, hbr, by omega, by omega, ⟨_, rfl⟩, by omega, rfl, rfl, by omega, rfl, rfl, by omega, rfl, fun h => absurd h (by decide), fun _ => ?_⟩
  refine hH.loop (fun x : Nat × Rd => ⟨[(6, .dat (.slice opT) l), (16, .ref 2 0), (17, .ref 3 0), (18, .dat (.int .i64) (x.1 : Int))], [(2, .box 66 (dA rdT x.2 .nil)), (3, .box 42 (dA rdT x.2 .nil))], 4⟩) (fun x => x.1 ≤ List.length l ∧ By x.2.1 ∧ x.2.1.length ≤ 1000) (fun x => List.length l - x.1) (0, S3) 4 ⟨Nat.zero_le _, s3.1, by show S3.1.length ≤ 1000; omega⟩ ?_ ?_
  · dsimp only [go_sem]
    simp
  · rintro ⟨i, s⟩ ⟨hi, hs, hsl⟩ R hm
    have hi : i ≤ List.length l := hi
    have hs : By s.1 := hs
    have hsl : s.1.length ≤ 1000 := hsl
    refine hH.run 100 _ _ ?_
    dsimp only [go_sem]
    refine ⟨fun d => ?_, fun d => ⟨rfl, trivial⟩⟩
    simp only [decide_eq_true_eq] at d
    have hst := stp_f (List.getD l (i : Int).toNat (zd ((Ty.int IntKind.u8).pair ((Ty.int IntKind.u64).pair (Ty.int IntKind.i64))))) hs
    have b1 : (0 : Int) ≤ (i : Int) ∧ (i : Int) < (List.length l : Int) := by omega
    refine ⟨b1, by omega, rfl, fun h => absurd h (by decide), fun _ => ⟨by rw [inR_i64]; omega, hm _ (i + 1, stp s (List.getD l (i : Int).toNat (zd ((Ty.int IntKind.u8).pair ((Ty.int IntKind.u64).pair (Ty.int IntKind.i64)))))) 4 ⟨by show i + 1 ≤ _; omega, hst.1, by show (stp s (List.getD l (i : Int).toNat (zd ((Ty.int IntKind.u8).pair ((Ty.int IntKind.u64).pair (Ty.int IntKind.i64)))))).1.length ≤ 1000; omega⟩ (by show List.length l - (i + 1) < List.length l - i; omega) ?_⟩⟩
    dsimp only [go_sem]
    simp
end Go.Proofs.Ytadoinponngdiaa.Gx
