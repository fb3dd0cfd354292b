/-
  The laws CodecReads and CodecAlmost.
-/
import Derived.Test.YtadoinponngdiaaC9
import Derived.Test.YtadoinponngdiaaSh
namespace Go.Proofs.Ytadoinponngdiaa.Gx
open Go Go.RowKit Tw B Nt
set_option linter.unusedVariables false
set_option linter.unusedSimpArgs false
set_option maxHeartbeats 4000000
set_option maxRecDepth 20000
theorem rU_f {s : Rd} (mx : Int) (h : By s.1) : By (rU s mx).2.1 ∧ (rU s mx).2.1.length ≤ s.1.length := ⟨rU_by h, rU_len⟩
theorem stp_f {s : Rd} (o : Int × Int × Int) (h : By s.1) : By (stp s o).1 ∧ (stp s o).1.length ≤ s.1.length := by
  unfold stp
  split
  · exact rU_f _ h
  · split
    · obtain ⟨-, h1, -, -, h2⟩ := rB_f (s := s) (mx := o.2.2) h
      exact ⟨h1, h2⟩
    · split
      · obtain ⟨-, h1, -, h2⟩ := rN_f (s := s) h
        exact ⟨h1, h2⟩
      · split
        · obtain ⟨-, -, h1, h2⟩ := rF_f (s := s) h
          exact ⟨h1, h2⟩
        · obtain ⟨-, h1, -, -, h2, -⟩ := rRaw_f (s := s) (n := max o.2.2 0) h (by omega)
          exact ⟨h1, h2⟩
theorem opSh : Sh Try.prog (.slice opT) (.inl 36) :=
  .slice Try.underlying36 (by kernel_rfl) (.pair Try.underlying47 (by kernel_rfl) (.more rfl (by kernel_rfl) (.int Try.underlying5) (.more rfl (by kernel_rfl) (.int Try.underlying22) (.last rfl (by kernel_rfl) (.int Try.underlying3)))))
@[go_sem] def lReS : Spec := ⟨[bT, .slice opT], fun d => (.dat .bool true, [])⟩
theorem lRe_ok : SpecOk Try.prog 4 lReS := by
  refine fn_ok ECG_ok lReS Try.func4 rfl (by decide) (N := 50) rfl (res := [.tmp 4]) rfl (by decide) [(3, [(17, .ow)]), (4, [(25, .ow), (32, .ow), (30, .tr false)]), (9, [(47, .ow)])] [] [] 100 (by kernel_rfl) ?_
  rintro ⟨b, l, _⟩ hw hp
  refine ⟨rfl, fun H hH => ?_⟩
  dsimp only [go_sem] at hw hp ⊢
  obtain ⟨⟨-, hby⟩, -⟩ := hw
  change By b at hby
  refine ⟨fun h => h, fun h => h, fun h => h, fun _ => ⟨rfl, trivial⟩, fun h => ?_⟩
  simp only [Bool.or_eq_false_iff, decide_eq_false_iff_not] at h
  have hb : List.length b ≤ 200 := by omega
  have hl : List.length l ≤ 20 := by omega
  refine ⟨by omega, ⟨_, rfl⟩, by simp, fun h => absurd h (by decide), fun _ => ?_⟩
  refine hH.loop (fun x : Nat × Rd => ⟨[(1, .dat (.slice opT) l), (5, .ref 0 0), (6, .ref 1 0), (7, .dat (.int .i64) (x.1 : Int))], [(0, .box 66 (dA rdT x.2 .nil)), (1, .box 42 (dA rdT x.2 .nil))], 2⟩) (fun x => x.1 ≤ List.length l ∧ By x.2.1 ∧ x.2.1.length ≤ 200) (fun x => List.length l - x.1) (0, (b, 0)) 2 ⟨Nat.zero_le _, hby, hb⟩ ?_ ?_
  · dsimp only [go_sem]
    simp
  · rintro ⟨i, s⟩ ⟨hi, hs, hsl⟩ R hm
    have hi : i ≤ List.length l := hi
    have hs : By s.1 := hs
    have hsl : s.1.length ≤ 200 := hsl
    refine hH.run 100 _ _ ?_
    dsimp only [go_sem]
    refine ⟨fun d => ?_, fun d => ⟨rfl, trivial⟩⟩
    simp only [decide_eq_true_eq] at d
    have hst := stp_f (List.getD l (i : Int).toNat (zd ((Ty.int IntKind.u8).pair ((Ty.int IntKind.u64).pair (Ty.int IntKind.i64))))) hs
    have b1 : (0 : Int) ≤ (i : Int) ∧ (i : Int) < (List.length l : Int) := by omega
    refine ⟨b1, by omega, rfl, fun h => absurd h (by decide), fun _ => ⟨by rw [inR_i64]; omega, hm _ (i + 1, stp s (List.getD l (i : Int).toNat (zd ((Ty.int IntKind.u8).pair ((Ty.int IntKind.u64).pair (Ty.int IntKind.i64)))))) 2 ⟨by show i + 1 ≤ _; omega, hst.1, by show (stp s (List.getD l (i : Int).toNat (zd ((Ty.int IntKind.u8).pair ((Ty.int IntKind.u64).pair (Ty.int IntKind.i64)))))).1.length ≤ 200; omega⟩ (by show List.length l - (i + 1) < List.length l - i; omega) ?_⟩⟩
    dsimp only [go_sem]
    simp
end Go.Proofs.Ytadoinponngdiaa.Gx
