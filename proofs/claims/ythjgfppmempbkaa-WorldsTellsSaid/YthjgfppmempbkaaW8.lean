/-
  The law WorldsTotal.
-/
import Derived.Test.YthjgfppmempbkaaW7
namespace Go.Proofs.Ythjgfppmempbkaa.Gx
open Go Go.RowKit Tw B Nt
set_option linter.unusedVariables false
set_option linter.unusedSimpArgs false
set_option maxHeartbeats 4000000
set_option maxRecDepth 20000
theorem wfD_qf {q : Rat} (h : qs q ≤ 1000) : wfD fT (qf q) := by
  have l1 := len_num q
  have l2 := len_den q
  exact ⟨trivial, ⟨Nat.le_trans l1 (by omega), fun d hd => inR_u32.2 (ds_num q d hd)⟩, Nat.le_trans l2 (by omega), fun d hd => inR_u32.2 (ds_den q d hd)⟩
theorem chq_sz {b : Blk} (hd : ∀ f ∈ b, wfD fT f) (hl : b.length ≤ 2) (hs : ∀ f ∈ b, fs f ≤ 1) (c : Int) : qs (chq b c) ≤ 12 := by
  have hq : ∀ f ∈ b, qs (fq f) ≤ 2 := fun f hf => by
    have h1 := qs_fq (fd_of (hd f hf))
    have h2 := hs f hf
    omega
  have hrm : qs (rm b) ≤ 12 := by
    unfold rm
    have h1 := qs_sub 1 (qsum b)
    have h2 := qs_one
    have h3 : qs (qsum b) ≤ 10 := by
      match b, hl, hq with
      | [], _, _ => exact Nat.le_trans qs_zero (by decide)
      | [x], _, hq =>
        have e1 := hq x (by simp)
        have e : qsum [x] = fq x := by show (0 : Rat) + fq x = fq x; rw [Rat.zero_add]
        rw [e]; omega
      | [x, y], _, hq =>
        have e1 := hq x (by simp)
        have e2 := hq y (by simp)
        have e : qsum [x, y] = fq x + fq y := by show (0 : Rat) + fq x + fq y = _; rw [Rat.zero_add]
        have e3 := qs_add (fq x) (fq y)
        rw [e]; omega
      | _ :: _ :: _ :: _, hl, _ => simp at hl
    omega
  unfold chq
  split
  · exact hrm
  · rw [List.getD_eq_getElem?_getD]
    rcases Nat.lt_or_ge c.toNat b.length with h | h
    · rw [List.getElem?_eq_getElem h]
      have := hq _ (List.getElem_mem h)
      show qs (fq b[c.toNat]) ≤ 12
      omega
    · rw [List.getElem?_eq_none h]
      show qs (fq (false, [], [])) ≤ 12
      rw [fq_f0]
      exact Nat.le_trans qs_zero (by decide)
theorem wpr_sz : ∀ {s : List Blk} {w : List Int}, (∀ b ∈ s, ∀ c, qs (chq b c) ≤ 12) → qs (wpr s w) ≤ 12 * s.length + 1
  | [], w, _ => by
    have : wpr [] w = 1 := by cases w <;> rfl
    rw [this]
    exact qs_one
  | b :: s, [], _ => by
    show qs 1 ≤ _
    have := qs_one
    omega
  | b :: s, c :: w, h => by
    have ih := wpr_sz (s := s) (w := w) fun b hb => h b (List.mem_cons_of_mem _ hb)
    have h1 := h b (List.mem_cons_self ..) c
    have h2 := qs_mul (chq b c) (wpr s w)
    show qs (chq b c * wpr s w) ≤ _
    rw [List.length_cons]
    omega
theorem sumN_sz {f : Nat → Rat} {Z : Nat} (h : ∀ i, qs (f i) ≤ Z) : ∀ n, qs (sumN f n) ≤ (Z + 1) * n + 1
  | 0 => qs_zero
  | n + 1 => by
    have ih := sumN_sz h n
    have h1 := h n
    have h2 := qs_add (sumN f n) (f n)
    rw [sumN, Nat.mul_add]
    omega
theorem dec1 : IsDec ⟨#[49]⟩ 1 := .inr ⟨by decide, [1], ⟨by unfold D10; decide, by decide⟩, by decide, rfl⟩
theorem ft1 : ftT 1 = [49] := by
  unfold ftT
  rw [if_pos (by decide +kernel), if_neg (by decide +kernel)]
  exact decT_of dec1
/-- the sums that the law makes -/
def tS (s : List Blk) (n : Nat) : Rat := sumN (fun i => wpr s (wn s i)) n
def pS (s : List Blk) (j : Nat) (c : Int) (n : Nat) : Rat := sumN (fun i => if j < s.length ∧ (wn s i).getD j 0 = c then wpr s (wn s i) else 0) n
theorem both {α : Type} {G : Prop} {H : List It → St → Prop} {k : List It} {inv : α → St} {Q : α → Prop} (h1 : (∀ x, Q x → H k (inv x)) → G) (h2 : ∀ x, Q x → H k (inv x)) : G := h1 h2
@[go_sem] def lToS : Spec := ⟨[wdT, .int .i64, .int .i64], fun d => (.dat .bool true, [])⟩
theorem lTo_ok : SpecOk Try.prog 5 lToS := by
  refine fn_ok EW8_ok lToS Try.func5 rfl (by decide) (N := 121) rfl (res := [.tmp 6]) rfl (by decide) [(5, [(27, .wr)]), (6, [(35, .wr)])] [] [7] 100 (by kernel_rfl) ?_
  rintro ⟨l, (bl:Int), (chn:Int), _⟩ hw hp
  refine ⟨rfl, fun H hH => ?_⟩
  dsimp only [go_sem] at hw hp ⊢
  obtain ⟨-, hbl, hch, -⟩ := hw
  obtain ⟨hv, hsp, hP3⟩ := bspc_ok l
  have hl5 := bspc_len l
  have hmem : ∀ b ∈ bspc l, ∀ c, qs (chq b c) ≤ 12 := fun b hb => by
    obtain ⟨n, rfl⟩ := bspc_mem hb
    refine chq_sz (fun f hf => ?_) (bsb_len n) fun f hf => (bsb_mem hf).2.2
    unfold bsb at hf
    obtain ⟨k, -, rfl⟩ := List.mem_map.1 hf
    exact wfD_qf (by have := (bsF_ok n k).2.2; unfold bsF at this; rw [fs_qf] at this; omega)
  have hb2 : ∀ b ∈ bspc l, b.length ≤ 2 ∧ ∀ f ∈ b, fs f ≤ 1 := fun b hb => by
    obtain ⟨n, rfl⟩ := bspc_mem hb
    exact ⟨bsb_len n, fun f hf => (bsb_mem hf).2.2⟩
  generalize bspc l = s at *
  have hsp1 : spP s ∧ s.length ≤ 1000 := ⟨hsp, by omega⟩
  have hP := prd_pos s
  apply both (H := H) (inv := fun x : Nat × Int => ⟨[(7, .ref 0 0), (8, .ref 1 0), (9, .ref 2 0), (10, .dat (.int .i64) (x.1 : Int)), (11, .dat (.int .i64) x.2)], [(0, .box 26 (.cons (.dat (.slice bkT) s) .nil)), (1, .box 53 (dA fT (false, ([], [])) .nil)), (2, .box 53 (dA fT (false, ([], [])) .nil))], 3⟩) (Q := fun x => (s.length = 0 ∧ x.1 = 0) ∨ (x.1 < s.length ∧ -1 ≤ x.2 ∧ x.2 < ((s.getD x.1 []).length : Int)))
  · intro key
    have hwb : inR .u64 (IntKind.u64.wrap bl) := inR_wrap _ _
    have hwc : inR .u64 (IntKind.u64.wrap chn) := inR_wrap _ _
    rw [u64R'] at hwb hwc
    generalize IntKind.u64.wrap bl = ub at *
    generalize IntKind.u64.wrap chn = uc at *
    refine ⟨fun h => ?_, fun h => ?_⟩ <;> simp only [decide_eq_true_eq, decide_eq_false_iff_not] at h
    · have t0 : 0 ≤ ub.tmod (s.length : Int) := Int.tmod_nonneg _ hwb.1
      have t1 : ub.tmod (s.length : Int) < (s.length : Int) := Int.tmod_lt_of_pos _ h
      generalize ub.tmod (s.length : Int) = t at *
      obtain ⟨j, rfl⟩ : ∃ j : Nat, t = (j : Int) := ⟨t.toNat, by omega⟩
      rw [Int.toNat_natCast]
      have hj : j < s.length := by omega
      have hzb : s.getD j (zd bkT) = s.getD j [] := rfl
      rw [hzb]
      have hbl2 := (hb2 _ (getD_mem (l := s) [] hj)).1
      have key := fun c => key (j, c)
      dsimp only at key
      generalize s.getD j [] = b at *
      have hbl2 : List.length b ≤ 2 := hbl2
      have u0 : 0 ≤ uc.tmod ((List.length b : Int) + 1) := Int.tmod_nonneg _ hwc.1
      have u1 : uc.tmod ((List.length b : Int) + 1) < (List.length b : Int) + 1 := Int.tmod_lt_of_pos _ (by omega)
      generalize uc.tmod ((List.length b : Int) + 1) = u at *
      have hjr : (0 : Int) ≤ (j : Int) ∧ (j : Int) < (s.length : Int) := by omega
      refine ⟨by rw [u64R']; omega, by omega, by rw [u64R']; omega, by rw [inR_i64]; omega, hjr, by rw [inR_i64]; omega, by rw [u64R']; omega, by omega, by rw [u64R']; omega, by rw [inR_i64]; omega, by rw [inR_i64]; omega, ?_⟩
      refine hH.weak _ 3 ?_ (key (u - 1) (.inr ⟨hj, by omega, by omega⟩))
      dsimp only [go_sem]
      simp
    · refine hH.weak _ 3 ?_ (key (0, -1) (.inl ⟨by omega, rfl⟩))
      dsimp only [go_sem]
      simp
  · rintro ⟨j, c⟩ hjc
    refine hH.go [] 100 _ _ ?_
    dsimp only [go_sem]
    refine ⟨hsp, ?_⟩
    have hc : cnt s = prd s := by unfold cnt; rw [if_pos hv]
    refine hH.loop (fun x : Nat × fT.den × fT.den => ⟨[(7, .ref 0 0), (8, .ref 1 0), (9, .ref 2 0), (10, .dat (.int .i64) (j : Int)), (11, .dat (.int .i64) c), (12, .dat wdT (if (x.1 : Int) < prd s then wn s x.1 else [])), (13, .dat .bool (decide ((x.1 : Int) < prd s))), (14, .dat (.int .i64) (x.1 : Int))], [(0, .box 26 (.cons (.dat (.slice bkT) s) .nil)), (1, .box 53 (dA fT x.2.1 .nil)), (2, .box 53 (dA fT x.2.2 .nil))], 3⟩) (fun x => (x.1 : Int) ≤ prd s ∧ (fq x.2.1 = tS s x.1 ∧ fs x.2.1 ≤ 100000 ∧ Fd x.2.1) ∧ fq x.2.2 = pS s j c x.1 ∧ fs x.2.2 ≤ 100000) (fun x => 300 - x.1) (0, (false, ([], [])), (false, ([], []))) 3 ⟨by show ((0 : Nat) : Int) ≤ prd s; omega, ⟨fq_f0, by decide, Ds.nil, Ds.nil⟩, fq_f0, by decide⟩ ?_ ?_
    · have hf : fsR s = fst s := by unfold fsR; rw [if_pos hv]
      have hw0 : wn s 0 = fst s := at_fst s
      have hP0 : ((0 : Nat) : Int) < prd s := by omega
      dsimp only [go_sem]
      simp [hf, hw0, hP0]
      omega
    · rintro ⟨n, S1, S2⟩ ⟨hn, ⟨ht1, ht2, ht3⟩, hp1, hp2⟩ R hm
      have hn : (n : Int) ≤ prd s := hn
      have ht1 : fq S1 = tS s n := ht1
      have ht2 : fs S1 ≤ 100000 := ht2
      have ht3 : Fd S1 := ht3
      have hp1 : fq S2 = pS s j c n := hp1
      have hp2 : fs S2 ≤ 100000 := hp2
      refine hH.go [] 100 _ _ ?_
      dsimp only [go_sem]
      refine ⟨fun h => h, fun h => h, fun d => ?_, fun d => ?_⟩
      · simp only [Bool.and_eq_true, decide_eq_true_eq] at d
        obtain ⟨d1, -⟩ := d
        obtain ⟨w1, w2⟩ := wn_ok d1
        have hwl := wk_len w1
        have c1 : cont s (wn s n) = true := by unfold cont; rw [w1, hv]; rfl
        have p1 : prW s (wn s n) = (qf (wpr s (wn s n)), 0) := by unfold prW; rw [if_pos c1]
        have n1 : nxR s (wn s n) = (if (n : Int) + 1 < prd s then wn s (n + 1) else [], decide ((n : Int) + 1 < prd s)) := by
          unfold nxR
          rw [if_pos c1, nxt_wn d1]
          by_cases h : (n : Int) + 1 < prd s
          · rw [if_pos h, if_pos h, decide_eq_true h]
          · rw [if_neg h, if_neg h, decide_eq_false h]
        have z1 : ∀ i, qs (wpr s (wn s i)) ≤ 61 := fun i => by
          have := @wpr_sz s (wn s i) hmem
          omega
        have z2 := sumN_sz z1 (n + 1)
        have z3 := sumN_sz (f := fun i => if j < s.length ∧ (wn s i).getD j 0 = c then wpr s (wn s i) else 0) (Z := 61) (fun i => by
          split
          · exact z1 i
          · exact Nat.le_trans qs_zero (by decide)) (n + 1)
        have y1 : tS s (n + 1) = tS s n + wpr s (wn s n) := rfl
        have y2 : pS s j c (n + 1) = pS s j c n + (if j < s.length ∧ (wn s n).getD j 0 = c then wpr s (wn s n) else 0) := rfl
        have z2 : qs (tS s (n + 1)) ≤ 62 * (n + 1) + 1 := z2
        have z3 : qs (pS s j c (n + 1)) ≤ 62 * (n + 1) + 1 := z3
        have hzi : (zd (Ty.int IntKind.i64)) = (0 : Int) := rfl
        rw [if_pos d1, p1, n1, hwl, hzi, Int.toNat_natCast]
        dsimp only
        rw [fq_qf, ht1, hp1, ← y1]
        have hq5 : fs (qf (wpr s (wn s n))) ≤ 5000000 := by rw [fs_qf]; have := z1 n; omega
        refine ⟨⟨hsp, by omega⟩, fun h => absurd h (by simp), fun _ => ⟨by omega, hq5, fun h => h, fun h => h, fun h => ?_, fun h => h, fun h => h, fun h => h, fun h => h, fun e => ?_, fun e => ?_⟩⟩
        · simp only [decide_eq_true_eq] at h
          have h : (j : Int) < (s.length : Int) := h
          exact ⟨Int.natCast_nonneg _, h⟩
        · simp only [Bool.and_eq_true, decide_eq_true_eq] at e
          have e1 : (j : Int) < (s.length : Int) := e.1
          rw [if_pos ⟨by omega, e.2⟩] at y2
          rw [← y2]
          refine ⟨by omega, hq5, hsp, by rw [inR_i64]; omega, hm _ (n + 1, qf (tS s (n + 1)), qf (pS s j c (n + 1))) 3 ⟨by show ((n + 1 : Nat) : Int) ≤ _; omega, ⟨by rw [fq_qf], by rw [fs_qf]; omega, (canon_dg _).1, (canon_dg _).1⟩, by rw [fq_qf], by rw [fs_qf]; omega⟩ (by show 300 - (n + 1) < 300 - n; omega) ?_⟩
          dsimp only [go_sem]
          simp
        · simp only [Bool.and_eq_false_iff, decide_eq_false_iff_not] at e
          rw [if_neg (fun h => by
            rcases e with e | e
            · have e : ¬ (j : Int) < (s.length : Int) := e
              omega
            · exact e h.2), Rat.add_zero] at y2
          refine ⟨hsp, by rw [inR_i64]; omega, hm _ (n + 1, qf (tS s (n + 1)), S2) 3 ⟨by show ((n + 1 : Nat) : Int) ≤ _; omega, ⟨by rw [fq_qf], by rw [fs_qf]; omega, (canon_dg _).1, (canon_dg _).1⟩, by rw [hp1, ← y2], hp2⟩ (by show 300 - (n + 1) < 300 - n; omega) ?_⟩
          dsimp only [go_sem]
          simp
      · simp only [Bool.and_eq_false_iff, decide_eq_false_iff_not] at d
        have hnP : n = (prd s).toNat := by omega
        have t1 : tS s n = 1 := by rw [hnP]; exact tot_one s
        rw [ht1, t1, ft1]
        refine ⟨by omega, ht3, fun h => absurd h (by decide), fun _ => ⟨fun _ => ⟨rfl, trivial⟩, fun h => ?_⟩⟩
        simp only [decide_eq_false_iff_not] at h
        obtain ⟨hj, hc1, hc2⟩ : j < s.length ∧ -1 ≤ c ∧ c < ((s.getD j []).length : Int) := by
          rcases hjc with ⟨h', -⟩ | h'
          · omega
          · exact h'
        have hzb : s.getD j (zd bkT) = s.getD j [] := rfl
        have hpS : pS s j c n = chq (s.getD j []) c := by
          rw [hnP, ← tot_only hj ⟨hc1, hc2⟩]
          refine sumN_congr fun i _ => ?_
          by_cases hx : (wn s i).getD j 0 = c
          · rw [if_pos ⟨hj, hx⟩, if_pos hx]
          · rw [if_neg (fun h => hx h.2), if_neg hx]
        have hmb := getD_mem (l := s) [] hj
        have hbk := hsp.2 _ hmb
        have hch12 := hmem _ hmb c
        have hb1 := (hb2 _ hmb).2
        have hcm (q : Rat) : cmpQ q q = 0 := by unfold cmpQ; rw [Rat.sub_self]; rfl
        rw [Int.toNat_natCast, hzb, hp1, hpS]
        generalize s.getD j [] = b at *
        have hjr : (0 : Int) ≤ (j : Int) ∧ (j : Int) < (s.length : Int) := by omega
        refine ⟨hjr, hbk, fun e => ?_, fun e => ?_⟩ <;> simp only [decide_eq_true_eq, decide_eq_false_iff_not] at e
        · have e : 0 ≤ c := e
          have hce : chq b c = fq (b.getD c.toNat (false, [], [])) := by unfold chq; rw [if_neg (by omega)]
          have hzf : List.getD b c.toNat (zd (Ty.bool.pair ((Ty.int IntKind.u32).slice.pair (Ty.int IntKind.u32).slice))) = b.getD c.toNat (false, [], []) := rfl
          have hfs := hb1 _ (getD_mem (l := b) (i := c.toNat) (false, [], []) (by omega))
          rw [hzf, ← hce, hcm]
          exact ⟨hjr, ⟨e, hc2⟩, by omega, by omega, fun h => h, by decide, trivial⟩
        · have e : ¬ 0 ≤ c := e
          have hce : chq b c = rm b := by unfold chq; rw [if_pos (by omega)]
          rw [hce] at hch12
          rw [fq_qf, hce, hcm]
          exact ⟨by omega, by rw [fs_qf]; omega, fun h => h, by decide, trivial⟩
end Go.Proofs.Ythjgfppmempbkaa.Gx
