/-
  Readers: natural numbers.
-/
import Derived.Test.YtadoinponngdiaaC3
namespace Go.Proofs.Ytadoinponngdiaa.Gx
open Go Go.RowKit Tw B Nt
set_option linter.unusedVariables false
set_option linter.unusedSimpArgs false
set_option maxHeartbeats 4000000
set_option maxRecDepth 20000
/-- the value of bytes, the highest first -/
def bV : List Int → Int
  | [] => 0
  | c :: l => c * 256 ^ l.length + bV l
def By (l : List Int) : Prop := ∀ x ∈ l, inR .u8 x
theorem By.drop {l : List Int} (h : By l) (k : Nat) : By (l.drop k) := fun x hx => h x (List.mem_of_mem_drop hx)
theorem By.take {l : List Int} (h : By l) (k : Nat) : By (l.take k) := fun x hx => h x (List.mem_of_mem_take hx)
theorem bV_b : ∀ {l : List Int}, By l → 0 ≤ bV l ∧ bV l < 256 ^ l.length
  | [], _ => by decide
  | c :: l, h => by
    have h1 := h c (List.mem_cons_self ..)
    rw [u8R] at h1
    obtain ⟨h2, h3⟩ := bV_b (l := l) fun x hx => h x (List.mem_cons_of_mem _ hx)
    have hp : (0 : Int) < 256 ^ l.length := Int.pow_pos (by decide)
    have h4 := Int.mul_le_mul_of_nonneg_right (show c ≤ 255 by omega) (Int.le_of_lt hp)
    have h5 := Int.mul_nonneg h1.1 (Int.le_of_lt hp)
    rw [List.length_cons, Int.pow_succ]
    unfold bV
    omega
theorem bV_top {c : Int} {l : List Int} (h : By (c :: l)) (hc : c ≠ 0) : 256 ^ l.length ≤ bV (c :: l) := by
  have h1 := h c (List.mem_cons_self ..)
  rw [u8R] at h1
  obtain ⟨h2, h3⟩ := bV_b (l := l) fun x hx => h x (List.mem_cons_of_mem _ hx)
  have hp : (0 : Int) < 256 ^ l.length := Int.pow_pos (by decide)
  have h4 := Int.mul_le_mul_of_nonneg_right (show 1 ≤ c by omega) (Int.le_of_lt hp)
  unfold bV
  omega
theorem pow256 (i : Nat) : (256 : Int) ^ i = ((2 ^ (8 * i) : Nat) : Int) := by
  rw [Nat.pow_mul]; simp
/-- a byte is added at its place -/
theorem put_byte {a : List Int} (h : Ds a) {i : Nat} (hi : i / 4 < a.length) (hN : N a < 256 ^ i) {c : Nat} (hc : c < 256) : inR .u32 ((c * 2 ^ (8 * (i % 4)) : Nat) : Int) ∧ ∃ x, bitsI .or .u32 (a.getD (i / 4) 0) (shlI .u32 (c : Int) ((8 * (i % 4) : Nat) : Int)) = x ∧ Ds (a.set (i / 4) x) ∧ N (a.set (i / 4) x) = N a + c * 256 ^ i := by
  have hN0 := N_nonneg h
  have hd := N_digit h (i / 4)
  have hd0 := h.at (i / 4)
  have hs := N_set hi
  have ed : a.getD (i / 4) 0 = a[i / 4]?.getD 0 := by rw [List.getD_eq_getElem?_getD]
  obtain ⟨V, hV⟩ : ∃ V : Nat, N a = (V : Int) := ⟨(N a).toNat, by omega⟩
  obtain ⟨d, hdd⟩ : ∃ d : Nat, a[i / 4]?.getD 0 = (d : Int) := ⟨(a[i / 4]?.getD 0).toNat, by omega⟩
  rw [hV, pow256] at hN
  have eb : Bp (i / 4) = ((2 ^ (32 * (i / 4)) : Nat) : Int) := by rw [Bp_pow]; simp
  rw [hV, hdd, eb, ← Int.natCast_ediv] at hd
  have hN2 : V < 2 ^ (8 * i) := by omega
  have e8 : 8 * i = 32 * (i / 4) + 8 * (i % 4) := by omega
  rw [e8, Nat.pow_add] at hN2
  have hlt : V / 2 ^ (32 * (i / 4)) < 2 ^ (8 * (i % 4)) := (Nat.div_lt_iff_lt_mul (Nat.pow_pos (by decide))).2 (by rw [Nat.mul_comm]; exact hN2)
  have hdl : d < 2 ^ (8 * (i % 4)) := by
    have : d ≤ V / 2 ^ (32 * (i / 4)) := by
      have := Nat.mod_le (V / 2 ^ (32 * (i / 4))) 4294967296
      omega
    omega
  have hr : i % 4 < 4 := Nat.mod_lt _ (by decide)
  have hcx : c * 2 ^ (8 * (i % 4)) + d < 4294967296 := by
    generalize i % 4 = r at hr hdl
    rcases r with _ | _ | _ | _ | r
    · change d < 1 at hdl; show c * 1 + d < _; omega
    · change d < 256 at hdl; show c * 256 + d < _; omega
    · change d < 65536 at hdl; show c * 65536 + d < _; omega
    · change d < 16777216 at hdl; show c * 16777216 + d < _; omega
    · omega
  have hin : inR .u32 ((c * 2 ^ (8 * (i % 4)) : Nat) : Int) := by rw [inR_u32]; omega
  refine ⟨hin, _, rfl, ?_⟩
  rw [ed, hdd, shl_nat .u32 c (8 * (i % 4)) (by show 8 * (i % 4) ≤ 32; omega) hin, u32_or d _ (by omega) (by omega), or_add' c d _ hdl]
  refine ⟨h.set _ (by omega), ?_⟩
  rw [hs, hdd, eb, pow256, e8, Nat.pow_add]
  generalize 2 ^ (8 * (i % 4)) = X
  generalize 2 ^ (32 * (i / 4)) = Y
  simp only [Int.natCast_add, Int.natCast_mul]
  rw [Int.add_comm (d : Int), Int.add_sub_cancel, ← Int.mul_assoc, Int.mul_comm (Y : Int), Int.mul_assoc, Int.mul_comm (Y : Int)]
theorem drop_back (b : List Int) {i : Nat} (hi : i < b.length) : b.drop (b.length - (i + 1)) = b.getD (b.length - 1 - i) 0 :: b.drop (b.length - i) := by
  rw [drop_at b _ (by omega)]
  congr 2 <;> omega
theorem rRaw_f {s : Rd} {n : Int} (h : By s.1) (hn : 0 ≤ n) : By (rRaw s n).1 ∧ By (rRaw s n).2.1 ∧ ((rRaw s n).1.length : Int) ≤ n ∧ (rRaw s n).1.length ≤ s.1.length ∧ (rRaw s n).2.1.length ≤ s.1.length ∧ ((rRaw s n).2.2 = 0 → ((rRaw s n).1.length : Int) = n) := by
  have nil : By [] := fun x hx => by cases hx
  unfold rRaw
  split
  · exact ⟨nil, h, hn, Nat.zero_le _, Nat.le_refl _, fun e => absurd e (by assumption)⟩
  · split
    · exact ⟨nil, nil, hn, Nat.zero_le _, Nat.zero_le _, fun e => absurd e (by decide)⟩
    · refine ⟨h.take _, h.drop _, ?_, ?_, ?_, fun _ => ?_⟩ <;> dsimp only <;> simp only [List.length_take, List.length_drop] <;> omega
theorem rU_e {s : Rd} {mx : Int} (h : s.2 ≠ 0) : rU s mx = (0, s) := by unfold rU; rw [if_pos h]
theorem rRaw_e {s : Rd} {mx : Int} (h : s.2 ≠ 0) : rRaw s mx = ([], s) := by unfold rRaw; rw [if_pos h]
theorem rB_e {s : Rd} {mx : Int} (h : s.2 ≠ 0) : rB s mx = ([], s) := by
  unfold rB
  rw [rU_e h, if_pos h]
theorem rB_f {s : Rd} {mx : Int} (h : By s.1) : By (rB s mx).1 ∧ By (rB s mx).2.1 ∧ ((rB s mx).1.length : Int) ≤ max mx 0 ∧ (rB s mx).1.length ≤ s.1.length ∧ (rB s mx).2.1.length ≤ s.1.length := by
  have nil : By [] := fun x hx => by cases hx
  obtain ⟨h1, h2⟩ := rU_n (mx := max mx 0) h (by omega)
  have h3 := rU_by (mx := max mx 0) h
  have h4 := @rU_len s (max mx 0)
  unfold rB
  generalize rU s (max mx 0) = q at *
  split
  · exact ⟨nil, h3, by show (0 : Int) ≤ _; omega, Nat.zero_le _, h4⟩
  · obtain ⟨g1, g2, g3, g4, g5, -⟩ := rRaw_f (s := q.2) h3 h1
    exact ⟨g1, g2, by omega, by omega, by omega⟩
def rN (s : Rd) : List Int × Rd :=
  if (rB s 8192).2.2 ≠ 0 ∨ (rB s 8192).1 = [] then ([], (rB s 8192).2) else if (rB s 8192).1.getD 0 0 = 0 then ([], ([], 2)) else (dg (bV (rB s 8192).1), (rB s 8192).2)
@[go_sem] def rNM : MSpec := ⟨[.b 66 rdT], fun d => ⟨[(0, .box 66 (dA rdT (rN d.1).2 .nil))], 1, .dat nT (rN d.1).1, [List.length d.1.1 ≤ 1000000]⟩⟩
theorem rNM_ok : MSpecOk Try.prog 26 rNM := by
  refine fnM_ok EC9_ok rNM Try.func26 rfl (by decide) (N := 56) rfl (res := [.tmp 2]) rfl (by decide) [(1, [(7, .ow)]), (5, [(23, .ow)])] [(13, [1])] [] 100 (by kernel_rfl) ?_
  rintro ⟨s, _⟩ hw hp H hH
  dsimp only [go_sem] at hw hp ⊢
  obtain ⟨hp, -⟩ := hp
  obtain ⟨⟨⟨-, hby⟩, -⟩, -⟩ := hw
  change By s.1 at hby
  obtain ⟨f1, f2, f3, f4, f5⟩ := rB_f (mx := 8192) hby
  have hr : rN s = if (rB s 8192).2.2 ≠ 0 ∨ (rB s 8192).1 = [] then ([], (rB s 8192).2) else if (rB s 8192).1.getD 0 0 = 0 then ([], ([], 2)) else (dg (bV (rB s 8192).1), (rB s 8192).2) := rfl
  generalize rB s 8192 = q at *
  obtain ⟨b, st⟩ := q
  dsimp only at f1 f2 f3 f4 f5 hr ⊢
  have hz : (zd (Ty.int IntKind.u32)) = (0 : Int) := rfl
  have hz8 : (zd (Ty.int IntKind.u8)) = (0 : Int) := rfl
  have hz0 : (Int.toNat 0) = 0 := rfl
  have ehd : b.length = 0 ↔ b = [] := List.length_eq_zero_iff
  have et : ((b.length : Int) + 3).tdiv 4 = (((b.length + 3) / 4 : Nat) : Int) := by
    rw [Int.tdiv_eq_ediv_of_nonneg (by omega)]; omega
  rw [et, hz, hz8, hz0, Int.toNat_natCast]
  refine ⟨hp, fun h => h, fun h => h, fun h => h, fun c => ?_, fun c => ⟨?_, fun g => ?_, fun g => ?_⟩⟩ <;> simp only [Bool.or_eq_true, Bool.or_eq_false_iff, decide_eq_true_eq, decide_eq_false_iff_not] at c
  · rw [if_pos (by rw [← ehd]; omega)] at hr
    simp [hr]
  · show (0 : Int) ≤ 0 ∧ (0 : Int) < (b.length : Int)
    omega
  · simp only [decide_eq_true_eq] at g
    rw [if_neg (by rw [← ehd]; omega), if_pos g] at hr
    simp [hr]
  · simp only [decide_eq_false_iff_not] at g
    rw [if_neg (by rw [← ehd]; omega), if_neg g] at hr
    refine ⟨by rw [inR_i64]; omega, by decide, by rw [inR_i64]; omega, ⟨Int.natCast_nonneg _, Int.le_refl _, by show (4 : Int) * (((b.length + 3) / 4 : Nat) : Int) ≤ 140737488355328; omega⟩, ?_⟩
    refine hH.loop (fun y : Nat × List Int => ⟨[(3, .dat bT b), (4, .own 1), (30, .dat (.int .i64) (b.length : Int)), (31, .dat (.int .i64) (y.1 : Int))], [(1, .row 61 (.int .u32) y.2), (0, .box 66 (dA rdT st .nil))], 2⟩) (fun y => y.1 ≤ b.length ∧ y.2.length = (b.length + 3) / 4 ∧ Ds y.2 ∧ N y.2 = bV (b.drop (b.length - y.1))) (fun y => b.length - y.1) (0, List.replicate ((b.length + 3) / 4) 0) 2 ⟨Nat.zero_le _, List.length_replicate .., fun d hd => ?_, ?_⟩ ?_ ?_
    · rw [List.eq_of_mem_replicate hd]; decide
    · rw [Nat.sub_zero, List.drop_length]; exact N_zeros _
    · dsimp only [go_sem]
      simp
    · rintro ⟨i, a⟩ ⟨hi, hla, hda, hNa⟩ R hm
      have hi : i ≤ b.length := hi
      have hla : a.length = (b.length + 3) / 4 := hla
      have hda : Ds a := hda
      have hNa : N a = bV (b.drop (b.length - i)) := hNa
      refine hH.run 100 _ _ ?_
      dsimp only [go_sem]
      have t1 : (i : Int).tdiv 4 = ((i / 4 : Nat) : Int) := by rw [Int.tdiv_eq_ediv_of_nonneg (by omega)]; omega
      have t2 : (i : Int).tmod 4 = ((i % 4 : Nat) : Int) := by rw [Int.tmod_eq_emod_of_nonneg (by omega)]; omega
      have t3 : (((i % 4 : Nat) : Int) * 8) = ((8 * (i % 4) : Nat) : Int) := by omega
      rw [t1, t2, t3, Int.toNat_natCast]
      refine ⟨fun d => ?_, fun d => ?_⟩ <;> simp only [decide_eq_true_eq, decide_eq_false_iff_not] at d
      · have d : i < b.length := by omega
        have t4 : ((b.length : Int) - 1 - (i : Int)).toNat = b.length - 1 - i := by omega
        obtain ⟨e, he, he256⟩ := byte_at f1 (b.length - 1 - i)
        rw [t4, hz8, hz, he]
        have hNlt : N a < 256 ^ i := by
          rw [hNa]
          have := (bV_b (f1.drop (b.length - i))).2
          rw [List.length_drop, show b.length - (b.length - i) = i by omega] at this
          exact this
        obtain ⟨p1, x, p2, p3, p4⟩ := put_byte hda (i := i) (by omega) hNlt he256
        rw [p2]
        have b1 : (0 : Int) ≤ ((i / 4 : Nat) : Int) ∧ ((i / 4 : Nat) : Int) < (a.length : Int) := by omega
        have b2 : (0 : Int) ≤ (b.length : Int) - 1 - (i : Int) ∧ (b.length : Int) - 1 - (i : Int) < (b.length : Int) := by omega
        refine ⟨by decide, by rw [inR_i64]; omega, b1, by omega, by rw [inR_i64]; omega, by rw [inR_i64]; omega, b2, by rw [inR_u32]; omega, by decide, by rw [inR_i64]; omega, by rw [inR_i64]; omega, Int.natCast_nonneg _, b1, by omega, by rw [inR_i64]; omega, hm _ (i + 1, a.set (i / 4) x) 2 ⟨d, ?_, p3, ?_⟩ (by show b.length - (i + 1) < b.length - i; omega) ?_⟩
        · show (a.set (i / 4) x).length = _
          rw [List.length_set]; exact hla
        · show N (a.set (i / 4) x) = bV (b.drop (b.length - (i + 1)))
          rw [drop_back b d, he, p4, hNa]
          unfold bV
          rw [List.length_drop, show b.length - (b.length - i) = i by omega, Int.add_comm]
          cases h : b.drop (b.length - i) <;> rfl
        · dsimp only [go_sem]
          simp
      · have : i = b.length := by omega
        subst this
        rw [Nat.sub_self, List.drop_zero] at hNa
        have hcan : Canon a := by
          refine ⟨hda, fun hl => ?_⟩
          have hne : b ≠ [] := by rw [ne_eq, ← ehd]; omega
          obtain ⟨c0, l, rfl⟩ := List.exists_cons_of_ne_nil hne
          have htop := bV_top f1 (show c0 ≠ 0 from g)
          rw [← hNa] at htop
          have hal : a.length - 1 < a.length := by rw [hla, List.length_cons]; omega
          have hx : a[a.length - 1]?.getD 0 = 0 := by
            rw [← List.getLast?_eq_getElem?, hl]; rfl
          have hd := N_digit hda (a.length - 1)
          rw [hx] at hd
          have hlt := N_lt hda
          have h0 := N_nonneg hda
          obtain ⟨k, hk⟩ : ∃ k, a.length = k + 1 := ⟨a.length - 1, by omega⟩
          rw [hk, Nat.add_sub_cancel] at hd
          rw [hk, show Bp (k + 1) = 4294967296 * Bp k from rfl] at hlt
          have hkp := Bp_pos k
          have q1 : N a / Bp k < 4294967296 := (Int.ediv_lt_iff_lt_mul hkp).2 hlt
          have q2 : 0 ≤ N a / Bp k := Int.ediv_nonneg h0 (Int.le_of_lt hkp)
          rw [Int.emod_eq_of_lt q2 q1] at hd
          have q3 : 1 ≤ N a / Bp k := (Int.le_ediv_iff_mul_le hkp).2 (by
            rw [Int.one_mul]
            refine Int.le_trans ?_ htop
            rw [pow256, Bp_pow, show ((2 : Int) ^ (32 * k)) = ((2 ^ (32 * k) : Nat) : Int) by simp]
            have := Nat.pow_le_pow_right (show 0 < 2 by decide) (show 32 * k ≤ 8 * l.length by rw [hk, List.length_cons] at hla; omega)
            omega)
          omega
        rw [← hNa, dg_of hcan] at hr
        simp [hr]
theorem rN_e {s : Rd} (h : s.2 ≠ 0) : rN s = ([], s) := by
  unfold rN
  rw [rB_e h, if_pos (.inl h)]
theorem dg_ds (n : Int) : Ds (dg n) := (canon_dg n).1
theorem bV_Bp {b : List Int} (h : By b) {k : Nat} (hk : 8 * b.length ≤ 32 * k) : bV b < Bp k := by
  refine Int.lt_of_lt_of_le (bV_b h).2 ?_
  have e : ((2 : Int) ^ (32 * k)) = ((2 ^ (32 * k) : Nat) : Int) := (Int.natCast_pow 2 _).symm
  rw [pow256, Bp_pow, e]
  exact Int.ofNat_le.2 (Nat.pow_le_pow_right (by decide) hk)
theorem rN_f {s : Rd} (h : By s.1) : Canon (rN s).1 ∧ By (rN s).2.1 ∧ (rN s).1.length ≤ 2049 ∧ (rN s).2.1.length ≤ s.1.length := by
  have nil : By [] := fun x hx => by cases hx
  obtain ⟨f1, f2, f3, f4, f5⟩ := rB_f (mx := 8192) h
  unfold rN
  generalize rB s 8192 = q at *
  split
  · exact ⟨Canon.nil, f2, Nat.zero_le _, f5⟩
  · split
    · exact ⟨Canon.nil, nil, Nat.zero_le _, Nat.zero_le _⟩
    · refine ⟨canon_dg _, f2, ?_, f5⟩
      obtain ⟨g1, g2⟩ := bV_b f1
      exact dg_len g1 (bV_Bp f1 (by omega))
def zF : fT.den := (false, ([], []))
def rF (s : Rd) : fT.den × Rd :=
  if (rRaw s 1).2.2 ≠ 0 then (zF, (rRaw s 1).2)
  else if 1 < (rRaw s 1).1.getD 0 0 then (zF, ([], 2))
  else if (rN (rN (rRaw s 1).2).2).2.2 ≠ 0 then (zF, (rN (rN (rRaw s 1).2).2).2)
  else if isCan (decide ((rRaw s 1).1.getD 0 0 = 1), ((rN (rRaw s 1).2).1, (rN (rN (rRaw s 1).2).2).1)) then ((decide ((rRaw s 1).1.getD 0 0 = 1), ((rN (rRaw s 1).2).1, (rN (rN (rRaw s 1).2).2).1)), (rN (rN (rRaw s 1).2).2).2) else (zF, ([], 2))
@[go_sem] noncomputable def ECA : Env := (EC9).addM 26 rNM
theorem ECA_ok : ECA.Ok := (EC9_ok).addM rNM_ok
@[go_sem] def rFM : MSpec := ⟨[.b 66 rdT], fun d => ⟨[(0, .box 66 (dA rdT (rF d.1).2 .nil))], 1, .dat fT (rF d.1).1, [List.length d.1.1 ≤ 1000000]⟩⟩
theorem rFM_ok : MSpecOk Try.prog 27 rFM := by
  refine fnM_ok ECA_ok rFM Try.func27 rfl (by decide) (N := 46) rfl (res := [.cell 2 28]) rfl (by decide) [(1, [(8, .ow)]), (5, [(20, .ow)]), (7, [(23, .ow)]), (8, [(25, .ow)]), (13, [(43, .ow)])] [] [] 100 (by kernel_rfl) ?_
  rintro ⟨s, _⟩ hw hp H hH
  dsimp only [go_sem] at hw hp ⊢
  obtain ⟨hp, -⟩ := hp
  obtain ⟨⟨⟨-, hby⟩, -⟩, -⟩ := hw
  change By s.1 at hby
  obtain ⟨a1, a2, a3, a4, a5, a6⟩ := rRaw_f (n := 1) hby (by decide)
  have hr : rF s = if (rRaw s 1).2.2 ≠ 0 then (zF, (rRaw s 1).2) else if 1 < (rRaw s 1).1.getD 0 0 then (zF, ([], 2)) else if (rN (rN (rRaw s 1).2).2).2.2 ≠ 0 then (zF, (rN (rN (rRaw s 1).2).2).2) else if isCan (decide ((rRaw s 1).1.getD 0 0 = 1), ((rN (rRaw s 1).2).1, (rN (rN (rRaw s 1).2).2).1)) then ((decide ((rRaw s 1).1.getD 0 0 = 1), ((rN (rRaw s 1).2).1, (rN (rN (rRaw s 1).2).2).1)), (rN (rN (rRaw s 1).2).2).2) else (zF, ([], 2)) := rfl
  have hm1 : max (1 : Int) 0 = 1 := rfl
  rw [hm1]
  generalize rRaw s 1 = q at *
  obtain ⟨b, s1⟩ := q
  obtain ⟨b1, b2, b3, b4⟩ := rN_f (s := s1) a2
  dsimp only at a1 a2 a3 a4 a5 a6 hr ⊢
  generalize rN s1 = q at *
  obtain ⟨x, s2⟩ := q
  obtain ⟨c1, c2, c3, c4⟩ := rN_f (s := s2) b2
  dsimp only at b1 b2 b3 b4 hr ⊢
  generalize rN s2 = q at *
  obtain ⟨y, s3⟩ := q
  dsimp only at c1 c2 c3 c4 hr ⊢
  have hz8 : (zd (Ty.int IntKind.u8)) = (0 : Int) := rfl
  have hz0 : (Int.toNat 0) = 0 := rfl
  rw [hz8, hz0]
  simp only [decide_eq_true_eq, decide_eq_false_iff_not, Bool.not_eq_true', ne_eq, Decidable.not_not, Bool.not_eq_false']
  have hb0 (g : s1.2 = 0) : (0 : Int) ≤ 0 ∧ (0 : Int) < (b.length : Int) := by have := a6 g; omega
  refine ⟨hp, fun g => ?_, fun g => ⟨hb0 g, fun g2 => ?_, fun g2 => ⟨by omega, by omega, fun g3 => ?_, fun g3 => ⟨hb0 g, ?_, fun g4 => ?_, fun g4 => ?_⟩⟩⟩⟩
  · rw [if_pos g] at hr; simp [hr, zF]
  · rw [if_neg (by simp [g]), if_pos g2] at hr; simp [hr, zF]
  · rw [if_neg (by simp [g]), if_neg g2, if_pos g3] at hr; simp [hr, zF]
  · show max x.length y.length ≤ 900000
    omega
  · rw [if_neg (by simp [g]), if_neg g2, if_neg (by simp [g3]), if_neg (by rw [g4]; decide)] at hr; simp [hr, zF]
  · rw [if_neg (by simp [g]), if_neg g2, if_neg (by simp [g3]), if_pos g4] at hr; rw [hr]; simp
@[go_sem] noncomputable def ECB : Env := (ECA).addM 27 rFM
theorem ECB_ok : ECB.Ok := (ECA_ok).addM rFM_ok
end Go.Proofs.Ytadoinponngdiaa.Gx
