/-
  Readers.
-/
import Derived.Test.YtadoinponngdiaaC2
namespace Go.Proofs.Ytadoinponngdiaa.Gx
open Go Go.RowKit Tw B Nt
set_option linter.unusedVariables false
set_option linter.unusedSimpArgs false
set_option maxHeartbeats 4000000
set_option maxRecDepth 20000
@[reducible, go_sem] def rdT : Ty := .pair bT (.int .i64)
/-- the number at the beginning of a byte string, its length and the error -/
def scn : Nat → Nat → Int → List Int → Int × Int × Int
  | 0, _, _, _ => (0, 0, 2)
  | _ + 1, _, _, [] => (0, 0, 3)
  | f + 1, i, a, c :: l => if c ≥ 128 then scn f (i + 1) (a + (c - 128) * 128 ^ i) l else if (0 < i ∧ c = 0) ∨ (i = 9 ∧ 1 < c) then (0, 0, 2) else (a + c * 128 ^ i, (i : Int) + 1, 0)
def scan (b : List Int) : Int × Int × Int := scn 10 0 0 b
theorem u64R {n : Int} : inR .u64 n ↔ 0 ≤ n ∧ n ≤ 18446744073709551615 := Iff.rfl
theorem u8R {n : Int} : inR .u8 n ↔ 0 ≤ n ∧ n ≤ 255 := Iff.rfl
theorem drop_at (l : List Int) (k : Nat) (h : k < l.length) : l.drop k = l.getD k 0 :: l.drop (k + 1) := by
  rw [List.drop_eq_getElem_cons h, List.getD_eq_getElem?_getD, List.getElem?_eq_getElem h]; rfl
theorem byte_at {l : List Int} (h : ∀ x ∈ l, inR .u8 x) (k : Nat) : ∃ c : Nat, l.getD k 0 = (c : Int) ∧ c < 256 := by
  have key : inR .u8 (l.getD k 0) := by
    rw [List.getD_eq_getElem?_getD]
    rcases Nat.lt_or_ge k l.length with hk | hk
    · rw [List.getElem?_eq_getElem hk]; exact h _ (List.getElem_mem hk)
    · rw [List.getElem?_eq_none hk]; decide
  rw [u8R] at key
  exact ⟨(l.getD k 0).toNat, by omega, by omega⟩
theorem pow128 (i : Nat) : 128 ^ i = 2 ^ (7 * i) := by rw [Nat.pow_mul]
/-- a group is added -/
theorem grp (a m i : Nat) (hi : i ≤ 9) (ha : a < 128 ^ i) (hm : m < 128) (h9 : i = 9 → m ≤ 1) : bitsI .or .u64 (a : Int) (shlI .u64 (m : Int) (7 * (i : Int))) = ((a + m * 128 ^ i : Nat) : Int) ∧ a + m * 128 ^ i < 18446744073709551616 := by
  have hb : m * 2 ^ (7 * i) < 18446744073709551616 ∧ a + m * 2 ^ (7 * i) < 18446744073709551616 := by
    rw [pow128] at ha
    have hp : 2 ^ (7 * i) ≤ 2 ^ 63 := Nat.pow_le_pow_right (by decide) (by omega)
    rcases Nat.lt_or_ge i 9 with h | h
    · have hp : 2 ^ (7 * i) ≤ 2 ^ 56 := Nat.pow_le_pow_right (by decide) (by omega)
      have := Nat.mul_le_mul (show m ≤ 127 by omega) hp
      omega
    · have := Nat.mul_le_mul (h9 (by omega)) hp
      omega
  have e : (7 * (i : Int)) = ((7 * i : Nat) : Int) := by omega
  rw [e, shl_nat .u64 m (7 * i) (by show 7 * i ≤ 64; omega) (by rw [u64R]; omega), pow128, u64_or a _ (by rw [pow128] at ha; omega) hb.1, or_add' m a (7 * i) (by rw [← pow128]; exact ha)]
  exact ⟨rfl, hb.2⟩
@[go_sem] def scS : Spec := ⟨[bT], fun d => (.tup (.cons (.dat (.int .u64) (scan d.1).1) (.cons (.dat (.int .i64) (scan d.1).2.1) (.cons (.dat (.int .i64) (scan d.1).2.2) .nil))), [])⟩
theorem sc_ok : SpecOk Try.prog 41 scS := by
  refine fn_ok EC5_ok scS Try.func41 rfl (by decide) (N := 54) rfl (res := [.tmp 2, .tmp 3, .tmp 4]) rfl (by decide) [] [] [] 100 (by kernel_rfl) ?_
  rintro ⟨b, _⟩ hw hp
  refine ⟨rfl, fun H hH => ?_⟩
  dsimp only [go_sem] at hw hp ⊢
  change List Int at b
  refine hH.loop (fun x : Nat × Nat => ⟨[(0, .dat bT b), (5, .dat (.int .u64) (x.2 : Int)), (7, .dat (.int .i64) (x.1 : Int))], [], 0⟩) (fun x => x.1 ≤ 10 ∧ (x.1 ≤ 9 → x.2 < 128 ^ x.1) ∧ x.2 < 18446744073709551616 ∧ scn (10 - x.1) x.1 (x.2 : Int) (b.drop x.1) = scan b) (fun x => 10 - x.1) (0, 0) 0 ⟨by decide, by decide, by decide, rfl⟩ ?_ ?_
  · dsimp only [go_sem]
    simp
  · rintro ⟨i, a⟩ ⟨hi, ha, ha2, hsc⟩ R hm
    have hi : i ≤ 10 := hi
    have ha : i ≤ 9 → a < 128 ^ i := ha
    have ha2 : a < 18446744073709551616 := ha2
    have hsc : scn (10 - i) i (a : Int) (b.drop i) = scan b := hsc
    refine hH.run 100 _ _ ?_
    dsimp only [go_sem]
    have hby := hw.1.2
    change ∀ x ∈ b, inR .u8 x at hby
    have hz8 : (zd (Ty.int IntKind.u8)) = (0 : Int) := rfl
    rw [hz8, Int.toNat_natCast]
    obtain ⟨c, hc, hc256⟩ := byte_at hby i
    rw [hc, u8_and127 c hc256]
    refine ⟨fun d => ?_, fun d => ?_⟩ <;> simp only [decide_eq_true_eq, decide_eq_false_iff_not] at d
    · have d : i < 10 := by omega
      have ha := ha (by omega)
      obtain ⟨f, hf⟩ : ∃ f, 10 - i = f + 1 := ⟨9 - i, by omega⟩
      rw [hf] at hsc
      refine ⟨fun k => ?_, fun k => ?_⟩ <;> simp only [decide_eq_true_eq, decide_eq_false_iff_not] at k
      · rw [List.drop_of_length_le (by omega)] at hsc
        rw [← hsc]
        exact ⟨rfl, rfl, rfl, rfl, rfl, rfl, rfl, trivial⟩
      · have hlt : i < b.length := by omega
        rw [drop_at b i hlt, hc] at hsc
        have b1 : (0 : Int) ≤ (i : Int) ∧ (i : Int) < (b.length : Int) := by omega
        refine ⟨b1, ?_⟩
        have h7 : (0 : Int) ≤ 7 * (i : Int) := by omega
        refine ⟨by rw [u64R]; omega, by rw [inR_i64]; omega, h7, b1, fun g => ?_, fun g => ?_⟩ <;> simp only [decide_eq_true_eq, decide_eq_false_iff_not] at g
        · have g : 128 ≤ c := by omega
          rw [scn, if_pos (by omega)] at hsc
          have em : c % 128 = c - 128 := by omega
          have key : ∃ a' : Nat, bitsI .or .u64 (a : Int) (shlI .u64 ((c % 128 : Nat) : Int) (7 * (i : Int))) = (a' : Int) ∧ a' < 18446744073709551616 ∧ (i + 1 ≤ 9 → a' < 128 ^ (i + 1)) ∧ scn (10 - (i + 1)) (i + 1) (a' : Int) (b.drop (i + 1)) = scan b := by
            rcases Nat.lt_or_ge i 9 with h9 | h9
            · obtain ⟨q1, q2⟩ := grp a (c % 128) i (by omega) ha (by omega) (by omega)
              refine ⟨_, q1, q2, fun _ => ?_, ?_⟩
              · have := Nat.mul_le_mul (show c % 128 ≤ 127 by omega) (Nat.le_refl (128 ^ i))
                rw [Nat.pow_succ]; omega
              · rw [← hsc, show 10 - (i + 1) = f by omega]
                congr 1
                rw [em]
                have : ((c - 128 : Nat) : Int) = (c : Int) - 128 := by omega
                rw [Int.natCast_add, Int.natCast_mul, this]
                simp
            · have hr : inR .u64 (bitsI .or .u64 (a : Int) (shlI .u64 ((c % 128 : Nat) : Int) (7 * (i : Int)))) := inR_wrap _ _
              rw [u64R] at hr
              refine ⟨(bitsI .or .u64 (a : Int) (shlI .u64 ((c % 128 : Nat) : Int) (7 * (i : Int)))).toNat, by omega, by omega, fun h => by omega, ?_⟩
              have hf0 : f = 0 := by omega
              subst hf0
              rw [← hsc, show 10 - (i + 1) = 0 by omega]
              rfl
          obtain ⟨a', k1, k2, k3, k4⟩ := key
          refine ⟨by rw [inR_i64]; omega, hm _ (i + 1, a') 0 ⟨by show i + 1 ≤ 10; omega, k3, k2, k4⟩ (by show 10 - (i + 1) < 10 - i; omega) ?_⟩
          dsimp only [go_sem]
          rw [k1]
          simp
        · have g : c < 128 := by omega
          have em : c % 128 = c := Nat.mod_eq_of_lt g
          rw [scn, if_neg (by omega)] at hsc
          rw [em]
          refine ⟨fun h => h, fun h => h, fun h => b1, fun h => h, fun h => h, fun h => h, fun h => h, fun h => h, fun h => h, fun h => h, fun h => b1, fun h => h, fun h => h, fun h => h, fun h h2 => ⟨h, h2⟩, fun h => h, fun h => ?_, fun h => ?_⟩
          · simp only [Bool.or_eq_true, Bool.and_eq_true, decide_eq_true_eq] at h
            rw [if_pos (by omega)] at hsc
            rw [← hsc]
            exact ⟨rfl, rfl, rfl, rfl, rfl, rfl, rfl, trivial⟩
          · simp only [Bool.or_eq_false_iff, Bool.and_eq_false_iff, decide_eq_false_iff_not] at h
            rw [if_neg (by omega)] at hsc
            obtain ⟨q1, q2⟩ := grp a c i (by omega) ha g (by omega)
            rw [q1, ← hsc]
            refine ⟨by rw [inR_i64]; omega, rfl, rfl, ?_, rfl, rfl, rfl, rfl, trivial⟩
            rw [Int.natCast_add, Int.natCast_mul]
            simp
    · have : i = 10 := by omega
      subst this
      have hsc : (0, 0, 2) = scan b := hsc
      rw [← hsc]
      exact ⟨rfl, rfl, rfl, rfl, rfl, rfl, rfl, trivial⟩
@[go_sem] noncomputable def EC6 : Env := (EC5).add 41 scS
theorem EC6_ok : EC6.Ok := (EC5_ok).add sc_ok
abbrev Rd := List Int × Int
def rU (s : Rd) (mx : Int) : Int × Rd :=
  if s.2 ≠ 0 then (0, s) else if (scan s.1).2.2 ≠ 0 then (0, ([], (scan s.1).2.2)) else if mx < (scan s.1).1 then (0, ([], 4)) else ((scan s.1).1, (s.1.drop (scan s.1).2.1.toNat, 0))
theorem scn_b : ∀ (f i : Nat) (a : Int) (l : List Int), (scn f i a l).2.2 = 0 → 0 ≤ (scn f i a l).2.1 ∧ (scn f i a l).2.1 ≤ (i : Int) + l.length
  | 0, i, a, l, h => by simp [scn] at h
  | f + 1, i, a, [], h => by simp [scn] at h
  | f + 1, i, a, c :: l, h => by
    unfold scn at h ⊢
    split at h
    · rename_i hc
      rw [if_pos hc]
      have := scn_b f (i + 1) _ l h
      rw [List.length_cons]
      omega
    · rename_i hc
      rw [if_neg hc]
      split at h
      · exact absurd h (by decide)
      · rename_i h2
        rw [if_neg h2, List.length_cons]
        refine ⟨?_, ?_⟩
        · show (0 : Int) ≤ (i : Int) + 1; omega
        · show (i : Int) + 1 ≤ _; omega
theorem scan_b (l : List Int) (h : (scan l).2.2 = 0) : 0 ≤ (scan l).2.1 ∧ (scan l).2.1 ≤ (l.length : Int) := by
  have := scn_b 10 0 0 l h
  unfold scan
  omega
def rRaw (s : Rd) (n : Int) : List Int × Rd :=
  if s.2 ≠ 0 then ([], s) else if (s.1.length : Int) < n then ([], ([], 3)) else (s.1.take n.toNat, (s.1.drop n.toNat, 0))
def rB (s : Rd) (mx : Int) : List Int × Rd :=
  if (rU s (max mx 0)).2.2 ≠ 0 then ([], (rU s (max mx 0)).2) else rRaw (rU s (max mx 0)).2 (rU s (max mx 0)).1
@[go_sem] def rfailM : MSpec := ⟨[.b 66 rdT, .d (.int .i64)], fun d => ⟨[(0, .box 66 (dA rdT ([], d.2.1) .nil))], 1, .tup .nil, []⟩⟩
theorem rfailM_ok : MSpecOk Try.prog 42 rfailM := by
  refine fnM_ok EC6_ok rfailM Try.func42 rfl (by decide) (N := 11) rfl (res := []) rfl (by decide) [] [] [] 100 (by kernel_rfl) ?_
  rintro ⟨s, (e:Int), _⟩ hw hp H hH
  dsimp only [go_sem] at hw hp ⊢
  simp
@[go_sem] def mfailM : MSpec := ⟨[.b 42 rdT, .d (.int .i64)], fun d => ⟨[(0, .box 42 (dA rdT ([], d.2.1) .nil))], 1, .tup .nil, []⟩⟩
theorem mfailM_ok : MSpecOk Try.prog 49 mfailM := by
  refine fnM_ok EC6_ok mfailM Try.func49 rfl (by decide) (N := 11) rfl (res := []) rfl (by decide) [] [] [] 100 (by kernel_rfl) ?_
  rintro ⟨s, (e:Int), _⟩ hw hp H hH
  dsimp only [go_sem] at hw hp ⊢
  simp
@[go_sem] def rErrM : MSpec := ⟨[.b 66 rdT], fun d => ⟨[(0, .box 66 (dA rdT d.1 .nil))], 1, .dat (.int .i64) d.1.2, []⟩⟩
theorem rErrM_ok : MSpecOk Try.prog 22 rErrM := by
  refine fnM_ok EC6_ok rErrM Try.func22 rfl (by decide) (N := 7) rfl (res := [.tmp 2]) rfl (by decide) [] [] [] 100 (by kernel_rfl) ?_
  rintro ⟨s, _⟩ hw hp H hH
  dsimp only [go_sem] at hw hp ⊢
  simp
@[go_sem] def rRemM : MSpec := ⟨[.b 66 rdT], fun d => ⟨[(0, .box 66 (dA rdT d.1 .nil))], 1, .dat (.int .i64) (List.length d.1.1 : Int), []⟩⟩
theorem rRemM_ok : MSpecOk Try.prog 21 rRemM := by
  refine fnM_ok EC6_ok rRemM Try.func21 rfl (by decide) (N := 8) rfl (res := [.tmp 2]) rfl (by decide) [] [] [] 100 (by kernel_rfl) ?_
  rintro ⟨s, _⟩ hw hp H hH
  dsimp only [go_sem] at hw hp ⊢
  simp
@[go_sem] def rNewM : MSpec := ⟨[.d bT], fun d => ⟨[(0, .box 66 (dA rdT (d.1, (0 : Int)) .nil))], 1, .ref 0 0, [List.length d.1 ≤ 1000000]⟩⟩
theorem rNewM_ok : MSpecOk Try.prog 20 rNewM := by
  refine fnM_ok EC6_ok rNewM Try.func20 rfl (by decide) (N := 7) rfl (res := [.tmp 2]) rfl (by decide) [(1, [(4, .fz 0)])] [] [] 100 (by kernel_rfl) ?_
  rintro ⟨b, _⟩ hw hp H hH
  dsimp only [go_sem] at hw hp ⊢
  simp only
  obtain ⟨hp, -⟩ := hp
  simp
  omega
theorem leA_nild {ck : List (Nat × CT)} {n n' : Nat} {t : Ty} {b : List t.den} : leA ck n n' (.val (.slice none 0 0)) (.dat (.slice t) b) = [([] : List t.den) = b] := rfl
theorem nilA_nild {mp : List (Nat × Nat)} {nx : Nat} {t : Ty} {b : t.den} : nilA mp nx (.val (.slice none 0 0)) (.dat t b) = .val (.slice none 0 0) := rfl
attribute [go_sem ↓] leA_nild nilA_nild
@[go_sem] noncomputable def EC7 : Env := (((((EC6).addM 42 rfailM).addM 49 mfailM).addM 22 rErrM).addM 21 rRemM).addM 20 rNewM
theorem EC7_ok : EC7.Ok := (((((EC6_ok).addM rfailM_ok).addM mfailM_ok).addM rErrM_ok).addM rRemM_ok).addM rNewM_ok
@[go_sem] def rUM : MSpec := ⟨[.b 66 rdT, .d (.int .u64)], fun d => ⟨[(0, .box 66 (dA rdT (rU d.1 d.2.1).2 .nil))], 1, .dat (.int .u64) (rU d.1 d.2.1).1, []⟩⟩
theorem rUM_ok : MSpecOk Try.prog 24 rUM := by
  refine fnM_ok EC7_ok rUM Try.func24 rfl (by decide) (N := 44) rfl (res := [.tmp 4]) rfl (by decide) [(7, [(33, .ow)])] [] [] 100 (by kernel_rfl) ?_
  rintro ⟨s, (mx:Int), _⟩ hw hp H hH
  dsimp only [go_sem] at hw hp ⊢
  obtain ⟨l, e⟩ := s
  change List Int at l
  change Int at e
  dsimp only
  have h1 := scan_b l
  generalize hsc : scan l = q at *
  obtain ⟨n, k, e2⟩ := q
  dsimp only at h1 ⊢
  simp only [decide_eq_true_eq, decide_eq_false_iff_not, Bool.and_eq_true, Bool.and_eq_false_iff, ne_eq, Decidable.not_not]
  have hr : rU (l, e) mx = if e ≠ 0 then (0, (l, e)) else if e2 ≠ 0 then (0, ([], e2)) else if mx < n then (0, ([], 4)) else (n, (l.drop k.toNat, 0)) := by
    unfold rU
    rw [hsc]
  refine ⟨fun h => ?_, fun h => ⟨fun h => h, fun h => h, fun h => h, fun g => ⟨fun _ => ?_, fun h => absurd h (by decide)⟩, fun g => ⟨fun g2 => ?_, fun g2 => ?_⟩⟩⟩
  · rw [if_pos h] at hr
    simp [hr]
  · rw [if_neg (by omega), if_neg (by omega), if_pos g.2] at hr
    simp [hr]
  · rw [if_neg (by omega), if_pos g2] at hr
    simp [hr]
  · rw [if_neg (by omega), if_neg (by omega), if_neg (by omega)] at hr
    refine ⟨h1 g2, ?_⟩
    rw [hr]
    simp [h]
@[go_sem] def rRawM : MSpec := ⟨[.b 66 rdT, .d (.int .i64)], fun d => ⟨[(0, .box 66 (dA rdT (rRaw d.1 (max d.2.1 0)).2 .nil))], 1, .dat bT (rRaw d.1 (max d.2.1 0)).1, [List.length d.1.1 ≤ 1000000]⟩⟩
theorem rRawM_ok : MSpecOk Try.prog 32 rRawM := by
  refine fnM_ok EC7_ok rRawM Try.func32 rfl (by decide) (N := 39) rfl (res := [.tmp 4]) rfl (by decide) [(6, [(21, .ow)]), (8, [(28, .fz 1)])] [] [] 100 (by kernel_rfl) ?_
  rintro ⟨s, (mx:Int), _⟩ hw hp H hH
  dsimp only [go_sem] at hw hp ⊢
  obtain ⟨hp, -⟩ := hp
  obtain ⟨l, e⟩ := s
  change List Int at l
  change Int at e
  dsimp only at hp ⊢
  simp only [decide_eq_true_eq, decide_eq_false_iff_not, ne_eq, Decidable.not_not]
  have hlt : ∀ n, (List.take n l).length ≤ l.length := fun n => by rw [List.length_take]; omega
  refine ⟨fun h => ?_, fun h => ⟨fun g => ⟨fun g2 => ?_, fun g2 => ?_⟩, fun g => ⟨fun g2 => ?_, fun g2 => ?_⟩⟩⟩
  · simp [rRaw, h]
  · omega
  · have hm : max mx 0 = 0 := by omega
    subst h
    have := hlt (Int.toNat 0)
    have e1 : rRaw (l, 0) 0 = (l.take (Int.toNat 0), (l.drop (Int.toNat 0), 0)) := by
      unfold rRaw
      rw [if_neg (by simp), if_neg (by show ¬ ((l.length : Int) < 0); omega)]
    rw [hm, e1]
    refine ⟨⟨Int.le_refl _, by omega⟩, by omega, ⟨Int.le_refl _, by omega⟩, ?_⟩
    simp
  · have hm : max mx 0 = mx := by omega
    subst h
    have e1 : rRaw (l, 0) mx = ([], ([], 3)) := by
      unfold rRaw
      rw [if_neg (by simp), if_pos (by exact g2)]
    rw [hm, e1]
    simp
  · have hm : max mx 0 = mx := by omega
    subst h
    have := hlt mx.toNat
    have e1 : rRaw (l, 0) mx = (l.take mx.toNat, (l.drop mx.toNat, 0)) := by
      unfold rRaw
      rw [if_neg (by simp), if_neg (by exact g2)]
    rw [hm, e1]
    refine ⟨⟨by omega, by omega⟩, by omega, ⟨by omega, by omega⟩, ?_⟩
    simp
@[go_sem] noncomputable def EC8 : Env := ((EC7).addM 24 rUM).addM 32 rRawM
theorem EC8_ok : EC8.Ok := ((EC7_ok).addM rUM_ok).addM rRawM_ok
theorem scn_n : ∀ (f i : Nat) (a : Int) (l : List Int), (∀ x ∈ l, inR .u8 x) → 0 ≤ a → 0 ≤ (scn f i a l).1
  | 0, i, a, l, _, _ => Int.le_refl _
  | f + 1, i, a, [], _, _ => Int.le_refl _
  | f + 1, i, a, c :: l, h, ha => by
    have hc := h c (List.mem_cons_self ..)
    rw [u8R] at hc
    have hp : (0 : Int) ≤ 128 ^ i := Int.le_of_lt (Int.pow_pos (by decide))
    unfold scn
    split
    · exact scn_n f (i + 1) _ l (fun x hx => h x (List.mem_cons_of_mem _ hx)) (Int.add_nonneg ha (Int.mul_nonneg (by omega) hp))
    · split
      · exact Int.le_refl _
      · exact Int.add_nonneg ha (Int.mul_nonneg hc.1 hp)
theorem rU_n {s : Rd} {mx : Int} (h : ∀ x ∈ s.1, inR .u8 x) (hm : 0 ≤ mx) : 0 ≤ (rU s mx).1 ∧ (rU s mx).1 ≤ mx := by
  have := scn_n 10 0 0 s.1 h (Int.le_refl _)
  unfold rU
  split
  · exact ⟨Int.le_refl _, hm⟩
  · split
    · exact ⟨Int.le_refl _, hm⟩
    · split
      · exact ⟨Int.le_refl _, hm⟩
      · exact ⟨this, by show (scan s.1).1 ≤ mx; omega⟩
theorem rU_len {s : Rd} {mx : Int} : (rU s mx).2.1.length ≤ s.1.length := by
  unfold rU
  split
  · exact Nat.le_refl _
  · split
    · exact Nat.zero_le _
    · split
      · exact Nat.zero_le _
      · show (List.drop _ _).length ≤ _
        rw [List.length_drop]; omega
theorem rU_by {s : Rd} {mx : Int} (h : ∀ x ∈ s.1, inR .u8 x) : ∀ x ∈ (rU s mx).2.1, inR .u8 x := by
  unfold rU
  split
  · exact h
  · split
    · intro x hx; cases hx
    · split
      · intro x hx; cases hx
      · intro x hx
        exact h x (List.mem_of_mem_drop hx)
theorem rB_def {s : Rd} {mx m : Int} (hm : max mx 0 = m) (hb : ∀ x ∈ s.1, inR .u8 x) : rB s mx = if (rU s m).2.2 ≠ 0 then ([], (rU s m).2) else rRaw (rU s m).2 (max (rU s m).1 0) := by
  have h := rU_n (mx := m) hb (by omega)
  unfold rB
  rw [hm]
  rw [show max (rU s m).1 0 = (rU s m).1 by omega]
@[go_sem] def rBM : MSpec := ⟨[.b 66 rdT, .d (.int .i64)], fun d => ⟨[(0, .box 66 (dA rdT (rB d.1 d.2.1).2 .nil))], 1, .dat bT (rB d.1 d.2.1).1, [List.length d.1.1 ≤ 1000000]⟩⟩
theorem rBM_ok : MSpecOk Try.prog 25 rBM := by
  refine fnM_ok EC8_ok rBM Try.func25 rfl (by decide) (N := 21) rfl (res := [.tmp 4]) rfl (by decide) [(3, [(11, .ow)]), (6, [(20, .ow)])] [] [] 100 (by kernel_rfl) ?_
  rintro ⟨s, (mx:Int), _⟩ hw hp H hH
  dsimp only [go_sem] at hw hp ⊢
  obtain ⟨hp, -⟩ := hp
  obtain ⟨⟨⟨-, hby⟩, -⟩, hmx, -⟩ := hw
  change ∀ x ∈ s.1, inR .u8 x at hby
  rw [inR_i64] at hmx
  simp only [decide_eq_true_eq, decide_eq_false_iff_not, ne_eq, Decidable.not_not]
  have hl (m : Int) : (rU s m).2.1.length ≤ 1000000 := Nat.le_trans rU_len hp
  have key (m : Int) (hm : max mx 0 = m) : inR .u64 m ∧ inR .i64 (rU s m).1 := by
    have := rU_n (mx := m) hby (by omega)
    rw [u64R, inR_i64]
    omega
  have fin (m : Int) (hm : max mx 0 = m) (h : ¬ (rU s m).2.2 = 0) : rB s mx = ([], (rU s m).2) := by
    rw [rB_def hm hby, if_pos h]
  have fin2 (m : Int) (hm : max mx 0 = m) (h : (rU s m).2.2 = 0) : rB s mx = rRaw (rU s m).2 (max (rU s m).1 0) := by
    rw [rB_def hm hby, if_neg (by omega)]
  refine ⟨fun h => ⟨(key 0 (by omega)).1, fun g => ?_, fun g => ⟨(key 0 (by omega)).2, hl 0, ?_⟩⟩, fun h => ⟨(key mx (by omega)).1, fun g => ?_, fun g => ⟨(key mx (by omega)).2, hl mx, ?_⟩⟩⟩
  · rw [fin 0 (by omega) g]; simp
  · rw [fin2 0 (by omega) g]; simp
  · rw [fin mx (by omega) g]; simp
  · rw [fin2 mx (by omega) g]; simp
@[go_sem] noncomputable def EC9 : Env := (EC8).addM 25 rBM
theorem EC9_ok : EC9.Ok := (EC8_ok).addM rBM_ok
end Go.Proofs.Ytadoinponngdiaa.Gx
