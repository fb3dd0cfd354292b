/-
  Encoders: numbers and byte strings.
-/
import Derived.Test.YtadoinponngdiaaCB
import Derived.Test.YtadoinponngdiaaO2
namespace Go.Proofs.Ytadoinponngdiaa.Gx
open Go Go.RowKit Tw B Nt
set_option linter.unusedVariables false
set_option linter.unusedSimpArgs false
set_option maxHeartbeats 4000000
set_option maxRecDepth 20000
@[reducible, go_sem] def bT : Ty := .slice (.int .u8)
/-- groups of seven bits -/
def eU (n : Nat) : List Int := if n < 128 then [(n : Int)] else ((n % 128 + 128 : Nat) : Int) :: eU (n / 128)
theorem eU_lt {n : Nat} (h : n < 128) : eU n = [(n : Int)] := by rw [eU, if_pos h]
theorem eU_ge {n : Nat} (h : 128 ≤ n) : eU n = ((n % 128 + 128 : Nat) : Int) :: eU (n / 128) := by rw [eU, if_neg (by omega)]
theorem eU_len : ∀ {k n : Nat}, n < 128 ^ (k + 1) → (eU n).length ≤ k + 1
  | 0, n, h => by rw [eU_lt (by omega)]; simp
  | k + 1, n, h => by
    rcases Nat.lt_or_ge n 128 with h1 | h1
    · rw [eU_lt h1]; simp
    · rw [eU_ge h1, List.length_cons]
      have := eU_len (k := k) (n := n / 128) (Nat.div_lt_of_lt_mul (by rw [Nat.pow_succ] at h; omega))
      omega
def eB (b : List Int) : List Int := eU b.length ++ b
/-- a result of one's own as a datum -/
theorem own_dat {P : Program} {f : FuncId} {args : Array Value} {w : World} {X : Nat → Prop} {ρ : List Value} {T : TypeId} {u : Ty} {l : List u.den} (hX : ∀ b, X b → b < w.heap.size)
    (h : Calls P f args w (fun e w' => ∃ v ρ', e = .returned v ∧ Fr w X [] 0 ⟨[], [(0, .row T u l)], 1⟩ ρ' act0 w' ∧ m ρ' (XX X ρ' [(0, .row T u l)]) w' (.own 0) [v])) :
    Calls P f args w (fun e w' => ∃ v, e = .returned v ∧ m ρ X w' (.dat (.slice u) l) [v] ∧ Below w.heap.size w w') := by
  refine h.mono fun e w' ⟨v, ρ', h1, h2, h3⟩ => ⟨v, h1, ?_, h2.kp.to_below⟩
  obtain ⟨v', g1, g2, g3⟩ := h3
  have g3 := (List.cons.inj g3).1
  subst g3
  have hc := h2.cs (0, .row T u l) (by simp)
  obtain ⟨v2, xs, q1, q2, q3, q4⟩ := hc
  rw [g1] at q1
  cases q1
  refine dat_own q2 q3 (fun b hb hx => ?_) (fun i x hx => rep_anti (q4 i x hx) fun b hb => .inl (.inl hb))
  have := (h2.bl (0, .row T u l) (by simp) b (by rw [blkO_of g1]; exact hb)).2
  rcases this with h' | h'
  · have := hX b hx; omega
  · exact inB_nil h'
theorem fr_init {w : World} {X : Nat → Prop} : Fr w X [] 0 ⟨[], [], 0⟩ [] act0 w :=
  ⟨rfl, rfl, Kept.refl w, rfl, List.nodup_nil, (fun x hx => by cases hx), (fun x hx => by cases hx), (fun x hx => by cases hx), (fun x hx => by cases hx), (fun t x hx => by cases hx), ⟨fun b hb => (inB_nil hb).elim, Nat.le_refl _, fun x hx => by cases hx⟩⟩
theorem spec_own1 {P : Program} {f : FuncId} {t u : Ty} {T : TypeId} {g : t.den → List u.den} {pre : t.den → List Prop} (h : MSpecOk P f ⟨[.d t], fun d => ⟨[(0, .row T u (g d.1))], 1, .own 0, pre d.1⟩⟩) : SpecOk P f ⟨[t], fun d => (.dat (.slice u) (g d.1), pre d.1)⟩ := by
  intro d hp
  obtain ⟨h1, h2⟩ := h d hp
  refine ⟨h1, fun ρ X w vs hX hm => own_dat hX (h2 [] X w vs hX fr_init ?_)⟩
  have e : XX X [] (mCks [PK.d t] d 0) = X := by
    funext b
    simp [XX, mCks]
  show m [] (XX X [] (mCks [PK.d t] d 0)) w (mArgs [PK.d t] d 0) vs
  rw [e]
  exact hm
@[go_sem] def eUM : MSpec := ⟨[.d (.int .u64)], fun d => ⟨[(0, .row 5 (.int .u8) (eU (Int.toNat d.1)))], 1, .own 0, []⟩⟩
theorem eUM_ok : MSpecOk Try.prog 11 eUM := by
  refine fnM_ok E6_ok eUM Try.func11 rfl (by decide) (N := 20) rfl (res := [.tmp 2]) rfl (by decide) [(3, [(11, .dt)]), (5, [(18, .dt)])] [] [] 100 (by kernel_rfl) ?_
  rintro ⟨(n:Int), _⟩ hw hp H hH
  dsimp only [go_sem] at hw hp ⊢
  obtain ⟨hn, -⟩ := hw
  simp only [inR, lo, hi] at hn
  obtain ⟨k, rfl⟩ : ∃ k : Nat, n = (k : Int) := ⟨n.toNat, by omega⟩
  have hlen : (eU k).length ≤ 10 := eU_len (k := 9) (by omega)
  refine hH.loop (fun x : Nat × List Int => ⟨[(0, .dat (.int .u64) (x.1 : Int)), (3, .own 0)], [(0, .row 5 (.int .u8) x.2)], 1⟩) (fun x => x.1 ≤ k ∧ x.2 ++ eU x.1 = eU k) (fun x => x.1) (k, []) 0 ⟨Nat.le_refl _, rfl⟩ ?_ ?_
  · dsimp only [go_sem]
    simp
  · rintro ⟨m, b⟩ ⟨hm1, hb⟩ R hm
    have hm1 : m ≤ k := hm1
    have hb : b ++ eU m = eU k := hb
    have hl := congrArg List.length hb
    rw [List.length_append] at hl
    refine hH.run 100 _ _ ?_
    dsimp only [go_sem]
    rw [u64_and127 m (by omega), u8_or128 (m % 128) (by omega), shr7]
    refine ⟨fun c => ?_, fun c => ?_⟩ <;> simp only [decide_eq_true_eq, decide_eq_false_iff_not] at c
    · have c : 128 ≤ m := by omega
      refine ⟨by simp only [inR, lo, hi]; omega, by show (b.length + 1) * 1 ≤ _; omega, rfl, by decide, hm _ (m / 128, b ++ [((m % 128 + 128 : Nat) : Int)]) 1 ⟨by show m / 128 ≤ k; omega, ?_⟩ (by show m / 128 < m; omega) ?_⟩
      · show (b ++ [((m % 128 + 128 : Nat) : Int)]) ++ eU (m / 128) = eU k
        rw [List.append_assoc, ← hb, eU_ge c]
        rfl
      · dsimp only [go_sem]
        simp
    · have c : m < 128 := by omega
      rw [eU_lt c] at hb
      rw [Int.toNat_natCast]
      refine ⟨by simp only [inR, lo, hi]; omega, by show (b.length + 1) * 1 ≤ _; omega, ?_⟩
      simp [hb]
@[go_sem] def eUS : Spec := ⟨[.int .u64], fun d => (.dat bT (eU (Int.toNat d.1)), [])⟩
theorem eU_ok : SpecOk Try.prog 11 eUS := spec_own1 (t := .int .u64) (u := .int .u8) (g := fun n => eU (Int.toNat n)) (pre := fun _ => []) eUM_ok
@[go_sem] def reUM : MSpec := ⟨[.d (.int .u64)], fun d => ⟨[(0, .row 5 (.int .u8) (eU (Int.toNat d.1)))], 1, .own 0, []⟩⟩
theorem reUM_ok : MSpecOk Try.prog 12 reUM := by
  refine fnM_ok E6_ok reUM Try.func12 rfl (by decide) (N := 19) rfl (res := [.tmp 2]) rfl (by decide) [(3, [(8, .wr), (10, .dt)]), (5, [(17, .dt)])] [] [] 100 (by kernel_rfl) ?_
  rintro ⟨(n:Int), _⟩ hw hp H hH
  dsimp only [go_sem] at hw hp ⊢
  obtain ⟨hn, -⟩ := hw
  simp only [inR, lo, hi] at hn
  obtain ⟨k, rfl⟩ : ∃ k : Nat, n = (k : Int) := ⟨n.toNat, by omega⟩
  have hlen : (eU k).length ≤ 10 := eU_len (k := 9) (by omega)
  refine hH.loop (fun x : Nat × List Int => ⟨[(0, .dat (.int .u64) (x.1 : Int)), (3, .own 0)], [(0, .row 5 (.int .u8) x.2)], 1⟩) (fun x => x.1 ≤ k ∧ x.2 ++ eU x.1 = eU k) (fun x => x.1) (k, []) 0 ⟨Nat.le_refl _, rfl⟩ ?_ ?_
  · dsimp only [go_sem]
    simp
  · rintro ⟨m, b⟩ ⟨hm1, hb⟩ R hm
    have hm1 : m ≤ k := hm1
    have hb : b ++ eU m = eU k := hb
    have hl := congrArg List.length hb
    rw [List.length_append] at hl
    refine hH.run 100 _ _ ?_
    dsimp only [go_sem]
    have ew : bitsI .or .u8 (IntKind.u8.wrap (m : Int)) 128 = ((m % 128 + 128 : Nat) : Int) := by
      rw [wrap_u8]
      have h1 := u8_or (m % 256) 128 (by omega) (by decide)
      have h2 : m % 256 ||| 128 = m % 128 + 128 := by
        have e : m % 256 = m / 128 % 2 * 2 ^ 7 + m % 128 := by omega
        rcases Nat.mod_two_eq_zero_or_one (m / 128) with hz | hz
        · rw [e, hz, Nat.zero_mul, Nat.zero_add]; exact or_add' 1 (m % 128) 7 (by omega)
        · rw [e, hz, Nat.one_mul, ← or_add 1 (m % 128) 7 (by omega), Nat.or_comm _ 128, ← Nat.or_assoc]
          show (128 ||| 1 * 2 ^ 7) ||| m % 128 = _
          rw [show (128 ||| 1 * 2 ^ 7 : Nat) = 1 * 2 ^ 7 by decide, or_add 1 (m % 128) 7 (by omega)]
          omega
      rw [h2] at h1
      exact h1
    rw [ew, shr7]
    refine ⟨fun c => ?_, fun c => ?_⟩ <;> simp only [decide_eq_true_eq, decide_eq_false_iff_not] at c
    · have c : 128 ≤ m := by omega
      refine ⟨by show (b.length + 1) * 1 ≤ _; omega, rfl, by decide, hm _ (m / 128, b ++ [((m % 128 + 128 : Nat) : Int)]) 1 ⟨by show m / 128 ≤ k; omega, ?_⟩ (by show m / 128 < m; omega) ?_⟩
      · show (b ++ [((m % 128 + 128 : Nat) : Int)]) ++ eU (m / 128) = eU k
        rw [List.append_assoc, ← hb, eU_ge c]
        rfl
      · dsimp only [go_sem]
        simp
    · have c : m < 128 := by omega
      rw [eU_lt c] at hb
      rw [Int.toNat_natCast]
      refine ⟨by simp only [inR, lo, hi]; omega, by show (b.length + 1) * 1 ≤ _; omega, ?_⟩
      simp [hb]
@[go_sem] def reUS : Spec := ⟨[.int .u64], fun d => (.dat bT (eU (Int.toNat d.1)), [])⟩
theorem reU_ok : SpecOk Try.prog 12 reUS := spec_own1 (t := .int .u64) (u := .int .u8) (g := fun n => eU (Int.toNat n)) (pre := fun _ => []) reUM_ok
@[go_sem] noncomputable def EC1 : Env := ((((E6).addM 11 eUM).add 11 eUS).addM 12 reUM).add 12 reUS
theorem EC1_ok : EC1.Ok := ((((E6_ok).addM eUM_ok).add eU_ok).addM reUM_ok).add reU_ok
theorem eU_len10 (n : Nat) (h : n < 18446744073709551616) : (eU n).length ≤ 10 := eU_len (k := 9) (by omega)
@[go_sem] def eBM : MSpec := ⟨[.d bT], fun d => ⟨[(0, .row 5 (.int .u8) (eB d.1))], 1, .own 0, [List.length d.1 ≤ 1000000]⟩⟩
theorem eBM_ok : MSpecOk Try.prog 13 eBM := by
  refine fnM_ok EC1_ok eBM Try.func13 rfl (by decide) (N := 9) rfl (res := [.tmp 2]) rfl (by decide) [(1, [(6, .ow)])] [] [] 100 (by kernel_rfl) ?_
  rintro ⟨b, _⟩ hw hp H hH
  dsimp only [go_sem] at hw hp ⊢
  obtain ⟨hp, -⟩ := hp
  change List Int at b
  have h10 := eU_len10 b.length (by omega)
  rw [Int.toNat_natCast]
  refine ⟨by simp only [inR, lo, hi]; omega, by omega, ?_⟩
  simp [eB]
@[go_sem] def eBS : Spec := ⟨[bT], fun d => (.dat bT (eB d.1), [List.length d.1 ≤ 1000000])⟩
theorem eB_ok : SpecOk Try.prog 13 eBS := spec_own1 (t := bT) (u := .int .u8) (g := fun n => eB n) (pre := fun b => [List.length b ≤ 1000000]) eBM_ok
@[go_sem] def reBM : MSpec := ⟨[.d bT], fun d => ⟨[(0, .row 5 (.int .u8) (eB d.1))], 1, .own 0, [List.length d.1 ≤ 1000000]⟩⟩
theorem reBM_ok : MSpecOk Try.prog 14 reBM := by
  refine fnM_ok EC1_ok reBM Try.func14 rfl (by decide) (N := 9) rfl (res := [.tmp 2]) rfl (by decide) [(1, [(6, .ow)])] [] [] 100 (by kernel_rfl) ?_
  rintro ⟨b, _⟩ hw hp H hH
  dsimp only [go_sem] at hw hp ⊢
  obtain ⟨hp, -⟩ := hp
  change List Int at b
  have h10 := eU_len10 b.length (by omega)
  rw [Int.toNat_natCast]
  refine ⟨by simp only [inR, lo, hi]; omega, by omega, ?_⟩
  simp [eB]
@[go_sem] def reBS : Spec := ⟨[bT], fun d => (.dat bT (eB d.1), [List.length d.1 ≤ 1000000])⟩
theorem reB_ok : SpecOk Try.prog 14 reBS := spec_own1 (t := bT) (u := .int .u8) (g := fun n => eB n) (pre := fun b => [List.length b ≤ 1000000]) reBM_ok
@[go_sem] noncomputable def EC2 : Env := ((((EC1).addM 13 eBM).add 13 eBS).addM 14 reBM).add 14 reBS
theorem EC2_ok : EC2.Ok := ((((EC1_ok).addM eBM_ok).add eB_ok).addM reBM_ok).add reB_ok
end Go.Proofs.Ytadoinponngdiaa.Gx
