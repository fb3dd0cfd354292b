/-
  Numbers and fractions as data.
-/
import Derived.Test.YtfidddcjieoblaaMGc
import Derived.Test.YtfidddcjieoblaaMQ
namespace Go.Proofs.Ytfidddcjieoblaa.Gx
open Go Go.RowKit Tw B Nt
set_option linter.unusedVariables false

abbrev nT : Ty := .slice (.int .u32)
abbrev fT : Ty := .pair .bool (.pair (.slice (.int .u32)) (.slice (.int .u32)))
/-- the digits of a number -/
def dgF : Nat → Nat → List Int
  | 0, _ => []
  | f + 1, n => if n = 0 then [] else ((n % 4294967296 : Nat) : Int) :: dgF f (n / 4294967296)
def dg (n : Int) : List Int := dgF n.toNat n.toNat
theorem dgF_ok : ∀ (f n : Nat), n ≤ f → N (dgF f n) = (n : Int) ∧ Canon (dgF f n)
  | 0, n, h => by
    have : n = 0 := by omega
    subst this
    exact ⟨rfl, Canon.nil⟩
  | f + 1, n, h => by
    unfold dgF
    by_cases hn : n = 0
    · rw [if_pos hn, hn]; exact ⟨rfl, Canon.nil⟩
    · rw [if_neg hn]
      obtain ⟨h1, h2⟩ := dgF_ok f (n / 4294967296) (by omega)
      refine ⟨?_, Ds.cons (by omega) h2.1, ?_⟩
      · show ((n % 4294967296 : Nat) : Int) + 4294967296 * N (dgF f (n / 4294967296)) = (n : Int)
        rw [h1]; omega
      · rw [List.getLast?_cons]
        by_cases hz : n / 4294967296 = 0
        · have : dgF f (n / 4294967296) = [] := by rw [hz]; cases f <;> rfl
          rw [this]
          simp only [List.getLast?_nil, Option.getD_none, ne_eq, Option.some.injEq]
          omega
        · have hne : dgF f (n / 4294967296) ≠ [] := by
            intro e
            rw [e] at h1
            have : ((n / 4294967296 : Nat) : Int) = 0 := h1.symm
            omega
          have h3 := h2.2
          cases hl : (dgF f (n / 4294967296)).getLast? with
          | none => exact absurd (List.getLast?_eq_none_iff.1 hl) hne
          | some x =>
            rw [hl] at h3
            simpa using h3
theorem N_dg {n : Int} (h : 0 ≤ n) : N (dg n) = n := by
  have := (dgF_ok n.toNat n.toNat (Nat.le_refl _)).1
  unfold dg
  omega
theorem canon_dg (n : Int) : Canon (dg n) := (dgF_ok n.toNat n.toNat (Nat.le_refl _)).2
theorem dg_of {l : List Int} (h : Canon l) : dg (N l) = l := (canon_dg _).inj h (N_dg (N_nonneg h.1))
theorem dg_len {n : Int} {c : Nat} (h0 : 0 ≤ n) (h : n < Bp c) : (dg n).length ≤ c := (canon_dg n).len c (by rw [N_dg h0]; exact h)

theorem inR_u32 {n : Int} : inR .u32 n ↔ 0 ≤ n ∧ n < 4294967296 := by simp only [inR, lo, hi]; omega
theorem wf_of_inR {k : IntKind} {n : Int} (h : inR k n) : (Lit.int k n).wf = true := by
  cases k <;> simp only [inR, lo, hi] at h <;> simp [Lit.wf, IntKind.min, IntKind.max, IntKind.signed, IntKind.bits] <;> omega
theorem inR_of_wf {k : IntKind} {n : Int} (h : (Lit.int k n).wf = true) : inR k n := by
  cases k <;> simp [Lit.wf, IntKind.min, IntKind.max, IntKind.signed, IntKind.bits] at h <;> simp only [inR, lo, hi] <;> omega
/-- a row of integers -/
theorem row_of {k : IntKind} {X : Nat → Prop} {w : World} {v : Value} {l : List Int} (h : rep (.slice (.int k)) X w [v] l) : Row k w v l := by
  obtain ⟨a, cap, e, h2, h3, h4, h5⟩ := h
  have e := (List.cons.inj e).1
  subst e
  have hel : ∀ i, i < l.length → ∃ b off, a = some ⟨b, off, none⟩ ∧ w.cell? ⟨b, off + i, none⟩ = some (.int k (l.getD i 0)) ∧ inR k (l.getD i 0) := by
    intro i hi
    obtain ⟨b, off, C, T, f, ha, _, hb, hr⟩ := h5 (by intro e; rw [e] at hi; simp at hi)
    obtain ⟨q1, q2⟩ := hr i (l.getD i 0) (by simp [hi])
    refine ⟨b, off, ha, ?_, q2⟩
    simp only [Ty.size, Nat.mul_one] at q1
    have hq : (C.toList.drop (off + i))[0]? = some (.int k (l.getD i 0)) := by
      have := congrArg (fun l => l[0]?) q1
      simpa [List.getElem?_take] using this
    rw [List.getElem?_drop] at hq
    simpa [World.cell?, hb] using hq
  refine ⟨a, cap, rfl, h2, h3, h4, fun n hn => ?_, fun hne => ?_⟩
  · obtain ⟨i, hi, rfl⟩ := List.mem_iff_getElem.1 hn
    obtain ⟨_, _, _, _, q⟩ := hel i hi
    have : l.getD i 0 = l[i] := by simp [hi]
    rw [this] at q
    exact wf_of_inR q
  · have hpos : 0 < l.length := List.length_pos_iff.2 hne
    obtain ⟨b, off, ha, _⟩ := hel 0 hpos
    refine ⟨b, off, ha, fun i hi => ?_⟩
    obtain ⟨b', off', ha', q, _⟩ := hel i hi
    rw [ha] at ha'
    cases ha'
    exact q
theorem rep_of_row {k : IntKind} {t : TypeId} {base : Nat} {X : Nat → Prop} {w : World} {v : Value} {l : List Int} (h : Row k w v l) (hf : Fresh t base w v) (hX : ∀ b, X b → b < base) : rep (.slice (.int k)) X w [v] l := by
  obtain ⟨a, cap, rfl, h2, h3, h4, h5, h6⟩ := h
  refine ⟨a, cap, rfl, h2, h3, h4, fun hne => ?_⟩
  obtain ⟨b, off, rfl, hc⟩ := h6 hne
  obtain ⟨g1, C, g2⟩ := hf b off none _ _ rfl
  refine ⟨b, off, C, t, _, rfl, fun hx => ?_, g2, fun i x hx => ?_⟩
  · have := hX b hx; omega
  · have hi : i < l.length := by
      rcases Nat.lt_or_ge i l.length with h | h
      · exact h
      · rw [List.getElem?_eq_none h] at hx; cases hx
    have := hc i hi
    have hxe : l.getD i 0 = x := by simp [hx]
    rw [hxe] at this
    refine ⟨?_, inR_of_wf (h5 x (List.mem_of_getElem? hx))⟩
    simp only [Ty.size, Nat.mul_one]
    have hq : C.toList[off + i]? = some (.int k x) := by simpa [World.cell?, g2] using this
    have hlt : off + i < C.toList.length := by
      rcases Nat.lt_or_ge (off + i) C.toList.length with h | h
      · exact h
      · rw [List.getElem?_eq_none h] at hq; cases hq
    rw [List.drop_eq_getElem_cons hlt, List.take_succ_cons, List.take_zero]
    rw [List.getElem?_eq_getElem hlt] at hq
    rw [Option.some.inj hq]
section
variable {ρ : List Value} {X : Nat → Prop} {w : World}
theorem num_of {v : Value} {l : List Int} (h : m ρ X w (.dat nT l) [v]) (c : Nat) (hc : l.length ≤ c) : Num w v c (N l) := ⟨l, row_of (rep_of_dat rfl h), hc, rfl⟩
theorem ds_of {v : Value} {l : List Int} (h : m ρ X w (.dat nT l) [v]) : Ds l := Nt.Row.ds (row_of (rep_of_dat rfl h))
theorem dat_of_new {base : Nat} {v : Value} {n : Int} (h : IsNew base w v n) (hX : ∀ b, X b → b < base) : m ρ X w (.dat nT (dg n)) [v] := by
  obtain ⟨l, h1, h2, h3, h4⟩ := h
  have : dg n = l := by rw [← h3]; exact dg_of h2
  rw [this]
  exact dat_of_rep rfl (rep_of_row h1 h4 hX)
/-- the rational number of a fraction -/
def fq (f : fT.den) : Rat := mk f.1 (N f.2.1) (N f.2.2)
/-- its canonical form -/
def qf (q : Rat) : fT.den := (decide (q.num < 0), dg (q.num.natAbs : Int), dg (q.den : Int))
/-- its size in digits -/
def fs (f : fT.den) : Nat := max f.2.1.length f.2.2.length
theorem fq_qf (q : Rat) : fq (qf q) = q := by
  unfold fq qf
  rw [N_dg (by omega), N_dg (by omega)]
  exact mk_self q
theorem dat_pair {t u : Ty} {a : t.den} {b : u.den} {vs : List Value} (h : m ρ X w (.dat (.pair t u) (a, b)) [.agg vs.toArray]) : rep t X w (vs.take t.size) a ∧ rep u X w (vs.drop t.size) b := by
  obtain ⟨cs, h1, h2⟩ := h
  have h2 := (List.cons.inj h2).1
  simp only [Ty.wrap, Ty.isAgg, if_true, Value.agg.injEq] at h2
  have : vs = cs := by simpa using congrArg Array.toList h2
  rw [this]
  exact h1
theorem frac_form {v : Value} {f : fT.den} (h : m ρ X w (.dat fT f) [v]) : ∃ vn vd, v = .agg #[.bool f.1, vn, vd] ∧ m ρ X w (.dat nT f.2.1) [vn] ∧ m ρ X w (.dat nT f.2.2) [vd] := by
  obtain ⟨cs, h1, h2⟩ := h
  have hl := rep_len h1
  have h2 := (List.cons.inj h2).1
  match cs, hl with
  | [a, b, c], _ =>
    obtain ⟨q1, q2, q3⟩ := h1
    have q1 : [a] = [Value.bool f.1] := q1
    cases q1
    exact ⟨b, c, by rw [h2]; simp [Ty.wrap, Ty.isAgg], dat_of_rep rfl q2, dat_of_rep rfl q3⟩
theorem frac_of {vn vd : Value} {f : fT.den} (h1 : m ρ X w (.dat nT f.2.1) [vn]) (h2 : m ρ X w (.dat nT f.2.2) [vd]) : m ρ X w (.dat fT f) [.agg #[.bool f.1, vn, vd]] :=
  ⟨[.bool f.1, vn, vd], ⟨rfl, rep_of_dat rfl h1, rep_of_dat rfl h2⟩, by simp [Ty.wrap, Ty.isAgg]⟩
theorem raw_of {v : Value} {f : fT.den} (h : m ρ X w (.dat fT f) [v]) (c : Nat) (hc : fs f ≤ c) : Raw w v c (fq f) := by
  obtain ⟨vn, vd, e, h1, h2⟩ := frac_form h
  have hc1 : f.2.1.length ≤ c := Nat.le_trans (Nat.le_max_left _ _) hc
  have hc2 : f.2.2.length ≤ c := Nat.le_trans (Nat.le_max_right _ _) hc
  exact ⟨f.1, vn, vd, _, _, e, num_of h1 c hc1, num_of h2 c hc2, rfl⟩
theorem dat_of_q {base : Nat} {v : Value} {q : Rat} (h : IsQ base w v q) (hX : ∀ b, X b → b < base) : m ρ X w (.dat fT (qf q)) [v] := by
  obtain ⟨vn, vd, rfl, h1, h2⟩ := h
  exact frac_of (f := qf q) (dat_of_new h1 hX) (dat_of_new h2 hX)

/-! calls -/
theorem args1 {t : Ty} {a : t.den} {vs : List Value} (h : m ρ X w (.cons (.dat t a) .nil) vs) : ∃ x, vs = [x] ∧ m ρ X w (.dat t a) [x] := by
  obtain ⟨v, us, rfl, h1, h2⟩ := h
  have h2 : us = [] := h2
  subst h2
  exact ⟨v, rfl, h1⟩
theorem args2 {t u : Ty} {a : t.den} {b : u.den} {vs : List Value} (h : m ρ X w (.cons (.dat t a) (.cons (.dat u b) .nil)) vs) : ∃ x y, vs = [x, y] ∧ m ρ X w (.dat t a) [x] ∧ m ρ X w (.dat u b) [y] := by
  obtain ⟨v, us, rfl, h1, h2⟩ := h
  obtain ⟨y, rfl, h3⟩ := args1 h2
  exact ⟨v, y, rfl, h1, h3⟩
theorem args3 {t u s : Ty} {a : t.den} {b : u.den} {c : s.den} {vs : List Value} (h : m ρ X w (.cons (.dat t a) (.cons (.dat u b) (.cons (.dat s c) .nil))) vs) : ∃ x y z, vs = [x, y, z] ∧ m ρ X w (.dat t a) [x] ∧ m ρ X w (.dat u b) [y] ∧ m ρ X w (.dat s c) [z] := by
  obtain ⟨v, us, rfl, h1, h2⟩ := h
  obtain ⟨y, z, rfl, h3, h4⟩ := args2 h2
  exact ⟨v, y, z, rfl, h1, h3, h4⟩
theorem tup2 {x y : AV} {u v : Value} (h1 : m ρ X w x [u]) (h2 : m ρ X w y [v]) : m ρ X w (.tup (.cons x (.cons y .nil))) [.tuple #[u, v]] := ⟨[u, v], rfl, u, [v], rfl, h1, v, [], rfl, h2, rfl⟩
theorem tup3 {x y z : AV} {u v t : Value} (h1 : m ρ X w x [u]) (h2 : m ρ X w y [v]) (h3 : m ρ X w z [t]) : m ρ X w (.tup (.cons x (.cons y (.cons z .nil)))) [.tuple #[u, v, t]] := ⟨[u, v, t], rfl, u, [v, t], rfl, h1, v, [t], rfl, h2, t, [], rfl, h3, rfl⟩
end
theorem ret_new {P : Program} {f : FuncId} {args : Array Value} {w : World} {n : Int} {ρ : List Value} {X : Nat → Prop} (h : Calls P f args w (Ret1 w.heap.size w n)) (hX : ∀ b, X b → b < w.heap.size) :
    Calls P f args w (fun e w' => ∃ v, e = .returned v ∧ m ρ X w' (.dat nT (dg n)) [v] ∧ Below w.heap.size w w') :=
  h.mono fun e w' ⟨v, h1, h2, h3⟩ => ⟨v, h1, dat_of_new h2 hX, h3⟩
theorem ret_q {P : Program} {f : FuncId} {args : Array Value} {w : World} {q : Rat} {ρ : List Value} {X : Nat → Prop} (h : Calls P f args w (RetQ w.heap.size w q)) (hX : ∀ b, X b → b < w.heap.size) :
    Calls P f args w (fun e w' => ∃ v, e = .returned v ∧ m ρ X w' (.dat fT (qf q)) [v] ∧ Below w.heap.size w w') :=
  h.mono fun e w' ⟨v, h1, h2, h3⟩ => ⟨v, h1, dat_of_q h2 hX, h3⟩
theorem spec_of {P : Program} {f : FuncId} {s : Spec} {fn : Func} (hf : P.funcs[f]? = some fn) (hb : fn.body.isSome = true) (hn : (fn.name == "runtime.NumGoroutine") = false)
    (h : ∀ d, AllP (s.F d).2 → ∀ ρ X w vs, (∀ b, X b → b < w.heap.size) → m ρ X w (argAVs s.tys d) vs → Calls P f vs.toArray w (fun e w' => ∃ v, e = .returned v ∧ m ρ X w' (s.F d).1 [v] ∧ Below w.heap.size w w')) : SpecOk P f s :=
  fun d hd => ⟨fun args w => callFunc_ok hf hb hn args w, fun ρ X w vs hX hm => h d hd ρ X w vs hX hm⟩
theorem leA_nild {cf ck : List (Nat × CT)} {n n' : Nat} {t : Ty} {b : List t.den} : leA cf ck n n' (.val (.slice none 0 0)) (.dat (.slice t) b) = [([] : List t.den) = b] := rfl
theorem nilA_nild {mp : List (Nat × Nat)} {nx : Nat} {t : Ty} {b : t.den} : nilA mp nx (.val (.slice none 0 0)) (.dat t b) = .val (.slice none 0 0) := rfl
attribute [go_sem ↓] leA_nild nilA_nild
end Go.Proofs.Ytfidddcjieoblaa.Gx
