/-
  D1, D2, D3, Env, D4, in one text: see the remarks at the head of each part.
-/
import Derived.Test.YthcbjhmdpehooaaGreatMGc
import Derived.Test.YthcbjhmdpehooaaGreatMQ
import Derived.Test.YthcbjhmdpehooaaGreatMRefH
import Derived.Test.YthcbjhmdpehooaaGreatMSame
import Derived.Test.YthcbjhmdpehooaaGreatMText
import Derived.Test.YthcbjhmdpehooaaGreatQKnown
import Derived.Test.YthcbjhmdpehooaaGreatRFrac
import Derived.Test.YthcbjhmdpehooaaGreatRBase
import Derived.KernelRfl
namespace Go.Proofs.YthcbjhmdpehooaaGreat.Gx
open Go Go.RowKit Tw B Nt
set_option linter.unusedVariables false
abbrev nT : Ty := .slice (.int .u32)
abbrev fT : Ty := .pair .bool (.pair (.slice (.int .u32)) (.slice (.int .u32)))
def dgF : Nat → Nat → List Int
 | 0, _ => []
 | f + 1, n => if n = 0 then [] else ((n % 4294967296 : Nat) : Int) :: dgF f (n / 4294967296)
def dg (n : Int) : List Int := dgF n.toNat n.toNat
theorem dgF_ok : ∀ (f n : Nat), n ≤ f → N (dgF f n) = (n : Int) ∧ Canon (dgF f n)
 | 0, n, h => by
  have : n = 0 := by omega
  subst this
  exact ⟨rfl, Canon.nil⟩
 | f + 1, n, h => by
  unfold dgF
  by_cases hn : n = 0
  ·rw [if_pos hn, hn]; exact ⟨rfl, Canon.nil⟩
  ·rw [if_neg hn]
   obtain ⟨h1, h2⟩ := dgF_ok f (n / 4294967296) (by omega)
   refine ⟨?_, Ds.cons (by omega) h2.1, ?_⟩
   ·show ((n % 4294967296 : Nat) : Int) + 4294967296 * N (dgF f (n / 4294967296)) = (n : Int)
    rw [h1]; omega
   ·rw [List.getLast?_cons]
    by_cases hz : n / 4294967296 = 0
    ·have : dgF f (n / 4294967296) = [] := by rw [hz]; cases f <;> rfl
     rw [this]
     simp only [List.getLast?_nil, Option.getD_none, ne_eq, Option.some.injEq]
     omega
    ·have hne : dgF f (n / 4294967296) ≠ [] := by
       intro e
       rw [e] at h1
       have : ((n / 4294967296 : Nat) : Int) = 0 := h1.symm
       omega
     have h3 := h2.2
     cases hl : (dgF f (n / 4294967296)).getLast? with
     | none => exact absurd (List.getLast?_eq_none_iff.1 hl) hne
     | some x =>
      rw [hl] at h3
      simpa using h3
theorem N_dg {n : Int} (h : 0 ≤ n) : N (dg n) = n := by
 have := (dgF_ok n.toNat n.toNat (Nat.le_refl _)).1
 unfold dg
 omega
theorem canon_dg (n : Int) : Canon (dg n) := (dgF_ok n.toNat n.toNat (Nat.le_refl _)).2
theorem dg_of {l : List Int} (h : Canon l) : dg (N l) = l := (canon_dg _).inj h (N_dg (N_nonneg h.1))
theorem dg_len {n : Int} {c : Nat} (h0 : 0 ≤ n) (h : n < Bp c) : (dg n).length ≤ c := (canon_dg n).len c (by rw [N_dg h0]; exact h)
theorem inR_u32 {n : Int} : inR .u32 n ↔ 0 ≤ n ∧ n < 4294967296 := by simp only [inR, lo, hi]; omega
theorem wf_of_inR {k : IntKind} {n : Int} (h : inR k n) : (Lit.int k n).wf = true := by
 cases k <;> simp only [inR, lo, hi] at h <;> simp [Lit.wf, IntKind.min, IntKind.max, IntKind.signed, IntKind.bits] <;> omega
theorem inR_of_wf {k : IntKind} {n : Int} (h : (Lit.int k n).wf = true) : inR k n := by
 cases k <;> simp [Lit.wf, IntKind.min, IntKind.max, IntKind.signed, IntKind.bits] at h <;> simp only [inR, lo, hi] <;> omega
theorem row_of {k : IntKind} {X : Nat → Prop} {w : World} {v : Value} {l : List Int} (h : rep (.slice (.int k)) X w [v] l) : Row k w v l := by
 obtain ⟨a, cap, e, h2, h3, h4, h5⟩ := h
 have e := (List.cons.inj e).1
 subst e
 have hel : ∀ i, i < l.length → ∃ b off, a = some ⟨b, off, none⟩ ∧ w.cell? ⟨b, off + i, none⟩ = some (.int k (l.getD i 0)) ∧ inR k (l.getD i 0) := by
  intro i hi
  obtain ⟨b, off, C, T, f, ha, _, hb, hr⟩ := h5 (by intro e; rw [e] at hi; simp at hi)
  obtain ⟨q1, q2⟩ := hr i (l.getD i 0) (by simp [hi])
  refine ⟨b, off, ha, ?_, q2⟩
  simp only [Ty.size, Nat.mul_one] at q1
  have hq : (C.toList.drop (off + i))[0]? = some (.int k (l.getD i 0)) := by
   have := congrArg (fun l => l[0]?) q1
   simpa [List.getElem?_take] using this
  rw [List.getElem?_drop] at hq
  simpa [World.cell?, hb] using hq
 refine ⟨a, cap, rfl, h2, h3, h4, fun n hn => ?_, fun hne => ?_⟩
 ·obtain ⟨i, hi, rfl⟩ := List.mem_iff_getElem.1 hn
  obtain ⟨_, _, _, _, q⟩ := hel i hi
  have : l.getD i 0 = l[i] := by simp [hi]
  rw [this] at q
  exact wf_of_inR q
 ·have hpos : 0 < l.length := List.length_pos_iff.2 hne
  obtain ⟨b, off, ha, _⟩ := hel 0 hpos
  refine ⟨b, off, ha, fun i hi => ?_⟩
  obtain ⟨b', off', ha', q, _⟩ := hel i hi
  rw [ha] at ha'
  cases ha'
  exact q
theorem rep_of_row {k : IntKind} {t : TypeId} {base : Nat} {X : Nat → Prop} {w : World} {v : Value} {l : List Int} (h : Row k w v l) (hf : Fresh t base w v) (hX : ∀ b, X b → b < base) : rep (.slice (.int k)) X w [v] l := by
 obtain ⟨a, cap, rfl, h2, h3, h4, h5, h6⟩ := h
 refine ⟨a, cap, rfl, h2, h3, h4, fun hne => ?_⟩
 obtain ⟨b, off, rfl, hc⟩ := h6 hne
 obtain ⟨g1, C, g2⟩ := hf b off none _ _ rfl
 refine ⟨b, off, C, t, _, rfl, fun hx => ?_, g2, fun i x hx => ?_⟩
 ·have := hX b hx; omega
 ·have hi : i < l.length := by
    rcases Nat.lt_or_ge i l.length with h | h
    ·exact h
    ·rw [List.getElem?_eq_none h] at hx; cases hx
  have := hc i hi
  have hxe : l.getD i 0 = x := by simp [hx]
  rw [hxe] at this
  refine ⟨?_, inR_of_wf (h5 x (List.mem_of_getElem? hx))⟩
  simp only [Ty.size, Nat.mul_one]
  have hq : C.toList[off + i]? = some (.int k x) := by simpa [World.cell?, g2] using this
  have hlt : off + i < C.toList.length := by
   rcases Nat.lt_or_ge (off + i) C.toList.length with h | h
   ·exact h
   ·rw [List.getElem?_eq_none h] at hq; cases hq
  rw [List.drop_eq_getElem_cons hlt, List.take_succ_cons, List.take_zero]
  rw [List.getElem?_eq_getElem hlt] at hq
  rw [Option.some.inj hq]
section
variable {ρ : List Value} {X : Nat → Prop} {w : World}
theorem num_of {v : Value} {l : List Int} (h : m ρ X w (.dat nT l) [v]) (c : Nat) (hc : l.length ≤ c) : Num w v c (N l) := ⟨l, row_of (rep_of_dat rfl h), hc, rfl⟩
theorem ds_of {v : Value} {l : List Int} (h : m ρ X w (.dat nT l) [v]) : Ds l := Nt.Row.ds (row_of (rep_of_dat rfl h))
theorem dat_of_new {base : Nat} {v : Value} {n : Int} (h : IsNew base w v n) (hX : ∀ b, X b → b < base) : m ρ X w (.dat nT (dg n)) [v] := by
 obtain ⟨l, h1, h2, h3, h4⟩ := h
 have : dg n = l := by rw [← h3]; exact dg_of h2
 rw [this]
 exact dat_of_rep rfl (rep_of_row h1 h4 hX)
def fq (f : fT.den) : Rat := mk f.1 (N f.2.1) (N f.2.2)
def qf (q : Rat) : fT.den := (decide (q.num < 0), dg (q.num.natAbs : Int), dg (q.den : Int))
def fs (f : fT.den) : Nat := max f.2.1.length f.2.2.length
theorem fq_qf (q : Rat) : fq (qf q) = q := by
 unfold fq qf
 rw [N_dg (by omega), N_dg (by omega)]
 exact mk_self q
theorem frac_form {v : Value} {f : fT.den} (h : m ρ X w (.dat fT f) [v]) : ∃ vn vd, v = .agg #[.bool f.1, vn, vd] ∧ m ρ X w (.dat nT f.2.1) [vn] ∧ m ρ X w (.dat nT f.2.2) [vd] := by
 obtain ⟨cs, h1, h2⟩ := h
 have hl := rep_len h1
 have h2 := (List.cons.inj h2).1
 match cs, hl with
 | [a, b, c], _ =>
  obtain ⟨q1, q2, q3⟩ := h1
  have q1 : [a] = [Value.bool f.1] := q1
  cases q1
  exact ⟨b, c, by rw [h2]; simp [Ty.wrap, Ty.isAgg], dat_of_rep rfl q2, dat_of_rep rfl q3⟩
theorem frac_of {vn vd : Value} {f : fT.den} (h1 : m ρ X w (.dat nT f.2.1) [vn]) (h2 : m ρ X w (.dat nT f.2.2) [vd]) : m ρ X w (.dat fT f) [.agg #[.bool f.1, vn, vd]] :=
 ⟨[.bool f.1, vn, vd], ⟨rfl, rep_of_dat rfl h1, rep_of_dat rfl h2⟩, by simp [Ty.wrap, Ty.isAgg]⟩
theorem raw_of {v : Value} {f : fT.den} (h : m ρ X w (.dat fT f) [v]) (c : Nat) (hc : fs f ≤ c) : Raw w v c (fq f) := by
 obtain ⟨vn, vd, e, h1, h2⟩ := frac_form h
 have hc1 : f.2.1.length ≤ c := Nat.le_trans (Nat.le_max_left _ _) hc
 have hc2 : f.2.2.length ≤ c := Nat.le_trans (Nat.le_max_right _ _) hc
 exact ⟨f.1, vn, vd, _, _, e, num_of h1 c hc1, num_of h2 c hc2, rfl⟩
theorem dat_of_q {base : Nat} {v : Value} {q : Rat} (h : IsQ base w v q) (hX : ∀ b, X b → b < base) : m ρ X w (.dat fT (qf q)) [v] := by
 obtain ⟨vn, vd, rfl, h1, h2⟩ := h
 exact frac_of (f := qf q) (dat_of_new h1 hX) (dat_of_new h2 hX)
theorem args1 {t : Ty} {a : t.den} {vs : List Value} (h : m ρ X w (.cons (.dat t a) .nil) vs) : ∃ x, vs = [x] ∧ m ρ X w (.dat t a) [x] := by
 obtain ⟨v, us, rfl, h1, h2⟩ := h
 have h2 : us = [] := h2
 subst h2
 exact ⟨v, rfl, h1⟩
theorem args2 {t u : Ty} {a : t.den} {b : u.den} {vs : List Value} (h : m ρ X w (.cons (.dat t a) (.cons (.dat u b) .nil)) vs) : ∃ x y, vs = [x, y] ∧ m ρ X w (.dat t a) [x] ∧ m ρ X w (.dat u b) [y] := by
 obtain ⟨v, us, rfl, h1, h2⟩ := h
 obtain ⟨y, rfl, h3⟩ := args1 h2
 exact ⟨v, y, rfl, h1, h3⟩
theorem args3 {t u s : Ty} {a : t.den} {b : u.den} {c : s.den} {vs : List Value} (h : m ρ X w (.cons (.dat t a) (.cons (.dat u b) (.cons (.dat s c) .nil))) vs) : ∃ x y z, vs = [x, y, z] ∧ m ρ X w (.dat t a) [x] ∧ m ρ X w (.dat u b) [y] ∧ m ρ X w (.dat s c) [z] := by
 obtain ⟨v, us, rfl, h1, h2⟩ := h
 obtain ⟨y, z, rfl, h3, h4⟩ := args2 h2
 exact ⟨v, y, z, rfl, h1, h3, h4⟩
theorem tup2 {x y : AV} {u v : Value} (h1 : m ρ X w x [u]) (h2 : m ρ X w y [v]) : m ρ X w (.tup (.cons x (.cons y .nil))) [.tuple #[u, v]] := ⟨[u, v], rfl, u, [v], rfl, h1, v, [], rfl, h2, rfl⟩
theorem tup3 {x y z : AV} {u v t : Value} (h1 : m ρ X w x [u]) (h2 : m ρ X w y [v]) (h3 : m ρ X w z [t]) : m ρ X w (.tup (.cons x (.cons y (.cons z .nil)))) [.tuple #[u, v, t]] := ⟨[u, v, t], rfl, u, [v, t], rfl, h1, v, [t], rfl, h2, t, [], rfl, h3, rfl⟩
end
theorem ret_new {P : Program} {f : FuncId} {args : Array Value} {w : World} {n : Int} {ρ : List Value} {X : Nat → Prop} (h : Calls P f args w (Ret1 w.heap.size w n)) (hX : ∀ b, X b → b < w.heap.size) :
    Calls P f args w (fun e w' => ∃ v, e = .returned v ∧ m ρ X w' (.dat nT (dg n)) [v] ∧ Below w.heap.size w w') :=
 h.mono fun e w' ⟨v, h1, h2, h3⟩ => ⟨v, h1, dat_of_new h2 hX, h3⟩
theorem ret_q {P : Program} {f : FuncId} {args : Array Value} {w : World} {q : Rat} {ρ : List Value} {X : Nat → Prop} (h : Calls P f args w (RetQ w.heap.size w q)) (hX : ∀ b, X b → b < w.heap.size) :
    Calls P f args w (fun e w' => ∃ v, e = .returned v ∧ m ρ X w' (.dat fT (qf q)) [v] ∧ Below w.heap.size w w') :=
 h.mono fun e w' ⟨v, h1, h2, h3⟩ => ⟨v, h1, dat_of_q h2 hX, h3⟩
theorem spec_of {P : Program} {f : FuncId} {s : Spec} {fn : Func} (hf : P.funcs[f]? = some fn) (hb : fn.body.isSome = true) (hn : (fn.name == "runtime.NumGoroutine") = false)
    (h : ∀ d, AllP (s.F d).2 → ∀ ρ X w vs, (∀ b, X b → b < w.heap.size) → m ρ X w (argAVs s.tys d) vs → Calls P f vs.toArray w (fun e w' => ∃ v, e = .returned v ∧ m ρ X w' (s.F d).1 [v] ∧ Below w.heap.size w w')) : SpecOk P f s :=
 fun d hd => ⟨fun args w => callFunc_ok hf hb hn args w, fun ρ X w vs hX hm => h d hd ρ X w vs hX hm⟩
theorem leA_nild {cf ck : List (Nat × CT)} {n n' : Nat} {t : Ty} {b : List t.den} : leA cf ck n n' (.val (.slice none 0 0)) (.dat (.slice t) b) = [([] : List t.den) = b] := rfl
theorem nilA_nild {mp : List (Nat × Nat)} {nx : Nat} {t : Ty} {b : t.den} : nilA mp nx (.val (.slice none 0 0)) (.dat t b) = .val (.slice none 0 0) := rfl
attribute [go_sem ↓] leA_nild nilA_nild
end Go.Proofs.YthcbjhmdpehooaaGreat.Gx
namespace Go.Proofs.YthcbjhmdpehooaaGreat.Gx
open Go Go.RowKit Tw B Nt
set_option linter.unusedVariables false
theorem inR_cmp (x y : Int) : inR .i64 (cmpI x y) := by
 unfold cmpI; split
 ·decide
 ·split <;> decide
theorem m_i64 {ρ : List Value} {X : Nat → Prop} {w : World} {n : Int} (h0 : -9223372036854775808 ≤ n) (h1 : n ≤ 9223372036854775807) : m ρ X w (.dat (.int .i64) n) [.int .i64 n] := m_int_of ⟨h0, h1⟩
theorem blen_le {l : List Int} (h : Ds l) : (blen (N l) : Int) ≤ 32 * l.length := by
 have h1 := N_lt h
 rw [Bp_pow] at h1
 have := blen_lt (N_nonneg h) (32 * l.length) h1
 omega
def u64v (n : Int) : Int := if n < 18446744073709551616 then n else 0
theorem m_u64R {ρ : List Value} {X : Nat → Prop} {w : World} {n : Int} (h0 : 0 ≤ n) : m ρ X w (.tup (.cons (.dat (.int .u64) (u64v n)) (.cons (.dat .bool (decide (n < 18446744073709551616))) .nil))) [u64R n] := by
 unfold u64R u64v
 by_cases h : n < 18446744073709551616
 ·rw [if_pos h, if_pos h, decide_eq_true h]
  exact tup2 (m_int_of (by simp only [inR, lo, hi]; omega)) m_bool_of
 ·rw [if_neg h, if_neg h, decide_eq_false h]
  exact tup2 (m_int_of (by simp only [inR, lo, hi]; omega)) m_bool_of
@[go_sem] def bAddS : Spec := ⟨[nT, nT], fun d => (.dat nT (dg (N d.1 + N d.2.1)), [d.1.length ≤ 5000000, d.2.1.length ≤ 5000000])⟩
theorem bAdd_ok : SpecOk Tryz.prog 59 bAddS := by
 refine spec_of (s := bAddS) Tryz.func59 rfl (by decide) fun d hp ρ X w vs hX hm => ?_
 obtain ⟨x, y, rfl, h1, h2⟩ := args2 hm
 exact ret_new (add x y 5000000 _ _ w (num_of h1 _ hp.1) (num_of h2 _ hp.2.1) (by decide)) hX
@[go_sem] def bMulS : Spec := ⟨[nT, nT], fun d => (.dat nT (dg (N d.1 * N d.2.1)), [d.1.length ≤ 5000000, d.2.1.length ≤ 5000000])⟩
theorem bMul_ok : SpecOk Tryz.prog 37 bMulS := by
 refine spec_of (s := bMulS) Tryz.func37 rfl (by decide) fun d hp ρ X w vs hX hm => ?_
 obtain ⟨x, y, rfl, h1, h2⟩ := args2 hm
 exact ret_new (mul x y 5000000 _ _ w (num_of h1 _ hp.1) (num_of h2 _ hp.2.1) (by decide)) hX
@[go_sem] def bGCDS : Spec := ⟨[nT, nT], fun d => (.dat nT (dg (gcdI (N d.1) (N d.2.1))), [d.1.length ≤ 5000000, d.2.1.length ≤ 5000000])⟩
theorem bGCD_ok : SpecOk Tryz.prog 74 bGCDS := by
 refine spec_of (s := bGCDS) Tryz.func74 rfl (by decide) fun d hp ρ X w vs hX hm => ?_
 obtain ⟨x, y, rfl, h1, h2⟩ := args2 hm
 exact ret_new (gcd x y 5000000 _ _ w (num_of h1 _ hp.1) (num_of h2 _ hp.2.1) (by decide)) hX
@[go_sem] def bNormS : Spec := ⟨[nT], fun d => (.dat nT (dg (N d.1)), [d.1.length ≤ 5000000])⟩
theorem bNorm_ok : SpecOk Tryz.prog 76 bNormS := by
 refine spec_of (s := bNormS) Tryz.func76 rfl (by decide) fun d hp ρ X w vs hX hm => ?_
 obtain ⟨x, rfl, h1⟩ := args1 hm
 exact ret_new (normalize x 5000000 _ w (num_of h1 _ hp.1) (by decide)) hX
@[go_sem] def bSubS : Spec := ⟨[nT, nT], fun d => (.tup (.cons (.dat nT (dg (if N d.2.1 ≤ N d.1 then N d.1 - N d.2.1 else 0))) (.cons (.dat .bool (decide (N d.2.1 ≤ N d.1))) .nil)), [d.1.length ≤ 5000000, d.2.1.length ≤ 5000000])⟩
theorem bSub_ok : SpecOk Tryz.prog 60 bSubS := by
 refine spec_of (s := bSubS) Tryz.func60 rfl (by decide) fun d hp ρ X w vs hX hm => ?_
 obtain ⟨x, y, rfl, h1, h2⟩ := args2 hm
 refine (sub x y 5000000 _ _ w (num_of h1 _ hp.1) (num_of h2 _ hp.2.1) (by decide)).mono fun e w' ⟨v, g1, g2, g3⟩ => ⟨_, g1, tup2 (dat_of_new g2 hX) m_bool_of, g3⟩
@[go_sem] def bDivModS : Spec := ⟨[nT, nT], fun d => (.tup (.cons (.dat nT (dg (N d.1 / N d.2.1))) (.cons (.dat nT (dg (if N d.2.1 = 0 then 0 else N d.1 % N d.2.1))) (.cons (.dat .bool (decide (N d.2.1 ≠ 0))) .nil))), [d.1.length ≤ 5000000, d.2.1.length ≤ 5000000])⟩
theorem bDivMod_ok : SpecOk Tryz.prog 77 bDivModS := by
 refine spec_of (s := bDivModS) Tryz.func77 rfl (by decide) fun d hp ρ X w vs hX hm => ?_
 obtain ⟨x, y, rfl, h1, h2⟩ := args2 hm
 refine (divMod x y 5000000 _ _ w (num_of h1 _ hp.1) (num_of h2 _ hp.2.1) (by decide)).mono fun e w' ⟨v, v2, g1, g2, g3, g4⟩ => ⟨_, g1, tup3 (dat_of_new g2 hX) (dat_of_new g3 hX) m_bool_of, g4⟩
@[go_sem] def bCmpS : Spec := ⟨[nT, nT], fun d => (.dat (.int .i64) (cmpI (N d.1) (N d.2.1)), [d.1.length ≤ 5000000, d.2.1.length ≤ 5000000])⟩
theorem bCmp_ok : SpecOk Tryz.prog 36 bCmpS := by
 refine spec_of (s := bCmpS) Tryz.func36 rfl (by decide) fun d hp ρ X w vs hX hm => ?_
 obtain ⟨x, y, rfl, h1, h2⟩ := args2 hm
 exact (cmp x y 5000000 _ _ w (num_of h1 _ hp.1) (num_of h2 _ hp.2.1) (by decide)).mono fun e w' ⟨g1, g2⟩ => ⟨_, g1, m_int_of (inR_cmp _ _), g2⟩
@[go_sem] def bBitsS : Spec := ⟨[nT], fun d => (.dat (.int .i64) (blen (N d.1) : Int), [d.1.length ≤ 5000000])⟩
theorem bBits_ok : SpecOk Tryz.prog 54 bBitsS := by
 refine spec_of (s := bBitsS) Tryz.func54 rfl (by decide) fun d hp ρ X w vs hX hm => ?_
 obtain ⟨x, rfl, h1⟩ := args1 hm
 have hb := blen_le (ds_of h1)
 have hl := hp.1
 exact (Nt.bitLen x 5000000 _ w (num_of h1 _ hp.1) (by decide)).mono fun e w' ⟨g1, g2⟩ => ⟨_, g1, m_i64 (by omega) (by omega), by rw [← g2]; exact Below.refl _ _⟩
@[go_sem] def bU64S : Spec := ⟨[nT], fun d => (.tup (.cons (.dat (.int .u64) (u64v (N d.1))) (.cons (.dat .bool (decide (N d.1 < 18446744073709551616))) .nil)), [d.1.length ≤ 5000000])⟩
theorem bU64_ok : SpecOk Tryz.prog 98 bU64S := by
 refine spec_of (s := bU64S) Tryz.func98 rfl (by decide) fun d hp ρ X w vs hX hm => ?_
 obtain ⟨x, rfl, h1⟩ := args1 hm
 exact (uint64 x 5000000 _ w (num_of h1 _ hp.1)).mono fun e w' ⟨g1, g2⟩ => ⟨_, g1, m_u64R (N_nonneg (ds_of h1)), g2⟩
@[go_sem] def bOfS : Spec := ⟨[.int .u64], fun d => (.dat nT (dg d.1), [])⟩
theorem bOf_ok : SpecOk Tryz.prog 57 bOfS := by
 refine spec_of (s := bOfS) Tryz.func57 rfl (by decide) fun d hp ρ X w vs hX hm => ?_
 obtain ⟨x, rfl, h1⟩ := args1 hm
 obtain ⟨rfl, h2⟩ := m_int h1
 simp only [inR, lo, hi] at h2
 exact ret_new (fromUint64 _ w h2.1 (by omega)) hX
@[go_sem] def rGCDS : Spec := ⟨[nT, nT], fun d => (.dat nT (dg (gcdI (N d.1) (N d.2.1))), [d.1.length ≤ 5000000, d.2.1.length ≤ 5000000])⟩
theorem rGCD_ok : SpecOk Tryz.prog 82 rGCDS := by
 refine spec_of (s := rGCDS) Tryz.func82 rfl (by decide) fun d hp ρ X w vs hX hm => ?_
 obtain ⟨x, y, rfl, h1, h2⟩ := args2 hm
 exact ret_new (rGCD x y 5000000 _ _ w (num_of h1 _ hp.1) (num_of h2 _ hp.2.1) (by decide)) hX
@[go_sem] def rNormS : Spec := ⟨[nT], fun d => (.dat nT (dg (N d.1)), [d.1.length ≤ 5000000])⟩
theorem rNorm_ok : SpecOk Tryz.prog 91 rNormS := by
 refine spec_of (s := rNormS) Tryz.func91 rfl (by decide) fun d hp ρ X w vs hX hm => ?_
 obtain ⟨x, rfl, h1⟩ := args1 hm
 exact ret_new (rNorm x 5000000 _ w (num_of h1 _ hp.1) (by decide)) hX
@[go_sem] def rSubS : Spec := ⟨[nT, nT], fun d => (.tup (.cons (.dat nT (dg (if N d.2.1 ≤ N d.1 then N d.1 - N d.2.1 else 0))) (.cons (.dat .bool (decide (N d.2.1 ≤ N d.1))) .nil)), [d.1.length ≤ 5000000, d.2.1.length ≤ 5000000])⟩
theorem rSub_ok : SpecOk Tryz.prog 94 rSubS := by
 refine spec_of (s := rSubS) Tryz.func94 rfl (by decide) fun d hp ρ X w vs hX hm => ?_
 obtain ⟨x, y, rfl, h1, h2⟩ := args2 hm
 refine (rSub x y 5000000 _ _ w (num_of h1 _ hp.1) (num_of h2 _ hp.2.1) (by decide)).mono fun e w' ⟨v, g1, g2, g3⟩ => ⟨_, g1, tup2 (dat_of_new g2 hX) m_bool_of, g3⟩
@[go_sem] def rDivModS : Spec := ⟨[nT, nT], fun d => (.tup (.cons (.dat nT (dg (N d.1 / N d.2.1))) (.cons (.dat nT (dg (if N d.2.1 = 0 then 0 else N d.1 % N d.2.1))) (.cons (.dat .bool (decide (N d.2.1 ≠ 0))) .nil))), [d.1.length ≤ 5000000, d.2.1.length ≤ 5000000])⟩
theorem rDivMod_ok : SpecOk Tryz.prog 83 rDivModS := by
 refine spec_of (s := rDivModS) Tryz.func83 rfl (by decide) fun d hp ρ X w vs hX hm => ?_
 obtain ⟨x, y, rfl, h1, h2⟩ := args2 hm
 refine (rDivMod x y 5000000 _ _ w (num_of h1 _ hp.1) (num_of h2 _ hp.2.1) (by decide)).mono fun e w' ⟨v, v2, g1, g2, g3, g4⟩ => ⟨_, g1, tup3 (dat_of_new g2 hX) (dat_of_new g3 hX) m_bool_of, g4⟩
@[go_sem] def rCmpS : Spec := ⟨[nT, nT], fun d => (.dat (.int .i64) (cmpI (N d.1) (N d.2.1)), [d.1.length ≤ 5000000, d.2.1.length ≤ 5000000])⟩
theorem rCmp_ok : SpecOk Tryz.prog 93 rCmpS := by
 refine spec_of (s := rCmpS) Tryz.func93 rfl (by decide) fun d hp ρ X w vs hX hm => ?_
 obtain ⟨x, y, rfl, h1, h2⟩ := args2 hm
 exact (rCmp x y 5000000 _ _ w (num_of h1 _ hp.1) (num_of h2 _ hp.2.1) (by decide)).mono fun e w' ⟨g1, g2⟩ => ⟨_, g1, m_int_of (inR_cmp _ _), g2⟩
@[go_sem] def rOfS : Spec := ⟨[.int .u64], fun d => (.dat nT (dg d.1), [])⟩
theorem rOf_ok : SpecOk Tryz.prog 84 rOfS := by
 refine spec_of (s := rOfS) Tryz.func84 rfl (by decide) fun d hp ρ X w vs hX hm => ?_
 obtain ⟨x, rfl, h1⟩ := args1 hm
 obtain ⟨rfl, h2⟩ := m_int h1
 simp only [inR, lo, hi] at h2
 exact ret_new (rOf _ w h2.1 (by omega)) hX
@[go_sem] def rSameS : Spec := ⟨[nT, nT], fun d => (.dat .bool (decide (d.1 = d.2.1)), [])⟩
theorem rSame_ok : SpecOk Tryz.prog 49 rSameS := by
 refine spec_of (s := rSameS) Tryz.func49 rfl (by decide) fun d hp ρ X w vs hX hm => ?_
 obtain ⟨x, y, rfl, h1, h2⟩ := args2 hm
 exact (natSame x y _ _ w (row_of (rep_of_dat rfl h1)) (row_of (rep_of_dat rfl h2))).mono fun e w' ⟨g1, g2⟩ => ⟨_, g1, m_bool_of, g2⟩
end Go.Proofs.YthcbjhmdpehooaaGreat.Gx
namespace Go.Proofs.YthcbjhmdpehooaaGreat.Gx
open Go Go.RowKit Tw B Nt
set_option linter.unusedVariables false
theorem sgQ_in (q : Rat) : inR .i64 (sgQ q) := by rcases sgQ_cases q with h | h | h <;> rw [h] <;> decide
theorem cmpQ_in (p q : Rat) : inR .i64 (cmpQ p q) := sgQ_in _
def f0 : fT.den := (false, [], [])
theorem m_f0 {ρ : List Value} {X : Nat → Prop} {w : World} : m ρ X w (.dat fT f0) [.agg #[.bool false, .slice none 0 0, .slice none 0 0]] :=
 frac_of (f := f0) ⟨[.slice none 0 0], rep_zero X w (.slice _), rfl⟩ ⟨[.slice none 0 0], rep_zero X w (.slice _), rfl⟩
theorem ret_qe {P : Program} {f : FuncId} {args : Array Value} {w : World} {q : Rat} {n : Int} {ρ : List Value} {X : Nat → Prop} (h : Calls P f args w (RetQE w.heap.size w q n)) (hn : inR .i64 n) (hX : ∀ b, X b → b < w.heap.size) :
    Calls P f args w (fun e w' => ∃ v, e = .returned v ∧ m ρ X w' (.tup (.cons (.dat fT (qf q)) (.cons (.dat (.int .i64) n) .nil))) [v] ∧ Below w.heap.size w w') :=
 h.mono fun e w' ⟨v, h1, h2, h3⟩ => ⟨_, h1, tup2 (dat_of_q h2 hX) (m_int_of hn), h3⟩
theorem ret_err {P : Program} {f : FuncId} {args : Array Value} {w : World} {n : Int} {ρ : List Value} {X : Nat → Prop} (h : Calls P f args w (ErrQ w n)) (hn : inR .i64 n) :
    Calls P f args w (fun e w' => ∃ v, e = .returned v ∧ m ρ X w' (.tup (.cons (.dat fT f0) (.cons (.dat (.int .i64) n) .nil))) [v] ∧ Below w.heap.size w w') :=
 h.mono fun e w' ⟨h1, h3⟩ => ⟨_, h1, tup2 m_f0 (m_int_of hn), h3⟩
theorem frow_of {ρ : List Value} {X : Nat → Prop} {w : World} {v : Value} {f : fT.den} (h : m ρ X w (.dat fT f) [v]) : FRow w v f.1 f.2.1 f.2.2 := by
 obtain ⟨vn, vd, h0, h1, h2⟩ := frac_form h
 exact ⟨vn, vd, h0, row_of (rep_of_dat rfl h1), row_of (rep_of_dat rfl h2)⟩
@[go_sem] def qAddS : Spec := ⟨[fT, fT], fun d => (.dat fT (qf (fq d.1 + fq d.2.1)), [fs d.1 ≤ 5000000, fs d.2.1 ≤ 5000000])⟩
theorem qAdd_ok : SpecOk Tryz.prog 40 qAddS := by
 refine spec_of (s := qAddS) Tryz.func40 rfl (by decide) fun d hp ρ X w vs hX hm => ?_
 obtain ⟨x, y, rfl, h1, h2⟩ := args2 hm
 exact ret_q (qAdd x y 5000000 _ _ w (raw_of h1 _ hp.1) (raw_of h2 _ hp.2.1) (by decide)) hX
@[go_sem] def qSubS : Spec := ⟨[fT, fT], fun d => (.dat fT (qf (fq d.1 - fq d.2.1)), [fs d.1 ≤ 5000000, fs d.2.1 ≤ 5000000])⟩
theorem qSub_ok : SpecOk Tryz.prog 38 qSubS := by
 refine spec_of (s := qSubS) Tryz.func38 rfl (by decide) fun d hp ρ X w vs hX hm => ?_
 obtain ⟨x, y, rfl, h1, h2⟩ := args2 hm
 exact ret_q (qSub x y 5000000 _ _ w (raw_of h1 _ hp.1) (raw_of h2 _ hp.2.1) (by decide)) hX
@[go_sem] def qNormS : Spec := ⟨[fT], fun d => (.dat fT (qf (fq d.1)), [fs d.1 ≤ 5000000])⟩
theorem qNorm_ok : SpecOk Tryz.prog 41 qNormS := by
 refine spec_of (s := qNormS) Tryz.func41 rfl (by decide) fun d hp ρ X w vs hX hm => ?_
 obtain ⟨x, rfl, h1⟩ := args1 hm
 exact ret_q (qNormalize x 5000000 _ w (raw_of h1 _ hp.1) (by decide)) hX
@[go_sem] def qComplS : Spec := ⟨[fT], fun d => (.dat fT (qf (1 - fq d.1)), [fs d.1 ≤ 5000000])⟩
theorem qCompl_ok : SpecOk Tryz.prog 14 qComplS := by
 refine spec_of (s := qComplS) Tryz.func14 rfl (by decide) fun d hp ρ X w vs hX hm => ?_
 obtain ⟨x, rfl, h1⟩ := args1 hm
 exact ret_q (qComplement x 5000000 _ w (raw_of h1 _ hp.1) (by decide) (by decide)) hX
@[go_sem] def qReduceS : Spec := ⟨[.bool, nT, nT], fun d => (.dat fT (qf (mk d.1 (N d.2.1) (N d.2.2.1))), [d.2.1.length ≤ 5000000, d.2.2.1.length ≤ 5000000])⟩
theorem qReduce_ok : SpecOk Tryz.prog 58 qReduceS := by
 refine spec_of (s := qReduceS) Tryz.func58 rfl (by decide) fun d hp ρ X w vs hX hm => ?_
 obtain ⟨x, y, z, rfl, h0, h1, h2⟩ := args3 hm
 have h0 := m_bool h0; subst h0
 exact ret_q (qReduce _ y z 5000000 _ _ w (num_of h1 _ hp.1) (num_of h2 _ hp.2.1) (by decide)) hX
@[go_sem] def rFracS : Spec := ⟨[.bool, nT, nT], fun d => (.dat fT (qf (mk d.1 (N d.2.1) (N d.2.2.1))), [d.2.1.length ≤ 5000000, d.2.2.1.length ≤ 5000000])⟩
theorem rFrac_ok : SpecOk Tryz.prog 66 rFracS := by
 refine spec_of (s := rFracS) Tryz.func66 rfl (by decide) fun d hp ρ X w vs hX hm => ?_
 obtain ⟨x, y, z, rfl, h0, h1, h2⟩ := args3 hm
 have h0 := m_bool h0; subst h0
 exact ret_q (rFrac _ y z 5000000 _ _ w (num_of h1 _ hp.1) (num_of h2 _ hp.2.1) (by decide)) hX
@[go_sem] def rFNewS : Spec := ⟨[.int .i64, .int .i64], fun d => (.tup (.cons (.dat fT (if d.2.1 = (0 : Int) then f0 else qf (Rat.divInt d.1 d.2.1))) (.cons (.dat (.int .i64) (if d.2.1 = (0 : Int) then 20 else 0)) .nil)), [])⟩
theorem rFNew_ok : SpecOk Tryz.prog 48 rFNewS := by
 refine spec_of (s := rFNewS) Tryz.func48 rfl (by decide) fun d hp ρ X w vs hX hm => ?_
 obtain ⟨a, b, u⟩ := d
 have hm : m ρ X w (.cons (.dat (.int .i64) a) (.cons (.dat (.int .i64) b) .nil)) vs := hm
 obtain ⟨x, y, rfl, h1, h2⟩ := args2 hm
 obtain ⟨rfl, k1⟩ := m_int h1
 obtain ⟨rfl, k2⟩ := m_int h2
 have key : ∀ (a b : Int), -9223372036854775808 ≤ a ∧ a ≤ 9223372036854775807 → -9223372036854775808 ≤ b ∧ b ≤ 9223372036854775807 → Calls Tryz.prog 48 #[.int .i64 a, .int .i64 b] w (fun e w' => ∃ v, e = .returned v ∧ m ρ X w' (.tup (.cons (.dat fT (if b = (0 : Int) then f0 else qf (Rat.divInt a b))) (.cons (.dat (.int .i64) (if b = (0 : Int) then 20 else 0)) .nil))) [v] ∧ Below w.heap.size w w') := by
  intro a b h1 h2
  by_cases h : b = 0
  ·subst h
   exact ret_err (rFNew0 _ w) (by decide)
  ·rw [if_neg h, if_neg h]
   exact ret_qe (rFNew _ _ w h1.1 h1.2 h2.1 h2.2 h) (by decide) hX
 exact key a b k1 k2
@[go_sem] def qSignS : Spec := ⟨[fT], fun d => (.dat (.int .i64) (sgQ (fq d.1)), [fs d.1 ≤ 5000000])⟩
theorem qSign_ok : SpecOk Tryz.prog 29 qSignS := by
 refine spec_of (s := qSignS) Tryz.func29 rfl (by decide) fun d hp ρ X w vs hX hm => ?_
 obtain ⟨x, rfl, h1⟩ := args1 hm
 exact (qSign x 5000000 _ w (raw_of h1 _ hp.1) (by decide)).mono fun e w' ⟨g1, g2⟩ => ⟨_, g1, m_int_of (sgQ_in _), g2⟩
@[go_sem] def qCmpS : Spec := ⟨[fT, fT], fun d => (.dat (.int .i64) (cmpQ (fq d.1) (fq d.2.1)), [fs d.1 ≤ 5000000, fs d.2.1 ≤ 5000000])⟩
theorem qCmp_ok : SpecOk Tryz.prog 13 qCmpS := by
 refine spec_of (s := qCmpS) Tryz.func13 rfl (by decide) fun d hp ρ X w vs hX hm => ?_
 obtain ⟨x, y, rfl, h1, h2⟩ := args2 hm
 exact (qCmp x y 5000000 _ _ w (raw_of h1 _ hp.1) (raw_of h2 _ hp.2.1) (by decide)).mono fun e w' ⟨g1, g2⟩ => ⟨_, g1, m_int_of (cmpQ_in _ _), g2⟩
@[go_sem] def rFSameS : Spec := ⟨[fT, fT], fun d => (.dat .bool (decide (d.1.1 = d.2.1.1 ∧ d.1.2.1 = d.2.1.2.1 ∧ d.1.2.2 = d.2.1.2.2)), [])⟩
theorem rFSame_ok : SpecOk Tryz.prog 26 rFSameS := by
 refine spec_of (s := rFSameS) Tryz.func26 rfl (by decide) fun d hp ρ X w vs hX hm => ?_
 obtain ⟨x, y, rfl, h1, h2⟩ := args2 hm
 exact (rFSameR x y _ _ _ _ _ _ w (frow_of h1) (frow_of h2)).mono fun e w' ⟨g1, g2⟩ => ⟨_, g1, m_bool_of, g2⟩
@[go_sem] def qZeroS : Spec := ⟨[], fun d => (.dat fT (qf 0), [])⟩
theorem qZero_ok : SpecOk Tryz.prog 73 qZeroS := by
 refine spec_of (s := qZeroS) Tryz.func73 rfl (by decide) fun d hp ρ X w vs hX hm => ?_
 have hm : vs = [] := hm
 subst hm
 exact ret_q (qZero w) hX
@[go_sem] def qOneS : Spec := ⟨[], fun d => (.dat fT (qf 1), [])⟩
theorem qOne_ok : SpecOk Tryz.prog 39 qOneS := by
 refine spec_of (s := qOneS) Tryz.func39 rfl (by decide) fun d hp ρ X w vs hX hm => ?_
 have hm : vs = [] := hm
 subst hm
 exact ret_q (qOne w) hX
@[go_sem] def bFracS : Spec := ⟨[.int .i64], fun d => (.dat fT (qf (bfr d.1)), [])⟩
theorem bFrac_ok : SpecOk Tryz.prog 23 bFracS := by
 refine spec_of (s := bFracS) Tryz.func23 rfl (by decide) fun d hp ρ X w vs hX hm => ?_
 obtain ⟨x, rfl, h1⟩ := args1 hm
 obtain ⟨rfl, h2⟩ := m_int h1
 simp only [inR, lo, hi] at h2
 exact ret_q (baseFrac _ w h2.1 h2.2) hX
@[go_sem] def rSizeS : Spec := ⟨[.int .i64], fun d => (.dat nT (dg (d.1.natAbs : Int)), [])⟩
theorem rSize_ok : SpecOk Tryz.prog 67 rSizeS := by
 refine spec_of (s := rSizeS) Tryz.func67 rfl (by decide) fun d hp ρ X w vs hX hm => ?_
 obtain ⟨x, rfl, h1⟩ := args1 hm
 obtain ⟨rfl, h2⟩ := m_int h1
 simp only [inR, lo, hi] at h2
 exact ret_new (rSize _ w h2.1 h2.2) hX
end Go.Proofs.YthcbjhmdpehooaaGreat.Gx
namespace Go.Proofs.YthcbjhmdpehooaaGreat.Gx
open Go Go.RowKit Tw B Nt
set_option linter.unusedVariables false
attribute [go_sem] List.map
def appN (E : Env) (st : St) (T : TypeId) (b : AV) (d : Nat) : Option (St × List Prop) :=
 match elemOf E T with
 | some u => match E.te T with
  | some e => match E.te e.elem with
   | some e' => match Nat.ble 1 e'.bytes with
    | true => match asW st.ck (.slice u) b with
     | some m => some (⟨(d, .own st.nx) :: st.sl, (st.nx, .row e.elem u m) :: st.ck, st.nx + 1⟩, [m.length * e'.bytes ≤ 140737488355328])
     | none => none
    | false => none
   | none => none
  | none => none
 | none => none
theorem appendA_nil {E : Env} {st : St} {T : TypeId} {b : AV} {d : Nat} : appendA E st T (.val (.slice none 0 0)) b d = appN E st T b d := rfl
theorem leA_nil {cf ck : List (Nat × CT)} {n n' c : Nat} : leA cf ck n n' (.val (.slice none 0 0)) (.own c) = match isBag cf c with
    | false => [n ≤ c ∧ c < n']
    | true => [False] := rfl
def nilN (mp : List (Nat × Nat)) (nx i : Nat) : AV :=
 match get? mp i with
 | none => match Nat.ble (i + 1) nx with | true => .own i | false => .any
 | some _ => .any
theorem nilA_nil {mp : List (Nat × Nat)} {nx i : Nat} : nilA mp nx (.val (.slice none 0 0)) (.own i) = nilN mp nx i := rfl
attribute [go_sem] nilN
theorem leA_nils {cf ck : List (Nat × CT)} {n n' c k : Nat} : leA cf ck n n' (.val (.slice none 0 0)) (.sli c k) = match isBag cf c with
    | false => [n ≤ c ∧ c < n' ∧ k = 0]
    | true => [False] := rfl
attribute [go_sem ↓] appendA_nil leA_nil leA_nils nilA_nil
attribute [go_sem] appN
@[go_sem] def tysL : List (Nat × TE) := [
 (3, ⟨(.int .i64), 0, 8, 0⟩),
 (4, ⟨.bool, 0, 1, 0⟩),
 (9, ⟨.str, 0, 16, 0⟩),
 (36, ⟨(.slice (.int .u32)), 99, 24, 0⟩),
 (38, ⟨(.pair .bool (.pair (.slice (.int .u32)) (.slice (.int .u32)))), 0, 56, 3⟩),
 (31, ⟨(.int .i64), 0, 8, 0⟩),
 (5, ⟨(.int .u8), 0, 1, 0⟩),
 (100, ⟨(.int .u64), 0, 8, 0⟩),
 (99, ⟨(.int .u32), 0, 4, 0⟩),
 (2, ⟨(.int .i64), 0, 8, 0⟩),
 (62, ⟨(.int .u64), 0, 8, 0⟩),
 (22, ⟨(.slice (.int .i64)), 3, 24, 0⟩),
 (12, ⟨(.int .u64), 0, 8, 0⟩),
 (13, ⟨(.pair .str (.int .u64)), 0, 24, 2⟩),
 (21, ⟨(.int .i32), 0, 4, 0⟩),
 (23, ⟨(.slice (.pair .str (.pair (.int .i64) .bool))), 47, 24, 0⟩),
 (24, ⟨(.pair .str (.pair .bool (.slice (.pair .str (.pair (.int .i64) .bool))))), 0, 48, 3⟩),
 (25, ⟨(.pair .str (.pair .bool (.slice (.pair .str (.pair (.int .i64) .bool))))), 0, 48, 3⟩),
 (26, ⟨(.slice (.pair .str (.pair .bool (.slice (.pair .str (.pair (.int .i64) .bool)))))), 25, 24, 0⟩),
 (28, ⟨(.slice (.pair (.slice (.pair (.int .i64) (.pair (.int .i64) .str))) (.pair .bool (.pair (.slice (.int .u32)) (.slice (.int .u32)))))), 40, 24, 0⟩),
 (29, ⟨(.pair (.pair .str (.pair .bool (.slice (.pair .str (.pair (.int .i64) .bool))))) (.slice (.pair (.slice (.pair (.int .i64) (.pair (.int .i64) .str))) (.pair .bool (.pair (.slice (.int .u32)) (.slice (.int .u32))))))), 0, 72, 2⟩),
 (30, ⟨(.pair (.pair .str (.pair .bool (.slice (.pair .str (.pair (.int .i64) .bool))))) (.slice (.pair (.slice (.pair (.int .i64) (.pair (.int .i64) .str))) (.pair .bool (.pair (.slice (.int .u32)) (.slice (.int .u32))))))), 0, 72, 2⟩),
 (34, ⟨(.slice (.pair (.int .i64) (.pair (.int .i64) .str))), 60, 24, 0⟩),
 (35, ⟨(.slice (.int .u32)), 99, 24, 0⟩),
 (37, ⟨(.pair .bool (.pair (.slice (.int .u32)) (.slice (.int .u32)))), 0, 56, 3⟩),
 (39, ⟨(.pair (.slice (.pair (.int .i64) (.pair (.int .i64) .str))) (.pair .bool (.pair (.slice (.int .u32)) (.slice (.int .u32))))), 0, 80, 2⟩),
 (40, ⟨(.pair (.slice (.pair (.int .i64) (.pair (.int .i64) .str))) (.pair .bool (.pair (.slice (.int .u32)) (.slice (.int .u32))))), 0, 80, 2⟩),
 (46, ⟨(.pair .str (.pair (.int .i64) .bool)), 0, 32, 3⟩),
 (47, ⟨(.pair .str (.pair (.int .i64) .bool)), 0, 32, 3⟩),
 (59, ⟨(.pair (.int .i64) (.pair (.int .i64) .str)), 0, 32, 3⟩),
 (60, ⟨(.pair (.int .i64) (.pair (.int .i64) .str)), 0, 32, 3⟩),
 (69, ⟨(.slice (.slice (.int .i64))), 22, 24, 0⟩),
 (88, ⟨(.slice (.int .i64)), 2, 24, 0⟩),
 (93, ⟨(.slice (.slice (.pair (.int .i64) (.pair (.int .i64) .str)))), 34, 24, 0⟩)]
theorem tys_ok : ∀ x ∈ tysL, TyFact Tryz.prog x.1 x.2 := by
 intro x hx
 simp only [tysL, List.mem_cons, List.not_mem_nil, or_false] at hx
 rcases hx with rfl | rfl | rfl | rfl | rfl | rfl | rfl | rfl | rfl | rfl | rfl | rfl | rfl | rfl | rfl | rfl | rfl | rfl | rfl | rfl | rfl | rfl | rfl | rfl | rfl | rfl | rfl | rfl | rfl | rfl | rfl | rfl | rfl | rfl
 all_goals exact ⟨by kernel_rfl, by kernel_rfl, by kernel_rfl, by kernel_rfl, by kernel_rfl⟩
@[go_sem] def sp3 : List (Nat × Spec) := [(59, bAddS), (37, bMulS), (74, bGCDS), (76, bNormS), (60, bSubS), (77, bDivModS), (36, bCmpS), (54, bBitsS), (98, bU64S), (57, bOfS), (82, rGCDS), (91, rNormS), (94, rSubS), (83, rDivModS), (93, rCmpS), (84, rOfS), (49, rSameS), (40, qAddS), (38, qSubS), (41, qNormS), (14, qComplS), (58, qReduceS), (66, rFracS), (48, rFNewS), (29, qSignS), (13, qCmpS), (26, rFSameS), (73, qZeroS), (39, qOneS), (23, bFracS), (67, rSizeS)]
@[go_sem] noncomputable def E3 : Env := ⟨Tryz.prog, tysL, sp3, []⟩
theorem mixed_ok : Tryz.prog.follows .mixedOrders = true := by kernel_rfl
theorem E3_ok : E3.Ok := by
 refine ⟨tys_ok, fun x hx => ?_, fun x hx => (by cases hx), mixed_ok⟩
 simp only [E3, sp3, List.mem_cons, List.not_mem_nil, or_false] at hx
 rcases hx with rfl | rfl | rfl | rfl | rfl | rfl | rfl | rfl | rfl | rfl | rfl | rfl | rfl | rfl | rfl | rfl | rfl | rfl | rfl | rfl | rfl | rfl | rfl | rfl | rfl | rfl | rfl | rfl | rfl | rfl | rfl
 ·exact bAdd_ok
 ·exact bMul_ok
 ·exact bGCD_ok
 ·exact bNorm_ok
 ·exact bSub_ok
 ·exact bDivMod_ok
 ·exact bCmp_ok
 ·exact bBits_ok
 ·exact bU64_ok
 ·exact bOf_ok
 ·exact rGCD_ok
 ·exact rNorm_ok
 ·exact rSub_ok
 ·exact rDivMod_ok
 ·exact rCmp_ok
 ·exact rOf_ok
 ·exact rSame_ok
 ·exact qAdd_ok
 ·exact qSub_ok
 ·exact qNorm_ok
 ·exact qCompl_ok
 ·exact qReduce_ok
 ·exact rFrac_ok
 ·exact rFNew_ok
 ·exact qSign_ok
 ·exact qCmp_ok
 ·exact rFSame_ok
 ·exact qZero_ok
 ·exact qOne_ok
 ·exact bFrac_ok
 ·exact rSize_ok
@[go_sem] def Env.add (E : Env) (f : Nat) (s : Spec) : Env := ⟨E.P, E.tys, (f, s) :: E.sp, E.ms⟩
theorem Env.Ok.add {E : Env} (h : E.Ok) {f : Nat} {s : Spec} (hs : SpecOk E.P f s) : (E.add f s).Ok :=
 ⟨h.ty, fun x hx => by
  rcases List.mem_cons.1 hx with rfl | hx
  ·exact hs
  ·exact h.sp x hx, h.ms, h.mx⟩
@[go_sem] def Env.addM (E : Env) (f : Nat) (s : MSpec) : Env := ⟨E.P, E.tys, E.sp, (f, s) :: E.ms⟩
theorem Env.Ok.addM {E : Env} (h : E.Ok) {f : Nat} {s : MSpec} (hs : MSpecOk E.P f s) : (E.addM f s).Ok :=
 ⟨h.ty, h.sp, fun x hx => by
  rcases List.mem_cons.1 hx with rfl | hx
  ·exact hs
  ·exact h.ms x hx, h.mx⟩
end Go.Proofs.YthcbjhmdpehooaaGreat.Gx
namespace Go.Proofs.YthcbjhmdpehooaaGreat.Gx
open Go Go.RowKit Tw B Nt
set_option linter.unusedVariables false
attribute [simp] fq_qf
def qs (q : Rat) : Nat := fs (qf q)
theorem fs_qf (q : Rat) : fs (qf q) = qs q := rfl
theorem qs_le {q : Rat} {c : Nat} (h : Qb c q) : qs q ≤ c := by
 unfold qs fs qf
 exact Nat.max_le.2 ⟨dg_len (by omega) h.1, dg_len (by omega) h.2⟩
theorem Bp_lt {l : List Int} {n : Int} (h : Canon l) (hn : N l = n) {c : Nat} (hc : l.length ≤ c) : n < Bp c := by
 rw [← hn]; exact Int.lt_of_lt_of_le (N_lt h.1) (Bp_mono hc)
theorem Qb_qs (q : Rat) : Qb (qs q) q := by
 unfold qs fs qf
 exact ⟨Bp_lt (canon_dg _) (N_dg (by omega)) (Nat.le_max_left _ _), Bp_lt (canon_dg _) (N_dg (by omega)) (Nat.le_max_right _ _)⟩
theorem qs_pos (q : Rat) : 1 ≤ qs q := by
 rcases Nat.eq_zero_or_pos (qs q) with h | h
 ·have := (Qb_qs q).2
  rw [h] at this
  have h1 : Bp 0 = 1 := rfl
  rw [h1] at this
  have := q.den_pos
  omega
 ·exact h
theorem qs_add (p q : Rat) : qs (p + q) ≤ qs p + qs q + 1 := qs_le ((Qb_qs p).add (Qb_qs q))
theorem qs_sub (p q : Rat) : qs (p - q) ≤ qs p + qs q + 1 := qs_le ((Qb_qs p).sub (Qb_qs q))
theorem qs_mul (p q : Rat) : qs (p * q) ≤ qs p + qs q := qs_le ((Qb_qs p).mul (Qb_qs q) (qs_pos p))
theorem qs_neg (p : Rat) : qs (-p) ≤ qs p := qs_le (Qb_qs p).neg
theorem qs_zero : qs 0 ≤ 1 := qs_le Qb.zero
theorem qs_one : qs 1 ≤ 1 := qs_le Qb.one
theorem N_lt' {l : List Int} (h : Ds l) {c : Nat} (hc : l.length ≤ c) : N l < Bp c := Int.lt_of_lt_of_le (N_lt h) (Bp_mono hc)
def Fd (f : fT.den) : Prop := Ds f.2.1 ∧ Ds f.2.2
theorem qs_fq {f : fT.den} (h : Fd f) : qs (fq f) ≤ fs f + 1 := by
 refine qs_le (mk_b (N_nonneg h.1) (N_lt' h.1 ?_) (N_lt' h.2 ?_) (by omega))
 ·have := Nat.le_max_left f.2.1.length f.2.2.length; unfold fs; omega
 ·have := Nat.le_max_right f.2.1.length f.2.2.length; unfold fs; omega
theorem qf_num (q : Rat) : (qf q).2.1.length = 0 ↔ q = 0 := by
 have h1 := (canon_dg (q.num.natAbs : Int)).zero
 rw [N_dg (by omega)] at h1
 show (dg (q.num.natAbs : Int)).length = 0 ↔ q = 0
 rw [List.length_eq_zero_iff, ← h1, ← Rat.num_eq_zero]
 omega
theorem qf_neg (q : Rat) : (qf q).1 = decide (q.num < 0) := rfl
theorem N_num (q : Rat) : N (qf q).2.1 = (q.num.natAbs : Int) := N_dg (by omega)
theorem N_den (q : Rat) : N (qf q).2.2 = (q.den : Int) := N_dg (by omega)
theorem len_num (q : Rat) : (qf q).2.1.length ≤ qs q := Nat.le_max_left _ _
theorem len_den (q : Rat) : (qf q).2.2.length ≤ qs q := Nat.le_max_right _ _
theorem ds_dg (n : Int) : Ds (dg n) := (canon_dg n).1
theorem ds_num (q : Rat) : Ds (qf q).2.1 := ds_dg _
theorem ds_den (q : Rat) : Ds (qf q).2.2 := ds_dg _
theorem dg_mul {l k : List Int} (hl : Ds l) (hk : Ds k) : (dg (N l * N k)).length ≤ l.length + k.length := by
 refine dg_len (Int.mul_nonneg (N_nonneg hl) (N_nonneg hk)) ?_
 rw [Bp_add]
 have h1 := N_lt hl
 have h2 := N_lt hk
 have h3 := N_nonneg hl
 have h4 := N_nonneg hk
 have h5 := Int.mul_le_mul_of_nonneg_left (show N k ≤ Bp k.length by omega) h3
 have h6 := Int.mul_lt_mul_of_pos_right h1 (show 0 < Bp k.length by have := Bp_pos k.length; omega)
 omega
theorem dg_add {l k : List Int} (hl : Ds l) (hk : Ds k) : (dg (N l + N k)).length ≤ l.length + k.length + 1 := by
 refine dg_len (by have := N_nonneg hl; have := N_nonneg hk; omega) ?_
 have h1 := N_lt hl
 have h2 := N_lt hk
 have h3 := Bp_mono (show l.length ≤ l.length + k.length by omega)
 have h4 := Bp_mono (show k.length ≤ l.length + k.length by omega)
 have h5 := Bp_add (l.length + k.length) 1
 have h6 : Bp 1 = 4294967296 := by decide
 have h7 := Bp_pos (l.length + k.length)
 rw [h6] at h5
 omega
theorem dg_mono {a b : Int} (h0 : 0 ≤ a) (h : a ≤ b) : (dg a).length ≤ (dg b).length := by
 refine dg_len h0 ?_
 have := N_lt (canon_dg b).1
 rw [N_dg (by omega)] at this
 omega
theorem dg_small {n : Int} (h0 : 0 ≤ n) (h : n < 18446744073709551616) : (dg n).length ≤ 2 := by
 have e : Bp 2 = 18446744073709551616 := by decide
 exact dg_len h0 (by rw [e]; exact h)
theorem fadd_eq (X Y : Rat) : X + Y = mkRat (sg (decide (X.num < 0)) (X.num.natAbs : Int) * (Y.den : Int) + sg (decide (Y.num < 0)) (Y.num.natAbs : Int) * (X.den : Int)) (X.den * Y.den) := by
 have := mk_add (decide (X.num < 0)) (decide (Y.num < 0)) (X.num.natAbs : Int) (X.den : Int) (Y.num.natAbs : Int) (Y.den : Int) (by have := X.den_pos; omega) (by have := Y.den_pos; omega)
 rw [mk_self, mk_self] at this
 rw [this]
 simp
theorem inR_i64 {n : Int} : inR .i64 n ↔ -9223372036854775808 ≤ n ∧ n ≤ 9223372036854775807 := Iff.rfl
end Go.Proofs.YthcbjhmdpehooaaGreat.Gx
