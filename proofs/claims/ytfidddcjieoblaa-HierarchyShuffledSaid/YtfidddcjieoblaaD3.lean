/-
  Contracts of the functions on fractions, on data.
-/
import Derived.Test.YtfidddcjieoblaaD2
import Derived.Test.YtfidddcjieoblaaQKnown
import Derived.Test.YtfidddcjieoblaaRFrac
import Derived.Test.YtfidddcjieoblaaRBase
namespace Go.Proofs.Ytfidddcjieoblaa.Gx
open Go Go.RowKit Tw B Nt
set_option linter.unusedVariables false

theorem sgQ_in (q : Rat) : inR .i64 (sgQ q) := by rcases sgQ_cases q with h | h | h <;> rw [h] <;> decide
theorem cmpQ_in (p q : Rat) : inR .i64 (cmpQ p q) := sgQ_in _
def f0 : fT.den := (false, [], [])
theorem m_f0 {ρ : List Value} {X : Nat → Prop} {w : World} : m ρ X w (.dat fT f0) [.agg #[.bool false, .slice none 0 0, .slice none 0 0]] :=
  frac_of (f := f0) ⟨[.slice none 0 0], rep_zero X w (.slice _), rfl⟩ ⟨[.slice none 0 0], rep_zero X w (.slice _), rfl⟩
theorem ret_qe {P : Program} {f : FuncId} {args : Array Value} {w : World} {q : Rat} {n : Int} {ρ : List Value} {X : Nat → Prop} (h : Calls P f args w (RetQE w.heap.size w q n)) (hn : inR .i64 n) (hX : ∀ b, X b → b < w.heap.size) :
    Calls P f args w (fun e w' => ∃ v, e = .returned v ∧ m ρ X w' (.tup (.cons (.dat fT (qf q)) (.cons (.dat (.int .i64) n) .nil))) [v] ∧ Below w.heap.size w w') :=
  h.mono fun e w' ⟨v, h1, h2, h3⟩ => ⟨_, h1, tup2 (dat_of_q h2 hX) (m_int_of hn), h3⟩
theorem ret_err {P : Program} {f : FuncId} {args : Array Value} {w : World} {n : Int} {ρ : List Value} {X : Nat → Prop} (h : Calls P f args w (ErrQ w n)) (hn : inR .i64 n) :
    Calls P f args w (fun e w' => ∃ v, e = .returned v ∧ m ρ X w' (.tup (.cons (.dat fT f0) (.cons (.dat (.int .i64) n) .nil))) [v] ∧ Below w.heap.size w w') :=
  h.mono fun e w' ⟨h1, h3⟩ => ⟨_, h1, tup2 m_f0 (m_int_of hn), h3⟩
theorem frow_of {ρ : List Value} {X : Nat → Prop} {w : World} {v : Value} {f : fT.den} (h : m ρ X w (.dat fT f) [v]) : FRow w v f.1 f.2.1 f.2.2 := by
  obtain ⟨vn, vd, h0, h1, h2⟩ := frac_form h
  exact ⟨vn, vd, h0, row_of (rep_of_dat rfl h1), row_of (rep_of_dat rfl h2)⟩
theorem fpC_in (b : List UInt8) : inR .i64 (fpC b) := by
  unfold fpC tC
  repeat (first | decide | split)

@[go_sem] def rFNormS : Spec := ⟨[fT], fun d => (.dat fT (qf (fq d.1)), [fs d.1 ≤ 5000000])⟩
theorem rFNorm_ok : SpecOk Try.prog 64 rFNormS := by
  refine spec_of (s := rFNormS) Try.func64 rfl (by decide) fun d hp ρ X w vs hX hm => ?_
  obtain ⟨x, rfl, h1⟩ := args1 hm
  exact ret_q (rFNorm x 5000000 _ w (raw_of h1 _ hp.1) (by decide)) hX
@[go_sem] def rFracS : Spec := ⟨[.bool, nT, nT], fun d => (.dat fT (qf (mk d.1 (N d.2.1) (N d.2.2.1))), [d.2.1.length ≤ 5000000, d.2.2.1.length ≤ 5000000])⟩
theorem rFrac_ok : SpecOk Try.prog 69 rFracS := by
  refine spec_of (s := rFracS) Try.func69 rfl (by decide) fun d hp ρ X w vs hX hm => ?_
  obtain ⟨x, y, z, rfl, h0, h1, h2⟩ := args3 hm
  have h0 := m_bool h0; subst h0
  exact ret_q (rFrac _ y z 5000000 _ _ w (num_of h1 _ hp.1) (num_of h2 _ hp.2.1) (by decide)) hX
@[go_sem] def rFNewS : Spec := ⟨[.int .i64, .int .i64], fun d => (.tup (.cons (.dat fT (if d.2.1 = (0 : Int) then f0 else qf (Rat.divInt d.1 d.2.1))) (.cons (.dat (.int .i64) (if d.2.1 = (0 : Int) then 20 else 0)) .nil)), [])⟩
theorem rFNew_ok : SpecOk Try.prog 68 rFNewS := by
  refine spec_of (s := rFNewS) Try.func68 rfl (by decide) fun d hp ρ X w vs hX hm => ?_
  obtain ⟨a, b, u⟩ := d
  have hm : m ρ X w (.cons (.dat (.int .i64) a) (.cons (.dat (.int .i64) b) .nil)) vs := hm
  obtain ⟨x, y, rfl, h1, h2⟩ := args2 hm
  obtain ⟨rfl, k1⟩ := m_int h1
  obtain ⟨rfl, k2⟩ := m_int h2
  have key : ∀ (a b : Int), -9223372036854775808 ≤ a ∧ a ≤ 9223372036854775807 → -9223372036854775808 ≤ b ∧ b ≤ 9223372036854775807 → Calls Try.prog 68 #[.int .i64 a, .int .i64 b] w (fun e w' => ∃ v, e = .returned v ∧ m ρ X w' (.tup (.cons (.dat fT (if b = (0 : Int) then f0 else qf (Rat.divInt a b))) (.cons (.dat (.int .i64) (if b = (0 : Int) then 20 else 0)) .nil))) [v] ∧ Below w.heap.size w w') := by
    intro a b h1 h2
    by_cases h : b = 0
    · subst h
      exact ret_err (rFNew0 _ w) (by decide)
    · rw [if_neg h, if_neg h]
      exact ret_qe (rFNew _ _ w h1.1 h1.2 h2.1 h2.2 h) (by decide) hX
  exact key a b k1 k2
@[go_sem] def rSizeS : Spec := ⟨[.int .i64], fun d => (.dat nT (dg (d.1.natAbs : Int)), [])⟩
theorem rSize_ok : SpecOk Try.prog 72 rSizeS := by
  refine spec_of (s := rSizeS) Try.func72 rfl (by decide) fun d hp ρ X w vs hX hm => ?_
  obtain ⟨x, rfl, h1⟩ := args1 hm
  obtain ⟨rfl, h2⟩ := m_int h1
  simp only [inR, lo, hi] at h2
  exact ret_new (rSize _ w h2.1 h2.2) hX
end Go.Proofs.Ytfidddcjieoblaa.Gx
