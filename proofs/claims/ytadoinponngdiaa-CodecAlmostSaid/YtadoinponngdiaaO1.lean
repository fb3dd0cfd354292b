/-
  Small fractions in rows of their own.
-/
import Derived.Test.YtadoinponngdiaaD8
namespace Go.Proofs.Ytadoinponngdiaa.Gx
open Go Go.RowKit Tw B Nt
set_option linter.unusedVariables false
set_option linter.unusedSimpArgs false
set_option maxHeartbeats 4000000
theorem mspec_of {P : Program} {f : FuncId} {s : MSpec} {fn : Func} (hf : P.funcs[f]? = some fn) (hb : fn.body.isSome = true) (hn : (fn.name == "runtime.NumGoroutine") = false)
    (h : ∀ d, AllP (s.F d).pre → ∀ ρ0 X w vs, (∀ b, X b → b < w.heap.size) → Fr w X ρ0 0 ⟨[], mCks s.pks d 0, mNb s.pks⟩ ρ0 act0 w → m ρ0 (XX X ρ0 (mCks s.pks d 0)) w (mArgs s.pks d 0) vs →
      Calls P f vs.toArray w (fun e w' => ∃ v ρ', e = .returned v ∧ Fr w X ρ0 0 ⟨[], (s.F d).ck, (s.F d).nx⟩ ρ' act0 w' ∧ m ρ' (XX X ρ' (s.F d).ck) w' (s.F d).out [v])) : MSpecOk P f s :=
  fun d hd => ⟨fun args w => callFunc_ok hf hb hn args w, h d hd⟩
/-- one own row that is new -/
theorem fr_row {X : Nat → Prop} {w w' : World} {v : Value} {l : List Int} (hX : ∀ b, X b → b < w.heap.size) (hb : Below w.heap.size w w') (ho : w'.ownsRow w.heap.size 61 1 v l.length (l.map (Value.int .u32))) (hl : ∀ d ∈ l, inR .u32 d) :
    Fr w X [] 0 ⟨[], [(0, .row 61 (.int .u32) l)], 1⟩ [v] act0 w' := by
  have hblk : ∀ b, blkO [v] 0 = some b → w.heap.size ≤ b ∧ b < w'.heap.size := by
    intro b e
    have e : blk v = some b := e
    rcases ho.2 with ⟨rfl, _⟩ | ⟨g, cap, cur, rfl, h1, h2, _⟩
    · cases e
    · cases e; exact ⟨h1, heap_lt h2⟩
  refine ⟨rfl, rfl, ⟨hb.os, hb.tape, hb.output, hb.size, fun k hk _ => hb.block k hk⟩, rfl, by simp, ?_, ?_, ?_, ?_, fun t x hx => (by cases hx), ⟨fun b hb => (inB_nil hb).elim, Nat.zero_le _, fun x hx T l e hlt => absurd hlt (Nat.not_lt_zero _)⟩⟩
  · intro x hx
    rw [List.mem_singleton] at hx; subst hx; exact Nat.zero_lt_one
  · intro x hx b e
    rw [List.mem_singleton] at hx; subst hx
    obtain ⟨h1, h2⟩ := hblk b e
    exact ⟨h2, .inl h1⟩
  · intro x hx y hy hne
    rw [List.mem_singleton] at hx hy; subst hx; subst hy; exact absurd rfl hne
  · intro x hx
    rw [List.mem_singleton] at hx; subst hx
    refine ⟨v, l.map (Value.int .u32), rfl, ?_, ?_, ?_⟩
    · refine ⟨ho.1, ?_⟩
      rcases ho.2 with h | ⟨g, cap, cur, e, h1, h2⟩
      · exact .inl h
      · exact .inr ⟨g, cap, cur, e, Nat.zero_le _, h2⟩
    · intro u hu
      obtain ⟨n, _, rfl⟩ := List.mem_map.1 hu
      rfl
    · intro i x hx
      have hi : i < l.length := by
        rcases Nat.lt_or_ge i l.length with h | h
        · exact h
        · rw [List.getElem?_eq_none h] at hx; cases hx
      have hxe : l[i] = x := by rw [List.getElem?_eq_getElem hi] at hx; exact Option.some.inj hx
      refine ⟨?_, hl x (by rw [← hxe]; exact List.getElem_mem _)⟩
      simp only [Ty.size, Nat.mul_one]
      rw [List.drop_eq_getElem_cons (by simpa using hi), List.take_succ_cons, List.take_zero, List.getElem_map, hxe]
theorem own_one {X : Nat → Prop} {w w' : World} {v : Value} {l : List Int} (ho : w'.ownsRow w.heap.size 61 1 v l.length (l.map (Value.int .u32))) : m [v] X w' (.own 0) [v] := by
  refine ⟨v, rfl, ?_, rfl⟩
  rcases ho.2 with ⟨rfl, _⟩ | ⟨g, cap, cur, rfl, _⟩ <;> rfl
theorem nil_ρ {w : World} {X : Nat → Prop} {ρ0 : List Value} (h : Fr w X ρ0 0 ⟨[], [], 0⟩ ρ0 act0 w) : ρ0 = [] := List.length_eq_zero_iff.1 h.nx
theorem u32_dg (n : Int) : ∀ d ∈ dg n, inR .u32 d := fun d hd => inR_u32.2 (ds_dg n d hd)
@[go_sem] def rOfM : MSpec := ⟨[.d (.int .u64)], fun d => ⟨[(0, .row 61 (.int .u32) (dg d.1))], 1, .own 0, []⟩⟩
theorem rOfM_ok : MSpecOk Try.prog 55 rOfM := by
  refine mspec_of (s := rOfM) Try.func55 rfl (by decide) fun d hp ρ0 X w vs hX hf hm => ?_
  obtain ⟨x, rfl, h1⟩ := args1 hm
  obtain ⟨rfl, h2⟩ := m_int h1
  have hρ := nil_ρ hf
  subst hρ
  simp only [inR, lo, hi] at h2
  refine (rOfO _ w h2.1 (by omega)).mono fun e w' ⟨v, l, h3, h4, h5, h6, h7⟩ => ?_
  have e : dg d.1 = l := by rw [← h6]; exact dg_of h5
  refine ⟨v, [v], h3, ?_, own_one h4⟩
  show Fr w X [] 0 ⟨[], [(0, .row 61 (.int .u32) (dg d.1))], 1⟩ [v] act0 w'
  rw [e]
  exact fr_row hX h7 h4 fun d hd => inR_u32.2 (h5.1 d hd)
@[go_sem] def rDivM : MSpec := ⟨[.d nT, .d nT], fun d => ⟨[(0, .row 61 (.int .u32) (dg (N d.1 / N d.2.1)))], 1, .tup (.cons (.own 0) (.cons .any (.cons (.dat .bool (decide (N d.2.1 ≠ 0))) .nil))), [d.1.length ≤ 5000000, d.2.1.length ≤ 5000000]⟩⟩
theorem rDivM_ok : MSpecOk Try.prog 54 rDivM := by
  refine mspec_of (s := rDivM) Try.func54 rfl (by decide) fun d hp ρ0 X w vs hX hf hm => ?_
  obtain ⟨x, y, rfl, h1, h2⟩ := args2 hm
  have hρ := nil_ρ hf
  subst hρ
  refine (rDivModO x y 5000000 _ _ w (num_of h1 _ hp.1) (num_of h2 _ hp.2.1) (by decide)).mono fun e w' ⟨v, vr, h3, ⟨l, h4, h5, h6⟩, h7, h8⟩ => ?_
  have e : dg (N d.1 / N d.2.1) = l := by rw [← h6]; exact dg_of h5
  refine ⟨_, [v], h3, ?_, ⟨[v, vr, .bool (decide (N d.2.1 ≠ 0))], rfl, v, _, rfl, own_one h4, vr, _, rfl, ⟨vr, rfl⟩, _, _, rfl, m_bool_of, rfl⟩⟩
  show Fr w X [] 0 ⟨[], [(0, .row 61 (.int .u32) (dg (N d.1 / N d.2.1)))], 1⟩ [v] act0 w'
  rw [e]
  exact fr_row hX h8 h4 fun d hd => inR_u32.2 (h5.1 d hd)
end Go.Proofs.Ytadoinponngdiaa.Gx
