/-
  Numbers and fractions in the logic of frames.
-/
import Derived.Test.YtpplleoiehnlkaaMFr
import Derived.Test.YtpplleoiehnlkaaQKnown
import Derived.Test.YtpplleoiehnlkaaRBase
namespace Go.Proofs.Ytpplleoiehnlkaa.Fr
open Go.ChangeShapes Go.WideShapes Go.ChangeAt Go.RowKit B Nt
set_option linter.unusedVariables false

/-- the memory of a slice avoids X -/
def Av (X : Nat → Prop) (v : Value) : Prop := ∀ b o sp n c, v = .slice (some ⟨b, o, sp⟩) n c → ¬ X b

theorem isNew_ev {X : Nat → Prop} {w w' : World} {v : Value} {n : Int} (h : IsNew 0 w v n) (ha : Av X v) (e : Ev X w w') : IsNew 0 w' v n := by
  obtain ⟨l, h1, h2, h3, h4⟩ := h
  have hh : ∀ b off sp m c, v = .slice (some ⟨b, off, sp⟩) m c → w'.heap[b]? = w.heap[b]? := by
    intro b off sp m c hv
    obtain ⟨_, cs, q⟩ := h4 b off sp m c hv
    refine e.block b ?_ (ha b off sp m c hv)
    rcases Nat.lt_or_ge b w.heap.size with h | h
    · exact h
    · rw [Array.getElem?_eq_none h] at q; cases q
  refine ⟨l, Row.of_heap h1 hh, h2, h3, ?_⟩
  intro b off sp m c hv
  obtain ⟨q1, cs, q2⟩ := h4 b off sp m c hv
  exact ⟨q1, cs, by rw [hh b off sp m c hv]; exact q2⟩
theorem isNew_av {X Y : Nat → Prop} {w : World} {v : Value} {n : Int} (h : IsNew 0 w v n) (ha : Av X v) (e : ∀ b, Y b → X b ∨ w.heap.size ≤ b) : Av Y v := by
  obtain ⟨l, h1, h2, h3, h4⟩ := h
  intro b off sp m c hv hy
  obtain ⟨_, cs, q⟩ := h4 b off sp m c hv
  rcases e b hy with h | h
  · exact ha b off sp m c hv h
  · rw [Array.getElem?_eq_none h] at q; cases q
theorem isNew_av_base {X : Nat → Prop} {base : Nat} {w : World} {v : Value} {n : Int} (h : IsNew base w v n) (hX : ∀ b, X b → b < base) : Av X v := by
  obtain ⟨l, h1, h2, h3, h4⟩ := h
  intro b off sp m c hv hx
  have := (h4 b off sp m c hv).1
  have := hX b hx
  omega

def SP.nat (n : Int) : SP := ⟨fun X v w => IsNew 0 w v n ∧ Av X v, fun h e => ⟨isNew_ev h.1 h.2 e, h.2⟩, fun h e => ⟨h.1, isNew_av h.1 h.2 e⟩⟩
def SP.q (q : Rat) : SP := ⟨fun X v w => ∃ vn vd, v = .agg #[.bool (decide (q.num < 0)), vn, vd] ∧ (SP.nat (q.num.natAbs : Int)).p X vn w ∧ (SP.nat (q.den : Int)).p X vd w,
  fun ⟨vn, vd, h, a, b⟩ e => ⟨vn, vd, h, SP.st _ a e, SP.st _ b e⟩, fun ⟨vn, vd, h, a, b⟩ e => ⟨vn, vd, h, SP.anti _ a e, SP.anti _ b e⟩⟩

theorem SP.q_is {X : Nat → Prop} {v : Value} {w : World} {q : Rat} (h : (SP.q q).p X v w) : IsQ 0 w v q := by
  obtain ⟨vn, vd, h1, h2, h3⟩ := h
  exact ⟨vn, vd, h1, h2.1, h3.1⟩
theorem SP.q_of {X : Nat → Prop} {base : Nat} {v : Value} {w : World} {q : Rat} (h : IsQ base w v q) (hX : ∀ b, X b → b < base) : (SP.q q).p X v w := by
  obtain ⟨vn, vd, h1, h2, h3⟩ := h
  exact ⟨vn, vd, h1, ⟨h2.mono (Nat.zero_le _), isNew_av_base h2 hX⟩, ⟨h3.mono (Nat.zero_le _), isNew_av_base h3 hX⟩⟩

/-- a call that returns a new fraction -/
theorem retQ {f : FuncId} {args : Array Value} {w : World} {X : Nat → Prop} {q : Rat} (h : Calls Try.prog f args w (RetQ w.heap.size w q)) (hX : ∀ b, X b → b < w.heap.size) : Calls Try.prog f args w (RetS X (SP.q q) w) :=
  h.mono fun e w' ⟨v, h1, h2, h3⟩ => ⟨v, h1, SP.q_of h2 hX, h3⟩
theorem retQE {f : FuncId} {args : Array Value} {w : World} {X : Nat → Prop} {q : Rat} {n : Int} (h : Calls Try.prog f args w (RetQE w.heap.size w q n)) (hX : ∀ b, X b → b < w.heap.size) : Calls Try.prog f args w (RetS X (SP.tup2 (SP.q q) (SP.i n)) w) :=
  h.mono fun e w' ⟨v, h1, h2, h3⟩ => ⟨_, h1, ⟨v, _, rfl, SP.q_of h2 hX, rfl⟩, h3⟩
/-- the zero value of api.Frac -/
abbrev z3 : Value := .agg #[.bool false, .slice none 0 0, .slice none 0 0]
theorem retErr {f : FuncId} {args : Array Value} {w : World} {X : Nat → Prop} {n : Int} (h : Calls Try.prog f args w (ErrQ w n)) : Calls Try.prog f args w (RetS X (SP.tup2 (SP.eq z3) (SP.i n)) w) :=
  h.mono fun e w' ⟨h1, h3⟩ => ⟨_, h1, ⟨_, _, rfl, rfl, rfl⟩, h3⟩
theorem retEq {f : FuncId} {args : Array Value} {w : World} {X : Nat → Prop} {x : Value} (h : Calls Try.prog f args w fun e w' => e = .returned x ∧ Below w.heap.size w w') : Calls Try.prog f args w (RetS X (SP.eq x) w) :=
  h.mono fun e w' ⟨h1, h3⟩ => ⟨_, h1, rfl, h3⟩

section
variable {X : Nat → Prop} {x y : Value} {w : World} {p q : Rat} (c : Nat)
theorem tAdd (hX : ∀ b, X b → b < w.heap.size) (hx : (SP.q p).p X x w) (hy : (SP.q q).p X y w) (h1 : Qb c p) (h2 : Qb c q) (hc : c ≤ 1000) : Calls Try.prog 23 #[x, y] w (RetS X (SP.q (p + q)) w) :=
  retQ (qAdd x y c p q w ((SP.q_is hx).raw c h1) ((SP.q_is hy).raw c h2) (by omega)) hX
theorem tSub (hX : ∀ b, X b → b < w.heap.size) (hx : (SP.q p).p X x w) (hy : (SP.q q).p X y w) (h1 : Qb c p) (h2 : Qb c q) (hc : c ≤ 1000) : Calls Try.prog 28 #[x, y] w (RetS X (SP.q (p - q)) w) :=
  retQ (qSub x y c p q w ((SP.q_is hx).raw c h1) ((SP.q_is hy).raw c h2) (by omega)) hX
theorem tMul (hX : ∀ b, X b → b < w.heap.size) (hx : (SP.q p).p X x w) (hy : (SP.q q).p X y w) (h1 : Qb c p) (h2 : Qb c q) (hc : c ≤ 1000) : Calls Try.prog 29 #[x, y] w (RetS X (SP.q (p * q)) w) :=
  retQ (qMul x y c p q w ((SP.q_is hx).raw c h1) ((SP.q_is hy).raw c h2) (by omega)) hX
theorem tDiv (hX : ∀ b, X b → b < w.heap.size) (hx : (SP.q p).p X x w) (hy : (SP.q q).p X y w) (h1 : Qb c p) (h2 : Qb c q) (hc : c ≤ 1000) (hq : q ≠ 0) : Calls Try.prog 30 #[x, y] w (RetS X (SP.tup2 (SP.q (p / q)) (SP.i 0)) w) :=
  retQE (qDiv x y c p q w ((SP.q_is hx).raw c h1) ((SP.q_is hy).raw c h2) (by omega) hq) hX
theorem tDiv0 (hX : ∀ b, X b → b < w.heap.size) (hx : (SP.q p).p X x w) (hy : (SP.q q).p X y w) (h1 : Qb c p) (h2 : Qb c q) (hc : c ≤ 1000) (hq : q = 0) : Calls Try.prog 30 #[x, y] w (RetS X (SP.tup2 (SP.eq z3) (SP.i 20)) w) :=
  retErr (qDiv0 x y c p q w ((SP.q_is hx).raw c h1) ((SP.q_is hy).raw c h2) (by omega) hq)
theorem tNeg (hX : ∀ b, X b → b < w.heap.size) (hx : (SP.q p).p X x w) (h1 : Qb c p) (hc : c ≤ 1000) : Calls Try.prog 24 #[x] w (RetS X (SP.q (-p)) w) :=
  retQ (qNeg x c p w ((SP.q_is hx).raw c h1) (by omega)) hX
theorem tNorm (hX : ∀ b, X b → b < w.heap.size) (hx : (SP.q p).p X x w) (h1 : Qb c p) (hc : c ≤ 1000) : Calls Try.prog 20 #[x] w (RetS X (SP.q p) w) :=
  retQ (qNormalize x c p w ((SP.q_is hx).raw c h1) (by omega)) hX
theorem tSign (hX : ∀ b, X b → b < w.heap.size) (hx : (SP.q p).p X x w) (h1 : Qb c p) (hc : c ≤ 1000) : Calls Try.prog 27 #[x] w (RetS X (SP.i (sgQ p)) w) :=
  retEq (qSign x c p w ((SP.q_is hx).raw c h1) (by omega))
theorem tCmp (hX : ∀ b, X b → b < w.heap.size) (hx : (SP.q p).p X x w) (hy : (SP.q q).p X y w) (h1 : Qb c p) (h2 : Qb c q) (hc : c ≤ 1000) : Calls Try.prog 26 #[x, y] w (RetS X (SP.i (cmpQ p q)) w) :=
  retEq (qCmp x y c p q w ((SP.q_is hx).raw c h1) ((SP.q_is hy).raw c h2) (by omega))
theorem tSame (hX : ∀ b, X b → b < w.heap.size) (hx : (SP.q p).p X x w) (hy : (SP.q q).p X y w) : Calls Try.prog 13 #[x, y] w (RetS X (SP.b (decide (p = q))) w) :=
  retEq (sameQ (SP.q_is hx) (SP.q_is hy))
theorem tKnown : Calls Try.prog 14 #[] w (RetS X (SP.b true) w) := retEq (Nt.known w)
theorem tNew (hX : ∀ b, X b → b < w.heap.size) {n d : Int} (hx : x = .int .i64 n) (hy : y = .int .i64 d) (h0 : -9223372036854775808 ≤ n) (h1 : n ≤ 9223372036854775807) (h2 : -9223372036854775808 ≤ d) (h3 : d ≤ 9223372036854775807) (hd : d ≠ 0) :
    Calls Try.prog 11 #[x, y] w (RetS X (SP.tup2 (SP.q (Rat.divInt n d)) (SP.i 0)) w) := by
  subst hx hy
  exact retQE (qNew n d w h0 h1 h2 h3 hd) hX
theorem tFrac (hX : ∀ b, X b → b < w.heap.size) {n : Int} (hx : x = .int .i64 n) (h : -9223372036854775808 ≤ n ∧ n ≤ 9223372036854775807) : Calls Try.prog 25 #[x] w (RetS X (SP.q (bfr n)) w) := by
  subst hx
  exact retQ (baseFrac n w h.1 h.2) hX
end

/-- values of api.Frac in a block -/
def lay3 (v : Value) (cs : Array Value) : Prop := ∃ x y z, v = .agg #[x, y, z] ∧ cs = #[x, y, z] ∧ x.oneCell' = true ∧ y.oneCell' = true ∧ z.oneCell' = true
theorem SP.q_lay {q : Rat} (X : Nat → Prop) (v : Value) (w : World) (h : (SP.q q).p X v w) : ∃ cs, lay3 v cs := by
  obtain ⟨vn, vd, rfl, h1, h2⟩ := h
  obtain ⟨a1, n1, c1, rfl⟩ := h1.1.form
  obtain ⟨a2, n2, c2, rfl⟩ := h2.1.form
  exact ⟨_, _, _, _, rfl, rfl, rfl, rfl, rfl⟩
theorem z3_lay (X : Nat → Prop) (v : Value) (w : World) (h : (SP.eq z3).p X v w) : ∃ cs, lay3 v cs := by
  obtain rfl := h
  exact ⟨_, _, _, _, rfl, rfl, rfl, rfl, rfl⟩
theorem setCell_blk {w : World} {b i : Nat} {v : Value} {cs : Array Value} {t : TypeId} {m : Nat × Nat} (h : w.heap[b]? = some (.cells cs t m)) : (w.setCell ⟨b, i, none⟩ v).heap[b]? = some (.cells (cs.setIfInBounds i v) t m) := by
  simp [World.setCell, Array.getElem?_modify, h]
theorem cell_of_blk {w : World} {b i : Nat} {cs : Array Value} {t : TypeId} {m : Nat × Nat} (h : w.heap[b]? = some (.cells cs t m)) : w.cell? ⟨b, i, none⟩ = cs[i]? := by
  simp [World.cell?, h]
theorem frozen_of_blk {w : World} {b i : Nat} {cs : Array Value} {t : TypeId} (h : w.heap[b]? = some (.cells cs t (0, 0))) : w.frozen? ⟨b, i, none⟩ = false := by
  simp [World.frozen?, h]
theorem fracOk : TyOk Try.prog 25 lay3 z3 where
  zero := ⟨_, ⟨_, _, _, rfl, rfl, rfl, rfl, rfl⟩, fun w => by simp [go_sem]⟩
  load := by
    rintro w b v cs h ⟨x, y, z, rfl, rfl, _, _, _⟩
    have h0 := cell_of_blk (i := 0) h
    have h1 := cell_of_blk (i := 1) h
    have h2 := cell_of_blk (i := 2) h
    simp [go_sem, h0, h1, h2]
  store := by
    rintro w b v v' cs cs' h ⟨x, y, z, rfl, rfl, _, _, _⟩ ⟨x', y', z', rfl, rfl, o1, o2, o3⟩
    have k1 := setCell_blk (i := 0) (v := x') h
    have k2 := setCell_blk (i := 1) (v := y') k1
    have k3 := setCell_blk (i := 2) (v := z') k2
    have h0 := cell_of_blk (i := 0) h
    have h1 := cell_of_blk (i := 1) k1
    have h2 := cell_of_blk (i := 2) k2
    have f0 := frozen_of_blk (i := 0) h
    have f1 := frozen_of_blk (i := 1) k1
    have f2 := frozen_of_blk (i := 2) k2
    simp at h0 h1 h2 k3
    refine ⟨((w.setCell ⟨b, 0, none⟩ x').setCell ⟨b, 1, none⟩ y').setCell ⟨b, 2, none⟩ z', ?_, ⟨rfl, rfl, rfl, by simp [World.setCell], k3, fun k hk => ?_⟩⟩
    · simp [go_sem]
      simp [run_store _ _ _ _ _ o1, run_store _ _ _ _ _ o2, run_store _ _ _ _ _ o3, h0, h1, h2, f0, f1, f2]
    · rw [Below.heap_setCell _ _ _ _ hk, Below.heap_setCell _ _ _ _ hk, Below.heap_setCell _ _ _ _ hk]
  box := by
    rintro w v cs ⟨x, y, z, rfl, rfl, o1, o2, o3⟩
    simp [go_sem]
theorem eq_b (m n : Bool) (x y : Operand) (w : World) : (do eqGuard .eql 4 x y (.bool m) (.bool n); binOp .eql 4 (.bool m) (.bool n) : Sem Value).run Try.prog w = .ok (.bool (decide (m = n))) w := by
  cases m <;> cases n <;> simp [go_sem]
theorem ne_b (m n : Bool) (x y : Operand) (w : World) : (do eqGuard .neq 4 x y (.bool m) (.bool n); binOp .neq 4 (.bool m) (.bool n) : Sem Value).run Try.prog w = .ok (.bool (decide (m ≠ n))) w := by
  cases m <;> cases n <;> simp [go_sem]
theorem neg_int (m : Int) (w : World) (h : -9223372036854775807 ≤ m ∧ m ≤ 9223372036854775807) : (Op.unary .neg (.int .i64 m)).run Try.prog w = .ok (.int .i64 (-m)) w := by
  simp [go_sem]; exact IntWalk.i64_in _ (by omega)
end Go.Proofs.Ytpplleoiehnlkaa.Fr
