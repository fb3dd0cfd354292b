/-
  Fractions as lasting predicates; contracts in that form.
-/
import Derived.Test.YtpplleoiehnlkaaMTw
import Derived.Test.YtpplleoiehnlkaaQKnown
import Derived.Test.YtpplleoiehnlkaaRBase
namespace Go.Proofs.Ytpplleoiehnlkaa.Tw
open Go.ChangeShapes Go.WideShapes Go.ChangeAt Go.RowKit B Nt
set_option linter.unusedVariables false

def SP.q (q : Rat) : SP := ⟨fun v w => IsQ 0 w v q, fun v w w' h hb => h.keep hb⟩
def SP.i (n : Int) : SP := SP.eq (.int .i64 n)
def SP.b (b : Bool) : SP := SP.eq (.bool b)

theorem tAdd {x y : Value} {w : World} {p q : Rat} (c : Nat) (hx : IsQ 0 w x p) (hy : IsQ 0 w y q) (h1 : Qb c p) (h2 : Qb c q) (hc : c ≤ 1000) :
    Calls Try.prog 23 #[x, y] w (RetS (SP.q (p + q)) w) :=
  (qAdd x y c p q w (hx.raw c h1) (hy.raw c h2) (by omega)).mono fun e w' ⟨v, h1, h2, h3⟩ => ⟨v, h1, h2.mono (Nat.zero_le _), h3⟩
theorem tSub {x y : Value} {w : World} {p q : Rat} (c : Nat) (hx : IsQ 0 w x p) (hy : IsQ 0 w y q) (h1 : Qb c p) (h2 : Qb c q) (hc : c ≤ 1000) :
    Calls Try.prog 28 #[x, y] w (RetS (SP.q (p - q)) w) :=
  (qSub x y c p q w (hx.raw c h1) (hy.raw c h2) (by omega)).mono fun e w' ⟨v, h1, h2, h3⟩ => ⟨v, h1, h2.mono (Nat.zero_le _), h3⟩
theorem tMul {x y : Value} {w : World} {p q : Rat} (c : Nat) (hx : IsQ 0 w x p) (hy : IsQ 0 w y q) (h1 : Qb c p) (h2 : Qb c q) (hc : c ≤ 1000) :
    Calls Try.prog 29 #[x, y] w (RetS (SP.q (p * q)) w) :=
  (qMul x y c p q w (hx.raw c h1) (hy.raw c h2) (by omega)).mono fun e w' ⟨v, h1, h2, h3⟩ => ⟨v, h1, h2.mono (Nat.zero_le _), h3⟩
theorem tNeg {x : Value} {w : World} {p : Rat} (c : Nat) (hx : IsQ 0 w x p) (h1 : Qb c p) (hc : c ≤ 1000) :
    Calls Try.prog 24 #[x] w (RetS (SP.q (-p)) w) :=
  (qNeg x c p w (hx.raw c h1) (by omega)).mono fun e w' ⟨v, h1, h2, h3⟩ => ⟨v, h1, h2.mono (Nat.zero_le _), h3⟩
theorem tNorm {x : Value} {w : World} {p : Rat} (c : Nat) (hx : IsQ 0 w x p) (h1 : Qb c p) (hc : c ≤ 1000) :
    Calls Try.prog 20 #[x] w (RetS (SP.q p) w) :=
  (qNormalize x c p w (hx.raw c h1) (by omega)).mono fun e w' ⟨v, h1, h2, h3⟩ => ⟨v, h1, h2.mono (Nat.zero_le _), h3⟩
theorem tSign {x : Value} {w : World} {p : Rat} (c : Nat) (hx : IsQ 0 w x p) (h1 : Qb c p) (hc : c ≤ 1000) :
    Calls Try.prog 27 #[x] w (RetS (SP.i (sgQ p)) w) :=
  (qSign x c p w (hx.raw c h1) (by omega)).mono fun e w' ⟨h1, h2⟩ => ⟨_, h1, rfl, h2⟩
theorem tCmp {x y : Value} {w : World} {p q : Rat} (c : Nat) (hx : IsQ 0 w x p) (hy : IsQ 0 w y q) (h1 : Qb c p) (h2 : Qb c q) (hc : c ≤ 1000) :
    Calls Try.prog 26 #[x, y] w (RetS (SP.i (cmpQ p q)) w) :=
  (qCmp x y c p q w (hx.raw c h1) (hy.raw c h2) (by omega)).mono fun e w' ⟨h1, h2⟩ => ⟨_, h1, rfl, h2⟩
theorem tSame {x y : Value} {w : World} {p q : Rat} (hx : IsQ 0 w x p) (hy : IsQ 0 w y q) :
    Calls Try.prog 13 #[x, y] w (RetS (SP.b (decide (p = q))) w) :=
  (sameQ hx hy).mono fun e w' ⟨h1, h2⟩ => ⟨_, h1, rfl, h2⟩
theorem tKnown (w : World) : Calls Try.prog 14 #[] w (RetS (SP.b true) w) :=
  (Nt.known w).mono fun e w' ⟨h1, h2⟩ => ⟨_, h1, rfl, h2⟩

/-- a box that holds a fraction -/
theorem load_frac {w : World} {b : Nat} {x y z : Value} (h0 : w.cell? ⟨b, 0, none⟩ = some x) (h1 : w.cell? ⟨b, 1, none⟩ = some y) (h2 : w.cell? ⟨b, 2, none⟩ = some z) :
    (Instr.loadAt 25 (.pointer (some ⟨b, 0, none⟩))).run Try.prog w = .ok (.agg #[x, y, z]) w := by
  simp [go_sem, h0, h1, h2]
theorem box_frac {w0 : World} {b : Nat} {x y z : Value} {q : Rat} (hB : Box3 w0 b x y z) (hq : IsQ 0 w0 (.agg #[x, y, z]) q) (w : World) (hb : Below w0.heap.size w0 w) :
    (Instr.loadAt 25 (.pointer (some ⟨b, 0, none⟩))).run Try.prog w = .ok (.agg #[x, y, z]) w ∧ (SP.q q).p (.agg #[x, y, z]) w := by
  have h := (hB.keep hb).1
  exact ⟨load_frac h.1 h.2.1 h.2.2, hq.keep hb⟩
theorem eq_int (m n : Int) (x y : Operand) (w : World) : (do eqGuard .eql 3 x y (.int .i64 m) (.int .i64 n); binOp .eql 3 (.int .i64 m) (.int .i64 n) : Sem Value).run Try.prog w = .ok (.bool (m == n)) w := by
  simp [go_sem]
theorem eq_bool (m n : Bool) (x y : Operand) (w : World) : (do eqGuard .eql 4 x y (.bool m) (.bool n); binOp .eql 4 (.bool m) (.bool n) : Sem Value).run Try.prog w = .ok (.bool (m == n)) w := by
  simp [go_sem]
theorem gt_int (m n : Int) (x y : Operand) (w : World) : (do eqGuard .gtr 3 x y (.int .i64 m) (.int .i64 n); binOp .gtr 3 (.int .i64 m) (.int .i64 n) : Sem Value).run Try.prog w = .ok (.bool (decide (n < m))) w := by
  simp [go_sem]
theorem le_int (m n : Int) (x y : Operand) (w : World) : (do eqGuard .leq 3 x y (.int .i64 m) (.int .i64 n); binOp .leq 3 (.int .i64 m) (.int .i64 n) : Sem Value).run Try.prog w = .ok (.bool (decide (m ≤ n))) w := by
  simp [go_sem]
theorem neg_int (m : Int) (w : World) (h : -9223372036854775807 ≤ m ∧ m ≤ 9223372036854775807) : (Op.unary .neg (.int .i64 m)).run Try.prog w = .ok (.int .i64 (-m)) w := by
  simp [go_sem]; exact IntWalk.i64_in _ (by omega)
end Go.Proofs.Ytpplleoiehnlkaa.Tw
