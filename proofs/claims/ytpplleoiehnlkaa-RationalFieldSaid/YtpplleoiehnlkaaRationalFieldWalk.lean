/-
  The walk of RationalField.
-/
import Derived.Test.YtpplleoiehnlkaaFrQ
namespace Go.Proofs.Ytpplleoiehnlkaa.rationalField
open Go.ChangeShapes Go.WideShapes Go.ChangeAt Go.RowKit B Nt Fr Tw
set_option linter.unusedVariables false

theorem one_new : Rat.divInt 1 1 = 1 := by decide +kernel
theorem tOne {X : Nat → Prop} {x y : Value} {w : World} (hX : ∀ b, X b → b < w.heap.size) (hx : x = .int .i64 1) (hy : y = .int .i64 1) : Calls Try.prog 11 #[x, y] w (RetS X (SP.tup2 (SP.q 1) (SP.i 0)) w) := by
  have := tNew hX hx hy (by decide) (by decide) (by decide) (by decide) (by decide)
  rwa [one_new] at this
theorem q_one : Qb 1 1 := Qb.one
def c0F0_0 (a0 a1 a2 : Int) : List SP := [
  SP.b false]

def c0F1_0 (a0 a1 a2 : Int) : List SP := [
  SP.i a0,
  SP.q (bfr a0),
  SP.i a1,
  SP.q (bfr a1),
  SP.i a2,
  SP.q (bfr a2)]

def c0F2_0 (a0 a1 a2 : Int) : List SP := [
  SP.tup2 (SP.q 1) (SP.i 0),
  SP.tup2 (SP.q 1) (SP.i 0),
  SP.q 1,
  SP.i 0]

def c0F2_6 (a0 a1 a2 : Int) : List SP := [
  SP.i 0]

def c0F3_0 (a0 a1 a2 : Int) : List SP := [
  SP.q 1,
  SP.q (bfr a1),
  SP.tup2 (SP.eq (z3)) (SP.i 20),
  SP.tup2 (SP.eq (z3)) (SP.i 20),
  SP.eq (z3),
  SP.i 20]

def c0F3_8 (a0 a1 a2 : Int) : List SP := [
  SP.i 20]

def c0F4_0 (a0 a1 a2 : Int) : List SP := [
  SP.i 20,
  SP.b true,
  SP.b true]

def c0F5_0 (a0 a1 a2 : Int) : List SP := [
  SP.q (bfr a1),
  SP.i (sgQ (bfr a1)),
  SP.b false]

def c0F7_0 (a0 a1 a2 : Int) : List SP := [
  SP.i 0,
  SP.b true,
  SP.b true,
  SP.b true,
  SP.b true,
  SP.b true,
  SP.q (bfr a0),
  SP.q (bfr a1),
  SP.q ((bfr a0) + (bfr a1)),
  SP.q (bfr a1),
  SP.q (bfr a0),
  SP.q ((bfr a1) + (bfr a0)),
  SP.b true,
  SP.b true,
  SP.b true,
  SP.q (bfr a0),
  SP.q (bfr a1),
  SP.q ((bfr a0) * (bfr a1)),
  SP.q (bfr a1),
  SP.q (bfr a0),
  SP.q ((bfr a1) * (bfr a0)),
  SP.b true,
  SP.b true,
  SP.b true,
  SP.q (bfr a0),
  SP.q (bfr a1),
  SP.q ((bfr a0) + (bfr a1)),
  SP.q (bfr a2),
  SP.q (((bfr a0) + (bfr a1)) + (bfr a2)),
  SP.q (bfr a0),
  SP.q (bfr a1),
  SP.q (bfr a2),
  SP.q ((bfr a1) + (bfr a2)),
  SP.q ((bfr a0) + ((bfr a1) + (bfr a2))),
  SP.b true,
  SP.b true,
  SP.b true,
  SP.q (bfr a0),
  SP.q (bfr a1),
  SP.q ((bfr a0) * (bfr a1)),
  SP.q (bfr a2),
  SP.q (((bfr a0) * (bfr a1)) * (bfr a2)),
  SP.q (bfr a0),
  SP.q (bfr a1),
  SP.q (bfr a2),
  SP.q ((bfr a1) * (bfr a2)),
  SP.q ((bfr a0) * ((bfr a1) * (bfr a2))),
  SP.b true,
  SP.b true,
  SP.b true,
  SP.q (bfr a0),
  SP.q (bfr a1),
  SP.q (bfr a2),
  SP.q ((bfr a1) + (bfr a2)),
  SP.q ((bfr a0) * ((bfr a1) + (bfr a2))),
  SP.q (bfr a0),
  SP.q (bfr a1),
  SP.q ((bfr a0) * (bfr a1)),
  SP.q (bfr a0),
  SP.q (bfr a2),
  SP.q ((bfr a0) * (bfr a2)),
  SP.q (((bfr a0) * (bfr a1)) + ((bfr a0) * (bfr a2))),
  SP.b true,
  SP.b true,
  SP.b true,
  SP.q (bfr a0),
  SP.q (bfr a0),
  SP.q (-(bfr a0)),
  SP.q ((bfr a0) + (-(bfr a0))),
  SP.i (sgQ ((bfr a0) + (-(bfr a0)))),
  SP.b true,
  SP.b true,
  SP.b true,
  SP.b true,
  SP.b true,
  SP.b true]

set_option maxRecDepth 100000 in
set_option maxHeartbeats 4000000 in
theorem walk0 (a0 : Int) (a1 : Int) (a2 : Int) (ha0 : -9223372036854775808 ≤ a0 ∧ a0 ≤ 9223372036854775807) (ha1 : -9223372036854775808 ≤ a1 ∧ a1 ≤ 9223372036854775807) (ha2 : -9223372036854775808 ≤ a2 ∧ a2 ≤ 9223372036854775807) (w : World) (hz : bfr a1 = 0) :
    Calls Try.prog 7 #[.int .i64 a0, .int .i64 a1, .int .i64 a2] w (RetS (fun _ => False) (SP.b true) w) := by
  refine enter (N := 120) Try.func7 rfl Try.ntmps7 (fun b h => h.elim) (by simp) (Γ := [(0, SP.i a0), (1, SP.i a1), (2, SP.i a2)]) (.cons rfl rfl (.cons rfl rfl (.cons rfl rfl .nil))) (fun a h0 => ?_)
  refine wp_seq ?_
  try dsimp only [List.append]
  refine regionS h0 (c0F0_0 a0 a1 a2) [[]] (by kernel_rfl) (by kernel_rfl) ?_ [(0, SP.i a0), (1, SP.i a1), (2, SP.i a2), (6, SP.b false)] (by kernel_rfl) (.old (by kernel_rfl) (.head _) (.old (by kernel_rfl) (.tail _ (.head _)) (.old (by kernel_rfl) (.tail _ (.tail _ (.head _))) (.op 0 (by kernel_rfl) rfl .nil)))) (fun a w h => ?_)
  · refine Obs.cons (ob_assign (s := none) (fun v w h => h)) ?_
    exact Obs.nil
  refine wp_seq ?_
  refine region0 ?_
  refine segN 6 h (c0F1_0 a0 a1 a2) [[(0, none)], [(15, some 0)], [(1, none)], [(17, some 2)], [(2, none)], [(19, some 4)]] (by kernel_rfl) (by kernel_rfl) ?_ [(0, SP.i a0), (1, SP.i a1), (2, SP.i a2), (6, SP.b false), (16, SP.q (bfr a0)), (18, SP.q (bfr a1)), (20, SP.q (bfr a2))] (by kernel_rfl) (.old (by kernel_rfl) (.head _) (.old (by kernel_rfl) (.tail _ (.head _)) (.old (by kernel_rfl) (.tail _ (.tail _ (.head _))) (.old (by kernel_rfl) (.tail _ (.tail _ (.tail _ (.head _)))) (.op 1 (by kernel_rfl) rfl (.op 3 (by kernel_rfl) rfl (.op 5 (by kernel_rfl) rfl .nil))))))) (fun a w h => ?_)
  · refine Obs.cons (ob_move (s := none) (fun v w h => (h.1 _ (.head _)))) ?_
    refine Obs.cons (ob_call1 (s1 := some 0) Try.call25 (fun x w hw hx => tFrac hw.lt hx ha0)) ?_
    refine Obs.cons (ob_move (s := none) (fun v w h => (h.1 _ (.tail _ (.head _))))) ?_
    refine Obs.cons (ob_call1 (s1 := some 2) Try.call25 (fun x w hw hx => tFrac hw.lt hx ha1)) ?_
    refine Obs.cons (ob_move (s := none) (fun v w h => (h.1 _ (.tail _ (.tail _ (.head _)))))) ?_
    refine Obs.cons (ob_call1 (s1 := some 4) Try.call25 (fun x w hw hx => tFrac hw.lt hx ha2)) ?_
    exact Obs.nil
  refine falloc fracOk h [(0, SP.i a0), (1, SP.i a1), (2, SP.i a2), (6, SP.b false), (16, SP.q (bfr a0)), (18, SP.q (bfr a1)), (20, SP.q (bfr a2))] (by decide) (.cons (.head _) (by decide) (.cons (.tail _ (.head _)) (by decide) (.cons (.tail _ (.tail _ (.head _))) (by decide) (.cons (.tail _ (.tail _ (.tail _ (.head _)))) (by decide) (.cons (.tail _ (.tail _ (.tail _ (.tail _ (.head _))))) (by decide) (.cons (.tail _ (.tail _ (.tail _ (.tail _ (.tail _ (.head _)))))) (by decide) (.cons (.tail _ (.tail _ (.tail _ (.tail _ (.tail _ (.tail _ (.head _))))))) (by decide) .nil))))))) (by kernel_rfl) (fun b1 a w h => ?_)
  refine falloc fracOk h [(0, SP.i a0), (1, SP.i a1), (2, SP.i a2), (6, SP.b false), (16, SP.q (bfr a0)), (18, SP.q (bfr a1)), (20, SP.q (bfr a2))] (by decide) (.cons (.head _) (by decide) (.cons (.tail _ (.head _)) (by decide) (.cons (.tail _ (.tail _ (.head _))) (by decide) (.cons (.tail _ (.tail _ (.tail _ (.head _)))) (by decide) (.cons (.tail _ (.tail _ (.tail _ (.tail _ (.head _))))) (by decide) (.cons (.tail _ (.tail _ (.tail _ (.tail _ (.tail _ (.head _)))))) (by decide) (.cons (.tail _ (.tail _ (.tail _ (.tail _ (.tail _ (.tail _ (.head _))))))) (by decide) .nil))))))) (by kernel_rfl) (fun b2 a w h => ?_)
  refine falloc fracOk h [(0, SP.i a0), (1, SP.i a1), (2, SP.i a2), (6, SP.b false), (16, SP.q (bfr a0)), (18, SP.q (bfr a1)), (20, SP.q (bfr a2))] (by decide) (.cons (.head _) (by decide) (.cons (.tail _ (.head _)) (by decide) (.cons (.tail _ (.tail _ (.head _))) (by decide) (.cons (.tail _ (.tail _ (.tail _ (.head _)))) (by decide) (.cons (.tail _ (.tail _ (.tail _ (.tail _ (.head _))))) (by decide) (.cons (.tail _ (.tail _ (.tail _ (.tail _ (.tail _ (.head _)))))) (by decide) (.cons (.tail _ (.tail _ (.tail _ (.tail _ (.tail _ (.tail _ (.head _))))))) (by decide) .nil))))))) (by kernel_rfl) (fun b3 a w h => ?_)
  refine fstore fracOk h (.tail (.tail (.head))) (.tail _ (.tail _ (.tail _ (.tail _ (.head _))))) SP.q_lay (fun w h => ?_)
  refine fstore fracOk h (.tail (.head)) (.tail _ (.tail _ (.tail _ (.tail _ (.tail _ (.head _)))))) SP.q_lay (fun w h => ?_)
  refine fstore fracOk h (.head) (.tail _ (.tail _ (.tail _ (.tail _ (.tail _ (.tail _ (.head _))))))) SP.q_lay (fun w h => ?_)
  refine seg_end ?_
  refine wp_seq ?_
  refine region0 ?_
  refine segN 4 h (c0F2_0 a0 a1 a2) [[], [(22, some 0)], [(21, some 1)], [(21, some 1)]] (by kernel_rfl) (by kernel_rfl) ?_ [(0, SP.i a0), (1, SP.i a1), (2, SP.i a2), (6, SP.b false), (23, SP.q 1), (24, SP.i 0)] (by kernel_rfl) (.old (by kernel_rfl) (.head _) (.old (by kernel_rfl) (.tail _ (.head _)) (.old (by kernel_rfl) (.tail _ (.tail _ (.head _))) (.old (by kernel_rfl) (.tail _ (.tail _ (.tail _ (.head _)))) (.op 2 (by kernel_rfl) rfl (.op 3 (by kernel_rfl) rfl .nil)))))) (fun a w h => ?_)
  · refine Obs.cons (ob_call2 (s1 := none) (s2 := none) Try.call11 (fun x y w hw hx hy => tOne hw.lt hx hy)) ?_
    refine Obs.cons (ob_move (s := some 0) (fun v w h => h)) ?_
    refine Obs.cons (ob_extract (fun v w h => let ⟨x0, x1, e, g0, g1⟩ := h; ⟨x0, fun w' => by rw [e]; simp [go_sem], g0⟩)) ?_
    refine Obs.cons (ob_extract (fun v w h => let ⟨x0, x1, e, g0, g1⟩ := h; ⟨x1, fun w' => by rw [e]; simp [go_sem], g1⟩)) ?_
    exact Obs.nil
  refine falloc fracOk h [(0, SP.i a0), (1, SP.i a1), (2, SP.i a2), (6, SP.b false), (23, SP.q 1), (24, SP.i 0)] (by decide) (.cons (.head _) (by decide) (.cons (.tail _ (.head _)) (by decide) (.cons (.tail _ (.tail _ (.head _))) (by decide) (.cons (.tail _ (.tail _ (.tail _ (.head _)))) (by decide) (.cons (.tail _ (.tail _ (.tail _ (.tail _ (.head _))))) (by decide) (.cons (.tail _ (.tail _ (.tail _ (.tail _ (.tail _ (.head _)))))) (by decide) .nil)))))) (by kernel_rfl) (fun b4 a w h => ?_)
  refine fstore fracOk h (.head) (.tail _ (.tail _ (.tail _ (.tail _ (.head _))))) SP.q_lay (fun w h => ?_)
  refine segN 1 h (c0F2_6 a0 a1 a2) [[(24, none)]] (by kernel_rfl) (by kernel_rfl) ?_ [(0, SP.i a0), (1, SP.i a1), (2, SP.i a2), (6, SP.b false), (11, SP.i 0)] (by kernel_rfl) (.old (by kernel_rfl) (.head _) (.old (by kernel_rfl) (.tail _ (.head _)) (.old (by kernel_rfl) (.tail _ (.tail _ (.head _))) (.old (by kernel_rfl) (.tail _ (.tail _ (.tail _ (.head _)))) (.op 0 (by kernel_rfl) rfl .nil))))) (fun a w h => ?_)
  · refine Obs.cons (ob_assign (s := none) (fun v w h => (h.1 _ (.tail _ (.tail _ (.tail _ (.tail _ (.tail _ (.head _))))))))) ?_
    exact Obs.nil
  refine seg_end ?_
  refine wp_seq ?_
  refine region0 ?_
  refine segN 6 h (c0F3_0 a0 a1 a2) [[(10, none)], [(8, none)], [(26, some 0), (27, some 1)], [(28, some 2)], [(25, some 3)], [(25, some 3)]] (by kernel_rfl) (by kernel_rfl) ?_ [(0, SP.i a0), (1, SP.i a1), (2, SP.i a2), (6, SP.b false), (11, SP.i 0), (29, SP.eq (z3)), (30, SP.i 20)] (by kernel_rfl) (.old (by kernel_rfl) (.head _) (.old (by kernel_rfl) (.tail _ (.head _)) (.old (by kernel_rfl) (.tail _ (.tail _ (.head _))) (.old (by kernel_rfl) (.tail _ (.tail _ (.tail _ (.head _)))) (.old (by kernel_rfl) (.tail _ (.tail _ (.tail _ (.tail _ (.head _))))) (.op 4 (by kernel_rfl) rfl (.op 5 (by kernel_rfl) rfl .nil))))))) (fun a w h => ?_)
  · refine Obs.cons (ob_load fracOk (.head _) (fun v w h => h)) ?_
    refine Obs.cons (ob_load fracOk (.tail _ (.tail _ (.head _))) (fun v w h => h)) ?_
    refine Obs.cons (ob_call2 (s1 := some 0) (s2 := some 1) Try.call30 (fun x y w hw hx hy => tDiv0 1 hw.lt hx hy (q_one) (bfr_b a1) (by decide) hz)) ?_
    refine Obs.cons (ob_move (s := some 2) (fun v w h => h)) ?_
    refine Obs.cons (ob_extract (fun v w h => let ⟨x0, x1, e, g0, g1⟩ := h; ⟨x0, fun w' => by rw [e]; simp [go_sem], g0⟩)) ?_
    refine Obs.cons (ob_extract (fun v w h => let ⟨x0, x1, e, g0, g1⟩ := h; ⟨x1, fun w' => by rw [e]; simp [go_sem], g1⟩)) ?_
    exact Obs.nil
  refine falloc fracOk h [(0, SP.i a0), (1, SP.i a1), (2, SP.i a2), (6, SP.b false), (11, SP.i 0), (29, SP.eq (z3)), (30, SP.i 20)] (by decide) (.cons (.head _) (by decide) (.cons (.tail _ (.head _)) (by decide) (.cons (.tail _ (.tail _ (.head _))) (by decide) (.cons (.tail _ (.tail _ (.tail _ (.head _)))) (by decide) (.cons (.tail _ (.tail _ (.tail _ (.tail _ (.head _))))) (by decide) (.cons (.tail _ (.tail _ (.tail _ (.tail _ (.tail _ (.head _)))))) (by decide) (.cons (.tail _ (.tail _ (.tail _ (.tail _ (.tail _ (.tail _ (.head _))))))) (by decide) .nil))))))) (by kernel_rfl) (fun b5 a w h => ?_)
  refine fstore fracOk h (.head) (.tail _ (.tail _ (.tail _ (.tail _ (.tail _ (.head _)))))) z3_lay (fun w h => ?_)
  refine segN 1 h (c0F3_8 a0 a1 a2) [[(30, none)]] (by kernel_rfl) (by kernel_rfl) ?_ [(0, SP.i a0), (1, SP.i a1), (2, SP.i a2), (6, SP.b false), (11, SP.i 0), (13, SP.i 20)] (by kernel_rfl) (.old (by kernel_rfl) (.head _) (.old (by kernel_rfl) (.tail _ (.head _)) (.old (by kernel_rfl) (.tail _ (.tail _ (.head _))) (.old (by kernel_rfl) (.tail _ (.tail _ (.tail _ (.head _)))) (.old (by kernel_rfl) (.tail _ (.tail _ (.tail _ (.tail _ (.head _))))) (.op 0 (by kernel_rfl) rfl .nil)))))) (fun a w h => ?_)
  · refine Obs.cons (ob_assign (s := none) (fun v w h => (h.1 _ (.tail _ (.tail _ (.tail _ (.tail _ (.tail _ (.tail _ (.head _)))))))))) ?_
    exact Obs.nil
  refine seg_end ?_
  refine wp_seq ?_
  try dsimp only [List.append]
  refine regionS h (c0F4_0 a0 a1 a2) [[(13, none)], [(31, some 0)], [(32, some 1)]] (by kernel_rfl) (by kernel_rfl) ?_ [(0, SP.i a0), (1, SP.i a1), (2, SP.i a2), (6, SP.b false), (11, SP.i 0), (13, SP.i 20), (14, SP.b true)] (by kernel_rfl) (.old (by kernel_rfl) (.head _) (.old (by kernel_rfl) (.tail _ (.head _)) (.old (by kernel_rfl) (.tail _ (.tail _ (.head _))) (.old (by kernel_rfl) (.tail _ (.tail _ (.tail _ (.head _)))) (.old (by kernel_rfl) (.tail _ (.tail _ (.tail _ (.tail _ (.head _))))) (.old (by kernel_rfl) (.tail _ (.tail _ (.tail _ (.tail _ (.tail _ (.head _)))))) (.op 2 (by kernel_rfl) rfl .nil))))))) (fun a w h => ?_)
  · refine Obs.cons (ob_move (s := none) (fun v w h => (h.1 _ (.tail _ (.tail _ (.tail _ (.tail _ (.tail _ (.head _))))))))) ?_
    refine Obs.cons (ob_bin (s1 := some 0) (s2 := none) (fun v w h => h) (fun v w h => h) (eq_i 20 20 _ _) (fun w => congrArg Value.bool (decide_eq_true rfl))) ?_
    refine Obs.cons (ob_assign (s := some 1) (fun v w h => h)) ?_
    exact Obs.nil
  refine wp_seq ?_
  refine wp_seq ?_
  try dsimp only [List.append]
  refine regionS h (c0F5_0 a0 a1 a2) [[(8, none)], [(33, some 0)], [(34, some 1)]] (by kernel_rfl) (by kernel_rfl) ?_ [(0, SP.i a0), (1, SP.i a1), (2, SP.i a2), (6, SP.b false), (11, SP.i 0), (13, SP.i 20), (14, SP.b true), (35, SP.b false)] (by kernel_rfl) (.old (by kernel_rfl) (.head _) (.old (by kernel_rfl) (.tail _ (.head _)) (.old (by kernel_rfl) (.tail _ (.tail _ (.head _))) (.old (by kernel_rfl) (.tail _ (.tail _ (.tail _ (.head _)))) (.old (by kernel_rfl) (.tail _ (.tail _ (.tail _ (.tail _ (.head _))))) (.old (by kernel_rfl) (.tail _ (.tail _ (.tail _ (.tail _ (.tail _ (.head _)))))) (.old (by kernel_rfl) (.tail _ (.tail _ (.tail _ (.tail _ (.tail _ (.tail _ (.head _))))))) (.op 2 (by kernel_rfl) rfl .nil)))))))) (fun a w h => ?_)
  · refine Obs.cons (ob_load fracOk (.tail _ (.tail _ (.tail _ (.head _)))) (fun v w h => h)) ?_
    refine Obs.cons (ob_call1 (s1 := some 0) Try.call27 (fun x w hw hx => tSign 1 hw.lt hx (bfr_b a1) (by decide))) ?_
    refine Obs.cons (ob_bin (s1 := some 1) (s2 := none) (fun v w h => h) (fun v w h => h) (ne_i (sgQ (bfr a1)) 0 _ _) (fun w => congrArg Value.bool (decide_eq_false (fun h => h (show sgQ (bfr a1) = 0 by rw [hz]; rfl))))) ?_
    exact Obs.nil
  refine fcond_f h (.tail _ (.tail _ (.tail _ (.tail _ (.tail _ (.tail _ (.tail _ (.head _)))))))) ?_
  refine wp_skip ?_
  refine wp_seq ?_
  try dsimp only [List.append]
  refine regionD (by kernel_rfl) h (c0F7_0 a0 a1 a2) [[(11, none)], [(45, some 0)], [(46, some 1)], [(47, some 2), (14, none)], [(47, some 2), (48, some 3)], [(49, some 4)], [(50, some 5), (7, none)], [(50, some 5), (8, none)], [(50, some 5), (51, some 6), (52, some 7)], [(50, some 5), (8, none)], [(50, some 5), (7, none)], [(50, some 5), (54, some 9), (55, some 10)], [(50, some 5), (53, some 8), (56, some 11)], [(50, some 5), (57, some 12)], [(58, some 13)], [(59, some 14), (7, none)], [(59, some 14), (8, none)], [(59, some 14), (60, some 15), (61, some 16)], [(59, some 14), (8, none)], [(59, some 14), (7, none)], [(59, some 14), (63, some 18), (64, some 19)], [(59, some 14), (62, some 17), (65, some 20)], [(59, some 14), (66, some 21)], [(67, some 22)], [(68, some 23), (7, none)], [(68, some 23), (8, none)], [(68, some 23), (69, some 24), (70, some 25)], [(68, some 23), (9, none)], [(68, some 23), (71, some 26), (72, some 27)], [(68, some 23), (7, none)], [(68, some 23), (8, none)], [(68, some 23), (9, none)], [(68, some 23), (75, some 30), (76, some 31)], [(68, some 23), (74, some 29), (77, some 32)], [(68, some 23), (73, some 28), (78, some 33)], [(68, some 23), (79, some 34)], [(80, some 35)], [(81, some 36), (7, none)], [(81, some 36), (8, none)], [(81, some 36), (82, some 37), (83, some 38)], [(81, some 36), (9, none)], [(81, some 36), (84, some 39), (85, some 40)], [(81, some 36), (7, none)], [(81, some 36), (8, none)], [(81, some 36), (9, none)], [(81, some 36), (88, some 43), (89, some 44)], [(81, some 36), (87, some 42), (90, some 45)], [(81, some 36), (86, some 41), (91, some 46)], [(81, some 36), (92, some 47)], [(93, some 48)], [(94, some 49), (7, none)], [(94, some 49), (8, none)], [(94, some 49), (9, none)], [(94, some 49), (96, some 51), (97, some 52)], [(94, some 49), (95, some 50), (98, some 53)], [(94, some 49), (7, none)], [(94, some 49), (8, none)], [(94, some 49), (100, some 55), (101, some 56)], [(94, some 49), (7, none)], [(94, some 49), (9, none)], [(94, some 49), (103, some 58), (104, some 59)], [(94, some 49), (102, some 57), (105, some 60)], [(94, some 49), (99, some 54), (106, some 61)], [(94, some 49), (107, some 62)], [(108, some 63)], [(109, some 64), (7, none)], [(109, some 64), (7, none)], [(109, some 64), (111, some 66)], [(109, some 64), (110, some 65), (112, some 67)], [(109, some 64), (113, some 68)], [(109, some 64), (114, some 69)], [(109, some 64), (115, some 70)], [(116, some 71)], [(117, some 72)], [(117, some 72), (118, some 73)], [(119, some 74)]] (by kernel_rfl) (by kernel_rfl) ?_ [(0, SP.i a0), (1, SP.i a1), (2, SP.i a2), (11, SP.i 0), (13, SP.i 20), (14, SP.b true), (35, SP.b false), (6, SP.b true)] (by kernel_rfl) (.old (by kernel_rfl) (.head _) (.old (by kernel_rfl) (.tail _ (.head _)) (.old (by kernel_rfl) (.tail _ (.tail _ (.head _))) (.old (by kernel_rfl) (.tail _ (.tail _ (.tail _ (.tail _ (.head _))))) (.old (by kernel_rfl) (.tail _ (.tail _ (.tail _ (.tail _ (.tail _ (.head _)))))) (.old (by kernel_rfl) (.tail _ (.tail _ (.tail _ (.tail _ (.tail _ (.tail _ (.head _))))))) (.old (by kernel_rfl) (.tail _ (.tail _ (.tail _ (.tail _ (.tail _ (.tail _ (.tail _ (.head _)))))))) (.op 75 (by kernel_rfl) rfl .nil)))))))) (fun a w h => ?_)
  · refine Obs.cons (ob_move (s := none) (fun v w h => (h.1 _ (.tail _ (.tail _ (.tail _ (.tail _ (.head _)))))))) ?_
    refine Obs.cons (ob_bin (s1 := some 0) (s2 := none) (fun v w h => h) (fun v w h => h) (eq_i 0 0 _ _) (fun w => congrArg Value.bool (decide_eq_true rfl))) ?_
    refine Obs.cons (ob_move (s := some 1) (fun v w h => h)) ?_
    refine Obs.cons (ob_g (by kernel_rfl) (fun v w h => h) (ob_move (s := none) (fun v w h => (h.1 _ (.tail _ (.tail _ (.tail _ (.tail _ (.tail _ (.tail _ (.head _))))))))))) ?_
    refine Obs.cons (ob_pick_t (sc := some 2) (sx := some 3) (fun v w h => h) (fun v w h => h)) ?_
    refine Obs.cons (ob_move (s := some 4) (fun v w h => h)) ?_
    refine Obs.cons (ob_g (by kernel_rfl) (fun v w h => h) (ob_load fracOk (.tail _ (.tail _ (.tail _ (.tail _ (.head _))))) (fun v w h => h))) ?_
    refine Obs.cons (ob_g (by kernel_rfl) (fun v w h => h) (ob_load fracOk (.tail _ (.tail _ (.tail _ (.head _)))) (fun v w h => h))) ?_
    refine Obs.cons (ob_g (by kernel_rfl) (fun v w h => h) (ob_call2 (s1 := some 6) (s2 := some 7) Try.call23 (fun x y w hw hx hy => tAdd 1 hw.lt hx hy (bfr_b a0) (bfr_b a1) (by decide)))) ?_
    refine Obs.cons (ob_g (by kernel_rfl) (fun v w h => h) (ob_load fracOk (.tail _ (.tail _ (.tail _ (.head _)))) (fun v w h => h))) ?_
    refine Obs.cons (ob_g (by kernel_rfl) (fun v w h => h) (ob_load fracOk (.tail _ (.tail _ (.tail _ (.tail _ (.head _))))) (fun v w h => h))) ?_
    refine Obs.cons (ob_g (by kernel_rfl) (fun v w h => h) (ob_call2 (s1 := some 9) (s2 := some 10) Try.call23 (fun x y w hw hx hy => tAdd 1 hw.lt hx hy (bfr_b a1) (bfr_b a0) (by decide)))) ?_
    refine Obs.cons (ob_g (by kernel_rfl) (fun v w h => h) (ob_call2 (s1 := some 8) (s2 := some 11) Try.call13 (fun x y w hw hx hy => RetS.tr (tSame hw.lt hx hy) (fun v w h => h.trans (congrArg Value.bool (decide_eq_true (Rat.add_comm _ _))))))) ?_
    refine Obs.cons (ob_pick_t (sc := some 5) (sx := some 12) (fun v w h => h) (fun v w h => h)) ?_
    refine Obs.cons (ob_move (s := some 13) (fun v w h => h)) ?_
    refine Obs.cons (ob_g (by kernel_rfl) (fun v w h => h) (ob_load fracOk (.tail _ (.tail _ (.tail _ (.tail _ (.head _))))) (fun v w h => h))) ?_
    refine Obs.cons (ob_g (by kernel_rfl) (fun v w h => h) (ob_load fracOk (.tail _ (.tail _ (.tail _ (.head _)))) (fun v w h => h))) ?_
    refine Obs.cons (ob_g (by kernel_rfl) (fun v w h => h) (ob_call2 (s1 := some 15) (s2 := some 16) Try.call29 (fun x y w hw hx hy => tMul 1 hw.lt hx hy (bfr_b a0) (bfr_b a1) (by decide)))) ?_
    refine Obs.cons (ob_g (by kernel_rfl) (fun v w h => h) (ob_load fracOk (.tail _ (.tail _ (.tail _ (.head _)))) (fun v w h => h))) ?_
    refine Obs.cons (ob_g (by kernel_rfl) (fun v w h => h) (ob_load fracOk (.tail _ (.tail _ (.tail _ (.tail _ (.head _))))) (fun v w h => h))) ?_
    refine Obs.cons (ob_g (by kernel_rfl) (fun v w h => h) (ob_call2 (s1 := some 18) (s2 := some 19) Try.call29 (fun x y w hw hx hy => tMul 1 hw.lt hx hy (bfr_b a1) (bfr_b a0) (by decide)))) ?_
    refine Obs.cons (ob_g (by kernel_rfl) (fun v w h => h) (ob_call2 (s1 := some 17) (s2 := some 20) Try.call13 (fun x y w hw hx hy => RetS.tr (tSame hw.lt hx hy) (fun v w h => h.trans (congrArg Value.bool (decide_eq_true (Rat.mul_comm _ _))))))) ?_
    refine Obs.cons (ob_pick_t (sc := some 14) (sx := some 21) (fun v w h => h) (fun v w h => h)) ?_
    refine Obs.cons (ob_move (s := some 22) (fun v w h => h)) ?_
    refine Obs.cons (ob_g (by kernel_rfl) (fun v w h => h) (ob_load fracOk (.tail _ (.tail _ (.tail _ (.tail _ (.head _))))) (fun v w h => h))) ?_
    refine Obs.cons (ob_g (by kernel_rfl) (fun v w h => h) (ob_load fracOk (.tail _ (.tail _ (.tail _ (.head _)))) (fun v w h => h))) ?_
    refine Obs.cons (ob_g (by kernel_rfl) (fun v w h => h) (ob_call2 (s1 := some 24) (s2 := some 25) Try.call23 (fun x y w hw hx hy => tAdd 1 hw.lt hx hy (bfr_b a0) (bfr_b a1) (by decide)))) ?_
    refine Obs.cons (ob_g (by kernel_rfl) (fun v w h => h) (ob_load fracOk (.tail _ (.tail _ (.head _))) (fun v w h => h))) ?_
    refine Obs.cons (ob_g (by kernel_rfl) (fun v w h => h) (ob_call2 (s1 := some 26) (s2 := some 27) Try.call23 (fun x y w hw hx hy => tAdd 3 hw.lt hx hy (Qb.mono (Qb.add (bfr_b a0) (bfr_b a1)) (by omega)) (Qb.mono (bfr_b a2) (by omega)) (by decide)))) ?_
    refine Obs.cons (ob_g (by kernel_rfl) (fun v w h => h) (ob_load fracOk (.tail _ (.tail _ (.tail _ (.tail _ (.head _))))) (fun v w h => h))) ?_
    refine Obs.cons (ob_g (by kernel_rfl) (fun v w h => h) (ob_load fracOk (.tail _ (.tail _ (.tail _ (.head _)))) (fun v w h => h))) ?_
    refine Obs.cons (ob_g (by kernel_rfl) (fun v w h => h) (ob_load fracOk (.tail _ (.tail _ (.head _))) (fun v w h => h))) ?_
    refine Obs.cons (ob_g (by kernel_rfl) (fun v w h => h) (ob_call2 (s1 := some 30) (s2 := some 31) Try.call23 (fun x y w hw hx hy => tAdd 1 hw.lt hx hy (bfr_b a1) (bfr_b a2) (by decide)))) ?_
    refine Obs.cons (ob_g (by kernel_rfl) (fun v w h => h) (ob_call2 (s1 := some 29) (s2 := some 32) Try.call23 (fun x y w hw hx hy => tAdd 3 hw.lt hx hy (Qb.mono (bfr_b a0) (by omega)) (Qb.mono (Qb.add (bfr_b a1) (bfr_b a2)) (by omega)) (by decide)))) ?_
    refine Obs.cons (ob_g (by kernel_rfl) (fun v w h => h) (ob_call2 (s1 := some 28) (s2 := some 33) Try.call13 (fun x y w hw hx hy => RetS.tr (tSame hw.lt hx hy) (fun v w h => h.trans (congrArg Value.bool (decide_eq_true (Rat.add_assoc _ _ _))))))) ?_
    refine Obs.cons (ob_pick_t (sc := some 23) (sx := some 34) (fun v w h => h) (fun v w h => h)) ?_
    refine Obs.cons (ob_move (s := some 35) (fun v w h => h)) ?_
    refine Obs.cons (ob_g (by kernel_rfl) (fun v w h => h) (ob_load fracOk (.tail _ (.tail _ (.tail _ (.tail _ (.head _))))) (fun v w h => h))) ?_
    refine Obs.cons (ob_g (by kernel_rfl) (fun v w h => h) (ob_load fracOk (.tail _ (.tail _ (.tail _ (.head _)))) (fun v w h => h))) ?_
    refine Obs.cons (ob_g (by kernel_rfl) (fun v w h => h) (ob_call2 (s1 := some 37) (s2 := some 38) Try.call29 (fun x y w hw hx hy => tMul 1 hw.lt hx hy (bfr_b a0) (bfr_b a1) (by decide)))) ?_
    refine Obs.cons (ob_g (by kernel_rfl) (fun v w h => h) (ob_load fracOk (.tail _ (.tail _ (.head _))) (fun v w h => h))) ?_
    refine Obs.cons (ob_g (by kernel_rfl) (fun v w h => h) (ob_call2 (s1 := some 39) (s2 := some 40) Try.call29 (fun x y w hw hx hy => tMul 2 hw.lt hx hy (Qb.mono (Qb.mul (bfr_b a0) (bfr_b a1) (by omega)) (by omega)) (Qb.mono (bfr_b a2) (by omega)) (by decide)))) ?_
    refine Obs.cons (ob_g (by kernel_rfl) (fun v w h => h) (ob_load fracOk (.tail _ (.tail _ (.tail _ (.tail _ (.head _))))) (fun v w h => h))) ?_
    refine Obs.cons (ob_g (by kernel_rfl) (fun v w h => h) (ob_load fracOk (.tail _ (.tail _ (.tail _ (.head _)))) (fun v w h => h))) ?_
    refine Obs.cons (ob_g (by kernel_rfl) (fun v w h => h) (ob_load fracOk (.tail _ (.tail _ (.head _))) (fun v w h => h))) ?_
    refine Obs.cons (ob_g (by kernel_rfl) (fun v w h => h) (ob_call2 (s1 := some 43) (s2 := some 44) Try.call29 (fun x y w hw hx hy => tMul 1 hw.lt hx hy (bfr_b a1) (bfr_b a2) (by decide)))) ?_
    refine Obs.cons (ob_g (by kernel_rfl) (fun v w h => h) (ob_call2 (s1 := some 42) (s2 := some 45) Try.call29 (fun x y w hw hx hy => tMul 2 hw.lt hx hy (Qb.mono (bfr_b a0) (by omega)) (Qb.mono (Qb.mul (bfr_b a1) (bfr_b a2) (by omega)) (by omega)) (by decide)))) ?_
    refine Obs.cons (ob_g (by kernel_rfl) (fun v w h => h) (ob_call2 (s1 := some 41) (s2 := some 46) Try.call13 (fun x y w hw hx hy => RetS.tr (tSame hw.lt hx hy) (fun v w h => h.trans (congrArg Value.bool (decide_eq_true (Rat.mul_assoc _ _ _))))))) ?_
    refine Obs.cons (ob_pick_t (sc := some 36) (sx := some 47) (fun v w h => h) (fun v w h => h)) ?_
    refine Obs.cons (ob_move (s := some 48) (fun v w h => h)) ?_
    refine Obs.cons (ob_g (by kernel_rfl) (fun v w h => h) (ob_load fracOk (.tail _ (.tail _ (.tail _ (.tail _ (.head _))))) (fun v w h => h))) ?_
    refine Obs.cons (ob_g (by kernel_rfl) (fun v w h => h) (ob_load fracOk (.tail _ (.tail _ (.tail _ (.head _)))) (fun v w h => h))) ?_
    refine Obs.cons (ob_g (by kernel_rfl) (fun v w h => h) (ob_load fracOk (.tail _ (.tail _ (.head _))) (fun v w h => h))) ?_
    refine Obs.cons (ob_g (by kernel_rfl) (fun v w h => h) (ob_call2 (s1 := some 51) (s2 := some 52) Try.call23 (fun x y w hw hx hy => tAdd 1 hw.lt hx hy (bfr_b a1) (bfr_b a2) (by decide)))) ?_
    refine Obs.cons (ob_g (by kernel_rfl) (fun v w h => h) (ob_call2 (s1 := some 50) (s2 := some 53) Try.call29 (fun x y w hw hx hy => tMul 3 hw.lt hx hy (Qb.mono (bfr_b a0) (by omega)) (Qb.mono (Qb.add (bfr_b a1) (bfr_b a2)) (by omega)) (by decide)))) ?_
    refine Obs.cons (ob_g (by kernel_rfl) (fun v w h => h) (ob_load fracOk (.tail _ (.tail _ (.tail _ (.tail _ (.head _))))) (fun v w h => h))) ?_
    refine Obs.cons (ob_g (by kernel_rfl) (fun v w h => h) (ob_load fracOk (.tail _ (.tail _ (.tail _ (.head _)))) (fun v w h => h))) ?_
    refine Obs.cons (ob_g (by kernel_rfl) (fun v w h => h) (ob_call2 (s1 := some 55) (s2 := some 56) Try.call29 (fun x y w hw hx hy => tMul 1 hw.lt hx hy (bfr_b a0) (bfr_b a1) (by decide)))) ?_
    refine Obs.cons (ob_g (by kernel_rfl) (fun v w h => h) (ob_load fracOk (.tail _ (.tail _ (.tail _ (.tail _ (.head _))))) (fun v w h => h))) ?_
    refine Obs.cons (ob_g (by kernel_rfl) (fun v w h => h) (ob_load fracOk (.tail _ (.tail _ (.head _))) (fun v w h => h))) ?_
    refine Obs.cons (ob_g (by kernel_rfl) (fun v w h => h) (ob_call2 (s1 := some 58) (s2 := some 59) Try.call29 (fun x y w hw hx hy => tMul 1 hw.lt hx hy (bfr_b a0) (bfr_b a2) (by decide)))) ?_
    refine Obs.cons (ob_g (by kernel_rfl) (fun v w h => h) (ob_call2 (s1 := some 57) (s2 := some 60) Try.call23 (fun x y w hw hx hy => tAdd 2 hw.lt hx hy (Qb.mono (Qb.mul (bfr_b a0) (bfr_b a1) (by omega)) (by omega)) (Qb.mono (Qb.mul (bfr_b a0) (bfr_b a2) (by omega)) (by omega)) (by decide)))) ?_
    refine Obs.cons (ob_g (by kernel_rfl) (fun v w h => h) (ob_call2 (s1 := some 54) (s2 := some 61) Try.call13 (fun x y w hw hx hy => RetS.tr (tSame hw.lt hx hy) (fun v w h => h.trans (congrArg Value.bool (decide_eq_true (Rat.mul_add _ _ _))))))) ?_
    refine Obs.cons (ob_pick_t (sc := some 49) (sx := some 62) (fun v w h => h) (fun v w h => h)) ?_
    refine Obs.cons (ob_move (s := some 63) (fun v w h => h)) ?_
    refine Obs.cons (ob_g (by kernel_rfl) (fun v w h => h) (ob_load fracOk (.tail _ (.tail _ (.tail _ (.tail _ (.head _))))) (fun v w h => h))) ?_
    refine Obs.cons (ob_g (by kernel_rfl) (fun v w h => h) (ob_load fracOk (.tail _ (.tail _ (.tail _ (.tail _ (.head _))))) (fun v w h => h))) ?_
    refine Obs.cons (ob_g (by kernel_rfl) (fun v w h => h) (ob_call1 (s1 := some 66) Try.call24 (fun x w hw hx => tNeg 1 hw.lt hx (bfr_b a0) (by decide)))) ?_
    refine Obs.cons (ob_g (by kernel_rfl) (fun v w h => h) (ob_call2 (s1 := some 65) (s2 := some 67) Try.call23 (fun x y w hw hx hy => tAdd 1 hw.lt hx hy (bfr_b a0) (Qb.mono (Qb.neg (bfr_b a0)) (by omega)) (by decide)))) ?_
    refine Obs.cons (ob_g (by kernel_rfl) (fun v w h => h) (ob_call1 (s1 := some 68) Try.call27 (fun x w hw hx => tSign 3 hw.lt hx (Qb.mono (Qb.add (bfr_b a0) (Qb.neg (bfr_b a0))) (by omega)) (by decide)))) ?_
    refine Obs.cons (ob_g (by kernel_rfl) (fun v w h => h) (ob_bin (s1 := some 69) (s2 := none) (fun v w h => h) (fun v w h => h) (eq_i (sgQ ((bfr a0) + (-(bfr a0)))) 0 _ _) (fun w => congrArg Value.bool (decide_eq_true (by rw [Rat.add_neg_cancel]; rfl))))) ?_
    refine Obs.cons (ob_pick_t (sc := some 64) (sx := some 70) (fun v w h => h) (fun v w h => h)) ?_
    refine Obs.cons (ob_move (s := some 71) (fun v w h => h)) ?_
    refine Obs.cons (ob_g (by kernel_rfl) (fun v w h => h) (ob_call0  Try.call14 (fun  w hw  => tKnown))) ?_
    refine Obs.cons (ob_pick_t (sc := some 72) (sx := some 73) (fun v w h => h) (fun v w h => h)) ?_
    refine Obs.cons (ob_assign (s := some 74) (fun v w h => h)) ?_
    exact Obs.nil
  refine wp_ret ?_
  exact ret1 h rfl (.tail _ (.tail _ (.tail _ (.tail _ (.tail _ (.tail _ (.tail _ (.head _)))))))) (fun v w h => h)
theorem inv_qb {c : Nat} {q : Rat} (h : Qb c q) (hz : q ≠ 0) : Qb c (1 / q) := by
  have hn : q.num ≠ 0 := fun e => hz (Rat.num_eq_zero.1 e)
  rw [Rat.div_def, Rat.one_mul]
  refine ⟨?_, ?_⟩
  · rw [Rat.num_inv, Int.natAbs_mul, Int.natAbs_sign_of_ne_zero hn]; simpa using h.2
  · rw [Rat.den_inv, if_neg hn]; exact h.1
theorem inv_b (a : Int) (hz : bfr a ≠ 0) : Qb 1 (1 / bfr a) := inv_qb (bfr_b a) hz
theorem mul_inv (p : Rat) (hz : p ≠ 0) : p * (1 / p) = 1 := by grind
def c1F0_0 (a0 a1 a2 : Int) : List SP := [
  SP.b false]

def c1F1_0 (a0 a1 a2 : Int) : List SP := [
  SP.i a0,
  SP.q (bfr a0),
  SP.i a1,
  SP.q (bfr a1),
  SP.i a2,
  SP.q (bfr a2)]

def c1F2_0 (a0 a1 a2 : Int) : List SP := [
  SP.tup2 (SP.q 1) (SP.i 0),
  SP.tup2 (SP.q 1) (SP.i 0),
  SP.q 1,
  SP.i 0]

def c1F2_6 (a0 a1 a2 : Int) : List SP := [
  SP.i 0]

def c1F3_0 (a0 a1 a2 : Int) : List SP := [
  SP.q 1,
  SP.q (bfr a1),
  SP.tup2 (SP.q (1 / bfr a1)) (SP.i 0),
  SP.tup2 (SP.q (1 / bfr a1)) (SP.i 0),
  SP.q (1 / bfr a1),
  SP.i 0]

def c1F3_8 (a0 a1 a2 : Int) : List SP := [
  SP.i 0]

def c1F4_0 (a0 a1 a2 : Int) : List SP := [
  SP.i 0,
  SP.b false,
  SP.b false]

def c1F5_0 (a0 a1 a2 : Int) : List SP := [
  SP.q (bfr a1),
  SP.i (sgQ (bfr a1)),
  SP.b true]

def c1F6_0 (a0 a1 a2 : Int) : List SP := [
  SP.i 0,
  SP.b true,
  SP.b true,
  SP.q (bfr a1),
  SP.q (1 / bfr a1),
  SP.q ((bfr a1) * (1 / bfr a1)),
  SP.q 1,
  SP.b true,
  SP.b true,
  SP.b true]

def c1F7_0 (a0 a1 a2 : Int) : List SP := [
  SP.i 0,
  SP.b true,
  SP.b true,
  SP.b true,
  SP.b true,
  SP.b true,
  SP.q (bfr a0),
  SP.q (bfr a1),
  SP.q ((bfr a0) + (bfr a1)),
  SP.q (bfr a1),
  SP.q (bfr a0),
  SP.q ((bfr a1) + (bfr a0)),
  SP.b true,
  SP.b true,
  SP.b true,
  SP.q (bfr a0),
  SP.q (bfr a1),
  SP.q ((bfr a0) * (bfr a1)),
  SP.q (bfr a1),
  SP.q (bfr a0),
  SP.q ((bfr a1) * (bfr a0)),
  SP.b true,
  SP.b true,
  SP.b true,
  SP.q (bfr a0),
  SP.q (bfr a1),
  SP.q ((bfr a0) + (bfr a1)),
  SP.q (bfr a2),
  SP.q (((bfr a0) + (bfr a1)) + (bfr a2)),
  SP.q (bfr a0),
  SP.q (bfr a1),
  SP.q (bfr a2),
  SP.q ((bfr a1) + (bfr a2)),
  SP.q ((bfr a0) + ((bfr a1) + (bfr a2))),
  SP.b true,
  SP.b true,
  SP.b true,
  SP.q (bfr a0),
  SP.q (bfr a1),
  SP.q ((bfr a0) * (bfr a1)),
  SP.q (bfr a2),
  SP.q (((bfr a0) * (bfr a1)) * (bfr a2)),
  SP.q (bfr a0),
  SP.q (bfr a1),
  SP.q (bfr a2),
  SP.q ((bfr a1) * (bfr a2)),
  SP.q ((bfr a0) * ((bfr a1) * (bfr a2))),
  SP.b true,
  SP.b true,
  SP.b true,
  SP.q (bfr a0),
  SP.q (bfr a1),
  SP.q (bfr a2),
  SP.q ((bfr a1) + (bfr a2)),
  SP.q ((bfr a0) * ((bfr a1) + (bfr a2))),
  SP.q (bfr a0),
  SP.q (bfr a1),
  SP.q ((bfr a0) * (bfr a1)),
  SP.q (bfr a0),
  SP.q (bfr a2),
  SP.q ((bfr a0) * (bfr a2)),
  SP.q (((bfr a0) * (bfr a1)) + ((bfr a0) * (bfr a2))),
  SP.b true,
  SP.b true,
  SP.b true,
  SP.q (bfr a0),
  SP.q (bfr a0),
  SP.q (-(bfr a0)),
  SP.q ((bfr a0) + (-(bfr a0))),
  SP.i (sgQ ((bfr a0) + (-(bfr a0)))),
  SP.b true,
  SP.b true,
  SP.b true,
  SP.b true,
  SP.b true,
  SP.b true]

set_option maxRecDepth 100000 in
set_option maxHeartbeats 4000000 in
theorem walk1 (a0 : Int) (a1 : Int) (a2 : Int) (ha0 : -9223372036854775808 ≤ a0 ∧ a0 ≤ 9223372036854775807) (ha1 : -9223372036854775808 ≤ a1 ∧ a1 ≤ 9223372036854775807) (ha2 : -9223372036854775808 ≤ a2 ∧ a2 ≤ 9223372036854775807) (w : World) (hz : bfr a1 ≠ 0) :
    Calls Try.prog 7 #[.int .i64 a0, .int .i64 a1, .int .i64 a2] w (RetS (fun _ => False) (SP.b true) w) := by
  refine enter (N := 120) Try.func7 rfl Try.ntmps7 (fun b h => h.elim) (by simp) (Γ := [(0, SP.i a0), (1, SP.i a1), (2, SP.i a2)]) (.cons rfl rfl (.cons rfl rfl (.cons rfl rfl .nil))) (fun a h0 => ?_)
  refine wp_seq ?_
  try dsimp only [List.append]
  refine regionS h0 (c1F0_0 a0 a1 a2) [[]] (by kernel_rfl) (by kernel_rfl) ?_ [(0, SP.i a0), (1, SP.i a1), (2, SP.i a2), (6, SP.b false)] (by kernel_rfl) (.old (by kernel_rfl) (.head _) (.old (by kernel_rfl) (.tail _ (.head _)) (.old (by kernel_rfl) (.tail _ (.tail _ (.head _))) (.op 0 (by kernel_rfl) rfl .nil)))) (fun a w h => ?_)
  · refine Obs.cons (ob_assign (s := none) (fun v w h => h)) ?_
    exact Obs.nil
  refine wp_seq ?_
  refine region0 ?_
  refine segN 6 h (c1F1_0 a0 a1 a2) [[(0, none)], [(15, some 0)], [(1, none)], [(17, some 2)], [(2, none)], [(19, some 4)]] (by kernel_rfl) (by kernel_rfl) ?_ [(0, SP.i a0), (1, SP.i a1), (2, SP.i a2), (6, SP.b false), (16, SP.q (bfr a0)), (18, SP.q (bfr a1)), (20, SP.q (bfr a2))] (by kernel_rfl) (.old (by kernel_rfl) (.head _) (.old (by kernel_rfl) (.tail _ (.head _)) (.old (by kernel_rfl) (.tail _ (.tail _ (.head _))) (.old (by kernel_rfl) (.tail _ (.tail _ (.tail _ (.head _)))) (.op 1 (by kernel_rfl) rfl (.op 3 (by kernel_rfl) rfl (.op 5 (by kernel_rfl) rfl .nil))))))) (fun a w h => ?_)
  · refine Obs.cons (ob_move (s := none) (fun v w h => (h.1 _ (.head _)))) ?_
    refine Obs.cons (ob_call1 (s1 := some 0) Try.call25 (fun x w hw hx => tFrac hw.lt hx ha0)) ?_
    refine Obs.cons (ob_move (s := none) (fun v w h => (h.1 _ (.tail _ (.head _))))) ?_
    refine Obs.cons (ob_call1 (s1 := some 2) Try.call25 (fun x w hw hx => tFrac hw.lt hx ha1)) ?_
    refine Obs.cons (ob_move (s := none) (fun v w h => (h.1 _ (.tail _ (.tail _ (.head _)))))) ?_
    refine Obs.cons (ob_call1 (s1 := some 4) Try.call25 (fun x w hw hx => tFrac hw.lt hx ha2)) ?_
    exact Obs.nil
  refine falloc fracOk h [(0, SP.i a0), (1, SP.i a1), (2, SP.i a2), (6, SP.b false), (16, SP.q (bfr a0)), (18, SP.q (bfr a1)), (20, SP.q (bfr a2))] (by decide) (.cons (.head _) (by decide) (.cons (.tail _ (.head _)) (by decide) (.cons (.tail _ (.tail _ (.head _))) (by decide) (.cons (.tail _ (.tail _ (.tail _ (.head _)))) (by decide) (.cons (.tail _ (.tail _ (.tail _ (.tail _ (.head _))))) (by decide) (.cons (.tail _ (.tail _ (.tail _ (.tail _ (.tail _ (.head _)))))) (by decide) (.cons (.tail _ (.tail _ (.tail _ (.tail _ (.tail _ (.tail _ (.head _))))))) (by decide) .nil))))))) (by kernel_rfl) (fun b1 a w h => ?_)
  refine falloc fracOk h [(0, SP.i a0), (1, SP.i a1), (2, SP.i a2), (6, SP.b false), (16, SP.q (bfr a0)), (18, SP.q (bfr a1)), (20, SP.q (bfr a2))] (by decide) (.cons (.head _) (by decide) (.cons (.tail _ (.head _)) (by decide) (.cons (.tail _ (.tail _ (.head _))) (by decide) (.cons (.tail _ (.tail _ (.tail _ (.head _)))) (by decide) (.cons (.tail _ (.tail _ (.tail _ (.tail _ (.head _))))) (by decide) (.cons (.tail _ (.tail _ (.tail _ (.tail _ (.tail _ (.head _)))))) (by decide) (.cons (.tail _ (.tail _ (.tail _ (.tail _ (.tail _ (.tail _ (.head _))))))) (by decide) .nil))))))) (by kernel_rfl) (fun b2 a w h => ?_)
  refine falloc fracOk h [(0, SP.i a0), (1, SP.i a1), (2, SP.i a2), (6, SP.b false), (16, SP.q (bfr a0)), (18, SP.q (bfr a1)), (20, SP.q (bfr a2))] (by decide) (.cons (.head _) (by decide) (.cons (.tail _ (.head _)) (by decide) (.cons (.tail _ (.tail _ (.head _))) (by decide) (.cons (.tail _ (.tail _ (.tail _ (.head _)))) (by decide) (.cons (.tail _ (.tail _ (.tail _ (.tail _ (.head _))))) (by decide) (.cons (.tail _ (.tail _ (.tail _ (.tail _ (.tail _ (.head _)))))) (by decide) (.cons (.tail _ (.tail _ (.tail _ (.tail _ (.tail _ (.tail _ (.head _))))))) (by decide) .nil))))))) (by kernel_rfl) (fun b3 a w h => ?_)
  refine fstore fracOk h (.tail (.tail (.head))) (.tail _ (.tail _ (.tail _ (.tail _ (.head _))))) SP.q_lay (fun w h => ?_)
  refine fstore fracOk h (.tail (.head)) (.tail _ (.tail _ (.tail _ (.tail _ (.tail _ (.head _)))))) SP.q_lay (fun w h => ?_)
  refine fstore fracOk h (.head) (.tail _ (.tail _ (.tail _ (.tail _ (.tail _ (.tail _ (.head _))))))) SP.q_lay (fun w h => ?_)
  refine seg_end ?_
  refine wp_seq ?_
  refine region0 ?_
  refine segN 4 h (c1F2_0 a0 a1 a2) [[], [(22, some 0)], [(21, some 1)], [(21, some 1)]] (by kernel_rfl) (by kernel_rfl) ?_ [(0, SP.i a0), (1, SP.i a1), (2, SP.i a2), (6, SP.b false), (23, SP.q 1), (24, SP.i 0)] (by kernel_rfl) (.old (by kernel_rfl) (.head _) (.old (by kernel_rfl) (.tail _ (.head _)) (.old (by kernel_rfl) (.tail _ (.tail _ (.head _))) (.old (by kernel_rfl) (.tail _ (.tail _ (.tail _ (.head _)))) (.op 2 (by kernel_rfl) rfl (.op 3 (by kernel_rfl) rfl .nil)))))) (fun a w h => ?_)
  · refine Obs.cons (ob_call2 (s1 := none) (s2 := none) Try.call11 (fun x y w hw hx hy => tOne hw.lt hx hy)) ?_
    refine Obs.cons (ob_move (s := some 0) (fun v w h => h)) ?_
    refine Obs.cons (ob_extract (fun v w h => let ⟨x0, x1, e, g0, g1⟩ := h; ⟨x0, fun w' => by rw [e]; simp [go_sem], g0⟩)) ?_
    refine Obs.cons (ob_extract (fun v w h => let ⟨x0, x1, e, g0, g1⟩ := h; ⟨x1, fun w' => by rw [e]; simp [go_sem], g1⟩)) ?_
    exact Obs.nil
  refine falloc fracOk h [(0, SP.i a0), (1, SP.i a1), (2, SP.i a2), (6, SP.b false), (23, SP.q 1), (24, SP.i 0)] (by decide) (.cons (.head _) (by decide) (.cons (.tail _ (.head _)) (by decide) (.cons (.tail _ (.tail _ (.head _))) (by decide) (.cons (.tail _ (.tail _ (.tail _ (.head _)))) (by decide) (.cons (.tail _ (.tail _ (.tail _ (.tail _ (.head _))))) (by decide) (.cons (.tail _ (.tail _ (.tail _ (.tail _ (.tail _ (.head _)))))) (by decide) .nil)))))) (by kernel_rfl) (fun b4 a w h => ?_)
  refine fstore fracOk h (.head) (.tail _ (.tail _ (.tail _ (.tail _ (.head _))))) SP.q_lay (fun w h => ?_)
  refine segN 1 h (c1F2_6 a0 a1 a2) [[(24, none)]] (by kernel_rfl) (by kernel_rfl) ?_ [(0, SP.i a0), (1, SP.i a1), (2, SP.i a2), (6, SP.b false), (11, SP.i 0)] (by kernel_rfl) (.old (by kernel_rfl) (.head _) (.old (by kernel_rfl) (.tail _ (.head _)) (.old (by kernel_rfl) (.tail _ (.tail _ (.head _))) (.old (by kernel_rfl) (.tail _ (.tail _ (.tail _ (.head _)))) (.op 0 (by kernel_rfl) rfl .nil))))) (fun a w h => ?_)
  · refine Obs.cons (ob_assign (s := none) (fun v w h => (h.1 _ (.tail _ (.tail _ (.tail _ (.tail _ (.tail _ (.head _))))))))) ?_
    exact Obs.nil
  refine seg_end ?_
  refine wp_seq ?_
  refine region0 ?_
  refine segN 6 h (c1F3_0 a0 a1 a2) [[(10, none)], [(8, none)], [(26, some 0), (27, some 1)], [(28, some 2)], [(25, some 3)], [(25, some 3)]] (by kernel_rfl) (by kernel_rfl) ?_ [(0, SP.i a0), (1, SP.i a1), (2, SP.i a2), (6, SP.b false), (11, SP.i 0), (29, SP.q (1 / bfr a1)), (30, SP.i 0)] (by kernel_rfl) (.old (by kernel_rfl) (.head _) (.old (by kernel_rfl) (.tail _ (.head _)) (.old (by kernel_rfl) (.tail _ (.tail _ (.head _))) (.old (by kernel_rfl) (.tail _ (.tail _ (.tail _ (.head _)))) (.old (by kernel_rfl) (.tail _ (.tail _ (.tail _ (.tail _ (.head _))))) (.op 4 (by kernel_rfl) rfl (.op 5 (by kernel_rfl) rfl .nil))))))) (fun a w h => ?_)
  · refine Obs.cons (ob_load fracOk (.head _) (fun v w h => h)) ?_
    refine Obs.cons (ob_load fracOk (.tail _ (.tail _ (.head _))) (fun v w h => h)) ?_
    refine Obs.cons (ob_call2 (s1 := some 0) (s2 := some 1) Try.call30 (fun x y w hw hx hy => tDiv 1 hw.lt hx hy (q_one) (bfr_b a1) (by decide) hz)) ?_
    refine Obs.cons (ob_move (s := some 2) (fun v w h => h)) ?_
    refine Obs.cons (ob_extract (fun v w h => let ⟨x0, x1, e, g0, g1⟩ := h; ⟨x0, fun w' => by rw [e]; simp [go_sem], g0⟩)) ?_
    refine Obs.cons (ob_extract (fun v w h => let ⟨x0, x1, e, g0, g1⟩ := h; ⟨x1, fun w' => by rw [e]; simp [go_sem], g1⟩)) ?_
    exact Obs.nil
  refine falloc fracOk h [(0, SP.i a0), (1, SP.i a1), (2, SP.i a2), (6, SP.b false), (11, SP.i 0), (29, SP.q (1 / bfr a1)), (30, SP.i 0)] (by decide) (.cons (.head _) (by decide) (.cons (.tail _ (.head _)) (by decide) (.cons (.tail _ (.tail _ (.head _))) (by decide) (.cons (.tail _ (.tail _ (.tail _ (.head _)))) (by decide) (.cons (.tail _ (.tail _ (.tail _ (.tail _ (.head _))))) (by decide) (.cons (.tail _ (.tail _ (.tail _ (.tail _ (.tail _ (.head _)))))) (by decide) (.cons (.tail _ (.tail _ (.tail _ (.tail _ (.tail _ (.tail _ (.head _))))))) (by decide) .nil))))))) (by kernel_rfl) (fun b5 a w h => ?_)
  refine fstore fracOk h (.head) (.tail _ (.tail _ (.tail _ (.tail _ (.tail _ (.head _)))))) SP.q_lay (fun w h => ?_)
  refine segN 1 h (c1F3_8 a0 a1 a2) [[(30, none)]] (by kernel_rfl) (by kernel_rfl) ?_ [(0, SP.i a0), (1, SP.i a1), (2, SP.i a2), (6, SP.b false), (11, SP.i 0), (13, SP.i 0)] (by kernel_rfl) (.old (by kernel_rfl) (.head _) (.old (by kernel_rfl) (.tail _ (.head _)) (.old (by kernel_rfl) (.tail _ (.tail _ (.head _))) (.old (by kernel_rfl) (.tail _ (.tail _ (.tail _ (.head _)))) (.old (by kernel_rfl) (.tail _ (.tail _ (.tail _ (.tail _ (.head _))))) (.op 0 (by kernel_rfl) rfl .nil)))))) (fun a w h => ?_)
  · refine Obs.cons (ob_assign (s := none) (fun v w h => (h.1 _ (.tail _ (.tail _ (.tail _ (.tail _ (.tail _ (.tail _ (.head _)))))))))) ?_
    exact Obs.nil
  refine seg_end ?_
  refine wp_seq ?_
  try dsimp only [List.append]
  refine regionS h (c1F4_0 a0 a1 a2) [[(13, none)], [(31, some 0)], [(32, some 1)]] (by kernel_rfl) (by kernel_rfl) ?_ [(0, SP.i a0), (1, SP.i a1), (2, SP.i a2), (6, SP.b false), (11, SP.i 0), (13, SP.i 0), (14, SP.b false)] (by kernel_rfl) (.old (by kernel_rfl) (.head _) (.old (by kernel_rfl) (.tail _ (.head _)) (.old (by kernel_rfl) (.tail _ (.tail _ (.head _))) (.old (by kernel_rfl) (.tail _ (.tail _ (.tail _ (.head _)))) (.old (by kernel_rfl) (.tail _ (.tail _ (.tail _ (.tail _ (.head _))))) (.old (by kernel_rfl) (.tail _ (.tail _ (.tail _ (.tail _ (.tail _ (.head _)))))) (.op 2 (by kernel_rfl) rfl .nil))))))) (fun a w h => ?_)
  · refine Obs.cons (ob_move (s := none) (fun v w h => (h.1 _ (.tail _ (.tail _ (.tail _ (.tail _ (.tail _ (.head _))))))))) ?_
    refine Obs.cons (ob_bin (s1 := some 0) (s2 := none) (fun v w h => h) (fun v w h => h) (eq_i 0 20 _ _) (fun w => congrArg Value.bool (decide_eq_false (by decide)))) ?_
    refine Obs.cons (ob_assign (s := some 1) (fun v w h => h)) ?_
    exact Obs.nil
  refine wp_seq ?_
  refine wp_seq ?_
  try dsimp only [List.append]
  refine regionS h (c1F5_0 a0 a1 a2) [[(8, none)], [(33, some 0)], [(34, some 1)]] (by kernel_rfl) (by kernel_rfl) ?_ [(0, SP.i a0), (1, SP.i a1), (2, SP.i a2), (6, SP.b false), (11, SP.i 0), (13, SP.i 0), (14, SP.b false), (35, SP.b true)] (by kernel_rfl) (.old (by kernel_rfl) (.head _) (.old (by kernel_rfl) (.tail _ (.head _)) (.old (by kernel_rfl) (.tail _ (.tail _ (.head _))) (.old (by kernel_rfl) (.tail _ (.tail _ (.tail _ (.head _)))) (.old (by kernel_rfl) (.tail _ (.tail _ (.tail _ (.tail _ (.head _))))) (.old (by kernel_rfl) (.tail _ (.tail _ (.tail _ (.tail _ (.tail _ (.head _)))))) (.old (by kernel_rfl) (.tail _ (.tail _ (.tail _ (.tail _ (.tail _ (.tail _ (.head _))))))) (.op 2 (by kernel_rfl) rfl .nil)))))))) (fun a w h => ?_)
  · refine Obs.cons (ob_load fracOk (.tail _ (.tail _ (.tail _ (.head _)))) (fun v w h => h)) ?_
    refine Obs.cons (ob_call1 (s1 := some 0) Try.call27 (fun x w hw hx => tSign 1 hw.lt hx (bfr_b a1) (by decide))) ?_
    refine Obs.cons (ob_bin (s1 := some 1) (s2 := none) (fun v w h => h) (fun v w h => h) (ne_i (sgQ (bfr a1)) 0 _ _) (fun w => congrArg Value.bool (decide_eq_true (fun h => hz (sgQ_eq_zero.1 h))))) ?_
    exact Obs.nil
  refine fcond_t h (.tail _ (.tail _ (.tail _ (.tail _ (.tail _ (.tail _ (.tail _ (.head _)))))))) ?_
  try dsimp only [List.append]
  refine regionD (by kernel_rfl) h (c1F6_0 a0 a1 a2) [[(13, none)], [(36, some 0)], [(37, some 1)], [(38, some 2), (8, none)], [(38, some 2), (12, none)], [(38, some 2), (39, some 3), (40, some 4)], [(38, some 2), (10, none)], [(38, some 2), (41, some 5), (42, some 6)], [(38, some 2), (43, some 7)], [(44, some 8)]] (by kernel_rfl) (by kernel_rfl) ?_ [(0, SP.i a0), (1, SP.i a1), (2, SP.i a2), (6, SP.b false), (11, SP.i 0), (13, SP.i 0), (35, SP.b true), (14, SP.b true)] (by kernel_rfl) (.old (by kernel_rfl) (.head _) (.old (by kernel_rfl) (.tail _ (.head _)) (.old (by kernel_rfl) (.tail _ (.tail _ (.head _))) (.old (by kernel_rfl) (.tail _ (.tail _ (.tail _ (.head _)))) (.old (by kernel_rfl) (.tail _ (.tail _ (.tail _ (.tail _ (.head _))))) (.old (by kernel_rfl) (.tail _ (.tail _ (.tail _ (.tail _ (.tail _ (.head _)))))) (.old (by kernel_rfl) (.tail _ (.tail _ (.tail _ (.tail _ (.tail _ (.tail _ (.tail _ (.head _)))))))) (.op 9 (by kernel_rfl) rfl .nil)))))))) (fun a w h => ?_)
  · refine Obs.cons (ob_move (s := none) (fun v w h => (h.1 _ (.tail _ (.tail _ (.tail _ (.tail _ (.tail _ (.head _))))))))) ?_
    refine Obs.cons (ob_bin (s1 := some 0) (s2 := none) (fun v w h => h) (fun v w h => h) (eq_i 0 0 _ _) (fun w => congrArg Value.bool (decide_eq_true rfl))) ?_
    refine Obs.cons (ob_move (s := some 1) (fun v w h => h)) ?_
    refine Obs.cons (ob_g (by kernel_rfl) (fun v w h => h) (ob_load fracOk (.tail _ (.tail _ (.tail _ (.head _)))) (fun v w h => h))) ?_
    refine Obs.cons (ob_g (by kernel_rfl) (fun v w h => h) (ob_load fracOk (.head _) (fun v w h => h))) ?_
    refine Obs.cons (ob_g (by kernel_rfl) (fun v w h => h) (ob_call2 (s1 := some 3) (s2 := some 4) Try.call29 (fun x y w hw hx hy => tMul 1 hw.lt hx hy (bfr_b a1) (inv_b a1 hz) (by decide)))) ?_
    refine Obs.cons (ob_g (by kernel_rfl) (fun v w h => h) (ob_load fracOk (.tail _ (.head _)) (fun v w h => h))) ?_
    refine Obs.cons (ob_g (by kernel_rfl) (fun v w h => h) (ob_call2 (s1 := some 5) (s2 := some 6) Try.call13 (fun x y w hw hx hy => RetS.tr (tSame hw.lt hx hy) (fun v w h => h.trans (congrArg Value.bool (decide_eq_true (mul_inv (bfr a1) hz))))))) ?_
    refine Obs.cons (ob_pick_t (sc := some 2) (sx := some 7) (fun v w h => h) (fun v w h => h)) ?_
    refine Obs.cons (ob_assign (s := some 8) (fun v w h => h)) ?_
    exact Obs.nil
  refine wp_seq ?_
  try dsimp only [List.append]
  refine regionD (by kernel_rfl) h (c1F7_0 a0 a1 a2) [[(11, none)], [(45, some 0)], [(46, some 1)], [(47, some 2), (14, none)], [(47, some 2), (48, some 3)], [(49, some 4)], [(50, some 5), (7, none)], [(50, some 5), (8, none)], [(50, some 5), (51, some 6), (52, some 7)], [(50, some 5), (8, none)], [(50, some 5), (7, none)], [(50, some 5), (54, some 9), (55, some 10)], [(50, some 5), (53, some 8), (56, some 11)], [(50, some 5), (57, some 12)], [(58, some 13)], [(59, some 14), (7, none)], [(59, some 14), (8, none)], [(59, some 14), (60, some 15), (61, some 16)], [(59, some 14), (8, none)], [(59, some 14), (7, none)], [(59, some 14), (63, some 18), (64, some 19)], [(59, some 14), (62, some 17), (65, some 20)], [(59, some 14), (66, some 21)], [(67, some 22)], [(68, some 23), (7, none)], [(68, some 23), (8, none)], [(68, some 23), (69, some 24), (70, some 25)], [(68, some 23), (9, none)], [(68, some 23), (71, some 26), (72, some 27)], [(68, some 23), (7, none)], [(68, some 23), (8, none)], [(68, some 23), (9, none)], [(68, some 23), (75, some 30), (76, some 31)], [(68, some 23), (74, some 29), (77, some 32)], [(68, some 23), (73, some 28), (78, some 33)], [(68, some 23), (79, some 34)], [(80, some 35)], [(81, some 36), (7, none)], [(81, some 36), (8, none)], [(81, some 36), (82, some 37), (83, some 38)], [(81, some 36), (9, none)], [(81, some 36), (84, some 39), (85, some 40)], [(81, some 36), (7, none)], [(81, some 36), (8, none)], [(81, some 36), (9, none)], [(81, some 36), (88, some 43), (89, some 44)], [(81, some 36), (87, some 42), (90, some 45)], [(81, some 36), (86, some 41), (91, some 46)], [(81, some 36), (92, some 47)], [(93, some 48)], [(94, some 49), (7, none)], [(94, some 49), (8, none)], [(94, some 49), (9, none)], [(94, some 49), (96, some 51), (97, some 52)], [(94, some 49), (95, some 50), (98, some 53)], [(94, some 49), (7, none)], [(94, some 49), (8, none)], [(94, some 49), (100, some 55), (101, some 56)], [(94, some 49), (7, none)], [(94, some 49), (9, none)], [(94, some 49), (103, some 58), (104, some 59)], [(94, some 49), (102, some 57), (105, some 60)], [(94, some 49), (99, some 54), (106, some 61)], [(94, some 49), (107, some 62)], [(108, some 63)], [(109, some 64), (7, none)], [(109, some 64), (7, none)], [(109, some 64), (111, some 66)], [(109, some 64), (110, some 65), (112, some 67)], [(109, some 64), (113, some 68)], [(109, some 64), (114, some 69)], [(109, some 64), (115, some 70)], [(116, some 71)], [(117, some 72)], [(117, some 72), (118, some 73)], [(119, some 74)]] (by kernel_rfl) (by kernel_rfl) ?_ [(0, SP.i a0), (1, SP.i a1), (2, SP.i a2), (11, SP.i 0), (13, SP.i 0), (35, SP.b true), (14, SP.b true), (6, SP.b true)] (by kernel_rfl) (.old (by kernel_rfl) (.head _) (.old (by kernel_rfl) (.tail _ (.head _)) (.old (by kernel_rfl) (.tail _ (.tail _ (.head _))) (.old (by kernel_rfl) (.tail _ (.tail _ (.tail _ (.tail _ (.head _))))) (.old (by kernel_rfl) (.tail _ (.tail _ (.tail _ (.tail _ (.tail _ (.head _)))))) (.old (by kernel_rfl) (.tail _ (.tail _ (.tail _ (.tail _ (.tail _ (.tail _ (.head _))))))) (.old (by kernel_rfl) (.tail _ (.tail _ (.tail _ (.tail _ (.tail _ (.tail _ (.tail _ (.head _)))))))) (.op 75 (by kernel_rfl) rfl .nil)))))))) (fun a w h => ?_)
  · refine Obs.cons (ob_move (s := none) (fun v w h => (h.1 _ (.tail _ (.tail _ (.tail _ (.tail _ (.head _)))))))) ?_
    refine Obs.cons (ob_bin (s1 := some 0) (s2 := none) (fun v w h => h) (fun v w h => h) (eq_i 0 0 _ _) (fun w => congrArg Value.bool (decide_eq_true rfl))) ?_
    refine Obs.cons (ob_move (s := some 1) (fun v w h => h)) ?_
    refine Obs.cons (ob_g (by kernel_rfl) (fun v w h => h) (ob_move (s := none) (fun v w h => (h.1 _ (.tail _ (.tail _ (.tail _ (.tail _ (.tail _ (.tail _ (.tail _ (.head _)))))))))))) ?_
    refine Obs.cons (ob_pick_t (sc := some 2) (sx := some 3) (fun v w h => h) (fun v w h => h)) ?_
    refine Obs.cons (ob_move (s := some 4) (fun v w h => h)) ?_
    refine Obs.cons (ob_g (by kernel_rfl) (fun v w h => h) (ob_load fracOk (.tail _ (.tail _ (.tail _ (.tail _ (.head _))))) (fun v w h => h))) ?_
    refine Obs.cons (ob_g (by kernel_rfl) (fun v w h => h) (ob_load fracOk (.tail _ (.tail _ (.tail _ (.head _)))) (fun v w h => h))) ?_
    refine Obs.cons (ob_g (by kernel_rfl) (fun v w h => h) (ob_call2 (s1 := some 6) (s2 := some 7) Try.call23 (fun x y w hw hx hy => tAdd 1 hw.lt hx hy (bfr_b a0) (bfr_b a1) (by decide)))) ?_
    refine Obs.cons (ob_g (by kernel_rfl) (fun v w h => h) (ob_load fracOk (.tail _ (.tail _ (.tail _ (.head _)))) (fun v w h => h))) ?_
    refine Obs.cons (ob_g (by kernel_rfl) (fun v w h => h) (ob_load fracOk (.tail _ (.tail _ (.tail _ (.tail _ (.head _))))) (fun v w h => h))) ?_
    refine Obs.cons (ob_g (by kernel_rfl) (fun v w h => h) (ob_call2 (s1 := some 9) (s2 := some 10) Try.call23 (fun x y w hw hx hy => tAdd 1 hw.lt hx hy (bfr_b a1) (bfr_b a0) (by decide)))) ?_
    refine Obs.cons (ob_g (by kernel_rfl) (fun v w h => h) (ob_call2 (s1 := some 8) (s2 := some 11) Try.call13 (fun x y w hw hx hy => RetS.tr (tSame hw.lt hx hy) (fun v w h => h.trans (congrArg Value.bool (decide_eq_true (Rat.add_comm _ _))))))) ?_
    refine Obs.cons (ob_pick_t (sc := some 5) (sx := some 12) (fun v w h => h) (fun v w h => h)) ?_
    refine Obs.cons (ob_move (s := some 13) (fun v w h => h)) ?_
    refine Obs.cons (ob_g (by kernel_rfl) (fun v w h => h) (ob_load fracOk (.tail _ (.tail _ (.tail _ (.tail _ (.head _))))) (fun v w h => h))) ?_
    refine Obs.cons (ob_g (by kernel_rfl) (fun v w h => h) (ob_load fracOk (.tail _ (.tail _ (.tail _ (.head _)))) (fun v w h => h))) ?_
    refine Obs.cons (ob_g (by kernel_rfl) (fun v w h => h) (ob_call2 (s1 := some 15) (s2 := some 16) Try.call29 (fun x y w hw hx hy => tMul 1 hw.lt hx hy (bfr_b a0) (bfr_b a1) (by decide)))) ?_
    refine Obs.cons (ob_g (by kernel_rfl) (fun v w h => h) (ob_load fracOk (.tail _ (.tail _ (.tail _ (.head _)))) (fun v w h => h))) ?_
    refine Obs.cons (ob_g (by kernel_rfl) (fun v w h => h) (ob_load fracOk (.tail _ (.tail _ (.tail _ (.tail _ (.head _))))) (fun v w h => h))) ?_
    refine Obs.cons (ob_g (by kernel_rfl) (fun v w h => h) (ob_call2 (s1 := some 18) (s2 := some 19) Try.call29 (fun x y w hw hx hy => tMul 1 hw.lt hx hy (bfr_b a1) (bfr_b a0) (by decide)))) ?_
    refine Obs.cons (ob_g (by kernel_rfl) (fun v w h => h) (ob_call2 (s1 := some 17) (s2 := some 20) Try.call13 (fun x y w hw hx hy => RetS.tr (tSame hw.lt hx hy) (fun v w h => h.trans (congrArg Value.bool (decide_eq_true (Rat.mul_comm _ _))))))) ?_
    refine Obs.cons (ob_pick_t (sc := some 14) (sx := some 21) (fun v w h => h) (fun v w h => h)) ?_
    refine Obs.cons (ob_move (s := some 22) (fun v w h => h)) ?_
    refine Obs.cons (ob_g (by kernel_rfl) (fun v w h => h) (ob_load fracOk (.tail _ (.tail _ (.tail _ (.tail _ (.head _))))) (fun v w h => h))) ?_
    refine Obs.cons (ob_g (by kernel_rfl) (fun v w h => h) (ob_load fracOk (.tail _ (.tail _ (.tail _ (.head _)))) (fun v w h => h))) ?_
    refine Obs.cons (ob_g (by kernel_rfl) (fun v w h => h) (ob_call2 (s1 := some 24) (s2 := some 25) Try.call23 (fun x y w hw hx hy => tAdd 1 hw.lt hx hy (bfr_b a0) (bfr_b a1) (by decide)))) ?_
    refine Obs.cons (ob_g (by kernel_rfl) (fun v w h => h) (ob_load fracOk (.tail _ (.tail _ (.head _))) (fun v w h => h))) ?_
    refine Obs.cons (ob_g (by kernel_rfl) (fun v w h => h) (ob_call2 (s1 := some 26) (s2 := some 27) Try.call23 (fun x y w hw hx hy => tAdd 3 hw.lt hx hy (Qb.mono (Qb.add (bfr_b a0) (bfr_b a1)) (by omega)) (Qb.mono (bfr_b a2) (by omega)) (by decide)))) ?_
    refine Obs.cons (ob_g (by kernel_rfl) (fun v w h => h) (ob_load fracOk (.tail _ (.tail _ (.tail _ (.tail _ (.head _))))) (fun v w h => h))) ?_
    refine Obs.cons (ob_g (by kernel_rfl) (fun v w h => h) (ob_load fracOk (.tail _ (.tail _ (.tail _ (.head _)))) (fun v w h => h))) ?_
    refine Obs.cons (ob_g (by kernel_rfl) (fun v w h => h) (ob_load fracOk (.tail _ (.tail _ (.head _))) (fun v w h => h))) ?_
    refine Obs.cons (ob_g (by kernel_rfl) (fun v w h => h) (ob_call2 (s1 := some 30) (s2 := some 31) Try.call23 (fun x y w hw hx hy => tAdd 1 hw.lt hx hy (bfr_b a1) (bfr_b a2) (by decide)))) ?_
    refine Obs.cons (ob_g (by kernel_rfl) (fun v w h => h) (ob_call2 (s1 := some 29) (s2 := some 32) Try.call23 (fun x y w hw hx hy => tAdd 3 hw.lt hx hy (Qb.mono (bfr_b a0) (by omega)) (Qb.mono (Qb.add (bfr_b a1) (bfr_b a2)) (by omega)) (by decide)))) ?_
    refine Obs.cons (ob_g (by kernel_rfl) (fun v w h => h) (ob_call2 (s1 := some 28) (s2 := some 33) Try.call13 (fun x y w hw hx hy => RetS.tr (tSame hw.lt hx hy) (fun v w h => h.trans (congrArg Value.bool (decide_eq_true (Rat.add_assoc _ _ _))))))) ?_
    refine Obs.cons (ob_pick_t (sc := some 23) (sx := some 34) (fun v w h => h) (fun v w h => h)) ?_
    refine Obs.cons (ob_move (s := some 35) (fun v w h => h)) ?_
    refine Obs.cons (ob_g (by kernel_rfl) (fun v w h => h) (ob_load fracOk (.tail _ (.tail _ (.tail _ (.tail _ (.head _))))) (fun v w h => h))) ?_
    refine Obs.cons (ob_g (by kernel_rfl) (fun v w h => h) (ob_load fracOk (.tail _ (.tail _ (.tail _ (.head _)))) (fun v w h => h))) ?_
    refine Obs.cons (ob_g (by kernel_rfl) (fun v w h => h) (ob_call2 (s1 := some 37) (s2 := some 38) Try.call29 (fun x y w hw hx hy => tMul 1 hw.lt hx hy (bfr_b a0) (bfr_b a1) (by decide)))) ?_
    refine Obs.cons (ob_g (by kernel_rfl) (fun v w h => h) (ob_load fracOk (.tail _ (.tail _ (.head _))) (fun v w h => h))) ?_
    refine Obs.cons (ob_g (by kernel_rfl) (fun v w h => h) (ob_call2 (s1 := some 39) (s2 := some 40) Try.call29 (fun x y w hw hx hy => tMul 2 hw.lt hx hy (Qb.mono (Qb.mul (bfr_b a0) (bfr_b a1) (by omega)) (by omega)) (Qb.mono (bfr_b a2) (by omega)) (by decide)))) ?_
    refine Obs.cons (ob_g (by kernel_rfl) (fun v w h => h) (ob_load fracOk (.tail _ (.tail _ (.tail _ (.tail _ (.head _))))) (fun v w h => h))) ?_
    refine Obs.cons (ob_g (by kernel_rfl) (fun v w h => h) (ob_load fracOk (.tail _ (.tail _ (.tail _ (.head _)))) (fun v w h => h))) ?_
    refine Obs.cons (ob_g (by kernel_rfl) (fun v w h => h) (ob_load fracOk (.tail _ (.tail _ (.head _))) (fun v w h => h))) ?_
    refine Obs.cons (ob_g (by kernel_rfl) (fun v w h => h) (ob_call2 (s1 := some 43) (s2 := some 44) Try.call29 (fun x y w hw hx hy => tMul 1 hw.lt hx hy (bfr_b a1) (bfr_b a2) (by decide)))) ?_
    refine Obs.cons (ob_g (by kernel_rfl) (fun v w h => h) (ob_call2 (s1 := some 42) (s2 := some 45) Try.call29 (fun x y w hw hx hy => tMul 2 hw.lt hx hy (Qb.mono (bfr_b a0) (by omega)) (Qb.mono (Qb.mul (bfr_b a1) (bfr_b a2) (by omega)) (by omega)) (by decide)))) ?_
    refine Obs.cons (ob_g (by kernel_rfl) (fun v w h => h) (ob_call2 (s1 := some 41) (s2 := some 46) Try.call13 (fun x y w hw hx hy => RetS.tr (tSame hw.lt hx hy) (fun v w h => h.trans (congrArg Value.bool (decide_eq_true (Rat.mul_assoc _ _ _))))))) ?_
    refine Obs.cons (ob_pick_t (sc := some 36) (sx := some 47) (fun v w h => h) (fun v w h => h)) ?_
    refine Obs.cons (ob_move (s := some 48) (fun v w h => h)) ?_
    refine Obs.cons (ob_g (by kernel_rfl) (fun v w h => h) (ob_load fracOk (.tail _ (.tail _ (.tail _ (.tail _ (.head _))))) (fun v w h => h))) ?_
    refine Obs.cons (ob_g (by kernel_rfl) (fun v w h => h) (ob_load fracOk (.tail _ (.tail _ (.tail _ (.head _)))) (fun v w h => h))) ?_
    refine Obs.cons (ob_g (by kernel_rfl) (fun v w h => h) (ob_load fracOk (.tail _ (.tail _ (.head _))) (fun v w h => h))) ?_
    refine Obs.cons (ob_g (by kernel_rfl) (fun v w h => h) (ob_call2 (s1 := some 51) (s2 := some 52) Try.call23 (fun x y w hw hx hy => tAdd 1 hw.lt hx hy (bfr_b a1) (bfr_b a2) (by decide)))) ?_
    refine Obs.cons (ob_g (by kernel_rfl) (fun v w h => h) (ob_call2 (s1 := some 50) (s2 := some 53) Try.call29 (fun x y w hw hx hy => tMul 3 hw.lt hx hy (Qb.mono (bfr_b a0) (by omega)) (Qb.mono (Qb.add (bfr_b a1) (bfr_b a2)) (by omega)) (by decide)))) ?_
    refine Obs.cons (ob_g (by kernel_rfl) (fun v w h => h) (ob_load fracOk (.tail _ (.tail _ (.tail _ (.tail _ (.head _))))) (fun v w h => h))) ?_
    refine Obs.cons (ob_g (by kernel_rfl) (fun v w h => h) (ob_load fracOk (.tail _ (.tail _ (.tail _ (.head _)))) (fun v w h => h))) ?_
    refine Obs.cons (ob_g (by kernel_rfl) (fun v w h => h) (ob_call2 (s1 := some 55) (s2 := some 56) Try.call29 (fun x y w hw hx hy => tMul 1 hw.lt hx hy (bfr_b a0) (bfr_b a1) (by decide)))) ?_
    refine Obs.cons (ob_g (by kernel_rfl) (fun v w h => h) (ob_load fracOk (.tail _ (.tail _ (.tail _ (.tail _ (.head _))))) (fun v w h => h))) ?_
    refine Obs.cons (ob_g (by kernel_rfl) (fun v w h => h) (ob_load fracOk (.tail _ (.tail _ (.head _))) (fun v w h => h))) ?_
    refine Obs.cons (ob_g (by kernel_rfl) (fun v w h => h) (ob_call2 (s1 := some 58) (s2 := some 59) Try.call29 (fun x y w hw hx hy => tMul 1 hw.lt hx hy (bfr_b a0) (bfr_b a2) (by decide)))) ?_
    refine Obs.cons (ob_g (by kernel_rfl) (fun v w h => h) (ob_call2 (s1 := some 57) (s2 := some 60) Try.call23 (fun x y w hw hx hy => tAdd 2 hw.lt hx hy (Qb.mono (Qb.mul (bfr_b a0) (bfr_b a1) (by omega)) (by omega)) (Qb.mono (Qb.mul (bfr_b a0) (bfr_b a2) (by omega)) (by omega)) (by decide)))) ?_
    refine Obs.cons (ob_g (by kernel_rfl) (fun v w h => h) (ob_call2 (s1 := some 54) (s2 := some 61) Try.call13 (fun x y w hw hx hy => RetS.tr (tSame hw.lt hx hy) (fun v w h => h.trans (congrArg Value.bool (decide_eq_true (Rat.mul_add _ _ _))))))) ?_
    refine Obs.cons (ob_pick_t (sc := some 49) (sx := some 62) (fun v w h => h) (fun v w h => h)) ?_
    refine Obs.cons (ob_move (s := some 63) (fun v w h => h)) ?_
    refine Obs.cons (ob_g (by kernel_rfl) (fun v w h => h) (ob_load fracOk (.tail _ (.tail _ (.tail _ (.tail _ (.head _))))) (fun v w h => h))) ?_
    refine Obs.cons (ob_g (by kernel_rfl) (fun v w h => h) (ob_load fracOk (.tail _ (.tail _ (.tail _ (.tail _ (.head _))))) (fun v w h => h))) ?_
    refine Obs.cons (ob_g (by kernel_rfl) (fun v w h => h) (ob_call1 (s1 := some 66) Try.call24 (fun x w hw hx => tNeg 1 hw.lt hx (bfr_b a0) (by decide)))) ?_
    refine Obs.cons (ob_g (by kernel_rfl) (fun v w h => h) (ob_call2 (s1 := some 65) (s2 := some 67) Try.call23 (fun x y w hw hx hy => tAdd 1 hw.lt hx hy (bfr_b a0) (Qb.mono (Qb.neg (bfr_b a0)) (by omega)) (by decide)))) ?_
    refine Obs.cons (ob_g (by kernel_rfl) (fun v w h => h) (ob_call1 (s1 := some 68) Try.call27 (fun x w hw hx => tSign 3 hw.lt hx (Qb.mono (Qb.add (bfr_b a0) (Qb.neg (bfr_b a0))) (by omega)) (by decide)))) ?_
    refine Obs.cons (ob_g (by kernel_rfl) (fun v w h => h) (ob_bin (s1 := some 69) (s2 := none) (fun v w h => h) (fun v w h => h) (eq_i (sgQ ((bfr a0) + (-(bfr a0)))) 0 _ _) (fun w => congrArg Value.bool (decide_eq_true (by rw [Rat.add_neg_cancel]; rfl))))) ?_
    refine Obs.cons (ob_pick_t (sc := some 64) (sx := some 70) (fun v w h => h) (fun v w h => h)) ?_
    refine Obs.cons (ob_move (s := some 71) (fun v w h => h)) ?_
    refine Obs.cons (ob_g (by kernel_rfl) (fun v w h => h) (ob_call0  Try.call14 (fun  w hw  => tKnown))) ?_
    refine Obs.cons (ob_pick_t (sc := some 72) (sx := some 73) (fun v w h => h) (fun v w h => h)) ?_
    refine Obs.cons (ob_assign (s := some 74) (fun v w h => h)) ?_
    exact Obs.nil
  refine wp_ret ?_
  exact ret1 h rfl (.tail _ (.tail _ (.tail _ (.tail _ (.tail _ (.tail _ (.tail _ (.head _)))))))) (fun v w h => h)
theorem walk (a0 : Int) (a1 : Int) (a2 : Int) (w0 : (Lit.int .i64 a0).wf = true) (w1 : (Lit.int .i64 a1).wf = true) (w2 : (Lit.int .i64 a2).wf = true) (w : World) :
    Calls Try.prog 7 #[.int .i64 a0, .int .i64 a1, .int .i64 a2] w fun e w' => e = .returned (.bool true) ∧ Below w.heap.size w w' := by
  have fin : Calls Try.prog 7 #[.int .i64 a0, .int .i64 a1, .int .i64 a2] w (RetS (fun _ => False) (SP.b true) w) := by
    by_cases hz : bfr a1 = 0
    · exact walk0 a0 a1 a2 (wf_i64' w0) (wf_i64' w1) (wf_i64' w2) w hz
    · exact walk1 a0 a1 a2 (wf_i64' w0) (wf_i64' w1) (wf_i64' w2) w hz
  exact fin.mono fun e w' ⟨v, h1, h2, h3⟩ => ⟨by rw [h1, show v = _ from h2], h3⟩
end Go.Proofs.Ytpplleoiehnlkaa.rationalField
