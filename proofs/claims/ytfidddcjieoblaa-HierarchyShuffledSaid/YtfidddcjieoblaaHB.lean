/-
  The parser of queries: names, constants, terms.
-/
import Derived.Test.YtfidddcjieoblaaHA
namespace Go.Proofs.Ytfidddcjieoblaa.Gx
open Go Go.RowKit Tw B Nt
set_option linter.unusedVariables false
set_option linter.unusedSimpArgs false
set_option maxHeartbeats 4000000
set_option maxRecDepth 20000
def isP (s : PS) (k : Int) : Bool := (!s.2.2 && decide (s.2.1 < (s.1.length : Int))) && decide ((tk s).1 = k)
@[go_sem] def isM : MSpec := ⟨[.b 83 psT, .d (.int .i64)], fun d => ⟨[(0, .box 83 (dA psT d.1 .nil))], 1, .dat .bool (isP d.1 d.2.1), [psP d.1]⟩⟩
@[go_sem] noncomputable def EJ3 : Env := (EJ2).addM 37 wnM
theorem EJ3_ok : EJ3.Ok := (EJ2_ok).addM wnM_ok
theorem isM_ok : MSpecOk Try.prog 55 isM := by
  refine fnM_ok EJ3_ok isM Try.func55 rfl (by decide) (N := 37) rfl (res := [.tmp 4]) rfl (by decide) [] [] [] 100 (by kernel_rfl) ?_
  rintro ⟨s, (k:Int), _⟩ hw hp H hH
  dsimp only [go_sem] at hw hp ⊢
  obtain ⟨hp, -⟩ := hp
  obtain ⟨l, a, b⟩ := s
  change List Tok at l
  change Int at a
  obtain ⟨⟨h0, h1⟩, h2, h3⟩ := hp
  change (0 : Int) ≤ a at h0
  clear hw
  simp only [imp_self, true_and, imp2, and_true]
  have hb : ∀ x : Bool, ((x && decide (a < (l.length : Int))) = true) → (0 : Int) ≤ a ∧ a < (l.length : Int) := fun x h => by
    simp only [Bool.and_eq_true, decide_eq_true_eq] at h
    exact ⟨h0, h.2⟩
  refine ⟨fun h => hb _ h, ?_⟩
  and_intros <;> first | trivial | rfl
def nxB (s : PS) (k : Int) : Bool := (s.2.2 || decide ((s.1.length : Int) ≤ s.2.1)) || decide ((tk s).1 ≠ k)
def nexP (s : PS) (k : Int) : PS × Str := if nxB s k = true then (bad s, []) else (adv s, (tk s).2)
@[go_sem] def nxM : MSpec := ⟨[.b 83 psT, .d (.int .i64)], fun d => ⟨[(0, .box 83 (dA psT (nexP d.1 d.2.1).1 .nil))], 1, .dat .str (nexP d.1 d.2.1).2, [psP d.1]⟩⟩
theorem nxM_ok : MSpecOk Try.prog 49 nxM := by
  refine fnM_ok EJ3_ok nxM Try.func49 rfl (by decide) (N := 58) rfl (res := [.tmp 4]) rfl (by decide) [] [] [] 100 (by kernel_rfl) ?_
  rintro ⟨s, (k:Int), _⟩ hw hp H hH
  dsimp only [go_sem] at hw hp ⊢
  obtain ⟨hp, -⟩ := hp
  obtain ⟨l, a, b⟩ := s
  change List Tok at l
  change Int at a
  obtain ⟨⟨h0, h1⟩, h2, h3⟩ := hp
  change (0 : Int) ≤ a at h0
  change a ≤ (l.length : Int) at h1
  change l.length ≤ 20000 at h2
  clear hw
  simp only [imp_self, true_and, imp2, and_true]
  have hz : ∀ n, l.getD n (zd (.pair (.int .i64) .str)) = l.getD n ((0, []) : Tok) := fun _ => rfl
  have ht : tk (l, a, b) = l.getD a.toNat (0, []) := rfl
  have e1 : a + 1 - 1 = a := by omega
  simp only [hz, e1, ← ht]
  have hn : nexP (l, a, b) k = if nxB (l, a, b) k = true then (bad (l, a, b), []) else (adv (l, a, b), (tk (l, a, b)).2) := rfl
  have hnb : nxB (l, a, b) k = ((b || decide ((l.length : Int) ≤ a)) || decide ((tk (l, a, b)).1 ≠ k)) := rfl
  have hlt : (b || decide ((l.length : Int) ≤ a)) = false → (0 : Int) ≤ a ∧ a < (l.length : Int) := fun h => by
    simp only [Bool.or_eq_false_iff, decide_eq_false_iff_not] at h
    omega
  refine ⟨hlt, fun h => ?_, fun h => ?_⟩
  · rw [hn, if_pos (hnb.trans h)]
    and_intros <;> first | trivial | rfl
  · have h5 := hlt (Bool.or_eq_false_iff.1 h).1
    have i1 : inR .i64 (a + 1) := by rw [inR_i64]; omega
    have i2 : inR .i64 a := by rw [inR_i64]; omega
    rw [hn, if_neg (by rw [hnb]; exact fun h' => by rw [h] at h'; cases h')]
    refine ⟨i1, i2, h5, ?_⟩
    and_intros <;> first | trivial | rfl
theorem nexP_ad {s : PS} (h : psP s) (k : Int) : Ad s (nexP s k).1 := by
  unfold nexP
  split
  · exact Ad.bad h
  · rename_i e
    refine Ad.adv h ?_
    unfold nxB at e
    simp only [Bool.or_eq_true, decide_eq_true_eq, not_or] at e
    have := e.1.2
    omega
def resv (t : Str) : Bool := if t = [114, 101, 108, 97, 116, 105, 111, 110] then true else if t = [99, 101, 114, 116, 97, 105, 110] then true else if t = [116, 117, 112, 108, 101] then true else if t = [107, 101, 121] then true else if t = [114, 117, 108, 101] then true else if t = [105, 109, 112, 108, 105, 101, 115] then true else if t = [111, 114] then true else if t = [99, 111, 117, 110, 116] then true else if t = [116, 111] then true else if t = [111, 102] then true else if t = [102, 97, 99, 116, 111, 114] then true else if t = [102, 111, 114] then true else if t = [111, 98, 115, 101, 114, 118, 101] then true else if t = [100, 101, 110, 121] then true else if t = [97, 115, 107] then true else if t = [112, 114, 111, 98, 97, 98, 105, 108, 105, 116, 121] then true else if t = [115, 117, 109] then true else if t = [116, 104, 114, 101, 115, 104, 111, 108, 100] then true else if t = [116, 111, 112] then true else if t = [116, 114, 117, 101] then true else if t = [102, 97, 108, 115, 101] then true else if t = [110, 111, 116] then true else if t = [105, 110, 116] then true else if t = [115, 116, 114, 105, 110, 103] then true else false
@[go_sem] def resS : Spec := ⟨[.str], fun d => (.dat .bool (resv d.1), [])⟩
theorem res_ok : SpecOk Try.prog 50 resS := by
  refine fn_ok EJ3_ok resS Try.func50 rfl (by decide) (N := 29) rfl (res := [.tmp 2]) rfl (by decide) [] [] [] 300 (by kernel_rfl) ?_
  rintro ⟨t, _⟩ hw hp
  refine ⟨rfl, fun H hH => ?_⟩
  dsimp only [go_sem] at hw hp ⊢
  clear hw hp
  change Str at t
  refine ⟨fun h => ⟨fun _ => ⟨by cases of_decide_eq_true h; rfl, trivial⟩, fun h' => by rw [h] at h'; cases h'⟩, fun h0 => ?_⟩
  refine ⟨fun h => ⟨fun _ => ⟨by cases of_decide_eq_true h; rfl, trivial⟩, fun h' => by rw [h] at h'; cases h'⟩, fun h1 => ?_⟩
  refine ⟨fun h => ⟨fun _ => ⟨by cases of_decide_eq_true h; rfl, trivial⟩, fun h' => by rw [h] at h'; cases h'⟩, fun h2 => ?_⟩
  refine ⟨fun h => ⟨fun _ => ⟨by cases of_decide_eq_true h; rfl, trivial⟩, fun h' => by rw [h] at h'; cases h'⟩, fun h3 => ?_⟩
  refine ⟨fun h => ⟨fun _ => ⟨by cases of_decide_eq_true h; rfl, trivial⟩, fun h' => by rw [h] at h'; cases h'⟩, fun h4 => ?_⟩
  refine ⟨fun h => ⟨fun _ => ⟨by cases of_decide_eq_true h; rfl, trivial⟩, fun h' => by rw [h] at h'; cases h'⟩, fun h5 => ?_⟩
  refine ⟨fun h => ⟨fun _ => ⟨by cases of_decide_eq_true h; rfl, trivial⟩, fun h' => by rw [h] at h'; cases h'⟩, fun h6 => ?_⟩
  refine ⟨fun h => ⟨fun _ => ⟨by cases of_decide_eq_true h; rfl, trivial⟩, fun h' => by rw [h] at h'; cases h'⟩, fun h7 => ?_⟩
  refine ⟨fun h => ⟨fun _ => ⟨by cases of_decide_eq_true h; rfl, trivial⟩, fun h' => by rw [h] at h'; cases h'⟩, fun h8 => ?_⟩
  refine ⟨fun h => ⟨fun _ => ⟨by cases of_decide_eq_true h; rfl, trivial⟩, fun h' => by rw [h] at h'; cases h'⟩, fun h9 => ?_⟩
  refine ⟨fun h => ⟨fun _ => ⟨by cases of_decide_eq_true h; rfl, trivial⟩, fun h' => by rw [h] at h'; cases h'⟩, fun h10 => ?_⟩
  refine ⟨fun h => ⟨fun _ => ⟨by cases of_decide_eq_true h; rfl, trivial⟩, fun h' => by rw [h] at h'; cases h'⟩, fun h11 => ?_⟩
  refine ⟨fun h => ⟨fun _ => ⟨by cases of_decide_eq_true h; rfl, trivial⟩, fun h' => by rw [h] at h'; cases h'⟩, fun h12 => ?_⟩
  refine ⟨fun h => ⟨fun _ => ⟨by cases of_decide_eq_true h; rfl, trivial⟩, fun h' => by rw [h] at h'; cases h'⟩, fun h13 => ?_⟩
  refine ⟨fun h => ⟨fun _ => ⟨by cases of_decide_eq_true h; rfl, trivial⟩, fun h' => by rw [h] at h'; cases h'⟩, fun h14 => ?_⟩
  refine ⟨fun h => ⟨fun _ => ⟨by cases of_decide_eq_true h; rfl, trivial⟩, fun h' => by rw [h] at h'; cases h'⟩, fun h15 => ?_⟩
  refine ⟨fun h => ⟨fun _ => ⟨by cases of_decide_eq_true h; rfl, trivial⟩, fun h' => by rw [h] at h'; cases h'⟩, fun h16 => ?_⟩
  refine ⟨fun h => ⟨fun _ => ⟨by cases of_decide_eq_true h; rfl, trivial⟩, fun h' => by rw [h] at h'; cases h'⟩, fun h17 => ?_⟩
  refine ⟨fun h => ⟨fun _ => ⟨by cases of_decide_eq_true h; rfl, trivial⟩, fun h' => by rw [h] at h'; cases h'⟩, fun h18 => ?_⟩
  refine ⟨fun h => ⟨fun _ => ⟨by cases of_decide_eq_true h; rfl, trivial⟩, fun h' => by rw [h] at h'; cases h'⟩, fun h19 => ?_⟩
  refine ⟨fun h => ⟨fun _ => ⟨by cases of_decide_eq_true h; rfl, trivial⟩, fun h' => by rw [h] at h'; cases h'⟩, fun h20 => ?_⟩
  refine ⟨fun h => ⟨fun _ => ⟨by cases of_decide_eq_true h; rfl, trivial⟩, fun h' => by rw [h] at h'; cases h'⟩, fun h21 => ?_⟩
  refine ⟨fun h => ⟨fun _ => ⟨by cases of_decide_eq_true h; rfl, trivial⟩, fun h' => by rw [h] at h'; cases h'⟩, fun h22 => ?_⟩
  refine ⟨fun h => ⟨by cases of_decide_eq_true h; rfl, trivial⟩, fun h23 => ⟨?_, trivial⟩⟩
  unfold resv
  rw [if_neg (of_decide_eq_false h0), if_neg (of_decide_eq_false h1), if_neg (of_decide_eq_false h2), if_neg (of_decide_eq_false h3), if_neg (of_decide_eq_false h4), if_neg (of_decide_eq_false h5), if_neg (of_decide_eq_false h6), if_neg (of_decide_eq_false h7), if_neg (of_decide_eq_false h8), if_neg (of_decide_eq_false h9), if_neg (of_decide_eq_false h10), if_neg (of_decide_eq_false h11), if_neg (of_decide_eq_false h12), if_neg (of_decide_eq_false h13), if_neg (of_decide_eq_false h14), if_neg (of_decide_eq_false h15), if_neg (of_decide_eq_false h16), if_neg (of_decide_eq_false h17), if_neg (of_decide_eq_false h18), if_neg (of_decide_eq_false h19), if_neg (of_decide_eq_false h20), if_neg (of_decide_eq_false h21), if_neg (of_decide_eq_false h22), if_neg (of_decide_eq_false h23)]
def namP (s : PS) : PS × Str := (if resv (nexP s 1).2 = true then bad (nexP s 1).1 else (nexP s 1).1, (nexP s 1).2)
@[go_sem] noncomputable def EJ4 : Env := (((EJ3).addM 55 isM).addM 49 nxM).add 50 resS
theorem EJ4_ok : EJ4.Ok := (((EJ3_ok).addM isM_ok).addM nxM_ok).add res_ok
@[go_sem] def nmM : MSpec := ⟨[.b 83 psT], fun d => ⟨[(0, .box 83 (dA psT (namP d.1).1 .nil))], 1, .dat .str (namP d.1).2, [psP d.1]⟩⟩
theorem nmM_ok : MSpecOk Try.prog 46 nmM := by
  refine fnM_ok EJ4_ok nmM Try.func46 rfl (by decide) (N := 12) rfl (res := [.tmp 2]) rfl (by decide) [(1, [(5, .ow)])] [] [] 100 (by kernel_rfl) ?_
  rintro ⟨s, _⟩ hw hp H hH
  dsimp only [go_sem] at hw hp ⊢
  obtain ⟨hp, -⟩ := hp
  refine ⟨hp, ?_⟩
  unfold namP
  generalize nexP s 1 = x
  refine ⟨fun h => ?_, fun h => ?_⟩ <;> rw [h]
  · and_intros <;> first | trivial | rfl
  · and_intros <;> first | trivial | rfl
theorem namP_ad {s : PS} (h : psP s) : Ad s (namP s).1 := by
  unfold namP
  have := nexP_ad h 1
  dsimp only
  split
  · exact this.trans (Ad.bad this.1)
  · exact this
abbrev Val := Int × Int × Str
/-- what is read as a number -/
def par8 (t : Str) : Val × Bool := if t = [49] then ((1, 1, []), true) else if t = [50] then ((1, 2, []), true) else if t = [51] then ((1, 3, []), true) else ((0, 0, []), false)
@[go_sem] def p8S : Spec := ⟨[.str], fun d => (.tup (.cons (.dat valT (par8 d.1).1) (.cons (.dat .bool (par8 d.1).2) .nil)), [d.1 = [] ∨ numOk d.1])⟩
theorem p8_ok : SpecOk Try.prog 57 p8S := by
  refine fn_ok EJ4_ok p8S Try.func57 rfl (by decide) (N := 87) rfl (res := [.cell 2 43, .tmp 3]) rfl (by decide) [] [] [3] 100 (by kernel_rfl) ?_
  rintro ⟨t, _⟩ hw hp
  refine ⟨rfl, fun H hH => ?_⟩
  dsimp only [go_sem] at hw hp ⊢
  obtain ⟨hp, -⟩ := hp
  have ht : t = [] := by
    rcases hp with h | h
    · exact h
    · exact h.elim
  subst ht
  exact ⟨fun h => h, fun h => h, fun _ => ⟨rfl, rfl, rfl, rfl, rfl, trivial⟩, fun h => absurd h (by decide)⟩
theorem tk_mem {s : PS} (h : psP s) (hl : s.2.1 < (s.1.length : Int)) : tk s ∈ s.1 := by
  obtain ⟨⟨h0, h1⟩, h2, h3⟩ := h
  exact getDm _ (by omega)
theorem isP3 {s : PS} (h : psP s) : isP s 3 = false := by
  cases e : isP s 3 with
  | false => rfl
  | true =>
    unfold isP at e
    simp only [Bool.and_eq_true, decide_eq_true_eq] at e
    exact absurd e.2 (h.2.2 _ (tk_mem h e.1.2)).1
theorem nex2 {s : PS} (h : psP s) : (nexP s 2).2 = [] ∨ numOk (nexP s 2).2 := by
  unfold nexP
  split
  · exact .inl rfl
  · rename_i e
    unfold nxB at e
    simp only [Bool.or_eq_true, decide_eq_true_eq, not_or, Decidable.not_not] at e
    exact .inr ((h.2.2 _ (tk_mem h (by have := e.1.2; omega))).2 e.2)
def intP (s : PS) : PS × Int := (if (par8 (nexP s 2).2).2 = true then (nexP s 2).1 else bad (nexP s 2).1, (par8 (nexP s 2).2).1.2.1)
theorem intP_ad {s : PS} (h : psP s) : Ad s (intP s).1 := by
  unfold intP
  have := nexP_ad h 2
  dsimp only
  split
  · exact this
  · exact this.trans (Ad.bad this.1)
@[go_sem] noncomputable def EJ5 : Env := ((EJ4).addM 46 nmM).add 57 p8S
theorem EJ5_ok : EJ5.Ok := ((EJ4_ok).addM nmM_ok).add p8_ok
@[go_sem] def itM : MSpec := ⟨[.b 83 psT], fun d => ⟨[(0, .box 83 (dA psT (intP d.1).1 .nil))], 1, .dat (.int .i64) (intP d.1).2, [psP d.1]⟩⟩
theorem itM_ok : MSpecOk Try.prog 59 itM := by
  refine fnM_ok EJ5_ok itM Try.func59 rfl (by decide) (N := 18) rfl (res := [.tmp 2]) rfl (by decide) [(1, [(7, .ow)])] [] [] 100 (by kernel_rfl) ?_
  rintro ⟨s, _⟩ hw hp H hH
  dsimp only [go_sem] at hw hp ⊢
  obtain ⟨hp, -⟩ := hp
  refine ⟨hp, nex2 hp, ?_⟩
  unfold intP
  generalize nexP s 2 = x
  refine ⟨fun h => ?_, fun h => ?_⟩
  · have h : (par8 x.2).2 = false := by simpa using h
    rw [h]
    and_intros <;> first | trivial | rfl
  · have h : (par8 x.2).2 = true := by simpa using h
    rw [h]
    and_intros <;> first | trivial | rfl
@[go_sem] def vnS : Spec := ⟨[.int .i64], fun d => (.dat valT (1, d.1, []), [])⟩
theorem vn_ok : SpecOk Try.prog 58 vnS := by
  refine fn_ok EJ5_ok vnS Try.func58 rfl (by decide) (N := 5) rfl (res := [.cell 2 43]) rfl (by decide) [] [] [] 100 (by kernel_rfl) ?_
  rintro ⟨(n:Int), _⟩ hw hp
  refine ⟨rfl, fun H hH => ?_⟩
  dsimp only [go_sem] at hw hp ⊢
  and_intros <;> first | trivial | rfl
def conP (s : PS) : PS × Val := ((intP s).1, (1, (intP s).2, []))
@[go_sem] noncomputable def EJ6 : Env := ((EJ5).addM 59 itM).add 58 vnS
theorem EJ6_ok : EJ6.Ok := ((EJ5_ok).addM itM_ok).add vn_ok
@[go_sem] def cnsM : MSpec := ⟨[.b 83 psT], fun d => ⟨[(0, .box 83 (dA psT (conP d.1).1 .nil))], 1, .dat valT (conP d.1).2, [psP d.1]⟩⟩
theorem cnsM_ok : MSpecOk Try.prog 56 cnsM := by
  refine fnM_ok EJ6_ok cnsM Try.func56 rfl (by decide) (N := 22) rfl (res := [.cell 2 43]) rfl (by decide) [(1, [(6, .ow)]), (6, [(20, .ow)])] [] [2] 100 (by kernel_rfl) ?_
  rintro ⟨s, _⟩ hw hp H hH
  dsimp only [go_sem] at hw hp ⊢
  obtain ⟨hp, -⟩ := hp
  refine ⟨hp, fun h => ?_, fun h => ?_⟩
  · rw [isP3 hp] at h; cases h
  · refine ⟨hp, ?_⟩
    and_intros <;> first | trivial | rfl
def terP (s : PS) : PS × Term := if isP s 1 = true then ((namP s).1, ((namP s).2, 0, 0, [])) else ((conP s).1, ([], (conP s).2))
theorem terP_ad {s : PS} (h : psP s) : Ad s (terP s).1 := by
  unfold terP
  split
  · exact namP_ad h
  · exact intP_ad h
@[go_sem] noncomputable def EJ7 : Env := (EJ6).addM 56 cnsM
theorem EJ7_ok : EJ7.Ok := (EJ6_ok).addM cnsM_ok
@[go_sem] def trmM : MSpec := ⟨[.b 83 psT], fun d => ⟨[(0, .box 83 (dA psT (terP d.1).1 .nil))], 1, .dat termT (terP d.1).2, [psP d.1]⟩⟩
theorem trmM_ok : MSpecOk Try.prog 53 trmM := by
  refine fnM_ok EJ7_ok trmM Try.func53 rfl (by decide) (N := 11) rfl (res := [.cell 2 45]) rfl (by decide) [(1, [(4, .ow)]), (2, [(6, .ow)]), (3, [(9, .ow)])] [] [] 100 (by kernel_rfl) ?_
  rintro ⟨s, _⟩ hw hp H hH
  dsimp only [go_sem] at hw hp ⊢
  obtain ⟨hp, -⟩ := hp
  refine ⟨hp, fun h => ⟨hp, ?_⟩, fun h => ⟨hp, ?_⟩⟩
  · unfold terP
    rw [if_pos h]
    and_intros <;> first | trivial | rfl
  · unfold terP
    rw [if_neg (by rw [h]; decide)]
    and_intros <;> first | trivial | rfl
end Go.Proofs.Ytfidddcjieoblaa.Gx
