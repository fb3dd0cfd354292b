/-
  Hierarchy: slices.Grow of nil, slices.Concat, slices.IndexFunc and slices.DeleteFunc of lists of numbers.
-/
import Derived.Test.YtfidddcjieoblaaH5
import Derived.Shelf.Spec.SlicesGrow
namespace Go.Proofs.Ytfidddcjieoblaa.Gx
open Go Go.RowKit Go.Shelf Tw B Nt
set_option linter.unusedVariables false
set_option linter.unusedSimpArgs false
set_option maxHeartbeats 4000000
set_option maxRecDepth 20000
theorem mspec_of' {P : Program} {f : FuncId} {s : MSpec} {fn : Func} (hf : P.funcs[f]? = some fn) (hb : fn.body.isSome = true) (hn : (fn.name == "runtime.NumGoroutine") = false)
    (h : ∀ d, AllP (s.F d).pre → ∀ ρ0 X w vs, (∀ b, X b → b < w.heap.size) → Fr w X ρ0 0 ⟨[], mCks s.pks d 0, mNb s.pks⟩ ρ0 act0 w → m ρ0 (XX X ρ0 (mCks s.pks d 0)) w (mArgs s.pks d 0) vs →
      Calls P f vs.toArray w (fun e w' => ∃ v ρ', e = .returned v ∧ Fr w X ρ0 0 ⟨[], (s.F d).ck, (s.F d).nx⟩ ρ' act0 w' ∧ m ρ' (XX X ρ' (s.F d).ck) w' (s.F d).out [v])) : MSpecOk P f s :=
  fun d hd => ⟨fun args w => callFunc_ok hf hb hn args w, h d hd⟩
/-- one own row that is new and empty -/
theorem fr_row0 {X : Nat → Prop} {w w' : World} {v : Value} {T : TypeId} {t : Ty} (hX : ∀ b, X b → b < w.heap.size) (hb : Below w.heap.size w w') (ho : w'.ownsRow w.heap.size T t.size v 0 []) :
    Fr w X [] 0 ⟨[], [(0, .row T t [])], 1⟩ [v] act0 w' := by
  have hblk : ∀ b, inC [v] 0 b → w.heap.size ≤ b ∧ b < w'.heap.size := by
    intro b e
    have e : blk v = some b := own_inV ho e
    rcases ho.2 with ⟨rfl, _⟩ | ⟨g, cap, cur, rfl, h1, h2, _⟩
    · cases e
    · cases e; exact ⟨h1, heap_lt h2⟩
  refine ⟨rfl, rfl, ⟨hb.os, hb.tape, hb.output, hb.size, fun k hk _ => hb.block k hk⟩, rfl, by simp, ?_, ?_, ?_, ?_, fun t x hx => (by cases hx), ⟨fun b hb => (inB_nil hb).elim, Nat.zero_le _, fun x hx T l e hlt => absurd hlt (Nat.not_lt_zero _)⟩⟩
  · intro x hx
    rw [List.mem_singleton] at hx; subst hx; exact Nat.zero_lt_one
  · intro x hx b e
    rw [List.mem_singleton] at hx; subst hx
    obtain ⟨h1, h2⟩ := hblk b e
    exact ⟨h2, .inl h1⟩
  · intro x hx y hy hne
    rw [List.mem_singleton] at hx hy; subst hx; subst hy; exact absurd rfl hne
  · intro x hx
    rw [List.mem_singleton] at hx; subst hx
    refine ⟨v, [], rfl, ?_, (fun u hu => by cases hu), (fun i x hx => by cases hx)⟩
    refine ⟨ho.1, ?_⟩
    rcases ho.2 with h | ⟨g, cap, cur, e, h1, h2⟩
    · exact .inl h
    · exact .inr ⟨g, cap, cur, e, Nat.zero_le _, h2⟩
theorem nil_ρ' {w : World} {X : Nat → Prop} {ρ0 : List Value} (h : Fr w X ρ0 0 ⟨[], [], 0⟩ ρ0 act0 w) : ρ0 = [] := List.length_eq_zero_iff.1 h.nx
def growR : Ren := ⟨fun k => match k with | 4 => 29 | k => k, fun k => match k with | 0 => 0 | 3 => 3 | 4 => 4 | 9 => 9 | 20 => 20 | 22 => 22 | 25 => 3 | k => k, fun k => k⟩
theorem growL : Lays8.n4 Try.prog growR where
  mixed := E3_ok.mx
  f4 := ⟨"slices.Grow[[]int,int]", by decide, rfl⟩
  t0 := rfl
  a0 := fun w => rfl
  z0 := fun w => rfl
  v0 := fun w => rfl
  t3 := rfl
  a3 := fun w => rfl
  z3 := fun w => rfl
  v3 := fun w => rfl
  t4 := rfl
  a4 := fun w => rfl
  z4 := fun w => rfl
  v4 := fun w => rfl
  t9 := rfl
  a9 := fun w => rfl
  z9 := fun w => rfl
  v9 := fun w => rfl
  t20 := rfl
  a20 := fun w => rfl
  z20 := fun w => rfl
  v20 := fun w => rfl
  t22 := rfl
  a22 := fun w => rfl
  z22 := fun w => rfl
  v22 := fun w => rfl
@[go_sem] def groM : MSpec := ⟨[.n, .d (.int .i64)], fun d => ⟨[(0, .row 3 (.int .i64) [])], 1, .own 0, [0 ≤ d.1 ∧ d.1 ≤ 4000000000]⟩⟩
theorem groM_ok : MSpecOk Try.prog 29 groM := by
  refine mspec_of' (s := groM) Try.func29 rfl (by decide) fun d hp ρ0 X w vs hX hf hm => ?_
  obtain ⟨n, du⟩ := d
  obtain ⟨⟨hp1, hp2⟩, -⟩ := hp
  change (0 : Int) ≤ n at hp1
  change n ≤ (4000000000 : Int) at hp2
  obtain ⟨v0, us, rfl, h1, v1, us1, rfl, h2, h3⟩ := hm
  have h3 : us1 = [] := h3
  subst h3
  have hρ := nil_ρ' hf
  subst hρ
  have h1 := (List.cons.inj h1).1
  subst h1
  obtain ⟨rfl, _⟩ := m_int h2
  obtain ⟨k, rfl⟩ := Int.eq_ofNat_of_zero_le hp1
  have hp2 : (k : Int) ≤ 4000000000 := hp2
  rcases Nat.eq_zero_or_pos k with rfl | hk
  · refine (Any8.slices_Grow_room growL none 0 0 0 w (Nat.le_refl _) (by omega) (by omega) (by omega)).mono fun e w' ⟨he, hw⟩ => ?_
    subst hw
    refine ⟨_, [.slice none 0 0], he, fr_row0 hX (Below.refl _ _) ⟨rfl, .inl ⟨rfl, rfl⟩⟩, _, rfl, rfl, rfl⟩
  · obtain ⟨inf, hinf, hiz, his, hib⟩ := (E3_ok.fact (T := 3) (e := ⟨.int .i64, 0, 8, 0⟩) rfl).info
    have hz : inf.zero = some (.int .i64 0) := hiz
    have hs : inf.size = 1 := his
    have hb : inf.bytes = 8 := hib
    refine (Any8.slices_Grow_grow growL inf (.int .i64 0) hinf hz (by rw [hs]; exact Nat.zero_lt_one) none 0 0 k [] w (Nat.le_refl _) (by omega) (by rw [hb]; omega) (by omega) (by simp) (fun _ => rfl) (fun a h => by cases h)).mono fun e w' ⟨he, hw⟩ => ?_
    have hge := grownCap_ge w (0 + k) 0 3
    have hle := grownCap_le_maxLen w (0 + k) 0 3 (by unfold maxLen; omega)
    have he : e = .returned (.slice (some ⟨w.heap.size, 0, none⟩) 0 (grownCap w (0 + k) 0 3)) := he
    have hw : w' = w.drew.alloc (.cells (#[] ++ Builtin.zeroCells (Value.int .i64 0).cells (0 + k - 0) ++ Builtin.zeroCells (Value.int .i64 0).cells (grownCap w (0 + k) 0 3 - (0 + k))) 3) := hw
    generalize grownCap w (0 + k) 0 3 = G at hge hle he hw
    have hzs : ∀ n, (Builtin.zeroCells (Value.int .i64 0).cells n).size = n := fun n => by
      have := congrArg List.length (zero_rep (n := n) (x := .int .i64 0) (z := .int .i64 0) rfl)
      simpa using this
    have hbw : Below w.heap.size w w' := by rw [hw]; exact (Below.refl _ _).drew.alloc (Nat.le_refl _) _
    have hh : w'.heap[w.heap.size]? = some (.cells (#[] ++ Builtin.zeroCells (Value.int .i64 0).cells (0 + k - 0) ++ Builtin.zeroCells (Value.int .i64 0).cells (G - (0 + k))) 3 (0, 0)) := by
      rw [hw]; exact Array.getElem?_push_size (xs := w.heap)
    refine ⟨_, [.slice (some ⟨w.heap.size, 0, none⟩) 0 G], he, fr_row0 hX hbw ⟨rfl, .inr ⟨w.heap.size, G, _, rfl, Nat.le_refl _, hh, Nat.zero_le _, hle, ?_, rfl⟩⟩, _, rfl, rfl, rfl⟩
    rw [Array.size_append, Array.size_append, hzs, hzs]
    simp [Ty.size]
    omega
@[go_sem] noncomputable def EH10 : Env := ((EH9).addM 19 conM).addM 29 groM
theorem EH10_ok : EH10.Ok := ((EH9_ok).addM conM_ok).addM groM_ok
theorem flen {l : List (List Int)} {n i : Nat} (h : l.flatten.length ≤ n) : (l.take i).flatten.length ≤ n := by
  have : (l.take i).flatten.length ≤ l.flatten.length := by
    rw [← List.take_append_drop i l, List.flatten_append, List.length_append]
    simp
  omega
theorem fsnoc {l : List (List Int)} {i : Nat} (h : i < l.length) : (l.take (i + 1)).flatten = (l.take i).flatten ++ l.getD i [] := by
  rw [take_snoc [] h, List.flatten_append]
  simp
@[go_sem] def concS : Spec := ⟨[.slice (.slice (.int .i64))], fun d => (.dat (.slice (.int .i64)) (List.flatten d.1), [List.length d.1 ≤ 1000000, (List.flatten d.1).length ≤ 2000000])⟩
theorem conc_ok : SpecOk Try.prog 20 concS := by
  refine fn_ok EH10_ok concS Try.func20 rfl (by decide) (N := 36) rfl (res := [.tmp 2]) rfl (by decide) [(9, [(24, .ow)])] [(15, [0])] [] 100 (by kernel_rfl) ?_
  rintro ⟨l, _⟩ hw hp
  refine ⟨rfl, fun H hH => ?_⟩
  dsimp only [go_sem] at hw hp ⊢
  obtain ⟨hp1, hp2, -⟩ := hp
  change List (List Int) at l
  change l.length ≤ 1000000 at hp1
  change l.flatten.length ≤ 2000000 at hp2
  clear hw
  refine hH.loop (fun i : Nat => ⟨[(11, .dat (.int .i64) (i : Int)), (10, .dat (.int .i64) (List.length l : Int)), (9, .dat (.slice (.slice (.int .i64))) l), (0, .dat (.slice (.slice (.int .i64))) l), (3, .dat (.int .i64) ((l.take i).flatten.length : Int))], [], 0⟩) (fun i => i ≤ l.length) (fun i => l.length - i) 0 0 (Nat.zero_le _) ?_ ?_
  · dsimp only [go_sem]
    and_intros <;> first | trivial | rfl | omega
  · intro i hi R hm
    refine hH.run 100 _ _ ?_
    dsimp only [go_sem]
    simp only [Int.toNat_natCast]
    refine ⟨fun d => ?_, fun d => ?_⟩ <;> simp only [decide_eq_true_eq, decide_eq_false_iff_not] at d
    · have d : i < l.length := by omega
      have hs := fsnoc d
      have hl := flen (i := i + 1) hp2
      have hl' : ((l.take i).flatten.length : Int) + ((l.getD i []).length : Int) = ((l.take (i + 1)).flatten.length : Int) := by rw [hs, List.length_append]; omega
      have hg : l.getD i (zd (.slice (.int .i64))) = l.getD i [] := rfl
      simp only [hg]
      have hi1 : inR .i64 ((i : Int) + 1) := by rw [inR_i64]; omega
      have hnn : ¬ ((l.take i).flatten.length : Int) + ((l.getD i []).length : Int) < 0 := by omega
      refine ⟨⟨Int.natCast_nonneg _, Int.ofNat_lt.2 d⟩, by rw [inR_i64, hl']; omega, fun e => absurd (of_decide_eq_true e) hnn, fun _ => ⟨hi1, hm _ (i + 1) 0 d (by omega) ?_⟩⟩
      dsimp only [go_sem]
      and_intros <;> first | trivial | rfl | omega | exact hl'
    · have d : i = l.length := by omega
      subst d
      rw [List.take_length]
      clear hm
      refine ⟨⟨Int.natCast_nonneg _, by change (l.flatten.length : Int) ≤ _; omega⟩, ?_⟩
      refine HOk.loop (by assumption) (fun i : Nat => ⟨[(27, .dat (.int .i64) (i : Int)), (26, .dat (.int .i64) (List.length l : Int)), (25, .dat (.slice (.slice (.int .i64))) l), (6, .own 0)], [(0, .row 3 (.int .i64) (l.take i).flatten)], 1⟩) (fun i => i ≤ l.length) (fun i => l.length - i) 0 1 (Nat.zero_le _) ?_ ?_
      · dsimp only [go_sem]
        and_intros <;> first | trivial | rfl | omega
      · intro i hi R hm
        refine hH.run 100 _ _ ?_
        dsimp only [go_sem]
        simp only [Int.toNat_natCast]
        refine ⟨fun d => ?_, fun d => ?_⟩ <;> simp only [decide_eq_true_eq, decide_eq_false_iff_not] at d
        · have d : i < l.length := by omega
          have hs := fsnoc d
          have hl := flen (i := i + 1) hp2
          have hg : l.getD i (zd (.slice (.int .i64))) = l.getD i [] := rfl
          have hi1 : inR .i64 ((i : Int) + 1) := by rw [inR_i64]; omega
          have hcap : ((l.take i).flatten.length + (l.getD i []).length) * 8 ≤ 140737488355328 := by
            rw [hs, List.length_append] at hl; omega
          rw [hg]
          refine ⟨⟨Int.natCast_nonneg _, Int.ofNat_lt.2 d⟩, hcap, trivial, hi1, hm _ (i + 1) 1 d (by omega) ?_⟩
          dsimp only [go_sem]
          rw [hs]
          and_intros <;> first | trivial | rfl | omega
        · have d : i = l.length := by omega
          subst d
          rw [List.take_length]
          and_intros <;> first | trivial | rfl
def emp (l : List Int) : Bool := decide ((l.length : Int) = 0)
@[go_sem] def empM : MSpec := ⟨[.d (.slice (.int .i64))], fun d => ⟨[], 0, .dat .bool (emp d.1), []⟩⟩
theorem empM_ok : MSpecOk Try.prog 22 empM := by
  refine fnM_ok E3_ok empM Try.func22 rfl (by decide) (N := 6) rfl (res := [.tmp 2]) rfl (by decide) [] [] [] 100 (by kernel_rfl) ?_
  rintro ⟨l, _⟩ hw hp H hH
  dsimp only [go_sem] at hw hp ⊢
  and_intros <;> first | trivial | rfl
@[go_sem] noncomputable def EH11 : Env := ((EH10).add 20 concS).addM 22 empM
theorem EH11_ok : EH11.Ok := ((EH10_ok).add conc_ok).addM empM_ok
@[go_sem] def ixlM : MSpec := ⟨[.d (.slice (.slice (.int .i64))), .k 22], fun d => ⟨[], 0, .dat (.int .i64) (idx emp d.1), [List.length d.1 ≤ 1000]⟩⟩
theorem ixlM_ok : MSpecOk Try.prog 30 ixlM := by
  refine fnM_ok EH11_ok ixlM Try.func30 rfl (by decide) (N := 19) rfl (res := [.tmp 4]) rfl (by decide) [] [] [] 100 (by kernel_rfl) ?_
  rintro ⟨l, _⟩ hw hp H hH
  dsimp only [go_sem] at hw hp ⊢
  obtain ⟨hp, -⟩ := hp
  change List (List Int) at l
  change List.length l ≤ 1000 at hp
  refine hH.loop (fun i : Nat => ⟨[(8, .dat (.int .i64) (i : Int)), (7, .dat (.int .i64) (List.length l : Int)), (0, .dat (.slice (.slice (.int .i64))) l), (1, .clo 22 .nil)], [], 0⟩) (fun i => i ≤ l.length ∧ (l.take i).any emp = false) (fun i => l.length - i) 0 0 ⟨Nat.zero_le _, rfl⟩ ?_ ?_
  · dsimp only [go_sem]
    simp
  · rintro i ⟨hi, ha⟩ R hm
    refine hH.run 100 _ _ ?_
    dsimp only [go_sem]
    refine ⟨fun d => ?_, fun d => ?_⟩ <;> simp only [decide_eq_true_eq, decide_eq_false_iff_not] at d
    · have d : i < l.length := by omega
      rw [Int.toNat_natCast]
      refine ⟨⟨Int.natCast_nonneg _, Int.ofNat_lt.2 d⟩, fun e => ?_, fun e => ⟨by rw [inR_i64]; omega, ?_⟩⟩
      · simp [idx_at _ d e ha]
      · refine hm _ (i + 1) 0 ⟨d, ?_⟩ (by omega) ?_
        · rw [any_snoc _ d, ha, e]; rfl
        · dsimp only [go_sem]
          simp
    · have d : i = l.length := by omega
      rw [d, List.take_length] at ha
      simp [idx_none ha]
def kept (l : List (List Int)) : List (List Int) := l.filter fun x => !emp x
@[go_sem] noncomputable def EH12 : Env := (EH11).addM 30 ixlM
theorem EH12_ok : EH12.Ok := (EH11_ok).addM ixlM_ok
@[go_sem] def dlM : MSpec := ⟨[.r 22 (.slice (.int .i64)), .k 22], fun d => ⟨[], 1, .dat (.slice (.slice (.int .i64))) (kept d.1), [List.length d.1 ≤ 1000]⟩⟩
theorem dlM_ok : MSpecOk Try.prog 21 dlM := by
  refine fnM_ok EH12_ok dlM Try.func21 rfl (by decide) (N := 42) rfl (res := [.tmp 4]) rfl (by decide) [] [(3, [0]), (12, [0])] [] 100 (by kernel_rfl) ?_
  rintro ⟨l, _⟩ hw hp H hH
  dsimp only [go_sem] at hw hp ⊢
  obtain ⟨hp, -⟩ := hp
  change List (List Int) at l
  change List.length l ≤ 1000 at hp
  clear hw
  have hcase : (idx emp l = -1 ∧ kept l = l) ∨ ∃ i : Nat, i < l.length ∧ idx emp l = (i : Int) ∧ kept (l.take (i + 1)) = l.take i := by
    cases e : l.findIdx? emp with
    | none =>
      rw [List.findIdx?_eq_none_iff] at e
      refine .inl ⟨idx_none (by rw [List.any_eq_false]; intro x hx; rw [e x hx]; decide), ?_⟩
      unfold kept
      rw [List.filter_eq_self]
      intro x hx
      rw [e x hx]; rfl
    | some i =>
      have hx : idx emp l = (i : Int) := by unfold idx; rw [e]
      rw [List.findIdx?_eq_some_iff_getElem] at e
      obtain ⟨hi, h1, h2⟩ := e
      refine .inr ⟨i, hi, hx, ?_⟩
      unfold kept
      rw [take_snoc [] hi, List.filter_append]
      have e1 : (l.take i).filter (fun x => !emp x) = l.take i := by
        rw [List.filter_eq_self]
        intro x hx
        obtain ⟨j, hj, rfl⟩ := List.mem_take_iff_getElem.1 hx
        have := h2 j (by omega)
        simp only [Bool.not_eq_true] at this
        rw [this]; rfl
      have e2 : ([l.getD i []]).filter (fun x => !emp x) = [] := by
        rw [List.getD_eq_getElem?_getD, List.getElem?_eq_getElem hi]
        simp [h1]
      rw [e1, e2, List.append_nil]
  rcases hcase with ⟨h1, h2⟩ | ⟨i0, h0, h1, h2⟩
  · refine ⟨hp, fun _ => ?_, fun e => absurd h1 (of_decide_eq_false e)⟩
    and_intros <;> first | trivial | rfl | omega | exact h2.symm
  · have h4 : inR .i64 (idx emp l + 1) := by rw [inR_i64, h1]; omega
    refine ⟨hp, fun e => absurd (of_decide_eq_true e) (by rw [h1]; omega), fun _ => ⟨h4, ?_⟩⟩
    rw [h1]
    refine hH.loop (fun x : Nat × Nat × List (List Int) => ⟨[(6, .dat (.int .i64) (x.2.1 : Int)), (5, .dat (.int .i64) (x.1 : Int)), (0, .own 0), (1, .clo 22 .nil)], [(0, .row 22 (.slice (.int .i64)) x.2.2)], 1⟩) (fun x => x.1 < x.2.1 ∧ x.2.1 ≤ l.length ∧ x.2.2.length = l.length ∧ x.2.2.take x.1 = kept (l.take x.2.1) ∧ x.2.2.drop x.2.1 = l.drop x.2.1) (fun x => l.length - x.2.1) (i0, i0 + 1, l) 1 ⟨Nat.lt_succ_self _, h0, rfl, h2.symm, rfl⟩ ?_ ?_
    · dsimp only [go_sem]
      and_intros <;> first | trivial | rfl | omega
    · rintro ⟨i, j, r⟩ ⟨q1, q2, q3, q4, q5⟩ R hm
      dsimp only at q1 q2 q3 q4 q5
      refine hH.run 100 _ _ ?_
      dsimp only [go_sem]
      simp only [Int.toNat_natCast]
      have hz : ∀ k, r.getD k (zd (.slice (.int .i64))) = r.getD k [] := fun _ => rfl
      refine ⟨fun d => ?_, fun d => ?_⟩ <;> simp only [decide_eq_true_eq, decide_eq_false_iff_not] at d
      · have d : j < l.length := by omega
        have hb : (0 : Int) ≤ (j : Int) ∧ (j : Int) < (r.length : Int) := by omega
        have hbi : (0 : Int) ≤ (i : Int) ∧ (i : Int) < (r.length : Int) := by omega
        have hj1 : inR .i64 ((j : Int) + 1) := by rw [inR_i64]; omega
        have hi1 : inR .i64 ((i : Int) + 1) := by rw [inR_i64]; omega
        have hrj : r.getD j [] = l.getD j [] := by
          have := congrArg (fun x => x.getD 0 ([] : List Int)) q5
          simpa [List.getD_eq_getElem?_getD, List.getElem?_drop] using this
        have hd1 : ∀ r' : List (List Int), r'.drop j = l.drop j → r'.drop (j + 1) = l.drop (j + 1) := fun r' h => by
          have := congrArg (List.drop 1) h
          rwa [List.drop_drop, List.drop_drop] at this
        have hk : kept (l.take (j + 1)) = kept (l.take j) ++ if emp (l.getD j []) then [] else [l.getD j []] := by
          unfold kept
          rw [take_snoc [] d, List.filter_append]
          congr 1
          simp only [List.filter_cons, List.filter_nil]
          cases emp (l.getD j []) <;> rfl
        simp only [hz, hrj]
        refine ⟨hb, by omega, fun e => ?_, fun e => ?_⟩
        · have e : emp (l.getD j []) = false := by simpa using e
          rw [e] at hk
          refine ⟨hbi, by omega, hi1, hj1, hm _ (i + 1, j + 1, r.set i (l.getD j [])) 1 ⟨by dsimp only; omega, d, by rw [← q3]; exact List.length_set, ?_, ?_⟩ (by dsimp only; omega) ?_⟩
          · dsimp only
            rw [hk, ← q4, List.take_add_one, List.getElem?_set_self (by omega), List.take_set]
            have : (r.take i).set i (l.getD j []) = r.take i := List.set_eq_of_length_le (by rw [List.length_take]; omega)
            rw [this]; rfl
          · dsimp only
            refine hd1 _ ?_
            rw [List.drop_set_of_lt (by omega)]; exact q5
          · dsimp only [go_sem]
            and_intros <;> first | trivial | rfl | omega
        · have e : emp (l.getD j []) = true := by simpa using e
          rw [e] at hk
          refine ⟨hj1, hm _ (i, j + 1, r) 1 ⟨by dsimp only; omega, d, q3, ?_, hd1 _ q5⟩ (by dsimp only; omega) ?_⟩
          · dsimp only
            rw [hk, q4]; simp
          · dsimp only [go_sem]
            and_intros <;> first | trivial | rfl | omega
      · have d : j = l.length := by omega
        subst d
        rw [List.take_length] at q4
        have hb : (0 : Int) ≤ (i : Int) ∧ (i : Int) ≤ (r.length : Int) := by omega
        have hll : ∀ x : List Int, (r.take i ++ List.replicate (r.length - i) x).length = r.length := fun x => by rw [List.length_append, List.length_take, List.length_replicate]; omega
        have hfin : ∀ x : List Int, (r.take i ++ List.replicate (r.length - i) x).take i = kept l := fun x => by
          rw [List.take_left' (by rw [List.length_take]; omega)]; exact q4
        refine ⟨hb, by omega, ⟨hb.1, ?_⟩, ⟨trivial, trivial⟩, by omega, by omega, trivial, ⟨trivial, hfin _, trivial⟩, trivial⟩
        have := hll (zd (.slice (.int .i64)))
        have h3 : ((List.length (r.take i ++ List.replicate (r.length - i) (zd (.slice (.int .i64))) : List (List Int)) : Nat) : Int) = (r.length : Int) := congrArg _ this
        exact h3 ▸ hb.2
end Go.Proofs.Ytfidddcjieoblaa.Gx
