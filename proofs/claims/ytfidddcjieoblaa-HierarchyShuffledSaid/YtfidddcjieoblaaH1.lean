/-
  Queries: types, occurrences, variables.
-/
import Derived.Test.YtfidddcjieoblaaD4
namespace Go.Proofs.Ytfidddcjieoblaa.Gx
open Go Go.RowKit Tw B Nt
set_option linter.unusedVariables false
set_option linter.unusedSimpArgs false
set_option maxHeartbeats 4000000
set_option maxRecDepth 20000
@[reducible, go_sem] def valT : Ty := .pair (.int .i64) (.pair (.int .i64) .str)
@[reducible, go_sem] def termT : Ty := .pair .str valT
@[reducible, go_sem] def atomT : Ty := .pair .str (.pair .bool (.slice termT))
@[reducible, go_sem] def cmpT : Ty := .pair (.int .i64) (.pair termT termT)
@[reducible, go_sem] def cqT : Ty := .pair (.slice atomT) (.slice cmpT)
abbrev Str := List UInt8
abbrev Term := Str × Int × Int × Str
abbrev Atom := Str × Bool × List Term
abbrev Cmp := Int × Term × Term
abbrev Cq := List Atom × List Cmp
theorem getDm {α : Type} {l : List α} {i : Nat} (d : α) (h : i < l.length) : l.getD i d ∈ l := by
  rw [List.getD_eq_getElem?_getD, List.getElem?_eq_getElem h]
  exact List.getElem_mem h
/-- the index of the first that is so, -1 if there is none -/
def idx {α : Type} (p : α → Bool) (l : List α) : Int := match l.findIdx? p with | some i => (i : Int) | none => -1
theorem idx_at {α : Type} {p : α → Bool} {l : List α} {i : Nat} (d : α) (hi : i < l.length) (h : p (l.getD i d) = true) (h' : (l.take i).any p = false) : idx p l = i := by
  have : l.findIdx? p = some i := by
    rw [List.findIdx?_eq_some_iff_getElem]
    refine ⟨hi, ?_, fun j hj => ?_⟩
    · rw [List.getD_eq_getElem?_getD, List.getElem?_eq_getElem hi] at h; exact h
    · rw [List.any_eq_false] at h'
      have := h' (l[j]'(by omega)) (by rw [List.mem_take_iff_getElem]; exact ⟨j, by omega, rfl⟩)
      simpa using this
  unfold idx; rw [this]
theorem idx_none {α : Type} {p : α → Bool} {l : List α} (h : l.any p = false) : idx p l = -1 := by
  have : l.findIdx? p = none := by
    rw [List.findIdx?_eq_none_iff]
    intro x hx
    rw [List.any_eq_false] at h
    have := h x hx
    simpa using this
  unfold idx; rw [this]
theorem idx_nn {α : Type} (p : α → Bool) (l : List α) : decide (0 ≤ idx p l) = l.any p := by
  cases e : l.any p with
  | false => rw [idx_none e]; rfl
  | true =>
    unfold idx
    cases e2 : l.findIdx? p with
    | none => rw [List.findIdx?_eq_none_iff] at e2; rw [List.any_eq_true] at e; obtain ⟨x, hx, hp⟩ := e; rw [e2 x hx] at hp; cases hp
    | some i => simp
theorem any_snoc {α : Type} {p : α → Bool} {l : List α} {i : Nat} (d : α) (hi : i < l.length) : (l.take (i + 1)).any p = ((l.take i).any p || p (l.getD i d)) := by
  rw [List.take_add_one, List.any_append]
  congr 1
  rw [List.getD_eq_getElem?_getD, List.getElem?_eq_getElem hi]
  simp
/-- a term is this variable -/
def isV (n : Str) (t : Term) : Bool := decide (t.1 = n)
@[go_sem] def cn1M : MSpec := ⟨[.d termT, .b 9 .str], fun d => ⟨[(0, .box 9 (dA .str d.2.1 .nil))], 1, .dat .bool (isV d.2.1 d.1), []⟩⟩
theorem cn1M_ok : MSpecOk Try.prog 33 cn1M := by
  refine fnM_ok E3_ok cn1M Try.func33 rfl (by decide) (N := 8) rfl (res := [.tmp 3]) rfl (by decide) [] [] [] 100 (by kernel_rfl) ?_
  rintro ⟨t, nm, _⟩ hw hp H hH
  dsimp only [go_sem] at hw hp ⊢
  simp [isV]
@[go_sem] noncomputable def EH1 : Env := (E3).addM 33 cn1M
theorem EH1_ok : EH1.Ok := (E3_ok).addM cn1M_ok
@[go_sem] def ixTM : MSpec := ⟨[.d (.slice termT), .c 33 9 .str], fun d => ⟨[(0, .box 9 (dA .str d.2.1 .nil))], 1, .dat (.int .i64) (idx (isV d.2.1) d.1), [List.length d.1 ≤ 2000000]⟩⟩
theorem ixTM_ok : MSpecOk Try.prog 40 ixTM := by
  refine fnM_ok EH1_ok ixTM Try.func40 rfl (by decide) (N := 19) rfl (res := [.tmp 4]) rfl (by decide) [(4, [(16, .ow)])] [] [] 100 (by kernel_rfl) ?_
  rintro ⟨l, nm, _⟩ hw hp H hH
  dsimp only [go_sem] at hw hp ⊢
  obtain ⟨hp, -⟩ := hp
  change List Term at l
  change List UInt8 at nm
  refine hH.loop (fun i : Nat => ⟨[(8, .dat (.int .i64) (i : Int)), (7, .dat (.int .i64) (List.length l : Int)), (0, .dat (.slice termT) l), (1, .clo 33 (.cons (.ref 0 0) .nil))], [(0, .box 9 (.cons (.dat .str nm) .nil))], 1⟩) (fun i => i ≤ l.length ∧ (l.take i).any (isV nm) = false) (fun i => l.length - i) 0 1 ⟨Nat.zero_le _, rfl⟩ ?_ ?_
  · dsimp only [go_sem]
    simp
  · rintro i ⟨hi, ha⟩ R hm
    refine hH.run 100 _ _ ?_
    dsimp only [go_sem]
    refine ⟨fun d => ?_, fun d => ?_⟩ <;> simp only [decide_eq_true_eq, decide_eq_false_iff_not] at d
    · have d : i < l.length := by omega
      rw [Int.toNat_natCast]
      refine ⟨⟨Int.natCast_nonneg _, by omega⟩, fun e => ?_, fun e => ⟨by rw [inR_i64]; omega, ?_⟩⟩
      · simp [idx_at _ d e ha]
      · refine hm _ (i + 1) 1 ⟨d, ?_⟩ (by omega) ?_
        · rw [any_snoc _ d, ha, e]; rfl
        · dsimp only [go_sem]
          simp
    · have d : i = l.length := by omega
      rw [d, List.take_length] at ha
      simp [idx_none ha]
@[go_sem] def cfTM : MSpec := ⟨[.d (.slice termT), .c 33 9 .str], fun d => ⟨[(0, .box 9 (dA .str d.2.1 .nil))], 1, .dat .bool (List.any d.1 (isV d.2.1)), [List.length d.1 ≤ 2000000]⟩⟩
@[go_sem] noncomputable def EH2 : Env := (EH1).addM 40 ixTM
theorem EH2_ok : EH2.Ok := (EH1_ok).addM ixTM_ok
theorem cfTM_ok : MSpecOk Try.prog 32 cfTM := by
  refine fnM_ok EH2_ok cfTM Try.func32 rfl (by decide) (N := 9) rfl (res := [.tmp 4]) rfl (by decide) [(1, [(7, .ow)])] [] [] 100 (by kernel_rfl) ?_
  rintro ⟨l, nm, _⟩ hw hp H hH
  dsimp only [go_sem] at hw hp ⊢
  obtain ⟨hp, -⟩ := hp
  refine ⟨hp, ?_⟩
  simp [idx_nn]
@[go_sem] noncomputable def EH3 : Env := (EH2).addM 32 cfTM
theorem EH3_ok : EH3.Ok := (EH2_ok).addM cfTM_ok
/-- an atom has this variable -/
def hasV (n : Str) (a : Atom) : Bool := a.2.2.any (isV n)
@[go_sem] def hcnS : Spec := ⟨[atomT, .str], fun d => (.dat .bool (hasV d.2.1 d.1), [List.length d.1.2.2 ≤ 2000000])⟩
theorem hcn_ok : SpecOk Try.prog 25 hcnS := by
  refine fn_ok EH3_ok hcnS Try.func25 rfl (by decide) (N := 9) rfl (res := [.tmp 4]) rfl (by decide) [(1, [(8, .ow)])] [] [] 100 (by kernel_rfl) ?_
  rintro ⟨a, nm, _⟩ hw hp
  refine ⟨rfl, fun H hH => ?_⟩
  dsimp only [go_sem] at hw hp ⊢
  obtain ⟨hp, -⟩ := hp
  exact ⟨hp, rfl, trivial⟩
@[go_sem] def sixS : Spec := ⟨[.slice .str, .str], fun d => (.dat (.int .i64) (idx (fun x => decide (d.2.1 = x)) d.1), [List.length d.1 ≤ 2000000])⟩
theorem six_ok : SpecOk Try.prog 31 sixS := by
  refine fn_ok EH3_ok sixS Try.func31 rfl (by decide) (N := 19) rfl (res := [.tmp 4]) rfl (by decide) [] [] [] 100 (by kernel_rfl) ?_
  rintro ⟨l, nm, _⟩ hw hp
  refine ⟨rfl, fun H hH => ?_⟩
  dsimp only [go_sem] at hw hp ⊢
  obtain ⟨hp, -⟩ := hp
  change List Str at l
  change Str at nm
  refine hH.loop (fun i : Nat => ⟨[(8, .dat (.int .i64) (i : Int)), (7, .dat (.int .i64) (List.length l : Int)), (0, .dat (.slice .str) l), (1, .dat .str nm)], [], 0⟩) (fun i => i ≤ l.length ∧ (l.take i).any (fun x => decide (nm = x)) = false) (fun i => l.length - i) 0 0 ⟨Nat.zero_le _, rfl⟩ ?_ ?_
  · dsimp only [go_sem]
    simp
  · rintro i ⟨hi, ha⟩ R hm
    refine hH.run 100 _ _ ?_
    dsimp only [go_sem]
    refine ⟨fun d => ?_, fun d => ?_⟩ <;> simp only [decide_eq_true_eq, decide_eq_false_iff_not] at d
    · have d : i < l.length := by omega
      rw [Int.toNat_natCast]
      refine ⟨⟨Int.natCast_nonneg _, by omega⟩, fun e => ?_, fun e => ⟨by rw [inR_i64]; omega, ?_⟩⟩
      · simp [idx_at (p := fun x => decide (nm = x)) _ d e ha]
      · refine hm _ (i + 1) 0 ⟨d, ?_⟩ (by omega) ?_
        · rw [any_snoc _ d, ha, e]; rfl
        · dsimp only [go_sem]
          simp
    · have d : i = l.length := by omega
      rw [d, List.take_length] at ha
      simp [idx_none ha]
@[go_sem] noncomputable def EH4 : Env := ((EH3).add 25 hcnS).add 31 sixS
theorem EH4_ok : EH4.Ok := ((EH3_ok).add hcn_ok).add six_ok
@[go_sem] def scnS : Spec := ⟨[.slice .str, .str], fun d => (.dat .bool (List.any d.1 (fun x => decide (d.2.1 = x))), [List.length d.1 ≤ 2000000])⟩
theorem scn_ok : SpecOk Try.prog 24 scnS := by
  refine fn_ok EH4_ok scnS Try.func24 rfl (by decide) (N := 9) rfl (res := [.tmp 4]) rfl (by decide) [] [] [] 100 (by kernel_rfl) ?_
  rintro ⟨l, nm, _⟩ hw hp
  refine ⟨rfl, fun H hH => ?_⟩
  dsimp only [go_sem] at hw hp ⊢
  obtain ⟨hp, -⟩ := hp
  refine ⟨hp, ?_⟩
  simp [idx_nn]
@[go_sem] noncomputable def EH5 : Env := (EH4).add 24 scnS
theorem EH5_ok : EH5.Ok := (EH4_ok).add scn_ok
/-- the indexes of the first k atoms with this variable -/
def occ (l : List Atom) (n : Str) (k : Nat) : List Int := ((List.range k).filter fun i => hasV n (l.getD i ([], false, []))).map fun i : Nat => (i : Int)
theorem occ_snoc (l : List Atom) (n : Str) (k : Nat) : occ l n (k + 1) = occ l n k ++ if hasV n (l.getD k ([], false, [])) then [(k : Int)] else [] := by
  unfold occ
  rw [List.range_succ, List.filter_append, List.map_append]
  congr 1
  simp only [List.filter_cons, List.filter_nil]
  split <;> rfl
theorem occ_len (l : List Atom) (n : Str) (k : Nat) : (occ l n k).length ≤ k := by
  unfold occ
  rw [List.length_map]
  exact Nat.le_trans (List.length_filter_le _ _) (by simp)
def occs (l : List Atom) (n : Str) : List Int := if n = [] then [] else occ l n l.length
def cqP (c : Cq) : Prop := c.1.length ≤ 1000 ∧ (∀ a ∈ c.1, a.2.2.length ≤ 1000) ∧ c.2.length ≤ 1000
@[go_sem] def occS : Spec := ⟨[cqT, .str], fun d => (.dat (.slice (.int .i64)) (occs d.1.1 d.2.1), [cqP d.1])⟩
theorem occ_ok : SpecOk Try.prog 13 occS := by
  refine fn_ok EH5_ok occS Try.func13 rfl (by decide) (N := 27) rfl (res := [.tmp 4]) rfl (by decide) [(8, [(23, .dt)])] [(10, [0])] [] 100 (by kernel_rfl) ?_
  rintro ⟨c, nm, _⟩ hw hp
  refine ⟨rfl, fun H hH => ?_⟩
  dsimp only [go_sem] at hw hp ⊢
  obtain ⟨hp, -⟩ := hp
  obtain ⟨l, cs⟩ := c
  change List Atom at l
  change Str at nm
  obtain ⟨hp1, hp2, hp3⟩ := hp
  change List.length l ≤ 1000 at hp1
  change ∀ a ∈ l, a.2.2.length ≤ 1000 at hp2
  refine ⟨fun h => ⟨by simp only [decide_eq_true_eq] at h; subst h; rfl, trivial⟩, fun h => ?_⟩
  simp only [decide_eq_false_iff_not] at h
  refine hH.loop (fun i : Nat => ⟨[(13, .dat (.int .i64) (i : Int)), (12, .dat (.int .i64) (List.length l : Int)), (11, .dat (.slice atomT) l), (1, .dat .str nm), (5, .own 1)], [(1, .row 3 (.int .i64) (occ l nm i))], 2⟩) (fun i => i ≤ l.length) (fun i => l.length - i) 0 1 (Nat.zero_le _) ?_ ?_
  · dsimp only [go_sem]
    simp [occ]
  · intro i hi R hm
    refine hH.run 100 _ _ ?_
    dsimp only [go_sem]
    rw [Int.toNat_natCast]
    refine ⟨fun d => ?_, fun d => ?_⟩ <;> simp only [decide_eq_true_eq, decide_eq_false_iff_not] at d
    · have d : i < l.length := by omega
      have hs := occ_snoc l nm i
      have hl := occ_len l nm i
      refine ⟨⟨Int.natCast_nonneg _, Int.ofNat_lt.2 d⟩, Nat.le_trans (hp2 _ (getDm _ d)) (by decide), fun e => ⟨by change (List.length (occ l nm i) + 1) * 8 ≤ 140737488355328; omega, rfl, by rw [inR_i64]; omega, hm _ (i + 1) 2 d (by omega) ?_⟩, fun e => ⟨by rw [inR_i64]; omega, hm _ (i + 1) 2 d (by omega) ?_⟩⟩
      · have e : hasV nm (l.getD i ([], false, [])) = true := e
        rw [e] at hs
        dsimp only [go_sem]
        simp [hs]
      · have e : hasV nm (l.getD i ([], false, [])) = false := e
        rw [e] at hs
        dsimp only [go_sem]
        simp [hs]
    · have d : i = l.length := by omega
      subst d
      simp [occs, h]
end Go.Proofs.Ytfidddcjieoblaa.Gx
