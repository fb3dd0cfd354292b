/-
  Tw, Fr, Fr2, in one text: see the remarks at the head of each part.
-/
import Derived.Below
import Derived.Orders
import Derived.Tactics
import Derived.BigCall
/-
  A region that draws its order, each of whose operations leaves old memory alone, may be walked operation by operation in the order of the text: what each operation yields is told by a predicate that no later operation can break.
-/
namespace Go.Proofs.Ytpplleoiehnlkaa.Tw
open Go Go.RowKit
set_option linter.unusedVariables false

/-- what a slot holds -/
def gt (a : Act) (t : Nat) : Value := a.tmps.getD t undef

theorem gt_put_self {a : Act} {t : Nat} (h : t < a.tmps.size) (v : Value) : gt (a.put (some t) v) t = v := by
  simp [gt, Act.put, h]
theorem gt_put_ne {a : Act} {t : Nat} {d : Option Nat} (h : d ≠ some t) (v : Value) : gt (a.put d v) t = gt a t := by
  cases d with
  | none => rfl
  | some d =>
    have : d ≠ t := fun e => h (by rw [e])
    simp [gt, Act.put, Array.getElem?_setIfInBounds_ne this]
theorem size_put (a : Act) (d : Option Nat) (v : Value) : (a.put d v).tmps.size = a.tmps.size := by
  cases d <;> simp [Act.put]
theorem defers_put (a : Act) (d : Option Nat) (v : Value) : (a.put d v).defers = a.defers := by
  cases d <;> simp [Act.put]
theorem act_ext {a b : Act} (hd : a.defers = b.defers) (hs : a.tmps.size = b.tmps.size) (hg : ∀ t, t < a.tmps.size → gt a t = gt b t) : a = b := by
  obtain ⟨at', ad⟩ := a
  obtain ⟨bt, bd⟩ := b
  simp only at hd hs
  subst hd
  congr 1
  apply Array.ext hs
  intro i h1 h2
  have := hg i h1
  simp only [gt] at this
  simpa [h1, h2] using this

/-- one operation, which does not fail -/
def Does (P : Program) (ρ : Operand → Value) (o : Oper) (w : World) (R : Value → World → Prop) : Prop :=
  match (execOp ρ o).run P w with
  | .ok (.value v) w' => R v w'
  | .ok .skip w' => R undef w'
  | .ok (.enter f args) w' => Calls P f args w' (fun e w'' => ∃ v, e = .returned v ∧ R v w'')
  | _ => False

theorem Does.wp {P : Program} {o : Oper} {a : Act} {w : World} {R : Value → World → Prop} {K : Act → World → Prop} {Q : Exit → Act → World → Prop}
    (h : Does P a.eval o w R) (hK : ∀ v w', R v w' → K (a.put o.dst v) w') : o.wp P a w K Q := by
  unfold Does at h
  unfold Oper.wp
  split at h
  · rename_i v w' e; rw [e]; exact hK _ _ h
  · rename_i w' e; rw [e]; exact hK _ _ h
  · rename_i f args w' e; rw [e]
    refine Calls.mono h ?_
    rintro e w'' ⟨v, rfl, hr⟩
    exact hK _ _ hr
  · exact h.elim

/-- the last of the first k operations that p picks and that writes slot t -/
def lw (ds : List (Option Nat)) (p : Nat → Bool) (t : Nat) : Nat → Option Nat
  | 0 => none
  | k + 1 => if p k && (ds[k]? == some (some t)) then some k else lw ds p t k

theorem lw_some {ds : List (Option Nat)} {p : Nat → Bool} {t : Nat} : ∀ {k i : Nat}, lw ds p t k = some i →
    i < k ∧ p i = true ∧ ds[i]? = some (some t) ∧ ∀ m, i < m → m < k → ¬ (p m = true ∧ ds[m]? = some (some t))
  | 0, i, h => by simp [lw] at h
  | k + 1, i, h => by
    unfold lw at h
    split at h
    · rename_i hc
      simp only [Bool.and_eq_true, beq_iff_eq] at hc
      cases h
      exact ⟨by omega, hc.1, hc.2, fun m h1 h2 => by omega⟩
    · rename_i hc
      simp only [Bool.and_eq_true, beq_iff_eq] at hc
      obtain ⟨h1, h2, h3, h4⟩ := lw_some h
      refine ⟨by omega, h2, h3, fun m hm1 hm2 => ?_⟩
      by_cases hmk : m = k
      · subst hmk; exact hc
      · exact h4 m hm1 (by omega)
theorem lw_none {ds : List (Option Nat)} {p : Nat → Bool} {t : Nat} : ∀ {k : Nat}, lw ds p t k = none → ∀ m, m < k → ¬ (p m = true ∧ ds[m]? = some (some t))
  | 0, _, m, hm => by omega
  | k + 1, h, m, hm => by
    unfold lw at h
    split at h
    · cases h
    · rename_i hc
      simp only [Bool.and_eq_true, beq_iff_eq] at hc
      by_cases hmk : m = k
      · subst hmk; exact hc
      · exact lw_none h m (by omega)
theorem lw_of_some {ds : List (Option Nat)} {p : Nat → Bool} {t : Nat} : ∀ {k i : Nat}, i < k → p i = true → ds[i]? = some (some t) →
    (∀ m, i < m → m < k → ¬ (p m = true ∧ ds[m]? = some (some t))) → lw ds p t k = some i
  | 0, i, h, _, _, _ => by omega
  | k + 1, i, h1, h2, h3, h4 => by
    unfold lw
    split
    · rename_i hc
      simp only [Bool.and_eq_true, beq_iff_eq] at hc
      by_cases hik : i = k
      · rw [hik]
      · exact absurd hc (h4 k (by omega) (by omega))
    · rename_i hc
      simp only [Bool.and_eq_true, beq_iff_eq] at hc
      have hik : i ≠ k := fun e => hc (by subst e; exact ⟨h2, h3⟩)
      exact lw_of_some (by omega) h2 h3 fun m a b => h4 m a (by omega)
theorem lw_of_none {ds : List (Option Nat)} {p : Nat → Bool} {t : Nat} : ∀ {k : Nat}, (∀ m, m < k → ¬ (p m = true ∧ ds[m]? = some (some t))) → lw ds p t k = none
  | 0, _ => rfl
  | k + 1, h => by
    unfold lw
    rw [if_neg (by simpa only [Bool.and_eq_true, beq_iff_eq] using h k (by omega))]
    exact lw_of_none fun m hm => h m (by omega)

/-- all that op number j waits for, by masks -/
def edgeMask (M : List Nat) (o : Oper) : Nat := o.after.toList.foldl (fun s e => if Region.binds .any e then s ||| (2 ^ e.on ||| M.getD e.on 0) else s) 0

theorem edgeMask_bit {M : List Nat} {o : Oper} {i : Nat} (h : (edgeMask M o).testBit i = true) :
    ∃ e ∈ o.after, Region.binds .any e = true ∧ (i = e.on ∨ (M.getD e.on 0).testBit i = true) := by
  have key : ∀ (l : List Edge) (s : Nat), (l.foldl (fun s e => if Region.binds .any e then s ||| (2 ^ e.on ||| M.getD e.on 0) else s) s).testBit i = true →
      s.testBit i = true ∨ ∃ e ∈ l, Region.binds .any e = true ∧ (i = e.on ∨ (M.getD e.on 0).testBit i = true) := by
    intro l
    induction l with
    | nil => intro s h; exact .inl h
    | cons e l ih =>
      intro s h
      rw [List.foldl_cons] at h
      rcases ih _ h with h1 | ⟨e', he', h2⟩
      · split at h1
        · rename_i hb
          rw [Nat.testBit_or, Bool.or_eq_true, Nat.testBit_or, Bool.or_eq_true] at h1
          rcases h1 with h1 | h1 | h1
          · exact .inl h1
          · exact .inr ⟨e, by simp, hb, .inl (by rw [Nat.testBit_two_pow] at h1; exact (of_decide_eq_true h1).symm)⟩
          · exact .inr ⟨e, by simp, hb, .inr h1⟩
        · exact .inl h1
      · exact .inr ⟨e', by simp [he'], h2⟩
  rcases key _ _ h with h | ⟨e, he, h⟩
  · simp at h
  · exact ⟨e, by simpa using he, h⟩

/-- what is checked of a region: M: masks of what each operation waits for; rows: the slots that each operation looks at, with their last writer; N: the number of slots -/
def chk (l : List Oper) (M : List Nat) (rows : List (List (Nat × Option Nat))) (N : Nat) : Bool :=
  let ds := l.map (·.dst)
  let n := l.length
  l.zipIdx.all fun (o, j) =>
    ((M.getD j 0 ||| edgeMask M o) == edgeMask M o) &&
    (o.after.all fun e => !Region.binds .any e || decide (e.on < j)) &&
    (match o.op with | .select .. => false | _ => true) &&
    (match o.dst with
     | none => true
     | some d => decide (d < N) && (List.range n).all fun k => !(ds[k]? == some (some d)) || !(decide (k < j)) || (M.getD j 0).testBit k) &&
    ((rows.getD j []).all fun r => decide (r.1 < N) && r.2 == lw ds (fun _ => true) r.1 j &&
      (match r.2 with | none => true | some i => (M.getD j 0).testBit i) &&
      (List.range n).all fun k => !(ds[k]? == some (some r.1)) || !(decide (j < k)) || (M.getD k 0).testBit j)

/-- what a slot holds when an operation looks at it -/
def sfact (F : Nat → Value → World → Prop) (a0 : Act) (t : Nat) : Option Nat → Value → World → Prop
  | some i, v, w => F i v w
  | none, v, _ => v = gt a0 t

/-- the guard of an operation -/
def gok (ops : Array Oper) (o : Oper) (a : Act) : Prop :=
  match o.guard with
  | none => True
  | some (g, want) => ∃ t, (ops[g]?).bind (·.dst) = some t ∧ gt a t = .bool want

theorem wanted_iff {ops : Array Oper} {o : Oper} {a : Act} : Region.wanted o (yielded ops a.tmps) = true ↔ gok ops o a := by
  unfold Region.wanted gok
  cases o.guard with
  | none => simp
  | some gw =>
    obtain ⟨g, want⟩ := gw
    simp only [yielded, beq_iff_eq]
    cases hd : (ops[g]?).bind (·.dst) with
    | none => simp
    | some t =>
      simp only [Option.bind_some, Option.some.injEq, exists_eq_left', gt, Array.getD_eq_getD_getElem?]
      cases ht : a.tmps[t]? with
      | none => simp [undef]
      | some v => cases v <;> simp

/-- what is to be shown of one operation -/
def Ob (P : Program) (F : Nat → Value → World → Prop) (a0 : Act) (w0 : World) (ops : Array Oper) (j : Nat) (o : Oper) (rs : List (Nat × Option Nat)) : Prop :=
  ∀ (a : Act) (w : World), Below w0.heap.size w0 w → (∀ r ∈ rs, sfact F a0 r.1 r.2 (gt a r.1) w) →
    (gok ops o a → Does P a.eval o w (fun v w' => F j v w' ∧ Below w.heap.size w w')) ∧ (¬ gok ops o a → F j undef w)

def puts (a : Act) : List Oper → (Nat → Value) → Nat → Act
  | [], _, _ => a
  | o :: os, v, k => puts (a.put o.dst (v k)) os v (k + 1)

theorem puts_defers : ∀ (l : List Oper) (a : Act) (v : Nat → Value) (k : Nat), (puts a l v k).defers = a.defers
  | [], a, v, k => rfl
  | o :: os, a, v, k => by rw [puts, puts_defers os, defers_put]
theorem puts_size : ∀ (l : List Oper) (a : Act) (v : Nat → Value) (k : Nat), (puts a l v k).tmps.size = a.tmps.size
  | [], a, v, k => rfl
  | o :: os, a, v, k => by rw [puts, puts_size os, size_put]
theorem puts_snoc : ∀ (l : List Oper) (o : Oper) (a : Act) (v : Nat → Value) (k : Nat), puts a (l ++ [o]) v k = (puts a l v k).put o.dst (v (k + l.length))
  | [], o, a, v, k => rfl
  | x :: os, o, a, v, k => by rw [List.cons_append, puts, puts_snoc os o, puts, List.length_cons]; congr 2; omega
theorem gt_puts (a : Act) (v : Nat → Value) (l : List Oper) (t : Nat) (ht : t < a.tmps.size) : ∀ k, k ≤ l.length →
    gt (puts a (l.take k) v 0) t = match lw (l.map (·.dst)) (fun _ => true) t k with | some i => v i | none => gt a t
  | 0, _ => by simp [puts, lw]
  | k + 1, hk => by
    have hl : k < l.length := by omega
    rw [List.take_succ_eq_append_getElem hl, puts_snoc]
    have ih := gt_puts a v l t ht k (by omega)
    unfold lw
    have hds : (l.map (·.dst))[k]? = some (l[k].dst) := by simp [hl]
    rw [hds]
    simp only [Bool.true_and, beq_iff_eq, Option.some.injEq, List.length_take, Nat.min_eq_left (Nat.le_of_lt hl), Nat.zero_add]
    by_cases hd : l[k].dst = some t
    · rw [if_pos hd, hd, gt_put_self (by rw [puts_size]; exact ht)]
    · rw [if_neg hd, gt_put_ne hd, ih]

section
variable {P : Program} {l : List Oper} {Q : Exit → Act → World → Prop} {F : Nat → Value → World → Prop} {a0 : Act} {w0 : World} {M : List Nat} {rows : List (List (Nat × Option Nat))}

structure Chk (l : List Oper) (M : List Nat) (rows : List (List (Nat × Option Nat))) (N : Nat) (j : Nat) (o : Oper) : Prop where
  mask : ∀ i, (M.getD j 0).testBit i = true → ∃ e ∈ o.after, Region.binds .any e = true ∧ (i = e.on ∨ (M.getD e.on 0).testBit i = true)
  lower : ∀ e ∈ o.after, Region.binds .any e = true → e.on < j
  nosel : ∀ cs b, o.op ≠ .select cs b
  dlt : ∀ d, o.dst = some d → d < N
  dord : ∀ d, o.dst = some d → ∀ k, k < j → (l.map (·.dst))[k]? = some (some d) → (M.getD j 0).testBit k = true
  reads : ∀ r ∈ rows.getD j [], r.1 < N ∧ r.2 = lw (l.map (·.dst)) (fun _ => true) r.1 j
  rsrc : ∀ r ∈ rows.getD j [], ∀ i, r.2 = some i → (M.getD j 0).testBit i = true
  rlate : ∀ r ∈ rows.getD j [], ∀ k, j < k → k < l.length → (l.map (·.dst))[k]? = some (some r.1) → (M.getD k 0).testBit j = true

theorem chk_spec {N : Nat} (h : chk l M rows N = true) {j : Nat} {o : Oper} (hj : l[j]? = some o) : Chk l M rows N j o := by
  unfold chk at h
  have hmem : (o, j) ∈ l.zipIdx := by
    rw [List.mem_zipIdx_iff_getElem?]; simpa using hj
  have hlt : j < l.length := by
    rcases Nat.lt_or_ge j l.length with h | h
    · exact h
    · rw [List.getElem?_eq_none h] at hj; cases hj
  have := List.all_eq_true.1 h _ hmem
  simp only [Bool.and_eq_true] at this
  obtain ⟨⟨⟨⟨h1, h2⟩, h3⟩, h4⟩, h5⟩ := this
  refine ⟨fun i hi => ?_, fun e he hb => ?_, fun cs b e => ?_, fun d hd => ?_, fun d hd k hk hds => ?_, fun t ht => ?_, fun t ht i hi => ?_, fun t ht k hk hkl hds => ?_⟩
  · refine edgeMask_bit ?_
    rw [← beq_iff_eq.1 h1, Nat.testBit_or, hi, Bool.true_or]
  · have h6 := Array.all_eq_true_iff_forall_mem.1 h2 e he
    rw [hb] at h6
    simpa using h6
  · rw [e] at h3; cases h3
  · rw [hd] at h4
    simp only [Bool.and_eq_true, decide_eq_true_eq] at h4
    exact h4.1
  · rw [hd] at h4
    simp only [Bool.and_eq_true] at h4
    have h6 := List.all_eq_true.1 h4.2 k (List.mem_range.2 (by omega))
    rw [hds] at h6
    simpa [hk] using h6
  · have h6 := List.all_eq_true.1 h5 t ht
    simp only [Bool.and_eq_true, decide_eq_true_eq, beq_iff_eq] at h6
    exact ⟨h6.1.1.1, h6.1.1.2⟩
  · have h6 := List.all_eq_true.1 h5 t ht
    simp only [Bool.and_eq_true] at h6
    have h7 := h6.1.2
    rw [hi] at h7
    exact h7
  · have h6 := List.all_eq_true.1 h5 t ht
    simp only [Bool.and_eq_true] at h6
    have h7 := List.all_eq_true.1 h6.2 k (List.mem_range.2 hkl)
    rw [hds] at h7
    simpa [hk] using h7

/-- what holds while the operations come up in whatever order -/
structure Inv (F : Nat → Value → World → Prop) (a0 : Act) (w0 : World) (l : List Oper) (M : List Nat) (listed : Array Bool) (a : Act) (w : World) (val : Nat → Value) : Prop where
  size : listed.size = l.length
  closed : ∀ j i, listed.getD j false = true → (M.getD j 0).testBit i = true → listed.getD i false = true
  defers : a.defers = a0.defers
  tsize : a.tmps.size = a0.tmps.size
  below : Below w0.heap.size w0 w
  facts : ∀ i, i < l.length → listed.getD i false = true → F i (val i) w
  slots : ∀ t, t < a0.tmps.size → gt a t = match lw (l.map (·.dst)) (fun i => listed.getD i false) t l.length with | some i => val i | none => gt a0 t

theorem inv_step {N : Nat} (hN : a0.tmps.size = N) (hchk : chk l M rows N = true) (hstab : ∀ i v w w', F i v w → Below w.heap.size w w' → F i v w')
    {j : Nat} {o : Oper} (hj : l[j]? = some o) (hob : Ob P F a0 w0 l.toArray j o (rows.getD j [])) {listed : Array Bool} {a : Act} {w : World} {val : Nat → Value}
    (hi : Inv F a0 w0 l M listed a w val) (hr : j ∈ Region.ready .any l.toArray listed) {K : Act → World → Prop}
    (hK : ∀ a' w' val', Inv F a0 w0 l M (listed.setIfInBounds j true) a' w' val' → K a' w') : wpOp P l.toArray Q j K a w := by
  have C := chk_spec hchk hj
  have hlt : j < l.length := by
    rcases Nat.lt_or_ge j l.length with h | h
    · exact h
    · rw [List.getElem?_eq_none h] at hj; cases hj
  obtain ⟨hun, o', ho', hall⟩ := mem_ready.1 hr
  have hoo : o' = o := by
    have : l.toArray[j]? = some o := by simpa using hj
    rw [this] at ho'; cases ho'; rfl
  subst hoo
  have hunf : listed.getD j false = false := by
    have : j < listed.size := by rw [hi.size]; exact hlt
    simp [this] at hun ⊢; exact hun
  -- all that it waits for is listed
  have hmask : ∀ i, (M.getD j 0).testBit i = true → listed.getD i false = true := by
    intro i hb
    obtain ⟨e, he, hbd, h1⟩ := C.mask i hb
    have hl := hall e he hbd
    rcases h1 with rfl | h1
    · exact hl
    · exact hi.closed _ _ hl h1
  have hsrc : ∀ r ∈ rows.getD j [], lw (l.map (·.dst)) (fun i => listed.getD i false) r.1 l.length = r.2 := by
    intro r hr
    have late : ∀ m, j < m → m < l.length → (l.map (·.dst))[m]? = some (some r.1) → listed.getD m false = false := by
      intro m h1 h2 h3
      have hb := C.rlate r hr m h1 h2 h3
      cases hm : listed.getD m false with
      | false => rfl
      | true => rw [hi.closed m j hm hb] at hunf; cases hunf
    have hs := (C.reads r hr).2
    cases hr2 : r.2 with
    | some i =>
      have hs' := hs
      rw [hr2] at hs'
      obtain ⟨h1, _, h3, h4⟩ := lw_some hs'.symm
      refine lw_of_some (by omega) (hmask i (C.rsrc r hr i hr2)) h3 fun m hm1 hm2 ⟨hm3, hm4⟩ => ?_
      rcases Nat.lt_trichotomy m j with h | h | h
      · exact h4 m hm1 h ⟨rfl, hm4⟩
      · subst h; rw [hm3] at hunf; cases hunf
      · rw [late m h hm2 hm4] at hm3; cases hm3
    | none =>
      rw [hr2] at hs
      have h4 := lw_none hs.symm
      refine lw_of_none fun m hm2 ⟨hm3, hm4⟩ => ?_
      rcases Nat.lt_trichotomy m j with h | h | h
      · exact h4 m h ⟨rfl, hm4⟩
      · subst h; rw [hm3] at hunf; cases hunf
      · rw [late m h hm2 hm4] at hm3; cases hm3
  have hfacts : ∀ r ∈ rows.getD j [], sfact F a0 r.1 r.2 (gt a r.1) w := by
    intro r hr
    have h3 : r.1 < a0.tmps.size := by rw [hN]; exact (C.reads r hr).1
    rw [hi.slots r.1 h3, hsrc r hr]
    cases hs : r.2 with
    | none => rfl
    | some i =>
      obtain ⟨h4, h5, _⟩ := lw_some ((hsrc r hr).trans hs)
      exact hi.facts i h4 h5
  obtain ⟨ob1, ob2⟩ := hob a w hi.below hfacts
  -- what holds behind it
  have next : ∀ v w', F j v w' → Below w.heap.size w w' → K (a.put o'.dst v) w' := by
    intro v w' hF hb
    refine hK _ _ (fun i => if i = j then v else val i) ⟨by simp [hi.size], ?_, by rw [defers_put]; exact hi.defers, by rw [size_put]; exact hi.tsize, hi.below.trans (hb.mono hi.below.size), ?_, ?_⟩
    · intro j' i h1 h2
      by_cases hjj : j' = j
      · subst hjj; exact getD_set_true (hmask i h2)
      · rw [getD_set_ne false (Ne.symm hjj)] at h1
        exact getD_set_true (hi.closed j' i h1 h2)
    · intro i hil h1
      by_cases hij : i = j
      · subst hij; rw [if_pos rfl]; exact hF
      · rw [if_neg hij]
        rw [getD_set_ne false (Ne.symm hij)] at h1
        exact hstab i _ _ _ (hi.facts i hil h1) hb
    · intro t ht
      have hds : (l.map (·.dst))[j]? = some o'.dst := by simp [hj]
      by_cases hd : o'.dst = some t
      · rw [hd, gt_put_self (by rw [hi.tsize]; exact ht)]
        have : lw (l.map (·.dst)) (fun i => (listed.setIfInBounds j true).getD i false) t l.length = some j := by
          refine lw_of_some hlt (by have : j < listed.size := by rw [hi.size]; exact hlt
                                    simp [this]) (by rw [hds, hd]) fun m hm1 hm2 ⟨hm3, hm4⟩ => ?_
          rw [getD_set_ne false (by omega)] at hm3
          obtain ⟨om, hom⟩ : ∃ om, l[m]? = some om := ⟨l[m], by simp [hm2]⟩
          have hmd : om.dst = some t := by
            simp [hom] at hm4; exact hm4
          have := hi.closed m j hm3 ((chk_spec hchk hom).dord t hmd j hm1 (by rw [hds, hd]))
          rw [this] at hunf; cases hunf
        rw [this]; simp
      · rw [gt_put_ne hd, hi.slots t ht]
        have : ∀ k, k ≤ l.length → lw (l.map (·.dst)) (fun i => (listed.setIfInBounds j true).getD i false) t k = lw (l.map (·.dst)) (fun i => listed.getD i false) t k := by
          intro k
          induction k with
          | zero => intro _; rfl
          | succ k ih =>
            intro hk
            unfold lw
            by_cases hkj : k = j
            · subst hkj
              have hne : ((l.map (·.dst))[k]? == some (some t)) = false := by
                rw [hds, beq_eq_false_iff_ne]; intro e; exact hd (Option.some.inj e)
              rw [hne, Bool.and_false, Bool.and_false]
              exact ih (by omega)
            · rw [getD_set_ne false (Ne.symm hkj), ih (by omega)]
        rw [this _ (Nat.le_refl _)]
        cases hs : lw (l.map (·.dst)) (fun i => listed.getD i false) t l.length with
        | none => rfl
        | some i =>
          obtain ⟨_, h5, _⟩ := lw_some hs
          have : i ≠ j := fun e => by subst e; rw [hunf] at h5; cases h5
          simp [this]
  unfold wpOp
  have hoj : l.toArray[j]? = some o' := by simpa using hj
  simp only [hoj]
  by_cases hg : gok l.toArray o' a
  · rw [if_pos (wanted_iff.2 hg)]
    exact .inl ((ob1 hg).wp fun v w' h => next v w' h.1 h.2)
  · rw [if_neg (fun e => hg (wanted_iff.1 e))]
    exact next undef w (ob2 hg) (Below.refl _ _)

theorem all_listed {N : Nat} (hchk : chk l M rows N = true) {listed : Array Bool} (hs : listed.size = l.length) (h : Region.ready .any l.toArray listed = []) :
    ∀ j, j < l.length → listed.getD j false = true := by
  intro j
  induction j using Nat.strongRecOn with
  | _ j ih =>
    intro hj
    cases hl : listed.getD j false with
    | true => rfl
    | false =>
      exfalso
      have hj' : j < listed.size := by omega
      obtain ⟨o, ho⟩ : ∃ o, l[j]? = some o := ⟨l[j], by simp [hj]⟩
      have hm : j ∈ Region.ready .any l.toArray listed := by
        refine mem_ready.2 ⟨?_, o, by simpa using ho, fun e he hb => ?_⟩
        · simp [hj'] at hl ⊢; exact hl
        · have := (chk_spec hchk ho).lower e he hb
          exact ih e.on this (by omega)
      rw [h] at hm; cases hm

theorem count_zero {listed : Array Bool} (h : listed.count false = 0) : ∀ j, j < listed.size → listed.getD j false = true := by
  intro j hj
  rw [Array.count_eq_zero] at h
  cases hb : listed[j] with
  | true => simp [hj, hb]
  | false => exact absurd (hb ▸ Array.getElem_mem hj) h
theorem count_step {listed : Array Bool} {j k : Nat} (hj : j < listed.size) (hb : listed.getD j true = false) (h : listed.count false = k + 1) : (listed.setIfInBounds j true).count false = k := by
  have hb' : listed[j] = false := by simpa [hj] using hb
  rw [Array.setIfInBounds, dif_pos hj, Array.count_set]
  simp [hb', h]

/-- a region that draws its order -/
theorem region {N : Nat} {id : Nat} (hm : P.follows .mixedOrders = true) (F : Nat → Value → World → Prop) (M : List Nat) (rows : List (List (Nat × Option Nat)))
    (hstab : ∀ i v w w', F i v w → Below w.heap.size w w' → F i v w') (hN : a0.tmps.size = N) (hchk : chk l M rows N = true)
    (hob : ∀ j o, l[j]? = some o → Ob P F a0 w0 l.toArray j o (rows.getD j []))
    (hQ : ∀ (v : Nat → Value) (w : World), (∀ i, i < l.length → F i (v i) w) → Below w0.heap.size w0 w → Q .normal (puts a0 l v 0) w) :
    (Code.region id l.toArray true).wp P Q a0 w0 := by
  refine wp_region_any hm ?_
  have fin : ∀ {listed : Array Bool} {a : Act} {w : World} {val : Nat → Value}, Inv F a0 w0 l M listed a w val → (∀ j, j < l.length → listed.getD j false = true) → Q .normal a w := by
    intro listed a w val hi hall
    have : a = puts a0 l val 0 := by
      refine act_ext (by rw [puts_defers]; exact hi.defers) (by rw [puts_size]; exact hi.tsize) fun t ht => ?_
      have ht0 : t < a0.tmps.size := by rw [← hi.tsize]; exact ht
      have h1 := gt_puts a0 val l t ht0 l.length (Nat.le_refl _)
      rw [List.take_length] at h1
      rw [h1, hi.slots t ht0]
      have : ∀ k, k ≤ l.length → lw (l.map (·.dst)) (fun i => listed.getD i false) t k = lw (l.map (·.dst)) (fun _ => true) t k := by
        intro k
        induction k with
        | zero => intro _; rfl
        | succ k ih => intro hk; unfold lw; rw [hall k (by omega), ih (by omega)]
      rw [this _ (Nat.le_refl _)]
    rw [this]
    exact hQ val w (fun i hi' => hi.facts i hi' (hall i hi')) hi.below
  have key : ∀ (fuel : Nat) (listed : Array Bool) (a : Act) (w : World) (val : Nat → Value), Inv F a0 w0 l M listed a w val → listed.count false = fuel → wpAny P .any l.toArray Q fuel listed a w := by
    intro fuel
    induction fuel with
    | zero =>
      intro listed a w val hi hc
      have hall : ∀ j, j < l.length → listed.getD j false = true := fun j hj => count_zero hc j (by rw [hi.size]; exact hj)
      refine ⟨?_, fin hi hall⟩
      rw [List.eq_nil_iff_forall_not_mem]
      intro j hj
      obtain ⟨h1, o, ho, _⟩ := mem_ready.1 hj
      have hjl : j < l.length := by
        rcases Nat.lt_or_ge j l.length with h | h
        · exact h
        · have : l.toArray[j]? = none := by simpa using h
          rw [this] at ho; cases ho
      have h2 := hall j hjl
      have : j < listed.size := by rw [hi.size]; exact hjl
      simp [this] at h1 h2
      rw [h1] at h2; cases h2
    | succ fuel ih =>
      intro listed a w val hi hc
      refine ⟨fun h => fin hi (all_listed hchk hi.size h), fun j hj => ?_⟩
      obtain ⟨h1, o, ho, _⟩ := mem_ready.1 hj
      have hoj : l[j]? = some o := by simpa using ho
      have hjl : j < l.length := by
        rcases Nat.lt_or_ge j l.length with h | h
        · exact h
        · rw [List.getElem?_eq_none h] at hoj; cases hoj
      exact inv_step hN hchk hstab hoj (hob j o hoj) hi hj fun a' w' val' hi' => ih _ a' w' val' hi' (count_step (by rw [hi.size]; exact hjl) h1 hc)
  refine key l.length _ a0 _ (fun _ => undef) ⟨by simp, ?_, rfl, rfl, (Below.refl _ _).drew, ?_, ?_⟩ (by simp)
  · intro j i h _
    simp only [List.size_toArray, Array.getD_eq_getD_getElem?, Array.getElem?_replicate] at h
    split at h <;> simp at h
  · intro i _ h
    simp only [List.size_toArray, Array.getD_eq_getD_getElem?, Array.getElem?_replicate] at h
    split at h <;> simp at h
  · intro t ht
    have : lw (l.map (·.dst)) (fun i => (Array.replicate l.toArray.size false).getD i false) t l.length = none := by
      refine lw_of_none fun m _ ⟨h, _⟩ => ?_
      simp only [List.size_toArray, Array.getD_eq_getD_getElem?, Array.getElem?_replicate] at h
      split at h <;> simp at h
    rw [this]
end
end Go.Proofs.Ytpplleoiehnlkaa.Tw

/-
  A logic of frames: what each slot holds is told by a predicate that lasts while memory outside the call's own blocks stands. Rules for regions (drawn or not), for variables in boxes, tests, returns.
-/
namespace Go.Proofs.Ytpplleoiehnlkaa.Fr
open Go Go.RowKit Tw
set_option linter.unusedVariables false

/-- outside X old memory stands -/
structure Ev (X : Nat → Prop) (w w' : World) : Prop where
  size : w.heap.size ≤ w'.heap.size
  block : ∀ k, k < w.heap.size → ¬ X k → w'.heap[k]? = w.heap[k]?
theorem Ev.of_below {X : Nat → Prop} {w w' : World} (h : Below w.heap.size w w') : Ev X w w' := ⟨h.size, fun k hk _ => h.block k hk⟩

/-- a predicate on a value; X: blocks that its memory avoids -/
structure SP where
  p : (Nat → Prop) → Value → World → Prop
  st : ∀ {X v w w'}, p X v w → Ev X w w' → p X v w'
  anti : ∀ {X Y v w}, p X v w → (∀ b, Y b → X b ∨ w.heap.size ≤ b) → p Y v w
def SP.any : SP := ⟨fun _ _ _ => True, fun _ _ => trivial, fun _ _ => trivial⟩
def SP.eq (x : Value) : SP := ⟨fun _ v _ => v = x, fun h _ => h, fun h _ => h⟩
def SP.i (n : Int) : SP := SP.eq (.int .i64 n)
def SP.b (b : Bool) : SP := SP.eq (.bool b)
def SP.imp (c : Prop) (s : SP) : SP := ⟨fun X v w => c → s.p X v w, fun h e hc => s.st (h hc) e, fun h e hc => s.anti (h hc) e⟩
def SP.tup2 (s t : SP) : SP := ⟨fun X v w => ∃ x y, v = .tuple #[x, y] ∧ s.p X x w ∧ t.p X y w, fun ⟨x, y, h, a, b⟩ e => ⟨x, y, h, s.st a e, t.st b e⟩, fun ⟨x, y, h, a, b⟩ e => ⟨x, y, h, s.anti a e, t.anti b e⟩⟩
def SP.tup3 (s t u : SP) : SP := ⟨fun X v w => ∃ x y z, v = .tuple #[x, y, z] ∧ s.p X x w ∧ t.p X y w ∧ u.p X z w, fun ⟨x, y, z, h, a, b, c⟩ e => ⟨x, y, z, h, s.st a e, t.st b e, u.st c e⟩, fun ⟨x, y, z, h, a, b, c⟩ e => ⟨x, y, z, h, s.anti a e, t.anti b e, u.anti c e⟩⟩
theorem SP.keep (s : SP) {X : Nat → Prop} {v : Value} {w w' : World} (h : s.p X v w) (hb : Below w.heap.size w w') : s.p X v w' := s.st h (Ev.of_below hb)
def nth : List SP → Nat → SP
  | [], _ => SP.any
  | s :: _, 0 => s
  | _ :: l, n + 1 => nth l n
/-- a call that returns a value of that kind -/
def RetS (Y : Nat → Prop) (s : SP) (w : World) (e : Ending) (w' : World) : Prop := ∃ v, e = .returned v ∧ s.p Y v w' ∧ Below w.heap.size w w'
theorem RetS.tr {P : Program} {f : FuncId} {args : Array Value} {w : World} {Y : Nat → Prop} {s s' : SP} (h : Calls P f args w (RetS Y s w)) (hs : ∀ v w, s.p Y v w → s'.p Y v w) : Calls P f args w (RetS Y s' w) :=
  h.mono fun e w' ⟨v, h1, h2, h3⟩ => ⟨v, h1, hs _ _ h2, h3⟩

/-- a variable in a box -/
structure Bx where
  slot : Nat
  blk : Nat
  T : TypeId
  s : SP
  lay : Value → Array Value → Prop
def BoxIs (X : Nat → Prop) (x : Bx) (w : World) : Prop := ∃ v cs, w.heap[x.blk]? = some (.cells cs x.T (0, 0)) ∧ x.lay v cs ∧ x.s.p X v w
def own (Y : Nat → Prop) (Δ : List Bx) (b : Nat) : Prop := Y b ∨ b ∈ Δ.map (·.blk)

theorem BoxIs.keep {X : Nat → Prop} {x : Bx} {w w' : World} (h : BoxIs X x w) (hx : x.blk < w.heap.size) (hb : Below w.heap.size w w') : BoxIs X x w' := by
  obtain ⟨v, cs, h1, h2, h3⟩ := h
  exact ⟨v, cs, by rw [hb.block _ hx]; exact h1, h2, x.s.keep h3 hb⟩
theorem BoxIs.lt {X : Nat → Prop} {x : Bx} {w : World} (h : BoxIs X x w) : x.blk < w.heap.size := by
  obtain ⟨v, cs, h1, _⟩ := h
  rcases Nat.lt_or_ge x.blk w.heap.size with h | h
  · exact h
  · rw [Array.getElem?_eq_none h] at h1; cases h1

structure Fr (N : Nat) (Y : Nat → Prop) (w0 : World) (Γ : List (Nat × SP)) (Δ : List Bx) (a : Act) (w : World) : Prop where
  dn : a.defers = []
  sz : a.tmps.size = N
  y : ∀ b, Y b → b < w0.heap.size
  bl : Below w0.heap.size w0 w
  gs : ∀ x ∈ Γ, x.2.p (own Y Δ) (gt a x.1) w
  ps : ∀ x ∈ Δ, gt a x.slot = .pointer (some ⟨x.blk, 0, none⟩)
  bs : ∀ x ∈ Δ, BoxIs (own Y Δ) x w
  old : ∀ x ∈ Δ, w0.heap.size ≤ x.blk
  nd : (Δ.map (·.blk)).Nodup

theorem Fr.lt {N : Nat} {Y : Nat → Prop} {w0 : World} {Γ : List (Nat × SP)} {Δ : List Bx} {a : Act} {w : World} (h : Fr N Y w0 Γ Δ a w) : ∀ b, own Y Δ b → b < w.heap.size := by
  rintro b (hb | hb)
  · exact Nat.lt_of_lt_of_le (h.y b hb) h.bl.size
  · obtain ⟨x, hx, rfl⟩ := List.mem_map.1 hb
    exact (h.bs x hx).lt

theorem Fr.drop {N : Nat} {Y : Nat → Prop} {w0 : World} {Γ Γ' : List (Nat × SP)} {Δ Δ' : List Bx} {a : Act} {w : World} (h : Fr N Y w0 Γ Δ a w) (hΓ : ∀ x ∈ Γ', x ∈ Γ) (hΔ : List.Sublist Δ' Δ) : Fr N Y w0 Γ' Δ' a w := by
  have hown : ∀ b, own Y Δ' b → own Y Δ b ∨ w.heap.size ≤ b := by
    rintro b (hb | hb)
    · exact .inl (.inl hb)
    · exact .inl (.inr ((hΔ.map _).subset hb))
  refine ⟨h.dn, h.sz, h.y, h.bl, fun x hx => x.2.anti (h.gs x (hΓ x hx)) hown, fun x hx => h.ps x (hΔ.subset hx), fun x hx => ?_, fun x hx => h.old x (hΔ.subset hx), h.nd.sublist (hΔ.map _)⟩
  obtain ⟨v, cs, h1, h2, h3⟩ := h.bs x (hΔ.subset hx)
  exact ⟨v, cs, h1, h2, x.s.anti h3 hown⟩

/-- what an operation knows of a slot: of its last writer in the region, or of the frame before -/
def sf (fs : List SP) (Γ : List (Nat × SP)) (Y : Nat → Prop) (Δ : List Bx) (t : Nat) : Option Nat → Value → World → Prop
  | some i, v, w => (nth fs i).p (own Y Δ) v w
  | none, v, w => (∀ s, (t, s) ∈ Γ → s.p (own Y Δ) v w) ∧ (∀ x ∈ Δ, x.slot = t → v = .pointer (some ⟨x.blk, 0, none⟩))

/-- what the world offers to an operation -/
structure Wd (Y : Nat → Prop) (Δ : List Bx) (w0 w : World) : Prop where
  below : Below w0.heap.size w0 w
  lt : ∀ b, own Y Δ b → b < w.heap.size
  bs : ∀ x ∈ Δ, BoxIs (own Y Δ) x w

def Ob (P : Program) (fs : List SP) (Γ : List (Nat × SP)) (Y : Nat → Prop) (Δ : List Bx) (w0 : World) (ops : Array Oper) (k : Nat) (o : Oper) (rs : List (Nat × Option Nat)) : Prop :=
  ∀ (a : Act) (w : World), Wd Y Δ w0 w → (∀ r ∈ rs, sf fs Γ Y Δ r.1 r.2 (gt a r.1) w) →
    (gok ops o a → Does P a.eval o w (fun v w' => (nth fs k).p (own Y Δ) v w' ∧ Below w.heap.size w w')) ∧ (¬ gok ops o a → (nth fs k).p (own Y Δ) undef w)

def Obs (P : Program) (fs : List SP) (Γ : List (Nat × SP)) (Y : Nat → Prop) (Δ : List Bx) (w0 : World) (ops : Array Oper) : Nat → List Oper → List (List (Nat × Option Nat)) → Prop
  | _, [], _ => True
  | k, o :: os, [] => Ob P fs Γ Y Δ w0 ops k o [] ∧ Obs P fs Γ Y Δ w0 ops (k + 1) os []
  | k, o :: os, r :: rs => Ob P fs Γ Y Δ w0 ops k o r ∧ Obs P fs Γ Y Δ w0 ops (k + 1) os rs

def OutOk (ds : List (Option Nat)) (n : Nat) (fs : List SP) (Γ : List (Nat × SP)) (x : Nat × SP) : Prop :=
  (∃ i, i < n ∧ lw ds (fun _ => true) x.1 n = some i ∧ x.2 = nth fs i) ∨ (lw ds (fun _ => true) x.1 n = none ∧ x ∈ Γ)
def Outs (ds : List (Option Nat)) (n : Nat) (fs : List SP) (Γ Γ' : List (Nat × SP)) : Prop := ∀ x ∈ Γ', OutOk ds n fs Γ x
theorem Outs.nil {ds : List (Option Nat)} {n : Nat} {fs : List SP} {Γ : List (Nat × SP)} : Outs ds n fs Γ [] := fun x hx => by cases hx
theorem Outs.op {ds : List (Option Nat)} {n : Nat} {fs : List SP} {Γ Γ' : List (Nat × SP)} {t : Nat} {s : SP} (i : Nat) (hl : lw ds (fun _ => true) t n = some i) (hs : s = nth fs i) (h : Outs ds n fs Γ Γ') : Outs ds n fs Γ ((t, s) :: Γ') := by
  intro x hx
  rcases List.mem_cons.1 hx with rfl | hx
  · exact .inl ⟨i, (lw_some hl).1, hl, hs⟩
  · exact h x hx
theorem Outs.old {ds : List (Option Nat)} {n : Nat} {fs : List SP} {Γ Γ' : List (Nat × SP)} {t : Nat} {s : SP} (hl : lw ds (fun _ => true) t n = none) (hm : (t, s) ∈ Γ) (h : Outs ds n fs Γ Γ') : Outs ds n fs Γ ((t, s) :: Γ') := by
  intro x hx
  rcases List.mem_cons.1 hx with rfl | hx
  · exact .inr ⟨hl, hm⟩
  · exact h x hx

section
variable {P : Program} {fs : List SP} {Γ Γ' : List (Nat × SP)} {Y : Nat → Prop} {Δ : List Bx} {w0 : World} {ops : Array Oper} {k : Nat}

theorem Obs.nil {rs : List (List (Nat × Option Nat))} : Obs P fs Γ Y Δ w0 ops k [] rs := trivial
theorem Obs.cons {o : Oper} {os : List Oper} {r : List (Nat × Option Nat)} {rs : List (List (Nat × Option Nat))} (h : Ob P fs Γ Y Δ w0 ops k o r)
    (h' : Obs P fs Γ Y Δ w0 ops (k + 1) os rs) : Obs P fs Γ Y Δ w0 ops k (o :: os) (r :: rs) := ⟨h, h'⟩
theorem Obs.spec : ∀ {k : Nat} {l : List Oper} {rs : List (List (Nat × Option Nat))}, Obs P fs Γ Y Δ w0 ops k l rs → ∀ j o, l[j]? = some o → Ob P fs Γ Y Δ w0 ops (k + j) o (rs.getD j [])
  | k, [], rs, _, j, o, h => by simp at h
  | k, x :: l, [], h, j, o, ho => by
    cases j with
    | zero => simp at ho; subst ho; exact h.1
    | succ j =>
      have := Obs.spec h.2 j o (by simpa using ho)
      rw [show k + (j + 1) = k + 1 + j by omega]; simpa using this
  | k, x :: l, r :: rs, h, j, o, ho => by
    cases j with
    | zero => simp at ho; subst ho; exact h.1
    | succ j =>
      have := Obs.spec h.2 j o (by simpa using ho)
      rw [show k + (j + 1) = k + 1 + j by omega]; simpa using this

/-- masks of what each operation waits for -/
def mkM (l : List Oper) : List Nat := l.foldl (fun M o => M ++ [edgeMask M o]) []

theorem frame_after {l : List Oper} {N : Nat} {a : Act} {w w' : World} {v : Nat → Value} (h : Fr N Y w0 Γ Δ a w)
    (hbx : (Δ.all fun x => (lw (l.map (·.dst)) (fun _ => true) x.slot l.length).isNone && decide (x.slot < N)) = true)
    (hout : Outs (l.map (·.dst)) l.length fs Γ Γ') (hN : ∀ x ∈ Γ', x.1 < N)
    (hF : ∀ i, i < l.length → (nth fs i).p (own Y Δ) (v i) w') (hb : Below w.heap.size w w') : Fr N Y w0 Γ' Δ (puts a l v 0) w' := by
  have hg : ∀ t, t < N → gt (puts a l v 0) t = match lw (l.map (·.dst)) (fun _ => true) t l.length with | some i => v i | none => gt a t := by
    intro t ht
    have := gt_puts a v l t (by rw [h.sz]; exact ht) l.length (Nat.le_refl _)
    rwa [List.take_length] at this
  have hbx' : ∀ x ∈ Δ, lw (l.map (·.dst)) (fun _ => true) x.slot l.length = none ∧ x.slot < N := by
    intro x hx
    have := List.all_eq_true.1 hbx x hx
    simpa using this
  refine ⟨by rw [puts_defers]; exact h.dn, by rw [puts_size]; exact h.sz, h.y, h.bl.trans (hb.mono h.bl.size), ?_, ?_, fun x hx => (h.bs x hx).keep (h.bs x hx).lt hb, h.old, h.nd⟩
  · intro x hx
    rw [hg x.1 (hN x hx)]
    rcases hout x hx with ⟨i, hi, h1, h2⟩ | ⟨h1, h2⟩
    · rw [h1, h2]; exact hF i hi
    · rw [h1]; exact x.2.keep (h.gs x h2) hb
  · intro x hx
    obtain ⟨h1, h2⟩ := hbx' x hx
    rw [hg x.slot h2, h1]; exact h.ps x hx

theorem Fr.wd {N : Nat} {a : Act} {w w' : World} (h : Fr N Y w0 Γ Δ a w) (hb : Below w.heap.size w w') : Wd Y Δ w w' :=
  ⟨hb, fun b hb' => Nat.lt_of_lt_of_le (h.lt b hb') hb.size, fun x hx => (h.bs x hx).keep (h.bs x hx).lt hb⟩

/-- a region that draws its order -/
theorem regionD {l : List Oper} {Q : Exit → Act → World → Prop} {N id : Nat} {a : Act} {w : World} (hm : P.follows .mixedOrders = true) (h : Fr N Y w0 Γ Δ a w) (fs : List SP) (rows : List (List (Nat × Option Nat)))
    (hchk : chk l (mkM l) rows N = true)
    (hbx : (Δ.all fun x => (lw (l.map (·.dst)) (fun _ => true) x.slot l.length).isNone && decide (x.slot < N)) = true)
    (hob : Obs P fs Γ Y Δ w l.toArray 0 l rows) (Γ' : List (Nat × SP)) (hN : (Γ'.all fun x => decide (x.1 < N)) = true) (hout : Outs (l.map (·.dst)) l.length fs Γ Γ')
    (hQ : ∀ a' w', Fr N Y w0 Γ' Δ a' w' → Q .normal a' w') :
    (Code.region id l.toArray true).wp P Q a w := by
  refine Tw.region (N := N) hm (fun i v w' => (nth fs i).p (own Y Δ) v w') (mkM l) rows (fun i v w1 w2 h1 hb => (nth fs i).keep h1 hb) h.sz hchk ?_ ?_
  · intro j o hj a' w' hb hr
    have hO := hob.spec j o hj
    rw [Nat.zero_add] at hO
    refine hO a' w' (h.wd hb) ?_
    intro r hr'
    have h1 := hr r (by simpa using hr')
    cases hr2 : r.2 with
    | some i => rw [hr2] at h1; exact h1
    | none =>
      rw [hr2] at h1
      have h1' : gt a' r.1 = gt a r.1 := h1
      refine ⟨fun s hs => ?_, fun x hx he => ?_⟩
      · rw [h1']; exact s.keep (h.gs _ hs) hb
      · rw [h1', ← he]; exact h.ps x hx
  · intro v w' hF hb
    exact hQ _ _ (frame_after h hbx hout (fun x hx => by simpa using List.all_eq_true.1 hN x hx) hF hb)

/-- what is checked of a piece of a region that does not draw its order -/
def chkS (l : List Oper) (rows : List (List (Nat × Option Nat))) (N : Nat) : Bool :=
  let ds := l.map (·.dst)
  (l.zipIdx.all fun (o, j) => ((rows.getD j []).all fun r => decide (r.1 < N) && r.2 == lw ds (fun _ => true) r.1 j))

/-- a piece of a region that does not draw its order -/
theorem seg {l rest : List Oper} {Q : Exit → Act → World → Prop} {N : Nat} {a : Act} {w : World} (h : Fr N Y w0 Γ Δ a w) (fs : List SP) (rows : List (List (Nat × Option Nat)))
    (hchk : chkS l rows N = true)
    (hbx : (Δ.all fun x => (lw (l.map (·.dst)) (fun _ => true) x.slot l.length).isNone && decide (x.slot < N)) = true)
    (hob : Obs P fs Γ Y Δ w ops 0 l rows) (Γ' : List (Nat × SP)) (hN : (Γ'.all fun x => decide (x.1 < N)) = true) (hout : Outs (l.map (·.dst)) l.length fs Γ Γ')
    (hQ : ∀ a' w', Fr N Y w0 Γ' Δ a' w' → wpList P ops Q rest a' w') : wpList P ops Q (l ++ rest) a w := by
  have key : ∀ m k, k + m = l.length → ∀ (v : Nat → Value) (w' : World), Below w.heap.size w w' → (∀ i, i < k → (nth fs i).p (own Y Δ) (v i) w') → wpList P ops Q (l.drop k ++ rest) (puts a (l.take k) v 0) w' := by
    intro m
    induction m with
    | zero =>
      intro k hk v w' hb hF
      have hkl : k = l.length := by omega
      rw [hkl, List.drop_length, List.nil_append, List.take_length]
      exact hQ _ _ (frame_after h hbx hout (fun x hx => by simpa using List.all_eq_true.1 hN x hx) (fun i hi => hF i (by omega)) hb)
    | succ m ih =>
      intro k hk v w' hb hF
      have hlt : k < l.length := by omega
      rw [List.drop_eq_getElem_cons hlt, List.cons_append]
      have hO := hob.spec k l[k] (by simp [hlt])
      rw [Nat.zero_add] at hO
      have hg : ∀ r ∈ rows.getD k [], sf fs Γ Y Δ r.1 r.2 (gt (puts a (l.take k) v 0) r.1) w' := by
        intro r hr
        have hc := List.all_eq_true.1 hchk (l[k], k) (by rw [List.mem_zipIdx_iff_getElem?]; simp [hlt])
        have hc' := List.all_eq_true.1 hc r hr
        simp only [Bool.and_eq_true, decide_eq_true_eq, beq_iff_eq] at hc'
        rw [gt_puts a v l r.1 (by rw [h.sz]; exact hc'.1) k (by omega), ← hc'.2]
        cases hr2 : r.2 with
        | some i =>
          have := (lw_some (hc'.2.symm.trans hr2)).1
          exact hF i this
        | none =>
          refine ⟨fun s hs => s.keep (h.gs _ hs) hb, fun x hx he => by rw [← he]; exact h.ps x hx⟩
      have next : ∀ u w2, (nth fs k).p (own Y Δ) u w2 → Below w'.heap.size w' w2 → wpList P ops Q (l.drop (k + 1) ++ rest) ((puts a (l.take k) v 0).put (l[k]).dst u) w2 := by
        intro u w2 hu hb2
        have e : (puts a (l.take k) v 0).put (l[k]).dst u = puts a (l.take (k + 1)) (fun i => if i = k then u else v i) 0 := by
          rw [List.take_succ_eq_append_getElem hlt, puts_snoc]
          have : ∀ (l' : List Oper) (a : Act) (j : Nat), j + l'.length ≤ k → puts a l' v j = puts a l' (fun i => if i = k then u else v i) j := by
            intro l'
            induction l' with
            | nil => intro a j _; rfl
            | cons o os ih =>
              intro a j hj
              simp only [List.length_cons] at hj
              rw [puts, puts, if_neg (by omega), ih _ _ (by omega)]
          rw [this _ _ _ (by simp; omega)]
          simp [Nat.min_eq_left (Nat.le_of_lt hlt)]
        rw [e]
        refine ih (k + 1) (by omega) _ w2 (hb.trans (hb2.mono hb.size)) fun i hi => ?_
        by_cases hik : i = k
        · subst hik; rw [if_pos rfl]; exact hu
        · rw [if_neg hik]; exact (nth fs i).keep (hF i (by omega)) hb2
      obtain ⟨ob1, ob2⟩ := hO _ w' (h.wd hb) hg
      refine wpList_step fun K hK => ?_
      by_cases hgk : gok ops l[k] (puts a (l.take k) v 0)
      · rw [if_pos (wanted_iff.2 hgk)]
        exact (ob1 hgk).wp fun u w2 hu => hK _ _ (next u w2 hu.1 hu.2)
      · rw [if_neg (fun e => hgk (wanted_iff.1 e))]
        exact hK _ _ (next undef w' (ob2 hgk) (Below.refl _ _))
  have := key l.length 0 (by omega) (fun _ => undef) w (Below.refl _ _) (fun i hi => by omega)
  simpa [puts] using this

theorem region0 {l : List Oper} {Q : Exit → Act → World → Prop} {id : Nat} {a : Act} {w : World} (h : wpList P l.toArray Q l a w) : (Code.region id l.toArray false).wp P Q a w := wp_region_lit h
theorem seg_end {Q : Exit → Act → World → Prop} {a : Act} {w : World} (h : Q .normal a w) : wpList P ops Q [] a w := h
end
end Go.Proofs.Ytpplleoiehnlkaa.Fr

/-
  The logic of frames: boxes, tests, returns; obligations of single operations.
-/
namespace Go.Proofs.Ytpplleoiehnlkaa.Fr
open Go Go.RowKit Tw
set_option linter.unusedVariables false

structure Stored (w : World) (b : Nat) (o : Obj) (w' : World) : Prop where
  os : w'.os = w.os
  tape : w'.tape = w.tape
  output : w'.output = w.output
  size : w'.heap.size = w.heap.size
  blk : w'.heap[b]? = some o
  other : ∀ k, k ≠ b → w'.heap[k]? = w.heap[k]?

/-- how values of a type lie in a block of their own -/
structure TyOk (P : Program) (T : TypeId) (lay : Value → Array Value → Prop) (z : Value) : Prop where
  zero : ∃ cs, lay z cs ∧ ∀ w, (Instr.alloc T true (.tuple #[])).run P w = .ok (.pointer (some ⟨w.heap.size, 0, none⟩)) (w.alloc (.cells cs T (0, 0)))
  load : ∀ w b v cs, w.heap[b]? = some (.cells cs T (0, 0)) → lay v cs → (Instr.loadAt T (.pointer (some ⟨b, 0, none⟩))).run P w = .ok v w
  store : ∀ w b v v' cs cs', w.heap[b]? = some (.cells cs T (0, 0)) → lay v cs → lay v' cs' → ∃ w', (Instr.storeAt T (.pointer (some ⟨b, 0, none⟩)) v').run P w = .ok () w' ∧ Stored w b (.cells cs' T (0, 0)) w'
  box : ∀ w v cs, lay v cs → (Instr.box T v).run P w = .ok (.pointer (some ⟨w.heap.size, 0, none⟩)) (w.alloc (.cells cs T (0, 0)))

/-- Δ' is Δ with the variable x holding s -/
inductive Put : List Bx → List Bx → Bx → SP → Prop
  | head {x : Bx} {s : SP} {Δ : List Bx} : Put (x :: Δ) ({ x with s := s } :: Δ) x s
  | tail {x y : Bx} {s : SP} {Δ Δ' : List Bx} : Put Δ Δ' x s → Put (y :: Δ) (y :: Δ') x s
theorem Put.blks {Δ Δ' : List Bx} {x : Bx} {s : SP} (h : Put Δ Δ' x s) : Δ'.map (·.blk) = Δ.map (·.blk) := by
  induction h with
  | head => rfl
  | tail _ ih => simp [ih]
theorem Put.mem {Δ Δ' : List Bx} {x : Bx} {s : SP} (h : Put Δ Δ' x s) : x ∈ Δ := by
  induction h with
  | head => simp
  | tail _ ih => simp [ih]
theorem Put.cases {Δ Δ' : List Bx} {x : Bx} {s : SP} (h : Put Δ Δ' x s) (hn : (Δ.map (·.blk)).Nodup) : ∀ y ∈ Δ', y = { x with s := s } ∨ (y ∈ Δ ∧ y.blk ≠ x.blk) := by
  induction h with
  | head =>
    intro y hy
    rcases List.mem_cons.1 hy with rfl | hy
    · exact .inl rfl
    · refine .inr ⟨by simp [hy], ?_⟩
      simp only [List.map_cons, List.nodup_cons] at hn
      intro e
      exact hn.1 (List.mem_map.2 ⟨y, hy, e⟩)
  | tail hp ih =>
    intro y hy
    simp only [List.map_cons, List.nodup_cons] at hn
    rcases List.mem_cons.1 hy with rfl | hy
    · refine .inr ⟨by simp, fun e => ?_⟩
      exact hn.1 (List.mem_map.2 ⟨_, hp.mem, e.symm⟩)
    · rcases ih hn.2 y hy with h | h
      · exact .inl h
      · exact .inr ⟨by simp [h.1], h.2⟩
theorem Put.slot {Δ Δ' : List Bx} {x : Bx} {s : SP} (h : Put Δ Δ' x s) : ∀ y ∈ Δ', ∃ z ∈ Δ, z.slot = y.slot ∧ z.blk = y.blk := by
  induction h with
  | head =>
    intro y hy
    rcases List.mem_cons.1 hy with rfl | hy
    · exact ⟨_, List.mem_cons_self, rfl, rfl⟩
    · exact ⟨y, by simp [hy], rfl, rfl⟩
  | tail _ ih =>
    intro y hy
    rcases List.mem_cons.1 hy with rfl | hy
    · exact ⟨_, by simp, rfl, rfl⟩
    · obtain ⟨z, hz, h⟩ := ih y hy; exact ⟨z, by simp [hz], h⟩

section
variable {P : Program} {fs : List SP} {Γ Γ' : List (Nat × SP)} {Y : Nat → Prop} {Δ Δ' : List Bx} {w0 : World} {ops : Array Oper} {k N : Nat} {Q : Exit → Act → World → Prop} {a : Act} {w : World} {rest : List Oper}
  {d : Option Nat} {ty : TypeId} {pos : String} {af : Array Edge}

/-- Γ' is a part of Γ that leaves out slot t -/
def Less (Γ' Γ : List (Nat × SP)) (t : Nat) : Prop := ∀ x ∈ Γ', x ∈ Γ ∧ x.1 ≠ t
theorem Less.nil {t : Nat} : Less [] Γ t := fun x hx => by cases hx
theorem Less.cons {t u : Nat} {s : SP} (hm : (u, s) ∈ Γ) (hne : u ≠ t) (h : Less Γ' Γ t) : Less ((u, s) :: Γ') Γ t := by
  intro x hx
  rcases List.mem_cons.1 hx with rfl | hx
  · exact ⟨hm, hne⟩
  · exact h x hx

/-- the kinds of a call's arguments -/
def ArgsOk (args : Array Value) (Y : Nat → Prop) (w : World) (Γ : List (Nat × SP)) : Prop := ∀ x ∈ Γ, ∃ v, args[x.1]? = some v ∧ x.2.p Y v w
theorem ArgsOk.nil {args : Array Value} : ArgsOk args Y w [] := fun x hx => by cases hx
theorem ArgsOk.cons {args : Array Value} {t : Nat} {s : SP} {v : Value} (h1 : args[t]? = some v) (h2 : s.p Y v w) (h : ArgsOk args Y w Γ) : ArgsOk args Y w ((t, s) :: Γ) := by
  intro x hx
  rcases List.mem_cons.1 hx with rfl | hx
  · exact ⟨v, h1, h2⟩
  · exact h x hx

/-- a new block of the call's own, as a variable -/
theorem Fr.newBox {t : Nat} {T : TypeId} {s : SP} {lay : Value → Array Value → Prop} {v : Value} {cs : Array Value} (h : Fr N Y w0 Γ Δ a w) (ht : t < N)
    (hΓ : ∀ x ∈ Γ', x ∈ Γ ∧ x.1 ≠ t) (hΔ : ∀ x ∈ Δ, x.slot ≠ t) (hl : lay v cs) (hs : s.p (own Y Δ) v w) :
    Fr N Y w0 Γ' (⟨t, w.heap.size, T, s, lay⟩ :: Δ) (a.put (some t) (.pointer (some ⟨w.heap.size, 0, none⟩))) (w.alloc (.cells cs T (0, 0))) := by
  have hb : Below w.heap.size w (w.alloc (.cells cs T (0, 0))) := (Below.refl _ _).alloc (Nat.le_refl _) _
  have hsz : (w.alloc (.cells cs T (0, 0))).heap.size = w.heap.size + 1 := by simp
  have hown : ∀ b, own Y (⟨t, w.heap.size, T, s, lay⟩ :: Δ) b → own Y Δ b ∨ w.heap.size ≤ b := by
    rintro b (hb | hb)
    · exact .inl (.inl hb)
    · rcases List.mem_cons.1 hb with rfl | hb
      · exact .inr (Nat.le_refl _)
      · exact .inl (.inr hb)
  have up : ∀ (s : SP) (v : Value), s.p (own Y Δ) v w → s.p (own Y (⟨t, w.heap.size, T, s, lay⟩ :: Δ)) v (w.alloc (.cells cs T (0, 0))) := fun s v hv => s.keep (s.anti hv hown) hb
  have up' : ∀ (s' : SP) (v : Value), s'.p (own Y Δ) v w → s'.p (own Y (⟨t, w.heap.size, T, s, lay⟩ :: Δ)) v (w.alloc (.cells cs T (0, 0))) := fun s' v hv => s'.keep (s'.anti hv hown) hb
  refine ⟨by rw [defers_put]; exact h.dn, by rw [size_put]; exact h.sz, h.y, h.bl.trans (hb.mono h.bl.size), ?_, ?_, ?_, ?_, ?_⟩
  · intro x hx
    obtain ⟨h1, h2⟩ := hΓ x hx
    rw [gt_put_ne (fun e => h2 (Option.some.inj e).symm)]
    exact up' _ _ (h.gs x h1)
  · intro x hx
    rcases List.mem_cons.1 hx with rfl | hx
    · exact gt_put_self (by rw [h.sz]; exact ht) _
    · rw [gt_put_ne (fun e => hΔ x hx (Option.some.inj e).symm)]; exact h.ps x hx
  · intro x hx
    rcases List.mem_cons.1 hx with rfl | hx
    · exact ⟨v, cs, heap_alloc_new w _, hl, up _ _ hs⟩
    · obtain ⟨v', cs', h1, h2, h3⟩ := h.bs x hx
      exact ⟨v', cs', by rw [hb.block _ (h.bs x hx).lt]; exact h1, h2, up' _ _ h3⟩
  · intro x hx
    rcases List.mem_cons.1 hx with rfl | hx
    · exact h.bl.size
    · exact h.old x hx
  · simp only [List.map_cons, List.nodup_cons]
    refine ⟨fun hm => ?_, h.nd⟩
    obtain ⟨x, hx, e⟩ := List.mem_map.1 hm
    have := (h.bs x hx).lt
    omega

theorem falloc {t : Nat} {T : TypeId} {lay : Value → Array Value → Prop} {z : Value} (hT : TyOk P T lay z) (h : Fr N Y w0 Γ Δ a w) (Γ' : List (Nat × SP)) (ht : t < N)
    (hΓ : Less Γ' Γ t) (hΔ : (Δ.all fun x => decide (x.slot ≠ t)) = true)
    (hQ : ∀ b a' w', Fr N Y w0 Γ' (⟨t, b, T, SP.eq z, lay⟩ :: Δ) a' w' → wpList P ops Q rest a' w') :
    wpList P ops Q (⟨some t, .alloc T, ty, pos, af, none⟩ :: rest) a w := by
  obtain ⟨cs, h1, h2⟩ := hT.zero
  refine wpList_plain rfl fun K hK => ?_
  refine Does.wp (R := fun v w' => v = .pointer (some ⟨w.heap.size, 0, none⟩) ∧ w' = w.alloc (.cells cs T (0, 0))) ?_ ?_
  · unfold Does
    have : (execOp a.eval ⟨some t, .alloc T, ty, pos, af, none⟩).run P w = .ok (.value (.pointer (some ⟨w.heap.size, 0, none⟩))) (w.alloc (.cells cs T (0, 0))) := by
      simp only [execOp, Sem.run_bind, h2 w]; rfl
    rw [this]; exact ⟨rfl, rfl⟩
  · rintro v w' ⟨rfl, rfl⟩
    refine hK _ _ (hQ w.heap.size _ _ (h.newBox ht hΓ (fun x hx => by simpa using List.all_eq_true.1 hΔ x hx) h1 rfl))
theorem fbox {t u : Nat} {T : TypeId} {s : SP} {lay : Value → Array Value → Prop} {z : Value} (hT : TyOk P T lay z) (h : Fr N Y w0 Γ Δ a w) (Γ' : List (Nat × SP)) (ht : t < N)
    (hu : (u, s) ∈ Γ) (hlay : ∀ X v w, s.p X v w → ∃ cs, lay v cs) (hΓ : Less Γ' Γ t) (hΔ : (Δ.all fun x => decide (x.slot ≠ t)) = true)
    (hQ : ∀ b a' w', Fr N Y w0 Γ' (⟨t, b, T, s, lay⟩ :: Δ) a' w' → wpList P ops Q rest a' w') :
    wpList P ops Q (⟨some t, .box T (.tmp u), ty, pos, af, none⟩ :: rest) a w := by
  have hv := h.gs _ hu
  obtain ⟨cs, h1⟩ := hlay _ _ _ hv
  refine wpList_plain rfl fun K hK => ?_
  refine Does.wp (R := fun v w' => v = .pointer (some ⟨w.heap.size, 0, none⟩) ∧ w' = w.alloc (.cells cs T (0, 0))) ?_ ?_
  · unfold Does
    have : (execOp a.eval ⟨some t, .box T (.tmp u), ty, pos, af, none⟩).run P w = .ok (.value (.pointer (some ⟨w.heap.size, 0, none⟩))) (w.alloc (.cells cs T (0, 0))) := by
      have e : a.eval (.tmp u) = gt a u := rfl
      simp only [execOp, e, Sem.run_bind, hT.box w _ cs h1]; rfl
    rw [this]; exact ⟨rfl, rfl⟩
  · rintro v w' ⟨rfl, rfl⟩
    exact hK _ _ (hQ w.heap.size _ _ (h.newBox ht hΓ (fun x hx => by simpa using List.all_eq_true.1 hΔ x hx) h1 hv))
theorem Fr.putBox {x : Bx} {s : SP} {v : Value} {cs : Array Value} {w' : World} (h : Fr N Y w0 Γ Δ a w) (hp : Put Δ Δ' x s) (hl : x.lay v cs) (hs : s.p (own Y Δ) v w) (hst : Stored w x.blk (.cells cs x.T (0, 0)) w') :
    Fr N Y w0 Γ Δ' a w' := by
  have hown : own Y Δ' = own Y Δ := by funext b; unfold own; rw [hp.blks]
  have hx := hp.mem
  have ev : Ev (own Y Δ) w w' := ⟨by rw [hst.size]; exact Nat.le_refl _, fun k hk hX => hst.other k (fun e => hX (.inr (e ▸ List.mem_map.2 ⟨x, hx, rfl⟩)))⟩
  refine ⟨h.dn, h.sz, h.y, ?_, ?_, ?_, ?_, ?_, by rw [hp.blks]; exact h.nd⟩
  · refine ⟨hst.os.trans h.bl.os, hst.tape.trans h.bl.tape, hst.output.trans h.bl.output, by rw [hst.size]; exact h.bl.size, fun k hk => ?_⟩
    rw [hst.other k (by have := h.old x hx; omega)]; exact h.bl.block k hk
  · intro y hy; rw [hown]; exact y.2.st (h.gs y hy) ev
  · intro y hy
    obtain ⟨z, hz, h1, h2⟩ := hp.slot y hy
    rw [← h1, ← h2]; exact h.ps z hz
  · intro y hy
    rw [hown]
    rcases hp.cases h.nd y hy with rfl | ⟨h1, h2⟩
    · exact ⟨v, cs, hst.blk, hl, s.st hs ev⟩
    · obtain ⟨v', cs', g1, g2, g3⟩ := h.bs y h1
      exact ⟨v', cs', by rw [hst.other _ h2]; exact g1, g2, y.s.st g3 ev⟩
  · intro y hy
    obtain ⟨z, hz, h1, h2⟩ := hp.slot y hy
    rw [← h2]; exact h.old z hz
theorem fstore {t u b : Nat} {T : TypeId} {s s0 : SP} {lay : Value → Array Value → Prop} {z : Value} (hT : TyOk P T lay z) (h : Fr N Y w0 Γ Δ a w) (hp : Put Δ Δ' ⟨t, b, T, s0, lay⟩ s)
    (hu : (u, s) ∈ Γ) (hlay : ∀ X v w, s.p X v w → ∃ cs, lay v cs)
    (hQ : ∀ w', Fr N Y w0 Γ Δ' a w' → wpList P ops Q rest a w') :
    wpList P ops Q (⟨none, .store T (.tmp t) (.tmp u), ty, pos, af, none⟩ :: rest) a w := by
  have hv := h.gs _ hu
  obtain ⟨cs', h1⟩ := hlay _ _ _ hv
  obtain ⟨v0, cs, g1, g2, _⟩ := h.bs _ hp.mem
  obtain ⟨w', hr, hst⟩ := hT.store w b v0 _ cs cs' g1 g2 h1
  refine wpList_plain rfl fun K hK => ?_
  refine Does.wp (R := fun v w1 => w1 = w') ?_ ?_
  · unfold Does
    have : (execOp a.eval ⟨none, .store T (.tmp t) (.tmp u), ty, pos, af, none⟩).run P w = .ok .skip w' := by
      have e : a.eval (.tmp u) = gt a u := rfl
      have e2 : a.eval (.tmp t) = .pointer (some ⟨b, 0, none⟩) := h.ps _ hp.mem
      simp only [execOp, e, e2, Sem.run_bind, hr]; rfl
    rw [this]
  · rintro v w1 rfl
    exact hK _ _ (hQ _ (h.putBox hp h1 hv hst))

/-! control -/
theorem fcond {t : Nat} {b : Bool} {x y : Code} (h : Fr N Y w0 Γ Δ a w) (hm : (t, SP.b b) ∈ Γ) (ht : b = true → x.wp P Q a w) (hf : b = false → y.wp P Q a w) : (Code.cond (.tmp t) x y).wp P Q a w :=
  wp_cond_split (h.gs _ hm) ht hf
theorem fcond_t {t : Nat} {x y : Code} (h : Fr N Y w0 Γ Δ a w) (hm : (t, SP.b true) ∈ Γ) (ht : x.wp P Q a w) : (Code.cond (.tmp t) x y).wp P Q a w :=
  wp_cond_true (h.gs _ hm) ht
theorem fcond_f {t : Nat} {x y : Code} (h : Fr N Y w0 Γ Δ a w) (hm : (t, SP.b false) ∈ Γ) (hf : y.wp P Q a w) : (Code.cond (.tmp t) x y).wp P Q a w :=
  wp_cond_false (h.gs _ hm) hf
theorem seqk {x y : Code} (R : Act → World → Prop) (h : x.wp P (Exit.then R Q) a w) (hR : ∀ a w, R a w → y.wp P Q a w) : (Code.seq x y).wp P Q a w :=
  wp_seq (Code.wp_mono (fun e a w q => by cases e <;> first | exact hR _ _ q | exact q) h)
theorem ret1 {fn : Func} {t : Nat} {s s' : SP} (h : Fr N Y w0 Γ Δ a w) (hr : fn.results = #[.tmp t]) (hm : (t, s) ∈ Γ) (hs : ∀ v w, s.p Y v w → s'.p Y v w) : bodyPost P fn (RetS Y s' w0) .ret a w :=
  ⟨h.dn, gt a t, by rw [results_tmp hr]; rfl, gt a t, rfl, hs _ _ (s.anti (h.gs _ hm) fun b hb => .inl (.inl hb)), h.bl⟩
theorem ret_cell {fn : Func} {t b : Nat} {T : TypeId} {s s' : SP} {lay : Value → Array Value → Prop} {z : Value} (hT : TyOk P T lay z) (h : Fr N Y w0 Γ Δ a w) (hr : fn.results = #[.cell t T]) (hm : (⟨t, b, T, s, lay⟩ : Bx) ∈ Δ)
    (hs : ∀ v w, s.p Y v w → s'.p Y v w) : bodyPost P fn (RetS Y s' w0) .ret a w := by
  obtain ⟨v, cs, g1, g2, g3⟩ := h.bs _ hm
  refine ⟨h.dn, v, ?_, v, rfl, hs _ _ (s.anti g3 fun b hb => .inl (.inl hb)), h.bl⟩
  have e : a.tmps[t]?.getD undef = .pointer (some ⟨b, 0, none⟩) := by have := h.ps _ hm; simpa [gt] using this
  have := hT.load w b v cs g1 g2
  simp only [Instr.loadAt, Instr.sureAddr, Sem.run_bind, Sem.run_pure, Result.andThen_ok] at this
  simp [results, hr, e, asAddr, this]
theorem ret_cell_tmp {fn : Func} {t u b : Nat} {T : TypeId} {s s2 s' : SP} {lay : Value → Array Value → Prop} {z : Value} (hT : TyOk P T lay z) (h : Fr N Y w0 Γ Δ a w) (hr : fn.results = #[.cell t T, .tmp u]) (hm : (⟨t, b, T, s, lay⟩ : Bx) ∈ Δ)
    (hu : (u, s2) ∈ Γ) (hs : ∀ v w, (SP.tup2 s s2).p Y v w → s'.p Y v w) : bodyPost P fn (RetS Y s' w0) .ret a w := by
  obtain ⟨v, cs, g1, g2, g3⟩ := h.bs _ hm
  refine ⟨h.dn, .tuple #[v, gt a u], ?_, _, rfl, hs _ _ ⟨v, _, rfl, s.anti g3 fun b hb => .inl (.inl hb), s2.anti (h.gs _ hu) fun b hb => .inl (.inl hb)⟩, h.bl⟩
  have e : a.tmps[t]?.getD undef = .pointer (some ⟨b, 0, none⟩) := by have := h.ps _ hm; simpa [gt] using this
  have := hT.load w b v cs g1 g2
  simp only [Instr.loadAt, Instr.sureAddr, Sem.run_bind, Sem.run_pure, Result.andThen_ok] at this
  simp [results, hr, e, asAddr, this, gt]

/-- a function's beginning -/
theorem enter {f : FuncId} {fn : Func} {c : Code} {args : Array Value} {s : SP} (hf : P.funcs[f]? = some fn) (hb : fn.body = some c) (hn : fn.ntmps = N) (hy : ∀ b, Y b → b < w.heap.size)
    (hN : args.size ≤ N) (hΓ : ArgsOk args Y w Γ)
    (h : ∀ a, Fr N Y w Γ [] a w → c.wp P (bodyPost P fn (RetS Y s w)) a w) : Calls P f args w (RetS Y s w) := by
  refine calls_of_wp hf hb (h _ ⟨rfl, ?_, hy, Below.refl _ _, ?_, fun x hx => (by cases hx), fun x hx => (by cases hx), fun x hx => (by cases hx), by simp⟩)
  · simp [hn]; omega
  · intro x hx
    obtain ⟨v, h1, h2⟩ := hΓ x hx
    have hlt : x.1 < args.size := by
      rcases Nat.lt_or_ge x.1 args.size with h | h
      · exact h
      · rw [Array.getElem?_eq_none h] at h1; cases h1
    have : gt { tmps := args ++ Array.replicate (fn.ntmps - args.size) undef, defers := [] } x.1 = v := by
      simp [gt, Array.getElem?_append_left hlt, h1]
    rw [this]
    refine x.2.anti h2 ?_
    rintro b (hb | hb)
    · exact .inl hb
    · cases hb

/-- a region, or a piece of m operations, that does not draw its order -/
theorem segN {L : List Oper} (m : Nat) (h : Fr N Y w0 Γ Δ a w) (fs : List SP) (rows : List (List (Nat × Option Nat)))
    (hchk : chkS (L.take m) rows N = true)
    (hbx : (Δ.all fun x => (lw ((L.take m).map (·.dst)) (fun _ => true) x.slot (L.take m).length).isNone && decide (x.slot < N)) = true)
    (hob : Obs P fs Γ Y Δ w ops 0 (L.take m) rows) (Γ' : List (Nat × SP)) (hN : (Γ'.all fun x => decide (x.1 < N)) = true) (hout : Outs ((L.take m).map (·.dst)) (L.take m).length fs Γ Γ')
    (hQ : ∀ a' w', Fr N Y w0 Γ' Δ a' w' → wpList P ops Q (L.drop m) a' w') : wpList P ops Q L a w := by
  have := seg (rest := L.drop m) h fs rows hchk hbx hob Γ' hN hout hQ
  rwa [List.take_append_drop] at this
theorem regionS {l : List Oper} {id : Nat} (h : Fr N Y w0 Γ Δ a w) (fs : List SP) (rows : List (List (Nat × Option Nat)))
    (hchk : chkS l rows N = true)
    (hbx : (Δ.all fun x => (lw (l.map (·.dst)) (fun _ => true) x.slot l.length).isNone && decide (x.slot < N)) = true)
    (hob : Obs P fs Γ Y Δ w l.toArray 0 l rows) (Γ' : List (Nat × SP)) (hN : (Γ'.all fun x => decide (x.1 < N)) = true) (hout : Outs (l.map (·.dst)) l.length fs Γ Γ')
    (hQ : ∀ a' w', Fr N Y w0 Γ' Δ a' w' → Q .normal a' w') : (Code.region id l.toArray false).wp P Q a w := by
  refine region0 ?_
  have := seg (rest := []) (ops := l.toArray) (Q := Q) h fs rows hchk hbx hob Γ' hN hout hQ
  rwa [List.append_nil] at this
/-! obligations -/
theorem ob_plain {op : Op} {rs : List (Nat × Option Nat)}
    (h : ∀ (a : Act) (w : World), Wd Y Δ w0 w → (∀ r ∈ rs, sf fs Γ Y Δ r.1 r.2 (gt a r.1) w) →
      Does P a.eval ⟨d, op, ty, pos, af, none⟩ w (fun v w' => (nth fs k).p (own Y Δ) v w' ∧ Below w.heap.size w w')) : Ob P fs Γ Y Δ w0 ops k ⟨d, op, ty, pos, af, none⟩ rs :=
  fun a w hb hr => ⟨fun _ => h a w hb hr, fun hn => (hn trivial).elim⟩
theorem does_guard {op : Op} {g g' : Option (Nat × Bool)} {ρ : Operand → Value} {R : Value → World → Prop} :
    Does P ρ ⟨d, op, ty, pos, af, g⟩ w R ↔ Does P ρ ⟨d, op, ty, pos, af, g'⟩ w R := by
  have : execOp ρ ⟨d, op, ty, pos, af, g⟩ = execOp ρ ⟨d, op, ty, pos, af, g'⟩ := rfl
  unfold Does; rw [this]
/-- a guarded operation whose guard is known to hold -/
theorem ob_g {op : Op} {rs : List (Nat × Option Nat)} {g tg : Nat} {want : Bool} {sg : Option Nat}
    (hd : (ops[g]?).bind (·.dst) = some tg) (hv : ∀ v w, sf fs Γ Y Δ tg sg v w → v = .bool want) (h : Ob P fs Γ Y Δ w0 ops k ⟨d, op, ty, pos, af, none⟩ rs) :
    Ob P fs Γ Y Δ w0 ops k ⟨d, op, ty, pos, af, some (g, want)⟩ ((tg, sg) :: rs) := by
  intro a w hb hr
  have hg := hv _ _ (hr (tg, sg) (by simp))
  have h1 := (h a w hb (fun r hr' => hr r (by simp [hr']))).1 trivial
  exact ⟨fun _ => does_guard.1 h1, fun hn => (hn ⟨tg, hd, hg⟩).elim⟩
/-- a guarded operation whose guard is known to fail -/
theorem ob_dead {op : Op} {g tg : Nat} {want : Bool} {sg : Option Nat}
    (hd : (ops[g]?).bind (·.dst) = some tg) (hv : ∀ v w, sf fs Γ Y Δ tg sg v w → v = .bool (!want)) (h : ∀ X w, (nth fs k).p X undef w) :
    Ob P fs Γ Y Δ w0 ops k ⟨d, op, ty, pos, af, some (g, want)⟩ [(tg, sg)] := by
  intro a w hb hr
  have hg := hv _ _ (hr (tg, sg) (by simp))
  refine ⟨fun hk => ?_, fun _ => h _ _⟩
  obtain ⟨t, ht, hk⟩ := hk
  rw [hd] at ht; cases ht
  rw [hg] at hk; cases want <;> cases hk
/-- a guarded operation whose guard is the truth of c -/
theorem ob_gi {op : Op} {rs : List (Nat × Option Nat)} {g tg : Nat} {want : Bool} {sg : Option Nat} {c : Prop} {s : SP}
    (hd : (ops[g]?).bind (·.dst) = some tg) (hv : ∀ v w, sf fs Γ Y Δ tg sg v w → (v = .bool want ↔ c)) (hs : nth fs k = SP.imp c s) (h : c → Ob P fs Γ Y Δ w0 ops k ⟨d, op, ty, pos, af, none⟩ rs) :
    Ob P fs Γ Y Δ w0 ops k ⟨d, op, ty, pos, af, some (g, want)⟩ ((tg, sg) :: rs) := by
  intro a w hb hr
  have hg := hv _ _ (hr (tg, sg) (by simp))
  refine ⟨fun hk => ?_, fun hn => ?_⟩
  · obtain ⟨t, ht, hk⟩ := hk
    rw [hd] at ht; cases ht
    exact does_guard.1 ((h (hg.1 hk) a w hb (fun r hr' => hr r (by simp [hr']))).1 trivial)
  · rw [hs]
    intro hc
    exact (hn ⟨tg, hd, hg.2 hc⟩).elim

theorem does_val {ρ : Operand → Value} {o : Oper} {w' : World} {v : Value} {R : Value → World → Prop} (h : (execOp ρ o).run P w = .ok (.value v) w') (hR : R v w') : Does P ρ o w R := by
  unfold Does; rw [h]; exact hR

/-- what is known of an operand -/
def opf (fs : List SP) (Γ : List (Nat × SP)) (Y : Nat → Prop) (Δ : List Bx) : Operand → Option Nat → Value → World → Prop
  | .tmp t, s, v, w => sf fs Γ Y Δ t s v w
  | .const c, _, v, w => v = c
  | _, _, _, _ => True
/-- the slots of operands -/
def rds : List (Operand × Option Nat) → List (Nat × Option Nat)
  | [] => []
  | (.tmp t, s) :: l => (t, s) :: rds l
  | _ :: l => rds l
theorem opf_of {rs : List (Nat × Option Nat)} {x : Operand} {s : Option Nat} (hr : ∀ r ∈ rs, sf fs Γ Y Δ r.1 r.2 (gt a r.1) w) (h : ∀ t, x = .tmp t → (t, s) ∈ rs) : opf fs Γ Y Δ x s (a.eval x) w := by
  cases x with
  | tmp t => exact hr (t, s) (h t rfl)
  | const c => rfl
  | global g => trivial
  | func f => trivial
theorem rds_mem {l : List (Operand × Option Nat)} {t : Nat} {s : Option Nat} (h : (.tmp t, s) ∈ l) : (t, s) ∈ rds l := by
  induction l with
  | nil => cases h
  | cons x l ih =>
    rcases List.mem_cons.1 h with h' | h'
    · subst h'; simp [rds]
    · have := ih h'
      obtain ⟨o, s'⟩ := x
      cases o <;> simp [rds, this]

theorem ob_move {x : Operand} {s : Option Nat} (h : ∀ v w, opf fs Γ Y Δ x s v w → (nth fs k).p (own Y Δ) v w) :
    Ob P fs Γ Y Δ w0 ops k ⟨d, .move x, ty, pos, af, none⟩ (rds [(x, s)]) :=
  ob_plain fun a w hb hr => does_val (v := a.eval x) (w' := w) rfl ⟨h _ _ (opf_of hr fun t e => rds_mem (by simp [e])), Below.refl _ _⟩
theorem ob_assign {x : Operand} {s : Option Nat} (h : ∀ v w, opf fs Γ Y Δ x s v w → (nth fs k).p (own Y Δ) v w) :
    Ob P fs Γ Y Δ w0 ops k ⟨d, .assign x, ty, pos, af, none⟩ (rds [(x, s)]) :=
  ob_plain fun a w hb hr => does_val (v := a.eval x) (w' := w) rfl ⟨h _ _ (opf_of hr fun t e => rds_mem (by simp [e])), Below.refl _ _⟩
/-- pick, the condition known -/
theorem ob_pick_t {c : Nat} {sc sx : Option Nat} {x y : Operand} (hc : ∀ v w, sf fs Γ Y Δ c sc v w → v = .bool true) (h : ∀ v w, opf fs Γ Y Δ x sx v w → (nth fs k).p (own Y Δ) v w) :
    Ob P fs Γ Y Δ w0 ops k ⟨d, .pick (.tmp c) x y, ty, pos, af, none⟩ (rds [(.tmp c, sc), (x, sx)]) :=
  ob_plain fun a w hb hr => by
    have e : a.eval (.tmp c) = .bool true := hc _ _ (hr (c, sc) (by simp [rds]))
    exact does_val (v := a.eval x) (w' := w) (by simp only [execOp, e]; rfl) ⟨h _ _ (opf_of hr fun t e => rds_mem (by simp [e])), Below.refl _ _⟩
theorem ob_pick_f {c : Nat} {sc sy : Option Nat} {x y : Operand} (hc : ∀ v w, sf fs Γ Y Δ c sc v w → v = .bool false) (h : ∀ v w, opf fs Γ Y Δ y sy v w → (nth fs k).p (own Y Δ) v w) :
    Ob P fs Γ Y Δ w0 ops k ⟨d, .pick (.tmp c) x y, ty, pos, af, none⟩ (rds [(.tmp c, sc), (y, sy)]) :=
  ob_plain fun a w hb hr => by
    have e : a.eval (.tmp c) = .bool false := hc _ _ (hr (c, sc) (by simp [rds]))
    exact does_val (v := a.eval y) (w' := w) (by simp only [execOp, e]; rfl) ⟨h _ _ (opf_of hr fun t e => rds_mem (by simp [e])), Below.refl _ _⟩
/-- c || x, the condition open -/
theorem ob_pick_or {c x : Nat} {sc sx : Option Nat} {p q : Prop} [Decidable p] [Decidable q] (hc : ∀ v w, sf fs Γ Y Δ c sc v w → v = .bool (decide p)) (hx : ∀ v w, ¬ p → sf fs Γ Y Δ x sx v w → v = .bool (decide q))
    (h : ∀ w, (nth fs k).p (own Y Δ) (.bool (decide (p ∨ q))) w) :
    Ob P fs Γ Y Δ w0 ops k ⟨d, .pick (.tmp c) (.const (.bool true)) (.tmp x), ty, pos, af, none⟩ [(c, sc), (x, sx)] :=
  ob_plain fun a w hb hr => by
    have e : a.eval (.tmp c) = .bool (decide p) := hc _ _ (hr (c, sc) (by simp))
    by_cases hp : p
    · refine does_val (v := .bool true) (w' := w) (by simp only [execOp, e, decide_eq_true hp]; rfl) ⟨?_, Below.refl _ _⟩
      have := h w; rwa [decide_eq_true (show p ∨ q from .inl hp)] at this
    · have e2 : a.eval (.tmp x) = .bool (decide q) := hx _ _ hp (hr (x, sx) (by simp))
      refine does_val (v := .bool (decide q)) (w' := w) (by simp only [execOp, e, e2, decide_eq_false hp]; rfl) ⟨?_, Below.refl _ _⟩
      have := h w
      rwa [show decide (p ∨ q) = decide q from by simp [hp]] at this
theorem ob_pick_and {c x : Nat} {sc sx : Option Nat} {p q : Prop} [Decidable p] [Decidable q] (hc : ∀ v w, sf fs Γ Y Δ c sc v w → v = .bool (decide p)) (hx : ∀ v w, p → sf fs Γ Y Δ x sx v w → v = .bool (decide q))
    (h : ∀ w, (nth fs k).p (own Y Δ) (.bool (decide (p ∧ q))) w) :
    Ob P fs Γ Y Δ w0 ops k ⟨d, .pick (.tmp c) (.tmp x) (.const (.bool false)), ty, pos, af, none⟩ [(c, sc), (x, sx)] :=
  ob_plain fun a w hb hr => by
    have e : a.eval (.tmp c) = .bool (decide p) := hc _ _ (hr (c, sc) (by simp))
    by_cases hp : p
    · have e2 : a.eval (.tmp x) = .bool (decide q) := hx _ _ hp (hr (x, sx) (by simp))
      refine does_val (v := .bool (decide q)) (w' := w) (by simp only [execOp, e, e2, decide_eq_true hp]; rfl) ⟨?_, Below.refl _ _⟩
      have := h w
      rwa [show decide (p ∧ q) = decide q from by simp [hp]] at this
    · refine does_val (v := .bool false) (w' := w) (by simp only [execOp, e, decide_eq_false hp]; rfl) ⟨?_, Below.refl _ _⟩
      have := h w
      rwa [show decide (p ∧ q) = false from by simp [hp]] at this

theorem does_call {f : FuncId} {xs : Array Operand} {ats : Array TypeId} {R : Value → World → Prop} (hc : ∀ args w, (callFunc f args).run P w = .ok (.enter f args) w)
    (h : Calls P f (xs.map a.eval) w (fun e w' => ∃ v, e = .returned v ∧ R v w')) : Does P a.eval ⟨d, .call ⟨.value (.func f), xs, ats⟩, ty, pos, af, none⟩ w R := by
  unfold Does
  rw [execOp_call_go, hc]
  simpa using h
theorem ob_call0 {f : FuncId} {ats : Array TypeId} (hc : ∀ args w, (callFunc f args).run P w = .ok (.enter f args) w)
    (h : ∀ w, Wd Y Δ w0 w → Calls P f #[] w (RetS (own Y Δ) (nth fs k) w)) :
    Ob P fs Γ Y Δ w0 ops k ⟨d, .call ⟨.value (.func f), #[], ats⟩, ty, pos, af, none⟩ [] :=
  ob_plain fun a w hb hr => does_call hc (by rw [show (#[] : Array Operand).map a.eval = #[] by simp]; exact h w hb)
theorem ob_call1 {f : FuncId} {ats : Array TypeId} {x : Operand} {s1 : Option Nat} (hc : ∀ args w, (callFunc f args).run P w = .ok (.enter f args) w)
    (h : ∀ u w, Wd Y Δ w0 w → opf fs Γ Y Δ x s1 u w → Calls P f #[u] w (RetS (own Y Δ) (nth fs k) w)) :
    Ob P fs Γ Y Δ w0 ops k ⟨d, .call ⟨.value (.func f), #[x], ats⟩, ty, pos, af, none⟩ (rds [(x, s1)]) :=
  ob_plain fun a w hb hr => does_call hc (by rw [show (#[x] : Array Operand).map a.eval = #[a.eval x] by simp]; exact h _ w hb (opf_of hr fun t e => rds_mem (by simp [e])))
theorem ob_call2 {f : FuncId} {ats : Array TypeId} {x y : Operand} {s1 s2 : Option Nat} (hc : ∀ args w, (callFunc f args).run P w = .ok (.enter f args) w)
    (h : ∀ u v w, Wd Y Δ w0 w → opf fs Γ Y Δ x s1 u w → opf fs Γ Y Δ y s2 v w → Calls P f #[u, v] w (RetS (own Y Δ) (nth fs k) w)) :
    Ob P fs Γ Y Δ w0 ops k ⟨d, .call ⟨.value (.func f), #[x, y], ats⟩, ty, pos, af, none⟩ (rds [(x, s1), (y, s2)]) :=
  ob_plain fun a w hb hr => does_call hc (by rw [show (#[x, y] : Array Operand).map a.eval = #[a.eval x, a.eval y] by simp]; exact h _ _ w hb (opf_of hr fun t e => rds_mem (by simp [e])) (opf_of hr fun t e => rds_mem (by simp [e])))
theorem ob_call3 {f : FuncId} {ats : Array TypeId} {x y z : Operand} {s1 s2 s3 : Option Nat} (hc : ∀ args w, (callFunc f args).run P w = .ok (.enter f args) w)
    (h : ∀ u v t w, Wd Y Δ w0 w → opf fs Γ Y Δ x s1 u w → opf fs Γ Y Δ y s2 v w → opf fs Γ Y Δ z s3 t w → Calls P f #[u, v, t] w (RetS (own Y Δ) (nth fs k) w)) :
    Ob P fs Γ Y Δ w0 ops k ⟨d, .call ⟨.value (.func f), #[x, y, z], ats⟩, ty, pos, af, none⟩ (rds [(x, s1), (y, s2), (z, s3)]) :=
  ob_plain fun a w hb hr => does_call hc (by rw [show (#[x, y, z] : Array Operand).map a.eval = #[a.eval x, a.eval y, a.eval z] by simp]; exact h _ _ _ w hb (opf_of hr fun t e => rds_mem (by simp [e])) (opf_of hr fun t e => rds_mem (by simp [e])) (opf_of hr fun t e => rds_mem (by simp [e])))

theorem ob_bin {op : BinOp} {xt yt : TypeId} {x y : Operand} {s1 s2 : Option Nat} {X Y' r : Value} (h1 : ∀ v w, opf fs Γ Y Δ x s1 v w → v = X) (h2 : ∀ v w, opf fs Γ Y Δ y s2 v w → v = Y')
    (hrun : ∀ w, (do eqGuard op xt x y X Y'; binOp op xt X Y' : Sem Value).run P w = .ok r w) (h : ∀ w, (nth fs k).p (own Y Δ) r w) :
    Ob P fs Γ Y Δ w0 ops k ⟨d, .binOp op xt x y yt, ty, pos, af, none⟩ (rds [(x, s1), (y, s2)]) :=
  ob_plain fun a w hb hr => by
    have e1 : a.eval x = X := h1 _ _ (opf_of hr fun t e => rds_mem (by simp [e]))
    have e2 : a.eval y = Y' := h2 _ _ (opf_of hr fun t e => rds_mem (by simp [e]))
    refine does_val (v := r) (w' := w) ?_ ⟨h w, Below.refl _ _⟩
    simp only [execOp, e1, e2]
    have := hrun w
    simp only [Sem.run_bind] at this ⊢
    rw [this]; rfl
theorem ob_un {op : UnOp} {xt : TypeId} {x : Operand} {s1 : Option Nat} {X r : Value} (h1 : ∀ v w, opf fs Γ Y Δ x s1 v w → v = X)
    (hrun : ∀ w, (Op.unary op X).run P w = .ok r w) (h : ∀ w, (nth fs k).p (own Y Δ) r w) :
    Ob P fs Γ Y Δ w0 ops k ⟨d, .unOp op xt x, ty, pos, af, none⟩ (rds [(x, s1)]) :=
  ob_plain fun a w hb hr => by
    have e1 : a.eval x = X := h1 _ _ (opf_of hr fun t e => rds_mem (by simp [e]))
    refine does_val (v := r) (w' := w) ?_ ⟨h w, Below.refl _ _⟩
    simp only [execOp, e1, Sem.run_bind, hrun w]; rfl
/-- a variable in a box is read -/
theorem ob_load {T : TypeId} {t b : Nat} {s : SP} {lay : Value → Array Value → Prop} {z : Value} (hT : TyOk P T lay z) (hm : (⟨t, b, T, s, lay⟩ : Bx) ∈ Δ) (h : ∀ v w, s.p (own Y Δ) v w → (nth fs k).p (own Y Δ) v w) :
    Ob P fs Γ Y Δ w0 ops k ⟨d, .load T (.tmp t), ty, pos, af, none⟩ [(t, none)] :=
  ob_plain fun a w hb hr => by
    have e1 : a.eval (.tmp t) = .pointer (some ⟨b, 0, none⟩) := (hr (t, none) (by simp)).2 _ hm rfl
    obtain ⟨v, cs, g1, g2, g3⟩ := hb.bs _ hm
    refine does_val (v := v) (w' := w) ?_ ⟨h _ _ g3, Below.refl _ _⟩
    simp only [execOp, e1, Sem.run_bind, hT.load w b v cs g1 g2]; rfl
/-- the address of a field of a variable in a box -/
theorem ob_fieldAddr {T : TypeId} {t b f off : Nat} {s : SP} {lay : Value → Array Value → Prop} (hm : (⟨t, b, T, s, lay⟩ : Bx) ∈ Δ)
    (hrun : ∀ w, (Instr.fieldAt T (.pointer (some ⟨b, 0, none⟩)) f).run P w = .ok (.pointer (some ⟨b, off, none⟩)) w) (h : ∀ w, (nth fs k).p (own Y Δ) (.pointer (some ⟨b, off, none⟩)) w) :
    Ob P fs Γ Y Δ w0 ops k ⟨d, .fieldAddr T (.tmp t) f, ty, pos, af, none⟩ [(t, none)] :=
  ob_plain fun a w hb hr => by
    have e1 : a.eval (.tmp t) = .pointer (some ⟨b, 0, none⟩) := (hr (t, none) (by simp)).2 _ hm rfl
    refine does_val (v := _) (w' := w) ?_ ⟨h w, Below.refl _ _⟩
    simp only [execOp, e1, Sem.run_bind, hrun w]; rfl
/-- a field of a variable in a box is read -/
theorem ob_loadF {T Tf : TypeId} {t b off u : Nat} {su : Option Nat} {s : SP} {lay : Value → Array Value → Prop} (hm : (⟨t, b, T, s, lay⟩ : Bx) ∈ Δ) (hu : ∀ v w, sf fs Γ Y Δ u su v w → v = .pointer (some ⟨b, off, none⟩))
    (hrun : ∀ w v cs, w.heap[b]? = some (.cells cs T (0, 0)) → lay v cs → s.p (own Y Δ) v w → ∃ x, (Instr.loadAt Tf (.pointer (some ⟨b, off, none⟩))).run P w = .ok x w ∧ (nth fs k).p (own Y Δ) x w) :
    Ob P fs Γ Y Δ w0 ops k ⟨d, .load Tf (.tmp u), ty, pos, af, none⟩ [(u, su)] :=
  ob_plain fun a w hb hr => by
    have e1 : a.eval (.tmp u) = .pointer (some ⟨b, off, none⟩) := hu _ _ (hr (u, su) (by simp))
    obtain ⟨v, cs, g1, g2, g3⟩ := hb.bs _ hm
    obtain ⟨x, hx, hp⟩ := hrun w v cs g1 g2 g3
    refine does_val (v := x) (w' := w) ?_ ⟨hp, Below.refl _ _⟩
    simp only [execOp, e1, Sem.run_bind, hx]; rfl
/-- any operation that only computes, of one operand -/
theorem ob_pure1 {op : Op} {x : Operand} {s1 : Option Nat} (hop : op.operands = #[x]) (h : ∀ (a : Act) w, Wd Y Δ w0 w → opf fs Γ Y Δ x s1 (a.eval x) w → ∃ r, (execOp a.eval ⟨d, op, ty, pos, af, none⟩).run P w = .ok (.value r) w ∧ (nth fs k).p (own Y Δ) r w) :
    Ob P fs Γ Y Δ w0 ops k ⟨d, op, ty, pos, af, none⟩ (rds [(x, s1)]) :=
  ob_plain fun a w hb hr => by
    obtain ⟨r, h1, h2⟩ := h a w hb (opf_of hr fun t e => rds_mem (by simp [e]))
    exact does_val h1 ⟨h2, Below.refl _ _⟩
theorem ob_extract {x i : Nat} {s1 : Option Nat} (h : ∀ v w, sf fs Γ Y Δ x s1 v w → ∃ r, (∀ w', (Instr.extract v i).run P w' = .ok r w') ∧ (nth fs k).p (own Y Δ) r w) :
    Ob P fs Γ Y Δ w0 ops k ⟨d, .extract (.tmp x) i, ty, pos, af, none⟩ [(x, s1)] :=
  ob_plain fun a w hb hr => by
    obtain ⟨r, h1, h2⟩ := h _ _ (hr (x, s1) (by simp))
    refine does_val (v := r) (w' := w) ?_ ⟨h2, Below.refl _ _⟩
    have e : a.eval (.tmp x) = gt a x := rfl
    simp only [execOp, e, Sem.run_bind, h1]; rfl
end
section
variable {P : Program} {T : TypeId} {K : IntKind} (m n : Int) (x y : Operand) (w : World)
theorem eq_i : (do eqGuard .eql T x y (.int K m) (.int K n); binOp .eql T (.int K m) (.int K n) : Sem Value).run P w = .ok (.bool (decide (m = n))) w := by
  have : (m == n) = decide (m = n) := by by_cases h : m = n <;> simp [h]
  simp [go_sem, this]
theorem ne_i : (do eqGuard .neq T x y (.int K m) (.int K n); binOp .neq T (.int K m) (.int K n) : Sem Value).run P w = .ok (.bool (decide (m ≠ n))) w := by
  have : (m != n) = decide (m ≠ n) := by by_cases h : m = n <;> simp [h]
  simp [go_sem, this]
theorem lt_i : (do eqGuard .lss T x y (.int K m) (.int K n); binOp .lss T (.int K m) (.int K n) : Sem Value).run P w = .ok (.bool (decide (m < n))) w := by
  simp [go_sem]
theorem le_i : (do eqGuard .leq T x y (.int K m) (.int K n); binOp .leq T (.int K m) (.int K n) : Sem Value).run P w = .ok (.bool (decide (m ≤ n))) w := by
  simp [go_sem]
theorem gt_i : (do eqGuard .gtr T x y (.int K m) (.int K n); binOp .gtr T (.int K m) (.int K n) : Sem Value).run P w = .ok (.bool (decide (n < m))) w := by
  simp [go_sem]
theorem ge_i : (do eqGuard .geq T x y (.int K m) (.int K n); binOp .geq T (.int K m) (.int K n) : Sem Value).run P w = .ok (.bool (decide (n ≤ m))) w := by
  simp [go_sem]
end
end Go.Proofs.Ytpplleoiehnlkaa.Fr
