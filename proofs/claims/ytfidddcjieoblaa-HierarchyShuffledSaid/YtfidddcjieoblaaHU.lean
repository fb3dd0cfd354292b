/-
  SelfJoinFree: a map that the function keeps to itself, by hand between regions that the evaluator runs.
-/
import Derived.Test.YtfidddcjieoblaaH8
import Derived.Maps.OwnSet
import Derived.StringKeys
namespace Go.Proofs.Ytfidddcjieoblaa.Gx
open Go Go.RowKit Tw B Nt
set_option linter.unusedVariables false
set_option linter.unusedSimpArgs false
set_option maxHeartbeats 4000000
set_option maxRecDepth 20000
section
variable {E : Env} {w0 w1 w2 : World} {X0 X1 : Nat → Prop} {Bo : List Value} {N : Nat} {st st' : St} {ρ : List Value} {a : Act} {w w' : World} {Q : Exit → Act → World → Prop} {P : Program} {ps : List Prop}
/-- the first operations of a region, by the evaluator -/
theorem pre_ok (hE : E.Ok) (hX0 : ∀ b, X0 b → b < w0.heap.size) {ops : Array Oper} {ds : List (Option Nat)} (hds : ∀ g : Nat, nthO ds g = (ops[g]?).map Oper.dst) {ann : List (Nat × An)} {r : List Oper} :
    ∀ {l : List Oper} {st st' : St} {ρ : List Value} {a : Act} {w : World} {ps0 ps : List Prop}, Fr w0 X0 Bo N st ρ a w → evOps E ann ds l st ps0 = some (st', ps) → AllP ps → (∀ o ∈ l, okOper N o = true) →
      (∀ ρ' a' w', Fr w0 X0 Bo N st' ρ' a' w' → wpList E.P ops Q r a' w') → wpList E.P ops Q (l ++ r) a w
  | [], st, st', ρ, a, w, ps0, ps, h, he, hp, hok, hQ => by cases he; exact hQ _ _ _ h
  | o :: l, st, st', ρ, a, w, ps0, ps, h, he, hp, hok, hQ => by
    simp only [evOps] at he
    split at he
    · rename_i st1 qs e
      obtain ⟨k, hk⟩ := evOps_pre he
      have hq : AllP qs := by rw [hk] at hp; exact hp.app.1.app.2
      refine wpList_step fun K hK => ?_
      exact evOp_ok hE h hX0 hds (hok o List.mem_cons_self) e hq fun ρ' a' w' h' => hK _ _ (pre_ok hE hX0 hds h' he hp (fun o ho => hok o (List.mem_cons_of_mem _ ho)) hQ)
    · cases he
theorem region_pre (hE : E.Ok) (hX0 : ∀ b, X0 b → b < w0.heap.size) {id : Nat} {ops : Array Oper} {ann : List (Nat × An)} {pre post : List Oper} (hl : ops.toList = pre ++ post) (h : Fr w0 X0 Bo N st ρ a w) {k : List It}
    (he : evOps E ann (dsts ops.toList) pre st [] = some (st', ps)) (hp : AllP ps) (hok : pre.all (okOper N) = true) (hQ : ∀ ρ' a' w', Fr w0 X0 Bo N st' ρ' a' w' → wpList E.P ops (sem E.P Q k) post a' w') :
    sem E.P Q (.code (.region id ops false) :: k) .normal a w := by
  refine wp_region_list ?_
  have hds : ∀ g : Nat, nthO (dsts ops.toList) g = (ops[g]?).map Oper.dst := fun g => by have := dsts_ok ops.toList g; simpa using this
  have := pre_ok hE hX0 (ops := ops) (r := post) (Q := sem E.P Q k) hds h he hp (fun o ho => List.all_eq_true.1 hok o ho) hQ
  rwa [← hl] at this
/-- what stands now is old from here on; X1 is set aside -/
theorem Fr.base (h : Fr w0 X0 Bo N st ρ a w) (hX0 : ∀ b, X0 b → b < w0.heap.size) (hb : Below w.heap.size w w2) (hX : ∀ b, X1 b → X0 b ∨ w.heap.size ≤ b) : Fr w2 X1 (mkB ρ st.ck) N st ρ a w2 := by
  have hXX : ∀ b, XX X1 ρ st.ck b → XX X0 ρ st.ck b ∨ w.heap.size ≤ b := by
    rintro b (hb | hb)
    · rcases hX b hb with h' | h'
      · exact .inl (.inl h')
      · exact .inr h'
    · exact .inl (.inr hb)
  refine ⟨h.dn, h.sz, Kept.refl w2, h.nx, h.nd, h.kn, fun x hx b hc => ⟨Nat.lt_of_lt_of_le (h.bl x hx b hc).1 hb.size, .inr (mk_mem hx hc)⟩, h.dj, fun x hx => ?_, fun t x hx => ?_, ⟨fun b hc => ?_, ?_, fun x hx T l e hl => (mk_in hx).symm⟩⟩
  · exact cm_tr (h.cs x hx) hXX (Ev.of_below hb) fun b e => hb.block b (h.bl x hx b e).1
  · exact m_st (Ev.of_below hb) (m_anti hXX (h.sl t x hx))
  · obtain ⟨x, hx, e⟩ := mk_blk hc
    have hl := h.bl x hx b e
    refine ⟨Nat.lt_of_lt_of_le hl.1 hb.size, fun h1 => ?_⟩
    rcases hX b h1 with h' | h'
    · rcases hl.2 with h3 | h3
      · exact absurd (hX0 b h') (by omega)
      · exact (h.pn.bo b h3).2 h'
    · omega
  · rw [mk_len]; exact Nat.le_of_eq h.nx
theorem Kept.mkb (h : Fr w0 X0 [] N st ρ a w) (hb : Below w.heap.size w w1) (h2 : Kept (mkB ρ st.ck) w1 w2) : Kept [] w0 w2 := by
  have h1 := h.kp.below hb
  refine ⟨h2.os.trans h1.os, h2.tape.trans h1.tape, h2.output.trans h1.output, Nat.le_trans h1.size h2.size, fun k hk hn => ?_⟩
  rw [h2.block k (Nat.lt_of_lt_of_le hk h1.size) fun hc => ?_]
  · exact h1.block k hk hn
  · obtain ⟨x, hx, e⟩ := mk_blk hc
    rcases (h.bl x hx k e).2 with h3 | h3
    · omega
    · exact inB_nil h3
theorem Kept.trans0 (h : Kept [] w0 w) (h2 : Kept [] w w2) : Kept [] w0 w2 :=
  ⟨h2.os.trans h.os, h2.tape.trans h.tape, h2.output.trans h.output, Nat.le_trans h.size h2.size, fun k hk hn => (h2.block k (Nat.lt_of_lt_of_le hk h.size) hn).trans (h.block k hk hn)⟩
theorem Fr.low (h : Fr w X1 [] N st ρ a w') (hk : Kept [] w0 w) (hX : ∀ b, X0 b → X1 b) : Fr w0 X0 [] N st ρ a w' := by
  have h := h.x0 hX
  exact ⟨h.dn, h.sz, hk.trans0 h.kp, h.nx, h.nd, h.kn, fun x hx b hb => ⟨(h.bl x hx b hb).1, (h.bl x hx b hb).2.imp (Nat.le_trans hk.size) id⟩, h.dj, h.cs, h.sl, ⟨fun b hb => (inB_nil hb).elim, Nat.zero_le _, fun x hx T l e hl => absurd hl (Nat.not_lt_zero _)⟩⟩
theorem fr_fresh {sl : List (Nat × AV)} (hd : a.defers = []) (hs : a.tmps.size = N) (hsl : ∀ t x, get? sl t = some x → m [] X1 w x [gt a t]) : Fr w X1 [] N ⟨sl, [], 0⟩ [] a w := by
  have hXX : ∀ b, XX X1 [] [] b → X1 b := by
    rintro b (hb | ⟨x, hx, _⟩)
    · exact hb
    · cases hx
  refine ⟨hd, hs, Kept.refl w, rfl, List.nodup_nil, (fun x hx => by cases hx), (fun x hx => by cases hx), (fun x hx => by cases hx), (fun x hx => by cases hx), fun t x hx => m_anti (fun b hb => .inl (hXX b hb)) (hsl t x hx), ⟨fun b hb => (inB_nil hb).elim, Nat.zero_le _, fun x hx => by cases hx⟩⟩
theorem Fr.mlt (h : Fr w0 X0 Bo N st ρ a w) {b : Nat} (hb : inB (mkB ρ st.ck) b) : b < w.heap.size := by
  obtain ⟨x, hx, e⟩ := mk_blk hb
  exact (h.bl x hx b e).1
/-- run on under a base of one's own, the steps by hand seeing it -/
theorem run_h {S : Sx} (hnb : S.nb = Bo.length) (hE : S.E.Ok) (hX0 : ∀ b, X0 b → b < w0.heap.size) (hfin : ∀ st ρ a w, finP S st → Fr w0 X0 Bo S.N st ρ a w → Q .ret a w ∧ Q .normal a w) {k : List It} {st : St}
    (h : ∀ H, HOk S H → (∀ k st, (okK S.an S.N k = true → ∀ ρ a w, Fr w0 X0 Bo S.N st ρ a w → sem S.E.P Q k .normal a w) → H k st) → H k st) : okK S.an S.N k = true → ∀ ρ a w, Fr w0 X0 Bo S.N st ρ a w → sem S.E.P Q k .normal a w :=
  h (Hs S.an S.E w0 X0 Bo S.N Q) (hs_ok hnb hE hX0 hfin) fun _ _ h => h
/-- back to the start of the call -/
theorem Fr.low2 (h : Fr w0 X0 [] N st ρ a w) (hb : Below w.heap.size w w1) {st2 : St} {ρ2 : List Value} {a2 : Act} (h2 : Fr w1 X1 (mkB ρ st.ck) N st2 ρ2 a2 w2) (hX : ∀ b, X0 b → X1 b) : Fr w0 X0 [] N st2 ρ2 a2 w2 := by
  have hk := Kept.mkb h hb h2.kp
  have h3 := h2.x0 hX
  refine ⟨h3.dn, h3.sz, hk, h3.nx, h3.nd, h3.kn, fun x hx b hc => ⟨(h3.bl x hx b hc).1, .inl ?_⟩, h3.dj, h3.cs, h3.sl, ⟨fun b hb => (inB_nil hb).elim, Nat.zero_le _, fun x hx T l e hl => absurd hl (Nat.not_lt_zero _)⟩⟩
  rcases (h3.bl x hx b hc).2 with h4 | h4
  · exact Nat.le_trans (h.kp.below hb).size h4
  · obtain ⟨y, hy, e⟩ := mk_blk h4
    rcases (h.bl y hy b e).2 with h5 | h5
    · exact h5
    · exact (inB_nil h5).elim
theorem dat_x {ck : List (Nat × CT)} {t : Ty} {d : t.den} {vs : List Value} (h : m ρ (XX X1 ρ ck) w (.dat t d) vs) : m [] X1 w (.dat t d) vs :=
  let ⟨cs, h1, h2⟩ := h; ⟨cs, rep_anti h1 fun b hb => .inl (.inl hb), h2⟩
theorem Kept.turn {b : Nat} (h : Kept [] w0 w) (ht : w.mapTurned w' b) (hb : w0.heap.size ≤ b) : Kept [] w0 w' := by
  have g := ht.grown
  obtain ⟨es, clock, es', clock', _, rfl⟩ := ht
  refine ⟨h.os, h.tape, h.output, Nat.le_trans h.size g.size, fun k hk hn => ?_⟩
  rw [g.block k (Nat.lt_of_lt_of_le hk h.size) (fun e => by cases e; omega)]
  exact h.block k hk hn
theorem Ev.turn {b : Nat} (ht : w.mapTurned w' b) (hb : X1 b) : Ev X1 w w' :=
  ⟨ht.grown.size, fun k hk hn => ht.grown.block k hk (fun e => by cases e; exact hn hb)⟩
theorem wpList_mk {ops : Array Oper} {o : Oper} {rest : List Oper} {t : TypeId} (hg : o.guard = none) (ho : o.op = .makeMap t none) (h : wpList P ops Q rest (a.put o.dst (.map (some w.heap.size))) (w.alloc (.map #[] 0))) : wpList P ops Q (o :: rest) a w := by
  refine wpList_plain hg fun K hK => ?_
  unfold Oper.wp
  simp [execOp, ho, run_makeMap, Result.andThen]
  exact hK _ _ h
theorem xx_x {ck : List (Nat × CT)} {b : Nat} (h : X1 b) : XX X1 ρ ck b := .inl h
end
/-! the map -/
abbrev Un := Unit
def nmD (l : List Str) : DataW Un := Maps.setOf (.lit (.bool true)) (l.map Lit.string)
theorem nmD_snoc (l : List Str) (x : Str) : nmD (l ++ [x]) = (nmD l).put (.string x) (.lit (.bool true)) := by
  unfold nmD
  rw [List.map_append]
  exact Maps.setOf_snoc _ _ _
theorem atKey_fold (u : DataW Un) (x : Str) (z : DataW Un) : ∀ (l : List Str) (D : DataW Un), Maps.IsMap D → ((l.map Lit.string).foldl (fun m x => m.put x u) D).atKey (.string x) z = if x ∈ l then u else D.atKey (.string x) z
  | [], D, _ => by simp
  | y :: l, D, hD => by
    rw [List.map_cons, List.foldl_cons, atKey_fold u x z l _ (hD.put _ _)]
    by_cases h : x ∈ l
    · rw [if_pos h, if_pos (List.mem_cons_of_mem _ h)]
    · rw [if_neg h]
      by_cases e : x = y
      · subst e
        rw [if_pos (List.mem_cons_self ..), Maps.atKey_put_same hD (by simp [WideAt.IsKeyLit])]
      · rw [if_neg (by rw [List.mem_cons]; rintro (h' | h'); exact e h'; exact h h'), Maps.atKey_put_other (fun h => e (by cases h; rfl))]
theorem nmD_at (l : List Str) (x : Str) : (nmD l).atKey (.string x) (.lit (.bool false)) = .lit (.bool (decide (x ∈ l))) := by
  unfold nmD Maps.setOf
  rw [atKey_fold _ _ _ _ _ Maps.isMap_empty]
  by_cases h : x ∈ l
  · rw [if_pos h, decide_eq_true h]
  · rw [if_neg h, decide_eq_false h]
    rfl
theorem plainElem_bool_inv {P : Program} {e : TypeId} (he : P.underlying e = some .bool) {v : Value} {b : Bool} {ps : List MemPlace} (h : plainElem (H := Un) P e v = some (.lit (.bool b), ps)) : v = .bool b := by
  unfold plainElem at h
  rw [he] at h
  cases v <;> simp at h
  rw [h.1]
theorem own_eq {P : Program} {k e : TypeId} {w w' : World} {b n : Nat} {D : DataW Un} (h : w.ownsMap P k (plainElem P e) b n D) (he : w'.heap[b]? = w.heap[b]?) : w'.ownsMap P k (plainElem P e) b n D := by
  obtain ⟨es, clock, h1, h2⟩ := h
  exact ⟨es, clock, by rw [he]; exact h1, h2⟩
theorem wpList_lookup_bool {P : Program} {w : World} {ops : Array Oper} {rest : List Oper} {o : Oper} {a : Act} {Q : Exit → Act → World → Prop} (hg : o.guard = none) {m x : Operand} {t : TypeId} (hop : o.op = Op.lookup t m x false)
    {k e : TypeId} (K : Maps.Keyed P k) (ht : P.underlying t = some (.map k e)) (he : P.underlying e = some .bool) (hz : (zeroValue e).run P w = .ok (.bool false) w) {b n : Nat} {D : DataW Un} (hm : a.eval m = .map (some b)) (hown : w.ownsMap P k (plainElem P e) b n D)
    {key : Value} {kl : Lit} (hx : a.eval x = key) (hkey : keyOf P k key = some kl) {B : Bool} (hB : D.atKey kl (.lit (.bool false)) = .lit (.bool B)) (hK : wpList P ops Q rest (a.put o.dst (.bool B)) w) : wpList P ops Q (o :: rest) a w := by
  refine wpList_plain hg fun K' hK' => ?_
  obtain ⟨v, ps, hrun, hv⟩ := hown.lookup K ht hz (plainElem_bool he false) hkey
  rw [hB] at hv
  have hv := plainElem_bool_inv he hv
  subst hv
  unfold Oper.wp
  simp [execOp, hop, hm, hx, hrun, Result.andThen]
  exact hK' _ _ hK
theorem wpList_update_bool {P : Program} {w : World} {ops : Array Oper} {rest : List Oper} {o : Oper} {a : Act} {Q : Exit → Act → World → Prop} (hg : o.guard = none) {m x v : Operand} {t : TypeId} (hop : o.op = Op.mapUpdate t m x v)
    {k e : TypeId} (K : Maps.Keyed P k) (ht : P.underlying t = some (.map k e)) (he : P.underlying e = some .bool) {b n : Nat} {D : DataW Un} (hm : a.eval m = .map (some b)) (hown : w.ownsMap P k (plainElem P e) b n D) (hn : n < maxLen)
    {key : Value} {kl : Lit} (hx : a.eval x = key) (hkey : keyOf P k key = some kl) {B : Bool} (hv : a.eval v = .bool B) (hK : ∀ w', w'.ownsMap P k (plainElem P e) b (n + 1) (D.put kl (.lit (.bool B))) → w.mapTurned w' b → wpList P ops Q rest (a.put o.dst undef) w') : wpList P ops Q (o :: rest) a w := by
  refine wpList_plain hg fun K' hK' => ?_
  obtain ⟨w', hrun, r1, r2⟩ := hown.store K ht hn hkey (plainElem_bool he B)
  unfold Oper.wp
  simp [execOp, hop, hm, hx, hv, hrun, Result.andThen]
  exact hK' _ _ (hK w' r1 r2)
/-- no two atoms have the same relation -/
def sjB (l : List Atom) : Bool := decide (l.map fun a => a.1).Nodup
@[go_sem] def sjfS : Spec := ⟨[cqT], fun d => (.dat .bool (sjB d.1.1), [cqP d.1])⟩
theorem sjf_ok : SpecOk Try.prog 14 sjfS := by
  refine fn_ok EH5_ok sjfS Try.func14 rfl (by decide) (N := 22) rfl (res := [.tmp 2]) rfl (by decide) [] [] [1] 100 (by kernel_rfl) ?_
  rintro ⟨c, _⟩ hw hp
  refine ⟨rfl, fun H hH => ?_⟩
  dsimp only [go_sem] at hw hp ⊢
  obtain ⟨hp, -⟩ := hp
  obtain ⟨l, cs⟩ := c
  change List Atom at l
  obtain ⟨hp1, hp2, hp3⟩ := hp
  change List.length l ≤ 1000 at hp1
  clear hw
  refine hH.raw fun w0 X0 Bo Q hnb hE hX0 hfin ρ a w hf => ?_
  have hBo : Bo = [] := List.length_eq_zero_iff.1 hnb.symm
  subst hBo
  have hmb := hf.kp.size
  refine wp_region_list ?_
  refine wpList_mk rfl rfl ?_
  have hbl : Below w.heap.size w (w.alloc (.map #[] 0)) := (Below.refl _ _).alloc (Nat.le_refl _) _
  have hown1 := World.ownsMap_made (H := Un) w Try.prog 9 (plainElem Try.prog 4)
  generalize hmbd : w.heap.size = mb at hmb hown1 ⊢
  have hX1 : ∀ b, (X0 b ∨ b = mb) → X0 b ∨ w.heap.size ≤ b := fun b hb => hb.imp id fun e => by omega
  have hf1 := hf.base (X1 := fun b => X0 b ∨ b = mb) hX0 hbl hX1
  have hsz1 : mb < (w.alloc (.map #[] 0)).heap.size := hown1.lt
  have hX1b : ∀ w2 : World, w0.heap.size ≤ w2.heap.size → mb < w2.heap.size → ∀ b, (X0 b ∨ b = mb) → b < w2.heap.size := fun w2 h1 h2 b hb => by
    rcases hb with hb | hb
    · exact Nat.lt_of_lt_of_le (hX0 b hb) h1
    · omega
  have hXw1 := hX1b _ (hf.kp.below hbl).size hsz1
  have hf2 := hf1.pure hXw1 (Below.refl _ _) (d := some 6) (r := .val (.map (some mb))) (v := .map (some mb)) (by intro t e; cases e; show 6 < 22; decide) rfl
  refine pre_ok (ann := []) (ds := dsts [_, _]) (l := [_]) (r := []) EH5_ok hXw1 (fun g => dsts_ok _ g) hf2 (ps0 := []) rfl trivial (List.all_eq_true.1 (by rfl)) fun ρ3 a3 w3 hf3 => ?_
  refine run_h (S := ⟨EH5, 22, [], [], [1, 5, 7], [.tmp 2], .dat .bool (sjB l), (mkB ρ _).length, none⟩) rfl EH5_ok hXw1 (fun st ρ' a' w' h1 h2 => hfin st ρ' a' w' h1 (hf.low2 hbl h2 (fun b hb => .inl hb))) (fun H hH hraw => ?_) (by kernel_rfl) ρ3 a3 w3 hf3
  refine hH.run 100 _ _ ?_
  dsimp only [go_sem]
  refine hraw _ _ ?_
  intro hok4 ρ4 a4 w4 hf4
  have hk4 : Kept [] w0 w4 := Kept.mkb hf hbl hf4.kp
  have hown4 : w4.ownsMap Try.prog 9 (plainElem Try.prog 4) mb 0 (nmD []) := own_eq hown1 (hf4.kp.block mb hsz1 fun h => by have := hf.mlt h; omega)
  have hle4 : w0.heap.size ≤ w4.heap.size := hk4.size
  have hst : ∀ (i : Nat) {ρ : List Value} {ck : List (Nat × CT)} {a : Act} {w : World}, m ρ (XX (fun b => X0 b ∨ b = mb) ρ ck) w (.dat (.int .i64) (i : Int)) [gt a 10] → m ρ (XX (fun b => X0 b ∨ b = mb) ρ ck) w (.dat (.int .i64) (l.length : Int)) [gt a 9] → m ρ (XX (fun b => X0 b ∨ b = mb) ρ ck) w (.dat (.slice atomT) l) [gt a 8] → m ρ (XX (fun b => X0 b ∨ b = mb) ρ ck) w (.val (.map (some mb))) [gt a 3] →
      ∀ t x, get? [(10, .dat (.int .i64) (i : Int)), (9, .dat (.int .i64) (l.length : Int)), (8, .dat (.slice atomT) l), (3, .val (.map (some mb)))] t = some x → m [] (fun b => X0 b ∨ b = mb) w x [gt a t] := by
    intro i ρ ck a w h1 h2 h3 h4 t x hx
    have hx := get?_mem hx
    simp only [List.mem_cons, Prod.mk.injEq, List.not_mem_nil, or_false] at hx
    rcases hx with ⟨rfl, rfl⟩ | ⟨rfl, rfl⟩ | ⟨rfl, rfl⟩ | ⟨rfl, rfl⟩
    · exact dat_x h1
    · exact dat_x h2
    · exact dat_x h3
    · exact h4
  refine floop (fun (k : Nat) a w => k ≤ l.length ∧ ((l.take k).map fun a => a.1).Nodup ∧ Fr w (fun b => X0 b ∨ b = mb) [] 22 ⟨[(10, .dat (.int .i64) (k : Int)), (9, .dat (.int .i64) (l.length : Int)), (8, .dat (.slice atomT) l), (3, .val (.map (some mb)))], [], 0⟩ [] a w ∧ Kept [] w0 w ∧ w.ownsMap Try.prog 9 (plainElem Try.prog 4) mb k (nmD ((l.take k).map fun a => a.1))) (fun k => l.length - k) 0
    ⟨Nat.zero_le _, List.nodup_nil, fr_fresh hf4.dn hf4.sz (hst 0 (hf4.sl 10 _ rfl) (hf4.sl 9 _ rfl) (hf4.sl 8 _ rfl) (hf4.sl 3 _ rfl)), hk4, hown4⟩ ?_
  rintro k a5 w5 ⟨hk, hnd, hf5, hk5, hown5⟩
  rw [← sem_mark]
  have hX5 := hX1b w5 hk5.size hown5.lt
  refine run_h (S := ⟨EH5, 22, [], [], [1, 5, 7], [.tmp 2], .dat .bool (sjB l), 0, none⟩) (k := .code _ :: .mark _ :: _) rfl EH5_ok hX5 (fun st ρ' a' w' h1 h2 => hfin st ρ' a' w' h1 (h2.low hk5 (fun b hb => .inl hb))) (fun H hH hraw => ?_) (by kernel_rfl) [] a5 w5 hf5
  refine hH.run 100 _ _ ?_
  dsimp only [go_sem]
  rw [Int.toNat_natCast]
  have hzn : ∀ i, l.getD i (zd atomT) = l.getD i ([], false, []) := fun _ => rfl
  refine ⟨fun d => ?_, fun d => ?_⟩ <;> simp only [decide_eq_true_eq, decide_eq_false_iff_not] at d
  · have d : k < l.length := by omega
    have hsn : (l.take (k + 1)).map (fun a => a.1) = (l.take k).map (fun a => a.1) ++ [(l.getD k (zd atomT)).1] := by rw [take_snoc (zd atomT) d, List.map_append]; rfl
    have hfull : l.map (fun a => a.1) = (l.take (k + 1)).map (fun a => a.1) ++ (l.drop (k + 1)).map (fun a => a.1) := by rw [← List.map_append, List.take_append_drop]
    refine ⟨⟨Int.natCast_nonneg _, Int.ofNat_lt.2 d⟩, hraw _ _ ?_⟩
    intro hok6 ρ6 a6 w6 hf6
    refine region_pre (pre := [_, _, _]) (post := [_]) (ann := []) EH5_ok hX5 rfl hf6 rfl trivial (by rfl) fun ρ7 a7 w7 hf7 => ?_
    generalize (l.getD k (zd atomT)) = A at hsn hf7 ⊢
    change Atom at A
    generalize hNm : (l.take k).map (fun a => a.1) = Nm at hnd hown5 hsn
    have hown7 : w7.ownsMap Try.prog 9 (plainElem Try.prog 4) mb k (nmD Nm) := own_eq hown5 (hf7.kp.block mb hown5.lt fun h => inB_nil h)
    have em := (List.cons.inj (lk_ok hf7.sl (x := .tmp 14) rfl rfl)).1
    obtain ⟨csx, ⟨ex1, ex2⟩, ex⟩ := lk_ok hf7.sl (x := .tmp 16) rfl rfl
    have ex := (List.cons.inj ex).1
    rw [ex1] at ex
    have hst9 : Try.prog.underlying 9 = some .string := by kernel_rfl
    have hst4 : Try.prog.underlying 4 = some .bool := by kernel_rfl
    have hst67 : Try.prog.underlying 67 = some (.map 9 4) := by kernel_rfl
    have hkey : keyOf Try.prog 9 (.string ⟨A.1.toArray⟩) = some (.string A.1) := by
      have := WideMaps.keyOf_string_mk (P := Try.prog) hst9 (s := ⟨A.1.toArray⟩) ex2
      simpa using this
    refine wpList_lookup_bool rfl rfl (Maps.string_keyed hst9) hst67 hst4 (by kernel_rfl) em hown7 ex hkey (nmD_at Nm A.1) ?_
    have hf8 := hf7.pure hX5 (Below.refl _ _) (d := some 17) (r := .dat .bool (decide (A.1 ∈ Nm))) (v := .bool (decide (A.1 ∈ Nm))) (by intro t e; cases e; show 17 < 22; decide) m_bool_of
    refine wpList_nil ?_
    refine run_h (S := ⟨EH5, 22, [], [], [1, 5, 7], [.tmp 2], .dat .bool (sjB l), 0, none⟩) rfl EH5_ok hX5 (fun st ρ' a' w' h1 h2 => hfin st ρ' a' w' h1 (h2.low hk5 (fun b hb => .inl hb))) (fun H hH hraw => ?_) (by kernel_rfl) _ _ _ hf8
    refine hH.run 100 _ _ ?_
    dsimp only [go_sem]
    refine ⟨fun e => ?_, fun e => hraw _ _ ?_⟩
    · have e := of_decide_eq_true e
      refine ⟨?_, trivial⟩
      unfold sjB
      rw [decide_eq_false]
      intro h
      rw [hfull, hsn, List.append_assoc, List.nodup_append] at h
      exact h.2.2 _ e _ (List.mem_cons_self ..) rfl
    · intro hok9 ρ9 a9 w9 hf9
      have e := of_decide_eq_false e
      refine region_pre (pre := [_, _, _]) (post := [_]) (ann := []) EH5_ok hX5 rfl hf9 rfl trivial (by rfl) fun ρ10 a10 w10 hf10 => ?_
      have hown10 : w10.ownsMap Try.prog 9 (plainElem Try.prog 4) mb k (nmD Nm) := own_eq hown5 (hf10.kp.block mb hown5.lt fun h => inB_nil h)
      have em := (List.cons.inj (lk_ok hf10.sl (x := .tmp 18) rfl rfl)).1
      obtain ⟨csx, ⟨ex1, ex2⟩, ex⟩ := lk_ok hf10.sl (x := .tmp 20) rfl rfl
      have ex := (List.cons.inj ex).1
      rw [ex1] at ex
      refine wpList_update_bool rfl rfl (Maps.string_keyed hst9) hst67 hst4 em hown10 (by unfold maxLen; omega) ex hkey (B := true) rfl fun w11 hown11 hturn => ?_
      refine wpList_nil ?_
      have hk10 : Kept [] w0 w10 := hk5.trans0 hf10.kp
      have hk11 := hk10.turn hturn (by omega)
      have hX11 := hX1b w11 hk11.size hown11.lt
      have hev := Ev.turn (X1 := fun b => X0 b ∨ b = mb) hturn (.inr rfl)
      have hsl := fun t x (h : get? [(10, .dat (.int .i64) (k : Int)), (9, .dat (.int .i64) (l.length : Int)), (8, .dat (.slice atomT) l), (3, .val (.map (some mb)))] t = some x) => m_st hev (hst k (hf10.sl 10 _ rfl) (hf10.sl 9 _ rfl) (hf10.sl 8 _ rfl) (hf10.sl 3 _ rfl) t x h)
      have hf11 : Fr w11 (fun b => X0 b ∨ b = mb) [] 22 ⟨[(10, .dat (.int .i64) (k : Int)), (9, .dat (.int .i64) (l.length : Int)), (8, .dat (.slice atomT) l), (3, .val (.map (some mb)))], [], 0⟩ [] a10 w11 := fr_fresh hf10.dn hf10.sz hsl
      refine run_h (S := ⟨EH5, 22, [], [], [1, 5, 7], [.tmp 2], .dat .bool (sjB l), 0, none⟩) rfl EH5_ok hX11 (fun st ρ' a' w' h1 h2 => hfin st ρ' a' w' h1 (h2.low hk11 (fun b hb => .inl hb))) (fun H hH hraw => ?_) (by kernel_rfl) _ _ _ hf11
      refine hH.run 100 _ _ ?_
      dsimp only [go_sem]
      refine ⟨by rw [inR_i64]; omega, hraw _ _ ?_⟩
      intro hok12 ρ12 a12 w12 hf12
      refine ⟨k + 1, ⟨by omega, ?_, fr_fresh hf12.dn hf12.sz ?_, hk11.trans0 hf12.kp, ?_⟩, by omega⟩
      · rw [hsn, List.nodup_append]
        exact ⟨hnd, by simp, fun a ha b hb h => e (by rw [List.mem_singleton] at hb; rw [← hb, ← h]; exact ha)⟩
      · refine hst (k + 1) ?_ (hf12.sl 9 _ rfl) (hf12.sl 8 _ rfl) (hf12.sl 3 _ rfl)
        exact hf12.sl 10 _ rfl
      · rw [hsn, nmD_snoc]
        exact own_eq hown11 (hf12.kp.block mb hown11.lt fun h => inB_nil h)
  · have d : k = l.length := by omega
    subst d
    rw [List.take_length] at hnd
    refine ⟨?_, trivial⟩
    unfold sjB
    rw [decide_eq_true hnd]
end Go.Proofs.Ytfidddcjieoblaa.Gx
