/-
  A region that draws its order and makes two new variables: by hand.
-/
import Derived.Test.YthcbjhmdpehooaaGreatMR2
namespace Go.Proofs.YthcbjhmdpehooaaGreat.Gx
open Go Go.RowKit Tw B Nt
set_option linter.unusedVariables false
set_option linter.unusedSimpArgs false
set_option maxHeartbeats 4000000
set_option maxRecDepth 20000
section
variable {E : Env} {w0 w1 w2 : World} {X0 Y : Nat → Prop} {Bo : List Value} {N : Nat} {st st' : St} {ρ : List Value} {a : Act} {w w' : World} {P : Program} {ps : List Prop}
theorem Fr.adopt2 (h : Fr w0 (fun b => X0 b ∨ Y b) Bo N st ρ a w) {b : Nat} {T : TypeId} {l : AV} {cs : Array Value} (hb : w.heap[b]? = some (.cells cs T (0, 0))) (hnew : w0.heap.size ≤ b) (hY : Y b) (hno : ¬ X0 b) (hown : ∀ x ∈ st.ck, ¬ inC ρ x.1 b)
    (hL : isL l = true) (hm : m ρ (XX (fun b => X0 b ∨ Y b) ρ st.ck) w l cs.toList) (h1 : ∀ c ∈ cs.toList, c.oneCell' = true) {d : Nat} (hd : d < N) {Y' : Nat → Prop} (hY' : ∀ k, Y' k → Y k) (hYb : ¬ Y' b) (hg0 : gt a d = .pointer (some ⟨b, 0, none⟩)) :
    Fr w0 (fun b => X0 b ∨ Y' b) Bo N ⟨(d, .ref st.nx 0) :: st.sl, (st.nx, .box T l) :: st.ck, st.nx + 1⟩ (ρ ++ [.pointer (some ⟨b, 0, none⟩)]) a w := by
 have hk := h.kn
 have hn := h.nx
 have hg : (ρ ++ [Value.pointer (some ⟨b, 0, none⟩)])[st.nx]? = some (.pointer (some ⟨b, 0, none⟩)) := by
  rw [List.getElem?_append_right (by omega), hn]; simp
 have hnb : ∀ {k : Nat}, inC (ρ ++ [Value.pointer (some ⟨b, 0, none⟩)]) st.nx k → b = k := fun h => by rw [inC_of hg] at h; exact Option.some.inj h
 have hold : ∀ x ∈ st.ck, inC (ρ ++ [Value.pointer (some ⟨b, 0, none⟩)]) x.1 = inC ρ x.1 := fun x hx => blkO_app (by rw [hn]; exact hk x hx)
 have hXX : ∀ k, XX (fun b => X0 b ∨ Y' b) (ρ ++ [Value.pointer (some ⟨b, 0, none⟩)]) ((st.nx, .box T l) :: st.ck) k → XX (fun b => X0 b ∨ Y b) ρ st.ck k := by
  rintro k ((h' | h') | ⟨x, hx, h'⟩)
  ·exact .inl (.inl h')
  ·exact .inl (.inr (hY' k h'))
  ·rcases List.mem_cons.1 hx with rfl | hx
   ·have h' := hnb h'; subst h'; exact .inl (.inr hY)
   ·rw [hold x hx] at h'; exact .inr ⟨x, hx, h'⟩
 have tr : ∀ {x : AV} {vs : List Value}, m ρ (XX (fun b => X0 b ∨ Y b) ρ st.ck) w x vs → m (ρ ++ [Value.pointer (some ⟨b, 0, none⟩)]) (XX (fun b => X0 b ∨ Y' b) (ρ ++ [Value.pointer (some ⟨b, 0, none⟩)]) ((st.nx, .box T l) :: st.ck)) w x vs := fun hx => m_app' _ (m_anti (fun k hk => .inl (hXX k hk)) hx)
 refine ⟨h.dn, h.sz, h.kp, by simp [hn], ?_, ?_, ?_, ?_, ?_, ?_, ?_⟩
 ·simp only [List.map_cons, List.nodup_cons]
  refine ⟨fun hm => ?_, h.nd⟩
  obtain ⟨y, hy, e⟩ := List.mem_map.1 hm
  have := hk y hy
  omega
 ·intro y hy
  rcases List.mem_cons.1 hy with rfl | hy
  ·exact Nat.lt_succ_self _
  ·exact Nat.lt_succ_of_lt (hk y hy)
 ·intro y hy k e
  rcases List.mem_cons.1 hy with rfl | hy
  ·have e := hnb e; subst e; exact ⟨heap_lt hb, .inl hnew⟩
  ·rw [hold y hy] at e; exact h.bl y hy k e
 ·intro y hy z hz hne k e1 e2
  rcases List.mem_cons.1 hy with rfl | hy <;> rcases List.mem_cons.1 hz with rfl | hz
  ·exact hne rfl
  ·have e1 := hnb e1; subst e1
   rw [hold z hz] at e2
   exact hown z hz e2
  ·have e2 := hnb e2; subst e2
   rw [hold y hy] at e1
   exact hown y hy e1
  ·rw [hold y hy] at e1
   rw [hold z hz] at e2
   exact h.dj y hy z hz hne k e1 e2
 ·intro y hy
  rcases List.mem_cons.1 hy with rfl | hy
  ·exact ⟨hL, b, cs, hg, hb, tr hm, h1⟩
  ·exact cm_app _ (cm_tr (h.cs y hy) (fun k hk => .inl (hXX k hk)) ⟨Nat.le_refl _, fun _ _ _ => rfl⟩ fun _ _ => rfl)
 ·intro t y hy
  rcases Nat.decEq d t with e | e
  ·have hb2 : Nat.beq d t = false := by
     cases hq : Nat.beq d t with
     | false => rfl
     | true => exact absurd (Nat.eq_of_beq_eq_true hq) e
   simp only [get?, hb2] at hy
   exact tr (h.sl t y hy)
  ·subst e
   simp only [get?, Nat.beq_refl] at hy
   cases hy
   rw [hg0]
   exact ⟨_, b, hg, rfl, rfl⟩
 ·have hp := h.pn.more hn hk (.pointer (some ⟨b, 0, none⟩)) (.box T l)
  exact ⟨fun b hb => ⟨(hp.bo b hb).1, fun hx => (hp.bo b hb).2 (hx.imp id (hY' b))⟩, hp.le, hp.pn⟩
theorem Fr.aside {X2 : Nat → Prop} (h : Fr w0 X0 Bo N st ρ a w) (hb : Below w.heap.size w w2) (hX : ∀ b, X2 b → X0 b ∨ w.heap.size ≤ b) (hB : ∀ b, X2 b → w0.heap.size ≤ b ∨ X0 b) : Fr w0 X2 Bo N st ρ a w2 := by
 have hE : Ev (XX X0 ρ st.ck) w w2 := Ev.of_below hb
 have hXX : ∀ b, XX X2 ρ st.ck b → XX X0 ρ st.ck b ∨ w.heap.size ≤ b := by
  rintro b (hb | hb)
  ·rcases hX b hb with h' | h'
   ·exact .inl (.inl h')
   ·exact .inr h'
  ·exact .inl (.inr hb)
 refine ⟨h.dn, h.sz, h.kp.below hb, h.nx, h.nd, h.kn, fun x hx b e => ?_, h.dj, fun x hx => ?_, fun t x hx => m_tr (h.sl t x hx) hXX hE, ⟨fun b hb => ⟨(h.pn.bo b hb).1, fun hx => ?_⟩, h.pn.le, h.pn.pn⟩⟩
 ·have := h.bl x hx b e; exact ⟨Nat.lt_of_lt_of_le this.1 hb.size, this.2⟩
 ·exact cm_tr (h.cs x hx) hXX hE fun b e => hb.block b (h.bl x hx b e).1
 ·rcases hB b hx with h' | h'
  ·have := (h.pn.bo b hb).1; omega
  ·exact (h.pn.bo b hb).2 h'
theorem does_skip9 {σ : Operand → Value} {o : Oper} {R : Value → World → Prop} (h : (execOp σ o).run P w = .ok .skip w') (hR : R undef w') : Does P σ o w R := by
 unfold Does; rw [h]; exact hR
theorem ptr_inj {b c : Nat} (h : Value.pointer (some ⟨b, 0, none⟩) = .pointer (some ⟨c, 0, none⟩)) : b = c := by
 injection h with h; injection h with h; injection h
theorem two_ok (hE : E.Ok) (hX0 : ∀ b, X0 b → b < w0.heap.size) (h : Fr w0 X0 Bo N st ρ a w) {rid : Nat} {o0 o1 o2 o3 o4 o5 o6 o7 : Oper} {d0 d2 d1 d3 d4 d5 s : Nat} {T : TypeId} {te : TE} (hT : E.te T = some te)
    (g0 : o0.guard = none) (g1 : o1.guard = none) (g2 : o2.guard = none) (g3 : o3.guard = none) (g4 : o4.guard = none) (g5 : o5.guard = none) (g6 : o6.guard = none) (g7 : o7.guard = none)
    (p4 : o4.op = .alloc T) (p5 : o5.op = .alloc T) (p6 : o6.op = .store T (.tmp d4) (.tmp d1)) (p7 : o7.op = .store T (.tmp d5) (.tmp d3))
    (k0 : okOp o0.op = true) (k1 : okOp o1.op = true) (k2 : okOp o2.op = true) (k3 : okOp o3.op = true)
    (t0 : ∀ t, .tmp t ∈ opL o0.op → t = s) (t1 : ∀ t, .tmp t ∈ opL o1.op → t = d0) (t2 : ∀ t, .tmp t ∈ opL o2.op → t = s) (t3 : ∀ t, .tmp t ∈ opL o3.op → t = d2)
    {an : An} {A0 A1 A2 A3 C1 C3 : AV} {ps0 ps1 ps2 ps3 : List Prop} {ds : List (Option Nat)} (hds : ∀ g : Nat, nthO ds g = ([o0, o1, o2, o3, o4, o5, o6, o7].toArray[g]?).map Oper.dst)
    (e0 : ev1 E st.sl st.ck ds o0 an = some (A0, ps0)) (e1 : ev1 E [(d0, A0)] st.ck ds o1 an = some (A1, ps1)) (e2 : ev1 E st.sl st.ck ds o2 an = some (A2, ps2)) (e3 : ev1 E [(d2, A2)] st.ck ds o3 an = some (A3, ps3))
    (c1 : cellsA te.ty A1 .nil = some C1) (c3 : cellsA te.ty A3 .nil = some C3) (q0 : AllP ps0) (q1 : AllP ps1) (q2 : AllP ps2) (q3 : AllP ps3)
    (hchk : chk [o0, o1, o2, o3, o4, o5, o6, o7] [0, 1, 0, 4, 0, 0, 51, 127] [[(s, none)], [(d0, some 0)], [(s, none)], [(d2, some 2)], [], [], [(d4, some 4), (d1, some 1)], [(d5, some 5), (d3, some 3)]] N = true)
    (htl : tailB [o0, o1, o2, o3, o4, o5, o6, o7] [0, 1, 0, 4, 0, 0, 51, 127] 8 = true)
    (l4 : lw ([o0, o1, o2, o3, o4, o5, o6, o7].map (·.dst)) (fun _ => true) d4 8 = some 4) (l5 : lw ([o0, o1, o2, o3, o4, o5, o6, o7].map (·.dst)) (fun _ => true) d5 8 = some 5) (hd4 : d4 < N) (hd5 : d5 < N)
    {sl : List (Nat × AV)} (hsl : ∀ t x, get? sl t = some x → get? st.sl t = some x ∧ lw ([o0, o1, o2, o3, o4, o5, o6, o7].map (·.dst)) (fun _ => true) t 8 = none ∧ t < N)
    {Q : Exit → Act → World → Prop} (hQ : ∀ ρ' a' w', Fr w0 X0 Bo N ⟨(d5, .ref (st.nx + 1) 0) :: (d4, .ref st.nx 0) :: sl, (st.nx + 1, .box T C3) :: (st.nx, .box T C1) :: st.ck, st.nx + 2⟩ ρ' a' w' → Q .normal a' w') :
    (Code.region rid #[o0, o1, o2, o3, o4, o5, o6, o7] true).wp E.P Q a w := by
 obtain ⟨X, hXd⟩ : ∃ X, XX X0 ρ st.ck = X := ⟨_, rfl⟩
 have hw := h.wd hX0
 rw [hXd] at hw
 have hf := hE.fact hT
 obtain ⟨inf, hi, hz, _, _⟩ := hf.info
 have hz2 : (te.ty.wrap (zc te.ty)).cells = (zc te.ty).toArray := wrap_cells (zc_len _) (zc_one _)
 let NB : (Nat → Bool) → (Nat → Value) → Nat → Prop := fun L val b => (L 4 = true ∧ val 4 = .pointer (some ⟨b, 0, none⟩)) ∨ (L 5 = true ∧ val 5 = .pointer (some ⟨b, 0, none⟩))
 let XL : (Nat → Bool) → (Nat → Value) → Nat → Prop := fun L val b => X b ∨ NB L val b
 let VV : (Nat → Bool) → (Nat → Value) → World → Nat → Nat → AV → Prop := fun L val w' i k C => L i = true → ∃ b cs, val i = .pointer (some ⟨b, 0, none⟩) ∧ w.heap.size ≤ b ∧ w'.heap[b]? = some (.cells cs T (0, 0)) ∧ cs.size = te.ty.size ∧ (L k = true → isL C = true ∧ m ρ (XL L val) w' C cs.toList ∧ ∀ c ∈ cs.toList, c.oneCell' = true)
 let J : (Nat → Bool) → (Nat → Value) → World → Prop := fun L val w' => Below w.heap.size w w' ∧ (L 0 = true → m ρ (XL L val) w' A0 [val 0]) ∧ (L 1 = true → m ρ (XL L val) w' A1 [val 1]) ∧ (L 2 = true → m ρ (XL L val) w' A2 [val 2]) ∧ (L 3 = true → m ρ (XL L val) w' A3 [val 3]) ∧
  VV L val w' 4 6 C1 ∧ VV L val w' 5 7 C3 ∧ (L 4 = true → L 5 = true → val 4 ≠ val 5) ∧ (L 6 = true → L 4 = true) ∧ (L 7 = true → L 5 = true)
 have hXsz : ∀ b, X b → b < w.heap.size := hw.lt
 have hzs : (zc te.ty).toArray.size = te.ty.size := by simp [zc_len]
 have nbge : ∀ {L : Nat → Bool} {val : Nat → Value} {w' : World}, J L val w' → ∀ b, NB L val b → w.heap.size ≤ b ∧ b < w'.heap.size := by
  rintro L val w' ⟨_, _, _, _, _, m4, m5, _⟩ b (⟨h1, h2⟩ | ⟨h1, h2⟩)
  ·obtain ⟨b', cs, b1, b2, b3, _⟩ := m4 h1
   have := ptr_inj (b1.symm.trans h2)
   subst this
   exact ⟨b2, heap_lt b3⟩
  ·obtain ⟨b', cs, b1, b2, b3, _⟩ := m5 h1
   have := ptr_inj (b1.symm.trans h2)
   subst this
   exact ⟨b2, heap_lt b3⟩
 have pure : ∀ {L : Nat → Bool} {val : Nat → Value} {w' : World} (j : Nat) (A : AV) (v : Value) (w'' : World), j < 4 → J L val w' → L j = false → (j = 0 → A = A0) → (j = 1 → A = A1) → (j = 2 → A = A2) → (j = 3 → A = A3) → m ρ (XL L val) w'' A [v] → Below w'.heap.size w' w'' → J (up L j) (upv val j v) w'' := by
  rintro L val w' j A v w'' hj ⟨h1, m0, m1, m2, m3, m4, m5, m6, m7, m8⟩ hL a0 a1 a2 a3 hm hb
  have n4 : ∀ i, 4 ≤ i → up L j i = L i := fun i hi => by simp [up, show i ≠ j by omega]
  have n5 : ∀ i, 4 ≤ i → upv val j v i = val i := fun i hi => by simp [upv, show i ≠ j by omega]
  have hXL : XL (up L j) (upv val j v) = XL L val := by
   show (fun b => X b ∨ _) = fun b => X b ∨ _
   funext b
   show (X b ∨ (up L j 4 = true ∧ upv val j v 4 = _) ∨ (up L j 5 = true ∧ upv val j v 5 = _)) = _
   rw [n4 4 (by omega), n4 5 (by omega), n5 4 (by omega), n5 5 (by omega)]
  have hst : ∀ {y vs}, m ρ (XL L val) w' y vs → m ρ (XL L val) w'' y vs := fun hh => m_st (Ev.of_below hb) hh
  have one : ∀ (i : Nat) (B : AV), (j = i → A = B) → (L i = true → m ρ (XL L val) w' B [val i]) → up L j i = true → m ρ (XL (up L j) (upv val j v)) w'' B [upv val j v i] := by
   intro i B hB hi hu
   rw [hXL]
   by_cases e : i = j
   ·subst e
    simp only [upv, if_true]
    rw [← hB rfl]; exact hm
   ·simp only [up, e, if_false] at hu
    simp only [upv, e, if_false]
    exact hst (hi hu)
  have two : ∀ {i k : Nat} {C : AV}, 4 ≤ i → 4 ≤ k → VV L val w' i k C → VV (up L j) (upv val j v) w'' i k C := by
   intro i k C hi hk hv hu
   rw [n4 i hi] at hu
   obtain ⟨b, cs, b1, b2, b3, b4, b5⟩ := hv hu
   rw [n5 i hi, n4 k hk, hXL]
   exact ⟨b, cs, b1, b2, (hb.block b (heap_lt b3)).trans b3, b4, fun h6 => ⟨(b5 h6).1, hst (b5 h6).2.1, (b5 h6).2.2⟩⟩
  refine ⟨h1.trans (hb.mono h1.size), one 0 A0 a0 m0, one 1 A1 a1 m1, one 2 A2 a2 m2, one 3 A3 a3 m3, two (by omega) (by omega) m4, two (by omega) (by omega) m5, fun u1 u2 => ?_, fun hu => ?_, fun hu => ?_⟩
  ·rw [n4 4 (by omega)] at u1
   rw [n4 5 (by omega)] at u2
   rw [n5 4 (by omega), n5 5 (by omega)]
   exact m6 u1 u2
  ·rw [n4 6 (by omega)] at hu
   rw [n4 4 (by omega)]
   exact m7 hu
  ·rw [n4 7 (by omega)] at hu
   rw [n4 5 (by omega)]
   exact m8 hu
 have wdn : ∀ {L : Nat → Bool} {val : Nat → Value} {w' : World}, J L val w' → Wd 0 ρ (XL L val) st.ck w' := fun {L val w'} hJ => ⟨fun b hx => by
     rcases hx with hx | hx
     ·exact Nat.lt_of_lt_of_le (hXsz b hx) hJ.1.size
     ·exact (nbge hJ b hx).2, fun x hx => cm_tr (hw.cs x hx) (fun b hb => by
     rcases hb with hb | hb
     ·exact .inl hb
     ·exact .inr (nbge hJ b hb).1) (Ev.of_below hJ.1) fun b e => hJ.1.block b (h.bl x hx b e).1⟩
 have base : ∀ {L : Nat → Bool} {val : Nat → Value} {w' : World} {a' : Act} {t : Nat}, J L val w' → gt a' t = gt a t → ∀ x, get? st.sl t = some x → m ρ (XL L val) w' x [gt a' t] := by
  intro L val w' a' t hJ hg x hx
  rw [hg]
  have := h.sl t x hx
  rw [hXd] at this
  exact m_tr this (fun b hb => by
   rcases hb with hb | hb
   ·exact .inl hb
   ·exact .inr (nbge hJ b hb).1) (Ev.of_below hJ.1)
 have news : ∀ {L : Nat → Bool} {val : Nat → Value} {w' : World} (j : Nat), (j = 4 ∨ j = 5) → J L val w' → L j = false → L 6 = false ∨ j = 5 → L 7 = false ∨ j = 4 → J (up L j) (upv val j (.pointer (some ⟨w'.heap.size, 0, none⟩))) (w'.alloc (.cells (zc te.ty).toArray T)) := by
  rintro L val w' j hj ⟨h1, m0, m1, m2, m3, m4, m5, m6, m7, m8⟩ hL h6 h7
  have hb := below_alloc w' (.cells (zc te.ty).toArray T)
  have hcell : (w'.alloc (.cells (zc te.ty).toArray T)).heap[w'.heap.size]? = some (.cells (zc te.ty).toArray T (0, 0)) := heap_alloc_new w' _
  generalize hW : w'.alloc (.cells (zc te.ty).toArray T) = W at hb hcell ⊢
  generalize hV : Value.pointer (some ⟨w'.heap.size, 0, none⟩) = V at *
  have hn : ∀ i, i ≠ j → up L j i = L i := fun i hi => by simp [up, hi]
  have hv : ∀ i, i ≠ j → upv val j V i = val i := fun i hi => by simp [upv, hi]
  have hj' : up L j j = true := by simp [up]
  have hvj : upv val j V j = V := by simp [upv]
  have hXX : ∀ b, XL (up L j) (upv val j V) b → XL L val b ∨ w'.heap.size ≤ b := by
   have hk : ∀ i b, (up L j i = true ∧ upv val j V i = .pointer (some ⟨b, 0, none⟩)) → (L i = true ∧ val i = .pointer (some ⟨b, 0, none⟩)) ∨ w'.heap.size ≤ b := by
    intro i b ⟨u1, u2⟩
    by_cases e : i = j
    ·subst e
     rw [hvj, ← hV] at u2
     exact .inr (Nat.le_of_eq (ptr_inj u2))
    ·rw [hn i e] at u1
     rw [hv i e] at u2
     exact .inl ⟨u1, u2⟩
   rintro b (hx | hx | hx)
   ·exact .inl (.inl hx)
   ·exact (hk 4 b hx).imp (fun hx => .inr (.inl hx)) id
   ·exact (hk 5 b hx).imp (fun hx => .inr (.inr hx)) id
  have hst : ∀ {y vs}, m ρ (XL L val) w' y vs → m ρ (XL (up L j) (upv val j V)) W y vs := fun hh => m_tr hh hXX (Ev.of_below hb)
  have one : ∀ i, i < 4 → ∀ B, (L i = true → m ρ (XL L val) w' B [val i]) → up L j i = true → m ρ (XL (up L j) (upv val j V)) W B [upv val j V i] := by
   intro i hi B hb2 hu
   rw [hn i (by omega)] at hu
   rw [hv i (by omega)]
   exact hst (hb2 hu)
  have old : ∀ {i k : Nat} {C : AV}, i ≠ j → k ≠ j → VV L val w' i k C → VV (up L j) (upv val j V) W i k C := by
   intro i k C hij hkj hold hu
   rw [hn i hij] at hu
   obtain ⟨b, cs, b1, b2, b3, b4, b5⟩ := hold hu
   rw [hv i hij, hn k hkj]
   exact ⟨b, cs, b1, b2, (hb.block b (heap_lt b3)).trans b3, b4, fun h6 => ⟨(b5 h6).1, hst (b5 h6).2.1, (b5 h6).2.2⟩⟩
  have nw : ∀ {k : Nat} {C : AV}, k ≠ j → L k = false → VV (up L j) (upv val j V) W j k C := by
   intro k C hk hL _
   refine ⟨w'.heap.size, _, by rw [hvj, hV], h1.size, hcell, hzs, fun h8 => ?_⟩
   rw [hn k hk, hL] at h8
   cases h8
  rcases hj with rfl | rfl
  ·refine ⟨h1.trans (hb.mono h1.size), one 0 (by omega) _ m0, one 1 (by omega) _ m1, one 2 (by omega) _ m2, one 3 (by omega) _ m3, nw (by omega) (h6.resolve_right (by omega)), old (by omega) (by omega) m5, fun _ u2 => ?_, fun _ => hj', fun h8 => by rw [hn 7 (by omega)] at h8; rw [hn 5 (by omega)]; exact m8 h8⟩
   rw [hn 5 (by omega)] at u2
   rw [hvj, hv 5 (by omega)]
   obtain ⟨b, cs, b1, b2, b3, _⟩ := m5 u2
   rw [b1, ← hV]
   intro e
   have := ptr_inj e
   have := heap_lt b3
   omega
  ·refine ⟨h1.trans (hb.mono h1.size), one 0 (by omega) _ m0, one 1 (by omega) _ m1, one 2 (by omega) _ m2, one 3 (by omega) _ m3, old (by omega) (by omega) m4, nw (by omega) (h7.resolve_right (by omega)), fun u1 _ => ?_, fun h8 => by rw [hn 6 (by omega)] at h8; rw [hn 4 (by omega)]; exact m7 h8, fun _ => hj'⟩
   rw [hn 4 (by omega)] at u1
   rw [hvj, hv 4 (by omega)]
   obtain ⟨b, cs, b1, b2, b3, _⟩ := m4 u1
   rw [b1, ← hV]
   intro e
   have := ptr_inj e
   have := heap_lt b3
   omega
 have sto : ∀ {L : Nat → Bool} {val : Nat → Value} {w' : World} {a' : Act} {dp dv iv jv kv : Nat} {A C : AV} {o : Oper}, J L val w' → o.op = .store T (.tmp dp) (.tmp dv) → gt a' dp = val jv → gt a' dv = val iv → L jv = true → (jv = 4 ∨ jv = 5) → VV L val w' jv kv C → m ρ (XL L val) w' A [val iv] → cellsA te.ty A .nil = some C →
     ∃ b w'', val jv = .pointer (some ⟨b, 0, none⟩) ∧ (execOp a'.eval o).run E.P w' = .ok .skip w'' ∧ w''.heap[b]? = some (.cells (val iv).cells T (0, 0)) ∧ (∀ k, k ≠ b → w''.heap[k]? = w'.heap[k]?) ∧ Below w.heap.size w w'' ∧ Ev (XL L val) w' w'' ∧ w.heap.size ≤ b ∧ isL C = true ∧ (val iv).cells.size = te.ty.size ∧ (∀ c ∈ (val iv).cells.toList, c.oneCell' = true) ∧ m ρ (XL L val) w'' C (val iv).cells.toList := by
  intro L val w' a' dp dv iv jv kv A C o hJ hop hgp hgv hLj hjv hVV hm hc
  obtain ⟨b, cs, b1, b2, b3, b4, _⟩ := hVV hLj
  obtain ⟨r1, r2, r3, r4, r5⟩ := cellsA_ok hc rfl hm (show m ρ (XL L val) w' .nil [] from rfl)
  rw [List.append_nil] at r1
  have hrun := run_storeVar (P := E.P) (w := w') hf (off := 0) b3 (cs := (val iv).cells.toList) (by simpa using r2) r4 (by omega)
  rw [← r5] at hrun
  have hrow : (cs.toList.take 0 ++ (val iv).cells.toList ++ cs.toList.drop (0 + te.ty.size)).toArray = (val iv).cells := by
   rw [List.take_zero, List.nil_append, Nat.zero_add, List.drop_of_length_le (by simpa using Nat.le_of_eq b4), List.append_nil]
  rw [hrow] at hrun
  have hoth : ∀ k, k ≠ b → (w'.setRow b (val iv).cells).heap[k]? = w'.heap[k]? := fun k hk => setRow_other w' b k _ hk
  have hsz : (w'.setRow b (val iv).cells).heap.size = w'.heap.size := size_setRow _ _ _
  have hNB : NB L val b := by
   rcases hjv with rfl | rfl
   ·exact .inl ⟨hLj, b1⟩
   ·exact .inr ⟨hLj, b1⟩
  have hev : Ev (XL L val) w' (w'.setRow b (val iv).cells) := ⟨Nat.le_of_eq hsz.symm, fun k _ hk => hoth k fun e => hk (by rw [e]; exact .inr hNB)⟩
  refine ⟨b, w'.setRow b (val iv).cells, b1, ?_, setRow_heap w' b cs _ T _ b3, hoth, ⟨hJ.1.os, hJ.1.tape, hJ.1.output, by rw [hsz]; exact hJ.1.size, fun k hk => (hoth k (by omega)).trans (hJ.1.block k hk)⟩, hev, b2, r3, r2, r4, m_st hev r1⟩
  obtain ⟨dst, op, ty, pos, af, gd⟩ := o
  dsimp only at hop
  subst hop
  have x1 : a'.eval (.tmp dp) = .pointer (some ⟨b, 0, none⟩) := hgp.trans b1
  have x2 : a'.eval (.tmp dv) = val iv := hgv
  simp only [execOp, x1, x2, Instr.storeAt, Instr.sureAddr, Sem.run_bind, Sem.run_pure, Result.andThen_ok, hrun]
 have sto2 : ∀ {L : Nat → Bool} {val : Nat → Value} {w' w'' : World} {b j jv i2 k2 : Nat} {C C2 : AV} {cs : Array Value}, J L val w' → (j = 6 ∧ jv = 4 ∧ i2 = 5 ∧ k2 = 7 ∧ C = C1 ∧ C2 = C3 ∨ j = 7 ∧ jv = 5 ∧ i2 = 4 ∧ k2 = 6 ∧ C = C3 ∧ C2 = C1) → L jv = true → val jv = .pointer (some ⟨b, 0, none⟩) → w''.heap[b]? = some (.cells cs T (0, 0)) → (∀ k, k ≠ b → w''.heap[k]? = w'.heap[k]?) → Below w.heap.size w w'' → Ev (XL L val) w' w'' → w.heap.size ≤ b → isL C = true → cs.size = te.ty.size → (∀ c ∈ cs.toList, c.oneCell' = true) → m ρ (XL L val) w'' C cs.toList → VV L val w' i2 k2 C2 → J (up L j) (upv val j undef) w'' := by
  rintro L val w' w'' b j jv i2 k2 C C2 cs ⟨h1, m0, m1, m2, m3, m4, m5, m6, m7, m8⟩ hcase hLj hvj s2 s3 sb hev hge s5 s6 s7 s8 hV2
  have hj67 : j = 6 ∨ j = 7 := by omega
  have n4 : ∀ i, i < 6 → up L j i = L i := fun i hi => by simp [up, show i ≠ j by omega]
  have n5 : ∀ i, i < 6 → upv val j undef i = val i := fun i hi => by simp [upv, show i ≠ j by omega]
  have hXL : XL (up L j) (upv val j undef) = XL L val := by
   show (fun b => X b ∨ _) = fun b => X b ∨ _
   funext b
   show (X b ∨ (up L j 4 = true ∧ upv val j undef 4 = _) ∨ (up L j 5 = true ∧ upv val j undef 5 = _)) = _
   rw [n4 4 (by omega), n4 5 (by omega), n5 4 (by omega), n5 5 (by omega)]
  have one : ∀ i, i < 4 → ∀ B, (L i = true → m ρ (XL L val) w' B [val i]) → up L j i = true → m ρ (XL (up L j) (upv val j undef)) w'' B [upv val j undef i] := by
   intro i hi B hb2 hu
   rw [n4 i (by omega)] at hu
   rw [n5 i (by omega), hXL]
   exact m_st hev (hb2 hu)
  have v1 : ∀ k, k = j → VV (up L j) (upv val j undef) w'' jv k C := by
   intro k hk hu
   refine ⟨b, cs, by rw [n5 jv (by omega)]; exact hvj, hge, s2, s6, fun _ => ?_⟩
   rw [hXL]
   exact ⟨s5, s8, s7⟩
  have v2 : VV (up L j) (upv val j undef) w'' i2 k2 C2 := by
   intro hu
   rw [n4 i2 (by omega)] at hu
   obtain ⟨b', cs', b1, b2, b3, b4, b5⟩ := hV2 hu
   have hne : b' ≠ b := by
    intro e
    subst e
    rcases hcase with ⟨_, rfl, rfl, _⟩ | ⟨_, rfl, rfl, _⟩
    ·exact m6 hLj hu (hvj.trans b1.symm)
    ·exact m6 hu hLj (b1.trans hvj.symm)
   have hk2 : up L j k2 = L k2 := by
    have : k2 ≠ j := by omega
    simp [up, this]
   rw [n5 i2 (by omega), hk2, hXL]
   exact ⟨b', cs', b1, b2, (s3 b' hne).trans b3, b4, fun h6 => ⟨(b5 h6).1, m_st hev (b5 h6).2.1, (b5 h6).2.2⟩⟩
  have e4 : up L j 4 = L 4 := n4 4 (by omega)
  have e5 : up L j 5 = L 5 := n4 5 (by omega)
  have f4 : upv val j undef 4 = val 4 := n5 4 (by omega)
  have f5 : upv val j undef 5 = val 5 := n5 5 (by omega)
  have last : (up L j 4 = true → up L j 5 = true → upv val j undef 4 ≠ upv val j undef 5) ∧ (up L j 6 = true → up L j 4 = true) ∧ (up L j 7 = true → up L j 5 = true) := by
   rw [e4, e5, f4, f5]
   refine ⟨m6, fun hu => ?_, fun hu => ?_⟩
   ·by_cases e : 6 = j
    ·rcases hcase with ⟨_, rfl, _⟩ | ⟨e2, _⟩
     ·exact hLj
     ·omega
    ·simp only [up, e, if_false] at hu; exact m7 hu
   ·by_cases e : 7 = j
    ·rcases hcase with ⟨e2, _⟩ | ⟨_, rfl, _⟩
     ·omega
     ·exact hLj
    ·simp only [up, e, if_false] at hu; exact m8 hu
  rcases hcase with ⟨rfl, rfl, rfl, rfl, rfl, rfl⟩ | ⟨rfl, rfl, rfl, rfl, rfl, rfl⟩
  ·exact ⟨sb, one 0 (by omega) _ m0, one 1 (by omega) _ m1, one 2 (by omega) _ m2, one 3 (by omega) _ m3, v1 6 rfl, v2, last⟩
  ·exact ⟨sb, one 0 (by omega) _ m0, one 1 (by omega) _ m1, one 2 (by omega) _ m2, one 3 (by omega) _ m3, v2, v1 7 rfl, last⟩
 refine regionJ (l := [o0, o1, o2, o3, o4, o5, o6, o7]) (a0 := a) (w0 := w) hE.mx J _ _ 8 h.sz hchk htl ?_ ?_ ?_
 ·exact ⟨⟨rfl, rfl, rfl, Nat.le_refl _, fun _ _ => rfl⟩, (fun h => by cases h), (fun h => by cases h), (fun h => by cases h), (fun h => by cases h), (fun h => by cases h), (fun h => by cases h), (fun h => by cases h), (fun h => by cases h), (fun h => by cases h)⟩
 ·intro j o hj ho L val a' w' hJ hL hmask hr
  obtain ⟨hb, m0, m1, m2, m3, m4, m5, m6, m7, m8⟩ := hJ
  have hJ : J L val w' := ⟨hb, m0, m1, m2, m3, m4, m5, m6, m7, m8⟩
  have hj8 : j = 0 ∨ j = 1 ∨ j = 2 ∨ j = 3 ∨ j = 4 ∨ j = 5 ∨ j = 6 ∨ j = 7 := by omega
  have ng : ∀ {o : Oper}, o.guard = none → ∀ {X : Prop}, ¬ gok [o0, o1, o2, o3, o4, o5, o6, o7].toArray o a' → X := fun hg _ hn => absurd (by unfold gok; rw [hg]; trivial) hn
  rcases hj8 with rfl | rfl | rfl | rfl | rfl | rfl | rfl | rfl <;> cases ho
  ·have hg := hr (s, none) (by simp)
   have := ev1_ok (a := a') hE (wdn hJ) hds k0 (fun t ht x hx => by rw [t0 t ht] at hx ⊢; exact base hJ hg x hx) (fun g w' hgd => by rw [g0] at hgd; cases hgd) e0 q0
   exact ⟨fun hg => Does.imp (this.1 hg) fun v w'' ⟨r1, r2⟩ => pure 0 A0 v w'' (by omega) hJ hL (fun _ => rfl) (fun h => by omega) (fun h => by omega) (fun h => by omega) r1 r2, ng g0⟩
  ·have hg := hr (d0, some 0) (by simp)
   have h0 := m0 (hmask 0 (by decide))
   have := ev1_ok (sl := [(d0, A0)]) (a := a') hE (wdn hJ) hds k1 (fun t ht x hx => by
    rw [t1 t ht] at hx ⊢
    simp only [get?, Nat.beq_refl] at hx
    cases hx
    rw [hg]; exact h0) (fun g w' hgd => by rw [g1] at hgd; cases hgd) e1 q1
   exact ⟨fun hg => Does.imp (this.1 hg) fun v w'' ⟨r1, r2⟩ => pure 1 A1 v w'' (by omega) hJ hL (fun h => by omega) (fun _ => rfl) (fun h => by omega) (fun h => by omega) r1 r2, ng g1⟩
  ·have hg := hr (s, none) (by simp)
   have := ev1_ok (a := a') hE (wdn hJ) hds k2 (fun t ht x hx => by rw [t2 t ht] at hx ⊢; exact base hJ hg x hx) (fun g w' hgd => by rw [g2] at hgd; cases hgd) e2 q2
   exact ⟨fun hg => Does.imp (this.1 hg) fun v w'' ⟨r1, r2⟩ => pure 2 A2 v w'' (by omega) hJ hL (fun h => by omega) (fun h => by omega) (fun _ => rfl) (fun h => by omega) r1 r2, ng g2⟩
  ·have hg := hr (d2, some 2) (by simp)
   have h0 := m2 (hmask 2 (by decide))
   have := ev1_ok (sl := [(d2, A2)]) (a := a') hE (wdn hJ) hds k3 (fun t ht x hx => by
    rw [t3 t ht] at hx ⊢
    simp only [get?, Nat.beq_refl] at hx
    cases hx
    rw [hg]; exact h0) (fun g w' hgd => by rw [g3] at hgd; cases hgd) e3 q3
   exact ⟨fun hg => Does.imp (this.1 hg) fun v w'' ⟨r1, r2⟩ => pure 3 A3 v w'' (by omega) hJ hL (fun h => by omega) (fun h => by omega) (fun h => by omega) (fun _ => rfl) r1 r2, ng g3⟩
  ·refine ⟨fun _ => does_val (v := .pointer (some ⟨w'.heap.size, 0, none⟩)) (w' := w'.alloc (.cells (zc te.ty).toArray T)) ?_ (news 4 (.inl rfl) hJ hL (.inl ?_) (.inr rfl)), ng g4⟩
   ·obtain ⟨dst, op, ty, pos, af, gd⟩ := o4
    dsimp only at p4
    subst p4
    simp [execOp, Instr.alloc, zeroValue, typeInfo, hi, hz, newVar, newRow, hz2]
   ·cases e6 : L 6 with
    | false => rfl
    | true => have := m7 e6; rw [hL] at this; cases this
  ·refine ⟨fun _ => does_val (v := .pointer (some ⟨w'.heap.size, 0, none⟩)) (w' := w'.alloc (.cells (zc te.ty).toArray T)) ?_ (news 5 (.inr rfl) hJ hL (.inr rfl) (.inl ?_)), ng g5⟩
   ·obtain ⟨dst, op, ty, pos, af, gd⟩ := o5
    dsimp only at p5
    subst p5
    simp [execOp, Instr.alloc, zeroValue, typeInfo, hi, hz, newVar, newRow, hz2]
   ·cases e6 : L 7 with
    | false => rfl
    | true => have := m8 e6; rw [hL] at this; cases this
  ·have l4' := hmask 4 (by decide)
   obtain ⟨b, w'', s0, s1, s2, s3, s4, s5, s6, s7, s8, s9, s10⟩ := sto (jv := 4) (iv := 1) (kv := 6) hJ p6 (hr (d4, some 4) (by simp)) (hr (d1, some 1) (by simp)) l4' (.inl rfl) m4 (m1 (hmask 1 (by decide))) c1
   exact ⟨fun _ => does_skip9 s1 (sto2 hJ (.inl ⟨rfl, rfl, rfl, rfl, rfl, rfl⟩) l4' s0 s2 s3 s4 s5 s6 s7 s8 s9 s10 m5), ng g6⟩
  ·have l5' := hmask 5 (by decide)
   obtain ⟨b, w'', s0, s1, s2, s3, s4, s5, s6, s7, s8, s9, s10⟩ := sto (jv := 5) (iv := 3) (kv := 7) hJ p7 (hr (d5, some 5) (by simp)) (hr (d3, some 3) (by simp)) l5' (.inr rfl) m5 (m3 (hmask 3 (by decide))) c3
   exact ⟨fun _ => does_skip9 s1 (sto2 hJ (.inr ⟨rfl, rfl, rfl, rfl, rfl, rfl⟩) l5' s0 s2 s3 s4 s5 s6 s7 s8 s9 s10 m4), ng g7⟩
 ·intro v w' hJ
  obtain ⟨hb, m0, m1, m2, m3, m4, m5, m6, m7, m8⟩ := hJ
  have t8 : ∀ i, i < 8 → decide (i < 8) = true := fun i hi => decide_eq_true hi
  obtain ⟨b, cs, b1, b2, b3, b4, b5⟩ := m4 (t8 4 (by omega))
  obtain ⟨b', cs', b1', b2', b3', b4', b5'⟩ := m5 (t8 5 (by omega))
  have hne : b ≠ b' := fun e => m6 (t8 4 (by omega)) (t8 5 (by omega)) (by rw [b1, b1', e])
  obtain ⟨r1, r2, r3⟩ := b5 (t8 6 (by omega))
  obtain ⟨r1', r2', r3'⟩ := b5' (t8 7 (by omega))
  have hXe : XL (fun i => decide (i < 8)) v = XX (fun k => X0 k ∨ (k = b ∨ k = b')) ρ st.ck := by
   funext k
   refine propext ⟨fun hk => ?_, fun hk => ?_⟩
   ·rcases hk with hk | hk | hk
    ·rw [← hXd] at hk
     rcases hk with hk | hk
     ·exact .inl (.inl hk)
     ·exact .inr hk
    ·exact .inl (.inr (.inl (ptr_inj (hk.2.symm.trans b1))))
    ·exact .inl (.inr (.inr (ptr_inj (hk.2.symm.trans b1'))))
   ·rcases hk with (hk | hk | hk) | hk
    ·exact .inl (by rw [← hXd]; exact .inl hk)
    ·exact .inr (.inl ⟨t8 4 (by omega), by rw [b1, hk]⟩)
    ·exact .inr (.inr ⟨t8 5 (by omega), by rw [b1', hk]⟩)
    ·exact .inl (by rw [← hXd]; exact .inr hk)
  rw [hXe] at r2 r2'
  have hge : ∀ t, t < N → t < a.tmps.size := fun t ht => by rw [h.sz]; exact ht
  have gp := fun t (ht : t < N) => gt_puts a v [o0, o1, o2, o3, o4, o5, o6, o7] t (hge t ht) 8 (Nat.le_refl _)
  have x4 : gt (puts a ([o0, o1, o2, o3, o4, o5, o6, o7].take 8) v 0) d4 = .pointer (some ⟨b, 0, none⟩) := by rw [gp d4 hd4, l4]; exact b1
  have x5 : gt (puts a ([o0, o1, o2, o3, o4, o5, o6, o7].take 8) v 0) d5 = .pointer (some ⟨b', 0, none⟩) := by rw [gp d5 hd5, l5]; exact b1'
  have f0 : Fr w0 (fun k => X0 k ∨ (k = b ∨ k = b')) Bo N st ρ a w' := h.aside (hX := fun k hk => by
   rcases hk with hk | hk | hk
   ·exact .inl hk
   ·exact .inr (by omega)
   ·exact .inr (by omega)) (hB := fun k hk => by
   rcases hk with hk | hk | hk
   ·exact .inr hk
   ·exact .inl (by have := h.kp.size; omega)
   ·exact .inl (by have := h.kp.size; omega)) hb
  have f1 : Fr w0 (fun k => X0 k ∨ (k = b ∨ k = b')) Bo N ⟨sl, st.ck, st.nx⟩ ρ (puts a ([o0, o1, o2, o3, o4, o5, o6, o7].take 8) v 0) w' := ⟨by rw [puts_defers]; exact f0.dn, by rw [puts_size]; exact f0.sz, f0.kp, f0.nx, f0.nd, f0.kn, f0.bl, f0.dj, f0.cs, fun t x hx => by
   obtain ⟨y1, y2, y3⟩ := hsl t x hx
   rw [gp t y3, y2]
   exact f0.sl t x y1, f0.pn⟩
  have hsz0 := h.kp.size
  have f2 := f1.adopt2 (Y := fun k => k = b ∨ k = b') (Y' := fun k => k = b') b3 (by omega) (.inl rfl) (fun hx => by have := hX0 b hx; omega) (fun x hx e => by have := (h.bl x hx b e).1; omega) r1 r2 r3 hd4 (fun k hk => .inr hk) hne x4
  have r4' : m (ρ ++ [.pointer (some ⟨b, 0, none⟩)]) (XX (fun k => X0 k ∨ k = b') (ρ ++ [.pointer (some ⟨b, 0, none⟩)]) ((st.nx, .box T C1) :: st.ck)) w' C3 cs'.toList := by
   refine m_app' _ (m_anti (fun k hk => .inl ?_) r2')
   rcases hk with (hk | hk) | ⟨x, hx, hk⟩
   ·exact .inl (.inl hk)
   ·exact .inl (.inr (.inr hk))
   ·rcases List.mem_cons.1 hx with rfl | hx
    ·have : b = k := by
       rw [inC_of (show (ρ ++ [Value.pointer (some ⟨b, 0, none⟩)])[st.nx]? = some (.pointer (some ⟨b, 0, none⟩)) by have := h.nx; rw [List.getElem?_append_right (by omega), this]; simp)] at hk
       exact Option.some.inj hk
     exact .inl (.inr (.inl this.symm))
    ·rw [show inC (ρ ++ [Value.pointer (some ⟨b, 0, none⟩)]) x.1 = inC ρ x.1 from blkO_app (by have := h.kn x hx; have := h.nx; omega)] at hk
     exact .inr ⟨x, hx, hk⟩
  have f3 := Fr.adopt2 (X0 := X0) (Y := fun k => k = b') (Y' := fun _ => False) f2 b3' (by omega) rfl (fun hx => by have := hX0 b' hx; omega) (fun x hx e => by
   rcases List.mem_cons.1 hx with rfl | hx
   ·rw [inC_of (show (ρ ++ [Value.pointer (some ⟨b, 0, none⟩)])[st.nx]? = some (.pointer (some ⟨b, 0, none⟩)) by have := h.nx; rw [List.getElem?_append_right (by omega), this]; simp)] at e
    exact hne (Option.some.inj e)
   ·rw [show inC (ρ ++ [Value.pointer (some ⟨b, 0, none⟩)]) x.1 = inC ρ x.1 from blkO_app (by have := h.kn x hx; have := h.nx; omega)] at e
    have := (h.bl x hx b' e).1; omega) r1' r4' r3' hd5 (fun _ h => h.elim) (fun h => h) x5
  have eX : (fun k => X0 k ∨ False) = X0 := by funext k; simp
  rw [eX] at f3
  exact hQ _ _ _ f3
theorem o1x {l : List Operand} {s : Nat} (h : l = [.tmp s]) : ∀ t, Operand.tmp t ∈ l → t = s := by
 intro t ht
 rw [h, List.mem_singleton] at ht
 injection ht
theorem two_H {S : Sx} {H : List It → St → Prop} (hh : HandOk S H) {k : List It} {st : St} {rid : Nat} {o0 o1 o2 o3 o4 o5 o6 o7 : Oper} {d0 d2 d1 d3 d4 d5 s : Nat} {T : TypeId} {te : TE} (hT : S.E.te T = some te)
    (g0 : o0.guard = none) (g1 : o1.guard = none) (g2 : o2.guard = none) (g3 : o3.guard = none) (g4 : o4.guard = none) (g5 : o5.guard = none) (g6 : o6.guard = none) (g7 : o7.guard = none)
    (p4 : o4.op = .alloc T) (p5 : o5.op = .alloc T) (p6 : o6.op = .store T (.tmp d4) (.tmp d1)) (p7 : o7.op = .store T (.tmp d5) (.tmp d3))
    (k0 : okOp o0.op = true) (k1 : okOp o1.op = true) (k2 : okOp o2.op = true) (k3 : okOp o3.op = true)
    (t0 : opL o0.op = [.tmp s]) (t1 : opL o1.op = [.tmp d0]) (t2 : opL o2.op = [.tmp s]) (t3 : opL o3.op = [.tmp d2])
    {an : An} {A0 A1 A2 A3 C1 C3 : AV} {ps0 ps1 ps2 ps3 : List Prop} {ds : List (Option Nat)} (hds : ∀ g : Nat, nthO ds g = ([o0, o1, o2, o3, o4, o5, o6, o7].toArray[g]?).map Oper.dst)
    (e0 : ev1 S.E st.sl st.ck ds o0 an = some (A0, ps0)) (e1 : ev1 S.E [(d0, A0)] st.ck ds o1 an = some (A1, ps1)) (e2 : ev1 S.E st.sl st.ck ds o2 an = some (A2, ps2)) (e3 : ev1 S.E [(d2, A2)] st.ck ds o3 an = some (A3, ps3))
    (c1 : cellsA te.ty A1 .nil = some C1) (c3 : cellsA te.ty A3 .nil = some C3) (q0 : AllP ps0) (q1 : AllP ps1) (q2 : AllP ps2) (q3 : AllP ps3)
    (hchk : chk [o0, o1, o2, o3, o4, o5, o6, o7] [0, 1, 0, 4, 0, 0, 51, 127] [[(s, none)], [(d0, some 0)], [(s, none)], [(d2, some 2)], [], [], [(d4, some 4), (d1, some 1)], [(d5, some 5), (d3, some 3)]] S.N = true)
    (htl : tailB [o0, o1, o2, o3, o4, o5, o6, o7] [0, 1, 0, 4, 0, 0, 51, 127] 8 = true)
    (l4 : lw ([o0, o1, o2, o3, o4, o5, o6, o7].map (·.dst)) (fun _ => true) d4 8 = some 4) (l5 : lw ([o0, o1, o2, o3, o4, o5, o6, o7].map (·.dst)) (fun _ => true) d5 8 = some 5) (hd4 : d4 < S.N) (hd5 : d5 < S.N)
    {sl : List (Nat × AV)} (hsl : ∀ t x, get? sl t = some x → get? st.sl t = some x ∧ lw ([o0, o1, o2, o3, o4, o5, o6, o7].map (·.dst)) (fun _ => true) t 8 = none ∧ t < S.N)
    (hk : H k ⟨(d5, .ref (st.nx + 1) 0) :: (d4, .ref st.nx 0) :: sl, (st.nx + 1, .box T C3) :: (st.nx, .box T C1) :: st.ck, st.nx + 2⟩) : H (.code (.region rid #[o0, o1, o2, o3, o4, o5, o6, o7] true) :: k) st := by
 obtain ⟨w0, X0, Bo, Q, hE, hX0, hiff⟩ := hh
 rw [hiff]
 intro hok ρ a w hfr
 have hok' : okK S.an S.N k = true := by
  have h : (okC S.an S.N (.region rid #[o0, o1, o2, o3, o4, o5, o6, o7] true) && okK S.an S.N k) = true := hok
  rw [Bool.and_eq_true] at h
  exact h.2
 exact two_ok hE hX0 hfr hT g0 g1 g2 g3 g4 g5 g6 g7 p4 p5 p6 p7 k0 k1 k2 k3 (o1x t0) (o1x t1) (o1x t2) (o1x t3) hds e0 e1 e2 e3 c1 c3 q0 q1 q2 q3 hchk htl l4 l5 hd4 hd5 hsl fun ρ' a' w' h3 => (hiff _ _).1 hk hok' ρ' a' w' h3
end
end Go.Proofs.YthcbjhmdpehooaaGreat.Gx
