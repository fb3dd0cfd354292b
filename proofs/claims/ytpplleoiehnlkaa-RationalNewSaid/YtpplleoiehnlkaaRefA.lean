/-
  Contracts of credenceref1.NatNorm, NatOf, NatUint64, NatBits and NatCmp.
-/
import Derived.Test.YtpplleoiehnlkaaPow
namespace Go.Proofs.Ytpplleoiehnlkaa.Nt
open Go.ChangeShapes Go.WideShapes Go.ChangeAt Go.RowKit B
set_option linter.unusedVariables false

theorem own_mono {w : World} {base base' : Nat} {e : TypeId} {size : Nat} {v : Value} {n : Nat} {xs : List Value} (h : w.ownsRow base e size v n xs) (hb : base' ≤ base) : w.ownsRow base' e size v n xs := by
  refine ⟨h.1, ?_⟩
  rcases h.2 with h | ⟨g, cap, cur, h1, h2, h3⟩
  · exact .inl h
  · exact .inr ⟨g, cap, cur, h1, by omega, h3⟩
/-- a call that returns a canonical number in a row of its own -/
def RetOwn (base : Nat) (w : World) (n : Int) (e : Ending) (w' : World) : Prop :=
  ∃ v l, e = .returned v ∧ w'.ownsRow base 37 1 v l.length (l.map (Value.int .u32)) ∧ Canon l ∧ N l = n ∧ Below base w w'
theorem RetOwn.ret {base : Nat} {w w' : World} {n : Int} {e : Ending} (h : RetOwn base w n e w') : Ret1 base w n e w' := by
  obtain ⟨v, l, h1, h2, h3, h4, h5⟩ := h
  exact ⟨v, h1, ⟨l, Row.ofOwn h2 (fun n hn => wf32 (h3.1 n hn)), h3, h4, own_fresh h2⟩, h5⟩

theorem rNormO (v : Value) (c : Nat) (n : Int) (w : World) (h : Num w v c n) (hc : c ≤ 8589934592) :
    Calls Try.prog 82 #[v] w (RetOwn w.heap.size w n) := by
  obtain ⟨l, hr, hl, rfl⟩ := h
  have hds := Row.ds hr
  obtain ⟨a, cap, rfl, hcl, hcm, hcell⟩ := Row.parts hr
  have HR := Lib.hid hr
  have HC := Lib.hid hcell
  have HD := Lib.hid hds
  clear hr hcell hds
  generalize hL : l.length = len at *
  have HL := Lib.hid hL
  clear hL
  go_enter Try.func82, Try.ntmps82
  go_wp2
  go_loop [3] (fun t => ∃ k : Nat, k ≤ len ∧ t = .int .i64 k ∧ Hid (∀ i, k ≤ i → i < len → l[i]?.getD 0 = 0)) (fun t => (intOf t).toNat)
  case atStart => exact ⟨len, Nat.le_refl _, rfl, fun i h1 h2 => by omega⟩
  case round =>
    obtain ⟨k, hk, rfl, hz⟩ := hrel
    have HU := Lib.hid (Row.upto HR.out k hk)
    have HLN := Lib.hid (show (l.take k).length = k by rw [List.length_take, HL.out]; omega)
    rcases k with _ | j
    · have HT := Lib.hid (And.intro (trimmed (l := l) 0 (Nat.zero_le _) (by rw [HL.out]; exact hz.out)) (canon_take HD.out 0 (Nat.zero_le _) (.inl rfl)))
      go_wp2_with (at_builtin; refine app_row rfl (.tmp 18) (.tmp 21) 23 rfl w.heap.size 37 .u32 4 Try.underlying23 info32 _ 0 [] rfl (own0 w _ _) _ (l.take 0) rfl (HU.out.keep ((Below.refl _ _).alloc (Nat.le_refl _) _)) (by simp) (by simp) (by simp) ?_; intro v' w' ho' hb')
      go_ret
      exact ⟨_, l.take 0, rfl, by simpa using ho', HT.out.2, HT.out.1, ((Below.refl _ _).alloc (Nat.le_refl _) _).trans hb'⟩
    · obtain ⟨b, off, rfl, hcell, hw⟩ := HC.out j (by omega)
      by_cases h0 : l[j]?.getD 0 = 0
      · have HZ : Hid (∀ i, j ≤ i → i < len → l[i]?.getD 0 = 0) := fun i h1 h2 => by
          by_cases e : i = j
          · subst e; exact h0
          · exact hz.out i (by omega) h2
        rw [h0] at hcell
        clear h0 hw hz
        go_wp2
        refine ⟨⟨j, by omega, by go_num, HZ⟩, by simp [intOf]⟩
      · have HT := Lib.hid (And.intro (trimmed (l := l) (j + 1) (by rw [HL.out]; exact hk) (by rw [HL.out]; exact hz.out)) (canon_take HD.out (j + 1) (by rw [HL.out]; exact hk) (.inr h0)))
        have hne : ((l[j]?.getD 0) == 0) = false := by rw [beq_eq_false_iff_ne]; exact h0
        clear h0 hw hz
        go_wp2_with (at_builtin; refine app_row rfl (.tmp 18) (.tmp 21) 23 rfl w.heap.size 37 .u32 4 Try.underlying23 info32 _ 0 [] rfl (own0 w _ _) _ (l.take (j + 1)) rfl (HU.out.keep ((Below.refl _ _).alloc (Nat.le_refl _) _)) (by rw [HLN.out]; simp [maxLen]; omega) (by rw [HLN.out]; simp; omega) (by simp) ?_; intro v' w' ho' hb')
        go_ret
        exact ⟨_, l.take (j + 1), rfl, by simpa using ho', HT.out.2, HT.out.1, ((Below.refl _ _).alloc (Nat.le_refl _) _).trans hb'⟩
theorem rNorm (v : Value) (c : Nat) (n : Int) (w : World) (h : Num w v c n) (hc : c ≤ 8589934592) :
    Calls Try.prog 82 #[v] w (Ret1 w.heap.size w n) := (rNormO v c n w h hc).mono fun _ _ h => h.ret
/-- NatNorm of a row of the call's own -/
theorem rNormN {base : Nat} {w0 w : World} {v : Value} {m : Nat} {l : List Int} (h : w.ownsRow base 37 1 v m (l.map (Value.int .u32))) (hd : Ds l) (hl : l.length ≤ 8589934592) (hb : Below base w0 w) (hs : base ≤ w.heap.size) :
    Calls Try.prog 82 #[v] w (RetOwn base w0 (N l)) := by
  refine (rNormO v l.length (N l) w ⟨l, Row.ofOwn h (fun n hn => wf32 (hd n hn)), Nat.le_refl _, rfl⟩ hl).mono ?_
  rintro e w' ⟨v', l', h1, h2, h3, h4, h5⟩
  exact ⟨v', l', h1, own_mono h2 hs, h3, h4, hb.trans (h5.mono hs)⟩

theorem rOf (n : Int) (w : World) (h0 : 0 ≤ n) (h1 : n < 18446744073709551616) :
    Calls Try.prog 57 #[.int .u64 n] w (Ret1 w.heap.size w n) := by
  have hN : N [n % 4294967296, n / 4294967296] = n := by simp [N]; omega
  have hD : Ds [n % 4294967296, n / 4294967296] := Ds.cons (by omega) (Ds.cons (by omega) Ds.nil)
  have HN := Lib.hid hN
  have HD := Lib.hid hD
  clear hN hD
  go_enter Try.func57, Try.ntmps57
  go_wp2_with fail
  refine (rNormN (own2 w _ _) HD.out (by simp) ((Below.refl _ _).alloc (Nat.le_refl _) _) (by simp)).mono ?_
  rintro e w' h
  obtain ⟨v', rfl, hn, hb⟩ := RetOwn.ret h
  clear h
  go_wp2_with fail
  go_ret
  rw [HN.out] at hn
  exact ⟨v', rfl, hn, hb⟩

theorem blen_half {n : Int} (h : 0 < n) : blen n = blen (n / 2) + 1 := by
  obtain ⟨m, rfl⟩ := Int.eq_ofNat_of_zero_le (show 0 ≤ n by omega)
  rw [show (m : Int) / 2 = ((m / 2 : Nat) : Int) by omega]
  unfold blen
  rw [if_neg (by omega), Int.toNat_natCast, Int.toNat_natCast]
  rw [Nat.log2_def]
  split
  · rw [if_neg (by omega)]
  · rw [if_pos (by omega)]
theorem blen_top {m : List Int} (h : Canon m) (j : Nat) (hj : m.length = j + 1) : blen (N m) = 32 * j + blen (m[j]?.getD 0) ∧ blen (m[j]?.getD 0) ≤ 32 := by
  obtain ⟨e, hp⟩ := blen_digits h j hj
  obtain ⟨t1, t2, t3, t4⟩ := bitLen_top _ hp (h.1.at j).2
  generalize Lib.bitLen (m[j]?.getD 0).toNat = t at *
  obtain ⟨s, rfl⟩ : ∃ s, t = s + 1 := ⟨t - 1, by omega⟩
  have := blen_of hp (b := s) (by simpa using t3) t4
  omega
set_option maxHeartbeats 400000 in
theorem rCmp (va vb : Value) (c : Nat) (x y : Int) (w : World) (ha : Num w va c x) (hb : Num w vb c y) (hc : c ≤ 8589934592) :
    Calls Try.prog 61 #[va, vb] w fun e w' => e = .returned (.int .i64 (cmpI x y)) ∧ Below w.heap.size w w' := by
  have hxl := ha.lt
  have hyl := hb.lt
  have HA := Lib.hid ha
  have HB := Lib.hid hb
  clear ha hb
  go_enter Try.func61, Try.ntmps61
  go_wp2_with fail
  refine (rNorm va c _ w HA.out hc).mono ?_
  rintro e w1 ⟨v1, rfl, ⟨l1, r1, C1, N1, _⟩, hb1⟩
  go_wp2_with fail
  refine (rNorm vb c _ w1 (HB.out.keep hb1) hc).mono ?_
  rintro e w2 ⟨v2, rfl, ⟨l2, r2, C2, N2, _⟩, hb2⟩
  clear HA HB
  have r1 := r1.keep hb2
  have hbw := hb1.trans (hb2.mono hb1.size)
  have L1 : l1.length ≤ c := C1.len c (by rw [N1]; exact hxl)
  have L2 : l2.length ≤ c := C2.len c (by rw [N2]; exact hyl)
  have HN := Lib.hid (And.intro N1 N2)
  have HC := Lib.hid (And.intro C1 C2)
  obtain ⟨a1, p1, rfl, g1, m1, c1⟩ := Row.parts r1
  obtain ⟨a2, p2, rfl, g2, m2, c2⟩ := Row.parts r2
  have H1 := Lib.hid c1
  have H2 := Lib.hid c2
  clear r1 r2 c1 c2 N1 N2 C1 C2
  by_cases hlt : l1.length < l2.length
  · have hne : ((l1.length : Int) != (l2.length : Int)) = true := by rw [bne_iff_ne]; omega
    have hR : cmpI x y = -1 := by
      have := len_lt HC.out.1 HC.out.2 hlt
      rw [← HN.out.1, ← HN.out.2, cmpI, if_pos this]
    have HR := Lib.hid hR
    clear hR
    go_wp2_with fail
    go_ret
    exact ⟨cmp_ret HR.out, hbw⟩
  by_cases hgt : l2.length < l1.length
  · have hne : ((l1.length : Int) != (l2.length : Int)) = true := by rw [bne_iff_ne]; omega
    have hR : cmpI x y = 1 := by
      have := len_lt HC.out.2 HC.out.1 hgt
      rw [← HN.out.1, ← HN.out.2, cmpI, if_neg (by omega), if_neg (by omega)]
    have HR := Lib.hid hR
    clear hR
    go_wp2_with fail
    go_ret
    exact ⟨cmp_ret HR.out, hbw⟩
  have hne : ((l1.length : Int) != (l2.length : Int)) = false := by
    have : (l1.length : Int) = l2.length := by omega
    rw [this]; simp
  generalize hn1 : l1.length = n1 at *
  generalize hn2 : l2.length = n2 at *
  obtain rfl : n1 = n2 := by omega
  have HL := Lib.hid (And.intro hn1 hn2)
  clear hn1 hn2 hlt hgt
  go_wp2_with fail
  go_loopw [7] (fun t wr => ∃ k : Nat, k ≤ n1 ∧ t = .int .i64 ((k : Int) - 1) ∧ Hid (N (l1.drop k) = N (l2.drop k)) ∧ Below w2.heap.size w2 wr) (fun t _ => (intOf t + 1).toNat)
  case atStart => exact ⟨n1, Nat.le_refl _, rfl, by rw [List.drop_eq_nil_of_le (by rw [HL.out.1]; exact Nat.le_refl _), List.drop_eq_nil_of_le (by rw [HL.out.2]; exact Nat.le_refl _)]; rfl, Below.refl _ _⟩
  case round =>
    obtain ⟨k, hk, rfl, hd, hb⟩ := hrel
    rcases k with _ | j
    · have hR : cmpI x y = 0 := by
        have h := hd.out
        simp only [List.drop_zero] at h
        rw [← HN.out.1, ← HN.out.2, cmpI, if_neg (by omega), if_pos h]
      have HR := Lib.hid hR
      clear hR
      go_wp2
      go_ret
      exact ⟨cmp_ret HR.out, hbw.trans (Below.mono (hb) hbw.size)⟩
    · obtain ⟨b1, o1, rfl, q1, ww1⟩ := H1.out j (by omega)
      obtain ⟨b2, o2, rfl, q2, ww2⟩ := H2.out j (by omega)
      have q1 := cell_later hb q1
      have q2 := cell_later hb q2
      have e1 := N_drop (l := l1) (k := j) (by rw [HL.out.1]; omega)
      have e2 := N_drop (l := l2) (k := j) (by rw [HL.out.2]; omega)
      rw [hd.out] at e1
      generalize N (l2.drop (j + 1)) = T at *
      have HT := Lib.hid (And.intro e1 e2)
      have x1 := wf_u32 ww1
      have x2 := wf_u32 ww2
      clear e1 e2 hd ww1 ww2
      generalize l1[j]?.getD 0 = dx at *
      generalize l2[j]?.getD 0 = dy at *
      by_cases hxy : dx < dy
      · have hR : cmpI x y = -1 := by
          have := lt_of_drop HC.out.1.1 HC.out.2.1 j (by rw [HL.out.1]; omega) (by rw [HL.out.2]; omega) (by rw [HT.out.1, HT.out.2]; omega)
          rw [← HN.out.1, ← HN.out.2, cmpI, if_pos this]
        have HR := Lib.hid hR
        clear hR
        go_wp2
        go_quiet (fail)
        go_wp2
        go_ret
        exact ⟨cmp_ret HR.out, hbw.trans (Below.mono (below_drewN hb _) hbw.size)⟩
      by_cases hyx : dy < dx
      · have hR : cmpI x y = 1 := by
          have := lt_of_drop HC.out.2.1 HC.out.1.1 j (by rw [HL.out.2]; omega) (by rw [HL.out.1]; omega) (by rw [HT.out.1, HT.out.2]; omega)
          rw [← HN.out.1, ← HN.out.2, cmpI, if_neg (by omega), if_neg (by omega)]
        have HR := Lib.hid hR
        clear hR
        go_wp2
        go_quiet (fail)
        have hb1 := below_drewN hb nq
        have q1 := cell_later (below_drewN (Below.refl _ wr) nq) q1
        have q2 := cell_later (below_drewN (Below.refl _ wr) nq) q2
        generalize wr.drewN nq = wr1 at *
        go_wp2
        go_quiet (fail)
        go_wp2
        go_ret
        exact ⟨cmp_ret HR.out, hbw.trans (Below.mono (below_drewN hb1 _) hbw.size)⟩
      · have hE : Hid (N (l1.drop j) = N (l2.drop j)) := by
          show _ = _
          rw [HT.out.1, HT.out.2]; omega
        clear HT
        go_wp2
        go_quiet (fail)
        have hb1 := below_drewN hb nq
        have q1 := cell_later (below_drewN (Below.refl _ wr) nq) q1
        have q2 := cell_later (below_drewN (Below.refl _ wr) nq) q2
        generalize wr.drewN nq = wr1 at *
        go_wp2
        go_quiet (fail)
        have hb1 := below_drewN hb1 nq
        generalize wr1.drewN nq = wr2 at *
        go_wp2
        refine ⟨⟨j, by omega, by go_num, hE, hb1⟩, by simp [intOf]⟩
end Go.Proofs.Ytpplleoiehnlkaa.Nt
