/-
  The walk of ChecksumAffine.
-/
import Derived.Test.YtgaafchdmfgkkaaKnown
import Derived.Test.YtgaafchdmfgkkaaLaws2
import Derived.Deep.RegionWith
import Derived.BigRegion
import Derived.StillTailTactics
namespace Go.Proofs.Ytgaafchdmfgkkaa.checksumAffine
open Go.ChangeShapes Go.WideShapes Go.ChangeAt Go.RowKit B Crc
set_option linter.unusedVariables false

theorem min4 (n a b c : Nat) (hn : n = min (min (min a b) c) 200) (ts : Array TypeId) (t : TypeId) (w : World) :
    (Builtin.min_ ts t #[.int .i64 (a : Int), .int .i64 (b : Int), .int .i64 (c : Int), .int .i64 200]).run Try.prog w = .ok (.int .i64 (n : Int)) w := by
  simp [Builtin.min_, Builtin.min2]
  congr 1
  split <;> split <;> split <;> omega
def sum3 (f g h : List Int) (i : Nat) : Int := bits .xor .u8 (bits .xor .u8 (f[i]?.getD 0) (g[i]?.getD 0)) (h[i]?.getD 0)
def fill (f g h : List Int) (n k : Nat) : List Int := (List.range n).map fun i => if i < k then sum3 f g h i else 0
theorem fill_zero (f g h : List Int) (n : Nat) : fill f g h n 0 = List.replicate n (0 : Int) := by
  apply List.ext_getElem <;> simp [fill]
theorem fill_succ (f g h : List Int) (n k : Nat) (hk : k < n) : fill f g h n (k + 1) = (fill f g h n k).set k (sum3 f g h k) := by
  apply List.ext_getElem
  · simp [fill]
  · intro i h1 h2
    simp only [fill, List.getElem_map, List.getElem_range, List.getElem_set]
    by_cases e : k = i
    · subst e; simp
    · have : (i < k + 1) ↔ (i < k) := by omega
      simp [e, this]
theorem fill_len (f g h : List Int) (n k : Nat) : (fill f g h n k).length = n := by simp [fill]
theorem x8 (x y : Int) (hx : 0 ≤ x ∧ x < 256) (hy : 0 ≤ y ∧ y < 256) : BitVec.ofInt 32 (bits .xor .u8 x y) = BitVec.ofInt 32 x ^^^ BitVec.ofInt 32 y ∧ 0 ≤ bits .xor .u8 x y ∧ bits .xor .u8 x y < 256 := by
  obtain ⟨m, rfl⟩ := Int.eq_ofNat_of_zero_le hx.1
  obtain ⟨n, rfl⟩ := Int.eq_ofNat_of_zero_le hy.1
  have hb : m ^^^ n < 2 ^ 8 := Nat.xor_lt_two_pow (by omega) (by omega)
  rw [u8_xor_nat _ _ (by omega) (by omega), BitVec.ofInt_natCast, BitVec.ofInt_natCast, BitVec.ofInt_natCast]
  refine ⟨BitVec.eq_of_toNat_eq ?_, by omega, by omega⟩
  rw [BitVec.toNat_xor, BitVec.toNat_ofNat, BitVec.toNat_ofNat, BitVec.toNat_ofNat, Nat.mod_eq_of_lt (by omega), Nat.mod_eq_of_lt (by omega), Nat.mod_eq_of_lt (by omega)]
theorem at_bd (l : List Int) (hl : ∀ c ∈ l, 0 ≤ c ∧ c < 256) (i : Nat) : 0 ≤ l[i]?.getD 0 ∧ l[i]?.getD 0 < 256 := by
  rcases Nat.lt_or_ge i l.length with hh | hh
  · rw [List.getElem?_eq_getElem hh]
    exact hl _ (List.getElem_mem hh)
  · rw [List.getElem?_eq_none hh]; simp
theorem sum_bd (f g h : List Int) (hf : ∀ c ∈ f, 0 ≤ c ∧ c < 256) (hg : ∀ c ∈ g, 0 ≤ c ∧ c < 256) (hh : ∀ c ∈ h, 0 ≤ c ∧ c < 256) (n k : Nat) : ∀ c ∈ fill f g h n k, 0 ≤ c ∧ c < 256 := by
  intro c hc
  simp only [fill, List.mem_map, List.mem_range] at hc
  obtain ⟨i, _, rfl⟩ := hc
  split
  · exact (x8 _ _ (x8 _ _ (at_bd f hf i) (at_bd g hg i)).2 (at_bd h hh i)).2
  · omega
theorem fin (f g h : List Int) (hf : ∀ c ∈ f, 0 ≤ c ∧ c < 256) (hg : ∀ c ∈ g, 0 ≤ c ∧ c < 256) (hh : ∀ c ∈ h, 0 ≤ c ∧ c < 256) (n : Nat) (h1 : n ≤ f.length) (h2 : n ≤ g.length) (h3 : n ≤ h.length) :
    (((ext 0#32 (fill f g h n n)).toNat : Int) == bits .xor .u32 (bits .xor .u32 ((ext 0#32 (f.take n)).toNat : Int) ((ext 0#32 (g.take n)).toNat : Int)) ((ext 0#32 (h.take n)).toNat : Int)) = true := by
  rw [xor32, xor32, beq_iff_eq]
  have := affine (f.take n) (g.take n) (h.take n) (fill f g h n n) n (fill_len ..) (by simp; omega) (by simp; omega) (by simp; omega) (by
    intro i hi
    have e1 : (fill f g h n n)[i]?.getD 0 = sum3 f g h i := by simp [fill, hi]
    rw [e1, sum3, (x8 _ _ (x8 _ _ (at_bd f hf i) (at_bd g hg i)).2 (at_bd h hh i)).1, (x8 _ _ (at_bd f hf i) (at_bd g hg i)).1]
    simp [hi])
  exact congrArg (fun z : BitVec 32 => (z.toNat : Int)) this
theorem capOf {k : IntKind} {w : World} {a : Option Addr} {n cap : Nat} {l : List Int} (h : Row k w (.slice a n cap) l) : n ≤ cap := by
  have e := h.len
  obtain ⟨_, _, he, h1, _⟩ := h
  cases he
  exact h1
theorem crcQ (v : Value) (l : List Int) (w : World) (h : Row .u8 w v l) :
    Calls Try.prog 9 #[v] w fun e w'' => e = .returned (.int .u32 ((ext 0#32 l).toNat : Int)) ∧ w'' = w :=
  (crc v l w h).mono fun _ _ ⟨h1, h2⟩ => ⟨h1, h2.symm⟩

set_option maxHeartbeats 400000 in
theorem walk (a0 : Option Addr) (len0 cap0 : Nat) (z0 : List Int) (a1 : Option Addr) (len1 cap1 : Nat) (z1 : List Int) (a2 : Option Addr) (len2 cap2 : Nat) (z2 : List Int) (w : World) (w0 : IsRow .u8 w a0 len0 cap0 z0) (w1 : IsRow .u8 w a1 len1 cap1 z1) (w2 : IsRow .u8 w a2 len2 cap2 z2) :
    Calls Try.prog 7 #[.slice a0 len0 cap0, .slice a1 len1 cap1, .slice a2 len2 cap2] w fun e w' => e = .returned (.bool true) ∧ Below w.heap.size w w' := by
  have H0 := Lib.hid (Row.of w0)
  have H1 := Lib.hid (Row.of w1)
  have H2 := Lib.hid (Row.of w2)
  clear w0 w1 w2
  generalize z0.take len0 = l0 at *
  generalize z1.take len1 = l1 at *
  generalize z2.take len2 = l2 at *
  obtain ⟨n, hn⟩ : ∃ n, n = min (min (min len0 len1) len2) 200 := ⟨_, rfl⟩
  have hmin := min4 n len0 len1 len2 hn
  have hle : n ≤ len0 ∧ n ≤ len1 ∧ n ≤ len2 ∧ n ≤ 200 := by omega
  clear hn
  go_enter Try.func7, Try.ntmps7
  go_wp2_with (at_make; refine make8 rfl (.tmp 17) (.tmp 17) rfl w.heap.size n rfl rfl (by omega) (Nat.le_refl _) ?_; intro w1 ho1 hb1)
  clear hmin
  go_loopw [9] (fun t wr => ∃ i : Nat, i ≤ n ∧ t = .int .i64 i ∧ wr.ownsRow w.heap.size 5 1 (.slice (some ⟨w.heap.size, 0, none⟩) n n) n ((fill l0 l1 l2 n i).map (Value.int .u8)) ∧ Below w.heap.size w wr) (fun t _ => n - (intOf t).toNat)
  case atStart => exact ⟨0, by omega, rfl, by rw [fill_zero]; exact ho1, hb1⟩
  case round =>
    obtain ⟨i, hi, rfl, ho, hb⟩ := hrel
    by_cases hlt : i < n
    · obtain ⟨hce, hfz⟩ := own_cell ho i (by omega)
      obtain ⟨c0, d0, e0, hm0, G0⟩ := Row.bytes (H0.out.keep hb)
      obtain ⟨c1, d1, e1, hm1, G1⟩ := Row.bytes (H1.out.keep hb)
      obtain ⟨c2, d2, e2, hm2, G2⟩ := Row.bytes (H2.out.keep hb)
      cases e0
      cases e1
      cases e2
      obtain ⟨b0, o0, rfl, q0, r0, s0⟩ := G0 i (by omega)
      obtain ⟨b1, o1, rfl, q1, r1, s1⟩ := G1 i (by omega)
      obtain ⟨b2, o2, rfl, q2, r2, s2⟩ := G2 i (by omega)
      clear G0 G1 G2
      have HF := Lib.hid (fill_succ l0 l1 l2 n i hlt)
      have HS := Lib.hid (show sum3 l0 l1 l2 i = bits .xor .u8 (bits .xor .u8 (l0[i]?.getD 0) (l1[i]?.getD 0)) (l2[i]?.getD 0) from rfl)
      go_wp2
      go_region
      go_wp2
      refine ⟨⟨i + 1, by omega, by go_num, ?_, (hb.setCell (Nat.le_refl _) _).drew⟩, by simp [intOf]; omega⟩
      rw [HF.out, HS.out]
      exact (own_store ho _ _).drew
    · obtain rfl : i = n := by omega
      have hd := fin l0 l1 l2 (fun c hc => wf_u8 (H0.out.wf c hc)) (fun c hc => wf_u8 (H1.out.wf c hc)) (fun c hc => wf_u8 (H2.out.wf c hc)) i (by have := H0.out.len; omega) (by have := H1.out.len; omega) (by have := H2.out.len; omega)
      have R8 := Lib.hid (((Row.ofOwn ho (fun c hc => wf8 (sum_bd l0 l1 l2 (fun c hc => wf_u8 (H0.out.wf c hc)) (fun c hc => wf_u8 (H1.out.wf c hc)) (fun c hc => wf_u8 (H2.out.wf c hc)) i i c hc)))).keep (Below.refl _ wr).drew)
      have R0 := Lib.hid ((H0.out.keep hb.drew).upto i (by omega))
      have R1 := Lib.hid ((H1.out.keep hb.drew).upto i (by omega))
      have R2 := Lib.hid ((H2.out.keep hb.drew).upto i (by omega))
      have c0 : i ≤ cap0 := Nat.le_trans (by omega) (capOf H0.out)
      have c1 : i ≤ cap1 := Nat.le_trans (by omega) (capOf H1.out)
      have c2 : i ≤ cap2 := Nat.le_trans (by omega) (capOf H2.out)
      generalize fill l0 l1 l2 i i = s at *
      generalize l0.take i = t0 at *
      generalize l1.take i = t1 at *
      generalize l2.take i = t2 at *
      clear ho hb1
      go_wp2_with fail
      refine wp_region_still_tail 18 (by kernel_rfl) (by kernel_rfl) ?_
      simp only [List.take_succ_cons, List.take_zero, List.drop_succ_cons, List.drop_zero]
      repeat still_step
      still_call (crcQ _ s _ R8.out)
      repeat still_step
      still_call (crcQ _ t0 _ R0.out)
      repeat still_step
      still_call (crcQ _ t1 _ R1.out)
      repeat still_step
      still_call (crcQ _ t2 _ R2.out)
      repeat still_step
      refine wpStill_nil ?_
      change wpList _ _ _ _ _ wr.drew
      have hb2 := hb.drew
      generalize wr.drew = w2 at *
      go_wp2_with fail
      refine (known _).mono ?_
      rintro e w' ⟨rfl, hk⟩
      go_wp2_with fail
      go_ret
      exact ⟨rfl, hb2.trans (hk.mono hb2.size)⟩
end Go.Proofs.Ytgaafchdmfgkkaa.checksumAffine
