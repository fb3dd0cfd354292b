/-
  The checksum is linear over bit streams: plain laws for ChecksumAffine, ChecksumBurst and ChecksumSealed.
-/
import Derived.Test.YtgaafchdmfgkkaaLaws
namespace Go.Proofs.Ytgaafchdmfgkkaa.Crc

def one (b : Bool) : BitVec 32 := if b then 1#32 else 0#32
def poly (b : Bool) : BitVec 32 := if b then 2197175160#32 else 0#32

theorem and_one (r : BitVec 32) : (r &&& 1 = 1) ↔ r.getLsbD 0 = true := by
  constructor
  · intro h
    have := congrArg (fun x => x.getLsbD 0) h
    simpa using this
  · intro h
    apply BitVec.eq_of_getLsbD_eq
    intro i hi
    rcases i with _ | i
    · simp [h]
    · simp
theorem bit_eq (r : BitVec 32) : bit r = (r >>> 1) ^^^ poly (r.getLsbD 0) := by
  unfold bit poly
  by_cases h : r.getLsbD 0 = true
  · rw [if_pos ((and_one r).2 h), if_pos h]
  · rw [if_neg (fun e => h ((and_one r).1 e)), if_neg h, BitVec.xor_zero]
theorem poly_xor (a b : Bool) : poly (a ^^ b) = poly a ^^^ poly b := by cases a <;> cases b <;> decide
theorem one_xor (a b : Bool) : one (a ^^ b) = one a ^^^ one b := by cases a <;> cases b <;> decide
theorem xz (a : BitVec 32) : a ^^^ 0 = a := BitVec.xor_zero
theorem zx (a : BitVec 32) : 0 ^^^ a = a := BitVec.zero_xor
theorem x4 (a b c d : BitVec 32) : (a ^^^ b) ^^^ (c ^^^ d) = (a ^^^ c) ^^^ (b ^^^ d) := by
  apply BitVec.eq_of_getLsbD_eq
  intro i _
  simp only [BitVec.getLsbD_xor]
  cases a.getLsbD i <;> cases b.getLsbD i <;> cases c.getLsbD i <;> cases d.getLsbD i <;> rfl
theorem bit_xor (x y : BitVec 32) : bit (x ^^^ y) = bit x ^^^ bit y := by
  rw [bit_eq, bit_eq, bit_eq, BitVec.getLsbD_xor, poly_xor, BitVec.ushiftRight_xor_distrib, x4]
theorem bits8_xor (n : Nat) (x y : BitVec 32) : bits8 n (x ^^^ y) = bits8 n x ^^^ bits8 n y := by
  induction n with
  | zero => rfl
  | succ n ih => rw [bits8, bits8, bits8, ih, bit_xor]
theorem bits8_zero (n : Nat) : bits8 n 0 = 0 := by
  induction n with
  | zero => rfl
  | succ n ih => rw [bits8, ih]; decide
/-- a step can be taken back -/
def back (r : BitVec 32) : BitVec 32 := if r.getLsbD 31 then ((r ^^^ 2197175160#32) <<< 1) ^^^ 1#32 else r <<< 1
theorem bit_inj0 (x : BitVec 32) (h : bit x = 0) : x = 0 := by
  rw [bit_eq] at h
  have h31 := congrArg (fun z => z.getLsbD 31) h
  have h0 : x.getLsbD 0 = false := by
    cases hb : x.getLsbD 0 with
    | false => rfl
    | true =>
      exfalso
      rw [hb] at h31
      simp [poly] at h31
  rw [h0] at h
  have h' : x >>> 1 = 0 := by simpa [poly] using h
  apply BitVec.eq_of_getLsbD_eq
  intro i hi
  rcases i with _ | i
  · simpa using h0
  · have := congrArg (fun z => z.getLsbD i) h'
    simpa [Nat.add_comm] using this
theorem bits8_inj0 (n : Nat) (x : BitVec 32) (h : bits8 n x = 0) : x = 0 := by
  induction n with
  | zero => exact h
  | succ n ih => exact ih (bit_inj0 _ h)

/-- the register after n bits of a stream -/
def feed (f : Nat → Bool) (r : BitVec 32) : Nat → BitVec 32
  | 0 => r
  | n + 1 => bit (feed f r n ^^^ one (f n))
theorem feed_xor (f g : Nat → Bool) (x y : BitVec 32) (n : Nat) : feed (fun i => f i ^^ g i) (x ^^^ y) n = feed f x n ^^^ feed g y n := by
  induction n with
  | zero => rfl
  | succ n ih => rw [feed, feed, feed, ih, one_xor, x4, bit_xor]
theorem feed_congr (f g : Nat → Bool) (r : BitVec 32) (n : Nat) (h : ∀ i, i < n → f i = g i) : feed f r n = feed g r n := by
  induction n with
  | zero => rfl
  | succ n ih => rw [feed, feed, ih (fun i hi => h i (by omega)), h n (by omega)]
theorem feed_zero (r : BitVec 32) (n : Nat) : feed (fun _ => false) r n = bits8 n r := by
  induction n with
  | zero => rfl
  | succ n ih => rw [feed, bits8, ih]; simp [one]
theorem feed_add (f : Nat → Bool) (r : BitVec 32) (m n : Nat) : feed f r (m + n) = feed (fun i => f (m + i)) (feed f r m) n := by
  induction n with
  | zero => rfl
  | succ n ih => rw [← Nat.add_assoc, feed, feed, ih]
/-- one byte is eight bits -/
theorem byte0 : ∀ c : Fin 256, bits8 8 (BitVec.ofNat 32 c.val) = feed (fun i => c.val.testBit i) 0 8 := by decide +kernel
theorem byte_feed (r : BitVec 32) (c : Int) (h0 : 0 ≤ c) (h1 : c < 256) : byte r c = feed (fun i => c.toNat.testBit i) r 8 := by
  obtain ⟨n, rfl⟩ := Int.eq_ofNat_of_zero_le h0
  rw [byte, bits8_xor, BitVec.ofInt_natCast]
  have := byte0 ⟨n, by omega⟩
  simp only at this
  rw [this]
  have e := feed_xor (fun _ => false) (fun i => n.testBit i) r 0 8
  rw [feed_zero] at e
  rw [← e, xz]
  simp
def bitAt (l : List Int) (k : Nat) : Bool := (l[k / 8]?.getD 0).toNat.testBit (k % 8)
theorem run_feed (l : List Int) (hl : ∀ c ∈ l, 0 ≤ c ∧ c < 256) (r : BitVec 32) : ∀ k, k ≤ l.length → run r (l.take k) = feed (bitAt l) r (8 * k) := by
  intro k
  induction k with
  | zero => intro _; rfl
  | succ k ih =>
    intro hk
    have e0 : run r (l.take k ++ [l[k]'(by omega)]) = byte (run r (l.take k)) (l[k]'(by omega)) := by rw [run, List.foldl_append]; rfl
    rw [List.take_succ_eq_append_getElem (by omega), e0, ih (by omega)]
    have hc := hl _ (List.getElem_mem (l := l) (n := k) (by omega))
    rw [byte_feed _ _ hc.1 hc.2, show 8 * (k + 1) = 8 * k + 8 by omega, feed_add]
    apply feed_congr
    intro i hi
    have e1 : (8 * k + i) / 8 = k := by omega
    have e2 : (8 * k + i) % 8 = i := by omega
    simp [bitAt, e1, e2, show k < l.length by omega]
theorem run_bits (l : List Int) (hl : ∀ c ∈ l, 0 ≤ c ∧ c < 256) (r : BitVec 32) : run r l = feed (bitAt l) r (8 * l.length) := by
  have := run_feed l hl r l.length (Nat.le_refl _)
  rwa [List.take_length] at this
/-- the first n bits of x -/
def low (x : BitVec 32) : Nat → BitVec 32
  | 0 => 0
  | n + 1 => low x n ^^^ (if x.getLsbD n then 1#32 <<< n else 0)
theorem low_bit (x : BitVec 32) (n i : Nat) (h : n ≤ 32) : (low x n).getLsbD i = (decide (i < n) && x.getLsbD i) := by
  induction n with
  | zero => simp [low]
  | succ n ih =>
    rw [low, BitVec.getLsbD_xor, ih (by omega)]
    by_cases hn : x.getLsbD n = true
    · rw [if_pos hn]
      by_cases h1 : i < n
      · have : (1#32 <<< n).getLsbD i = false := by simp; omega
        simp [this, h1, show i < n + 1 by omega]
      · by_cases h2 : i = n
        · subst h2
          have : (1#32 <<< i).getLsbD i = true := by simp; omega
          simp [this, hn]
        · have : (1#32 <<< n).getLsbD i = false := by simp; omega
          simp [this, h1, show ¬ i < n + 1 by omega]
    · rw [if_neg hn]
      by_cases h1 : i < n
      · simp [h1, show i < n + 1 by omega]
      · by_cases h2 : i = n
        · subst h2; simpa using hn
        · simp [h1, show ¬ i < n + 1 by omega]
theorem low32 (x : BitVec 32) : low x 32 = x := by
  apply BitVec.eq_of_getLsbD_eq
  intro i hi
  rw [low_bit x 32 i (by omega)]
  simp [hi]
theorem bits8_pow : ∀ n : Fin 32, bits8 n.val (1#32 <<< n.val) = 1 := by decide +kernel
theorem feed_low (x : BitVec 32) (n : Nat) (h : n ≤ 32) : feed (fun i => x.getLsbD i) 0 n = bits8 n (low x n) := by
  induction n with
  | zero => rfl
  | succ n ih =>
    rw [feed, ih (by omega), bits8, low, bits8_xor]
    congr 2
    have := bits8_pow ⟨n, by omega⟩
    simp only at this
    by_cases hb : x.getLsbD n = true
    · rw [if_pos hb, this]; simp [one, hb]
    · rw [if_neg hb, bits8_zero]; simp [one, hb]
theorem feed32 (x r : BitVec 32) : feed (fun i => x.getLsbD i) r 32 = bits8 32 (r ^^^ x) := by
  have e := feed_xor (fun _ => false) (fun i => x.getLsbD i) r 0 32
  rw [feed_zero, feed_low _ _ (by omega), low32, xz] at e
  rw [bits8_xor, ← e]
  simp

/-- THE BURST: two strings that differ within 32 consecutive bits, in the pattern x -/
theorem burst (l m : List Int) (hl : ∀ c ∈ l, 0 ≤ c ∧ c < 256) (hm : ∀ c ∈ m, 0 ≤ c ∧ c < 256) (hlen : m.length = l.length) (x : BitVec 32) (hx : x ≠ 0) (k : Nat) (hk : k + 32 ≤ 8 * l.length)
    (h : ∀ i, bitAt m i = (bitAt l i ^^ (decide (k ≤ i) && x.getLsbD (i - k)))) : ext 0 l ≠ ext 0 m := by
  intro e
  have e1 : run (~~~ 0) l = run (~~~ 0) m := by
    have := congrArg (fun z => ~~~ z) e
    simpa [ext] using this
  rw [run_bits l hl, run_bits m hm, hlen] at e1
  have e2 := feed_xor (bitAt l) (fun i => decide (k ≤ i) && x.getLsbD (i - k)) (~~~ 0) 0 (8 * l.length)
  rw [xz, feed_congr _ (bitAt m) _ _ (fun i _ => (h i).symm), ← e1] at e2
  have e3 : feed (fun i => decide (k ≤ i) && x.getLsbD (i - k)) 0 (8 * l.length) = 0 := by
    have e4 : ∀ a b : BitVec 32, a = a ^^^ b → b = 0 := by
      intro a b hab
      have := congrArg (fun z => a ^^^ z) hab
      rw [BitVec.xor_self, ← BitVec.xor_assoc, BitVec.xor_self, BitVec.zero_xor] at this
      exact this.symm
    exact e4 _ _ e2
  obtain ⟨t, ht⟩ : ∃ t, 8 * l.length = k + (32 + t) := ⟨8 * l.length - k - 32, by omega⟩
  rw [ht, feed_add, feed_congr _ (fun _ => false) _ k (by intro i hi; simp; omega), feed_zero, bits8_zero, feed_add,
    feed_congr _ (fun i => x.getLsbD i) _ 32 (by intro i hi; simp), feed32, feed_congr _ (fun _ => false) _ t (by intro i hi; simp), feed_zero] at e3
  have := bits8_inj0 _ _ (bits8_inj0 _ _ e3)
  rw [zx] at this
  exact hx this

/-- a string followed by its checksum -/
theorem endsAlike (l : List Int) (q : List Int) (hq : q.length = 4) (hb : ∀ c ∈ q, 0 ≤ c ∧ c < 256) (h : ∀ i, i < 32 → bitAt q i = (ext 0 l).getLsbD i) :
    ext 0 (l ++ q) = ~~~ (bits8 32 (BitVec.allOnes 32)) := by
  have e0 : run (~~~ 0) (l ++ q) = run (run (~~~ 0) l) q := by rw [run, List.foldl_append]; rfl
  rw [ext, e0, run_bits q hb, hq, feed_congr _ _ _ _ h, feed32]
  congr 2
  rw [ext]
  generalize run (~~~ 0) l = y
  apply BitVec.eq_of_getLsbD_eq
  intro i hi
  rw [BitVec.getLsbD_allOnes]
  simp [hi]

/-- THE SUM -/
theorem affine (f g h s : List Int) (n : Nat) (hs : s.length = n) (hf : f.length = n) (hg : g.length = n) (hh : h.length = n)
    (e : ∀ i, i < n → BitVec.ofInt 32 (s[i]?.getD 0) = BitVec.ofInt 32 (f[i]?.getD 0) ^^^ BitVec.ofInt 32 (g[i]?.getD 0) ^^^ BitVec.ofInt 32 (h[i]?.getD 0)) :
    ext 0 s = (ext 0 f ^^^ ext 0 g) ^^^ ext 0 h := by
  have key : ∀ k, k ≤ n → ∀ x y z : BitVec 32, run (x ^^^ y ^^^ z) (s.take k) = run x (f.take k) ^^^ run y (g.take k) ^^^ run z (h.take k) := by
    intro k
    induction k with
    | zero => intros; rfl
    | succ k ih =>
      intro hk x y z
      have t : ∀ (l : List Int), l.length = n → ∀ r, run r (l.take (k + 1)) = byte (run r (l.take k)) (l[k]?.getD 0) := by
        intro l hl r
        rw [List.take_succ_eq_append_getElem (by omega), run, run, List.foldl_append]
        simp [show k < l.length by omega]
      rw [t s hs, t f hf, t g hg, t h hh, ih (by omega), byte, byte, byte, byte, e k (by omega), ← bits8_xor, ← bits8_xor, x4, x4 (run x (List.take k f))]
  have k1 := key n (Nat.le_refl _) (~~~ 0) (~~~ 0) (~~~ 0)
  rw [← hs, List.take_length, hs, ← hf, List.take_length, hf, ← hg, List.take_length, hg, ← hh, List.take_length] at k1
  rw [show (~~~ (0 : BitVec 32)) ^^^ (~~~ 0) ^^^ (~~~ 0) = ~~~ 0 by decide] at k1
  simp only [ext]
  rw [k1]
  generalize run (~~~ 0) f = a
  generalize run (~~~ 0) g = b
  generalize run (~~~ 0) h = c
  apply BitVec.eq_of_getLsbD_eq
  intro i hi
  simp [hi]
end Go.Proofs.Ytgaafchdmfgkkaa.Crc
