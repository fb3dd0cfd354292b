/-
  Parse, Format, in one text: see the remarks at the head of each part.
-/
import Derived.Test.YtfidddcjieoblaaMLong
import Derived.Test.YtfidddcjieoblaaMPlain
/-
  Contracts of bignat.scaleAndAdd and Parse.
-/
namespace Go.Proofs.Ytfidddcjieoblaa.Nt
open Go.ChangeShapes Go.WideShapes Go.ChangeAt Go.RowKit B
set_option linter.unusedVariables false

theorem own_form {w : World} {base : Nat} {e : TypeId} {size : Nat} {v : Value} {n : Nat} {xs : List Value} (h : w.ownsRow base e size v n xs) :
    ∃ a cap, v = .slice a n cap ∧ n ≤ cap ∧ cap ≤ 9223372036854775807 ∧ (0 < n → ∃ g, a = some ⟨g, 0, none⟩ ∧ base ≤ g) := by
  rcases h.2 with ⟨rfl, h0⟩ | ⟨g, cap, cur, rfl, hb, _, h1, h2, _⟩
  · exact ⟨none, 0, by rw [h0], by omega, by omega, fun hn => by omega⟩
  · unfold maxLen at h2
    exact ⟨_, cap, rfl, h1, by omega, fun _ => ⟨g, rfl, hb⟩⟩

/-- a row of the caller's own comes back changed -/
def RetSA (base : Nat) (w : World) (x : Int) (n : Nat) (e : Ending) (w' : World) : Prop :=
  ∃ v m l, e = .returned v ∧ w'.ownsRow base 125 1 v m (l.map (Value.int .u32)) ∧ Ds l ∧ N l = x ∧ m ≤ n + 1 ∧ Below base w w'

/-- the text of a number, as Parse takes it -/
def okDec (b : List UInt8) : Bool := !b.isEmpty && !(decide (1 < b.length) && decide ((b[0]?.getD 0).toNat = 48)) && b.all isD
def pcode (b : List UInt8) : Int := if 4000 < b.length then 4 else if okDec b = true then 0 else 2
def pval (b : List UInt8) : Int := if 4000 < b.length then 0 else if okDec b = true then dval b else 0
def RetP (base : Nat) (w : World) (b : List UInt8) (e : Ending) (w' : World) : Prop :=
  ∃ v, e = .returned (.tuple #[v, .int .i64 (pcode b)]) ∧ IsNew base w' v (pval b) ∧ Below base w w'

theorem bytes_take (s : ByteArray) (k : Nat) (h : k < s.size) : s.data.toList.take (k + 1) = s.data.toList.take k ++ [s[k]] := by
  rw [List.take_succ_eq_append_getElem (by simpa using h)]; rfl
theorem bytes_chunk (s : ByteArray) (i k : Nat) (h : i + k < s.size) : (s.data.toList.drop i).take (k + 1) = (s.data.toList.drop i).take k ++ [s[i + k]] := by
  rw [List.take_succ_eq_append_getElem (by simp; exact (by omega : k < s.size - i))]
  congr 1
  simp
  try rfl
theorem p10_val : p10 8 = 100000000 ∧ p10 9 = 1000000000 := by decide

theorem all_sub {b : List UInt8} (h : b.all isD = true) (k j : Nat) : ((b.drop k).take j).all isD = true := by
  rw [List.all_eq_true] at h ⊢
  exact fun x hx => h x (List.mem_of_mem_drop (List.mem_of_mem_take hx))
theorem all_at {s : ByteArray} (h : s.data.toList.all isD = true) {i : Nat} (hi : i < s.size) : 48 ≤ ((s[i]).toNat : Int) ∧ ((s[i]).toNat : Int) ≤ 57 := by
  rw [List.all_eq_true] at h
  have := h s[i] (List.getElem_mem (l := s.data.toList) (n := i) (by simpa using hi))
  simp [isD] at this
  omega
theorem notok (s : ByteArray) (k : Nat) (h : k < s.size) (hb : (s[k].toNat : Int) < 48 ∨ 57 < (s[k].toNat : Int)) (h4 : s.size ≤ 4000) (hl : s.data.toList.length = s.size) (ho : okDec s.data.toList = s.data.toList.all isD) :
    pcode s.data.toList = 2 ∧ pval s.data.toList = 0 := by
  have : s.data.toList.all isD = false := by
    rw [List.all_eq_false]
    refine ⟨s[k], ?_, ?_⟩
    · exact List.getElem_mem (l := s.data.toList) (n := k) (by omega)
    · simp [isD]; omega
  simp only [pcode, pval, hl, if_neg (show ¬ 4000 < s.size by omega), ho, this]
  exact ⟨rfl, rfl⟩

end Go.Proofs.Ytfidddcjieoblaa.Nt

/-
  Contract of bignat.Format.
-/
namespace Go.Proofs.Ytfidddcjieoblaa.Nt
open Go.ChangeShapes Go.WideShapes Go.ChangeAt Go.RowKit B
set_option linter.unusedVariables false

theorem info8 : (Try.prog.info? 5).map (fun i => (i.zero, i.size, i.bytes)) = some (some (.int .u8 0), 1, 1) := by kernel_rfl
/-- the text of a number comes back -/
def RetS (base : Nat) (w : World) (n : Int) (e : Ending) (w' : World) : Prop := ∃ s, e = .returned (.string s) ∧ IsDec s n ∧ Below base w w'
/-- digits as bytes -/
def asc (l : List Int) : List Int := l.map (· + 48)
theorem asc_snoc (l : List Int) (d : Int) : asc l ++ [48 + d] = asc (l ++ [d]) := by simp [asc, Int.add_comm]
theorem asc_wf {l : List Int} (h : D10 l) : ∀ n ∈ asc l, (Lit.int .u8 n).wf = true := by
  intro n hn
  simp only [asc, List.mem_map] at hn
  obtain ⟨d, hd, rfl⟩ := hn
  have := h d hd
  exact wf8 (by omega)

theorem own_below {w w' : World} {base : Nat} {e : TypeId} {size : Nat} {v : Value} {n : Nat} {xs : List Value} (h : w.ownsRow base e size v n xs) (hb : Below w.heap.size w w') : w'.ownsRow base e size v n xs := by
  refine ⟨h.1, ?_⟩
  rcases h.2 with h0 | ⟨g, cap, cur, h1, h2, h3, h4⟩
  · exact .inl h0
  · refine .inr ⟨g, cap, cur, h1, h2, ?_, h4⟩
    rw [hb.block g (by rcases Nat.lt_or_ge g w.heap.size with h | h; exact h; rw [Array.getElem?_eq_none h] at h3; cases h3)]
    exact h3

theorem conv_dec {w : World} {base g m cap : Nat} {R : List Int} (ho : w.ownsRow base 5 1 (.slice (some ⟨g, 0, none⟩) m cap) m ((asc R).reverse.map (Value.int .u8))) (hD : D10 R) (hl : R.length = m) :
    (convert 124 9 (.slice (some ⟨g, 0, none⟩) m cap)).run Try.prog w = .ok (.string (decS R)) w := by
  have e : m = (decB R).length := by simp [decB, hl]
  conv => lhs; rw [e]
  refine run_convert_bytes_back (P := Try.prog) w 124 9 5 ⟨g, 0, none⟩ cap (decB R) Try.underlying124 Try.underlying5 Try.underlying9 ?_
  intro j hj
  have hjm : j < m := by omega
  have ea : Addr.add ⟨g, 0, none⟩ j = ⟨g, j, none⟩ := by
    unfold Addr.add; split <;> simp_all
  rw [ea, (own_cell ho j hjm).1]
  congr 2
  have hjr : j < (asc R).reverse.length := by simp [asc]; omega
  rw [List.getElem?_eq_getElem hjr, Option.getD_some]
  simp only [asc, decB, List.getElem_reverse, List.getElem_map, ← List.map_reverse]
  have := hD _ (List.getElem_mem (l := R) (n := R.length - 1 - j) (by omega))
  generalize R[R.length - 1 - j]'(by omega) = d at *
  rw [UInt8.toNat_ofNat']
  omega

end Go.Proofs.Ytfidddcjieoblaa.Nt
