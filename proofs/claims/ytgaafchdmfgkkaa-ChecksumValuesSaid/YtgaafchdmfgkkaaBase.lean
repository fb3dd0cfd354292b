/-
  Base: what it means that a slice value reads as a list of integers in a world, and that this stays so while nothing below the heap's size is written.
-/
import Derived.Test.YtgaafchdmfgkkaaRows
import Derived.WalkKit
import Derived.WalkSpells
import Derived.ProofKit
import Derived.OpenShut
import Derived.Below
import Derived.Outline
import Derived.Laws.BitsAllLaws
import Derived.Lib.Hide
import Derived.Lib.SlBytesConst
import Derived.Laws.IdiomStrings
namespace Go.Proofs.Ytgaafchdmfgkkaa.B
open Go.ChangeShapes Go.WideShapes Go.ChangeAt Go.RowKit

theorem ret_int {k : IntKind} {a b : Int} (h : a = b) : Ending.returned (.int k a) = .returned (.int k b) := by rw [h]

/-- the slice 'v' reads as the integers 'l' of kind 'k' in the world 'w' -/
def Row (k : IntKind) (w : World) (v : Value) (l : List Int) : Prop :=
  ∃ (a : Option Addr) (cap : Nat), v = .slice a l.length cap ∧ l.length ≤ cap ∧ cap ≤ maxLen ∧ (∀ n ∈ l, (Lit.int k n).wf = true) ∧
    (l ≠ [] → ∃ b off, a = some ⟨b, off, none⟩ ∧ ∀ i, i < l.length → w.cell? ⟨b, off + i, none⟩ = some (.int k (l.getD i 0)))

/-- what the frame of a law's proof says of a slice argument -/
def IsRow (k : IntKind) (w : World) (a : Option Addr) (len cap : Nat) (zs : List Int) : Prop :=
  (a = none ∧ len = 0 ∧ cap = 0 ∧ zs = []) ∨
  ∃ x, a = some x ∧ len ≤ cap ∧ cap ≤ maxLen ∧ zs.length = cap ∧ (∀ i, i < zs.length → w.cell? (x.add i) = some (.int k (zs.getD i 0))) ∧ ∀ n ∈ zs, (Lit.int k n).wf = true

theorem getD_take (l : List Int) (n i : Nat) (h : i < n) : (l.take n).getD i 0 = l.getD i 0 := by
  simp [List.getD_eq_getElem?_getD, h]

theorem Row.of {k : IntKind} {w : World} {a : Option Addr} {len cap : Nat} {zs : List Int} (h : IsRow k w a len cap zs) : Row k w (.slice a len cap) (zs.take len) := by
  rcases h with ⟨rfl, rfl, rfl, rfl⟩ | ⟨x, rfl, hl, hm, hz, hcell, hwz⟩
  · exact ⟨none, 0, rfl, by simp, by simp, by simp, by simp⟩
  · have hlen : (zs.take len).length = len := by simp; omega
    refine ⟨some x, cap, by rw [hlen], by omega, hm, fun n hn => hwz n (List.mem_of_mem_take hn), fun hne => ?_⟩
    obtain ⟨b, off, spot⟩ := x
    have hpos : 0 < len := by
      rcases Nat.eq_zero_or_pos len with h | h
      · subst h; simp at hne
      · exact h
    have hc := hcell 0 (by omega)
    have hspot : spot = none := by simpa [Addr.add] using World.cell?_spot hc
    subst hspot
    refine ⟨b, off, rfl, fun i hi => ?_⟩
    rw [hlen] at hi
    have := hcell i (by omega)
    rw [getD_take _ _ _ hi]
    rw [← this]
    congr 1
    unfold Addr.add
    split <;> simp_all

theorem Row.lt {k : IntKind} {w : World} {b off : Nat} {v : Int} {i : Nat} (h : w.cell? ⟨b, off + i, none⟩ = some (.int k v)) : b < w.heap.size := by
  unfold World.cell? at h
  rcases Nat.lt_or_ge b w.heap.size with hb | hb
  · exact hb
  · simp [Array.getElem?_eq_none hb] at h

/-- it still reads so when only newer blocks were written -/
theorem Row.keep {k : IntKind} {w w' : World} {v : Value} {l : List Int} (h : Row k w v l) (hb : Below w.heap.size w w') : Row k w' v l := by
  obtain ⟨a, cap, rfl, h1, h2, h3, h4⟩ := h
  refine ⟨a, cap, rfl, h1, h2, h3, fun hne => ?_⟩
  obtain ⟨b, off, rfl, hc⟩ := h4 hne
  refine ⟨b, off, rfl, fun i hi => ?_⟩
  rw [hb.cell (p := ⟨b, off + i, none⟩) (Row.lt (hc i hi))]
  exact hc i hi

/-- a block that was just made -/
theorem Row.new {k : IntKind} (w : World) (l : List Int) (t : TypeId) (fr : Nat × Nat) (C : Array Value) (n : Nat) (hC : C = (l.map (Value.int k)).toArray) (hn : n = l.length)
    (hl : l.length ≤ maxLen) (hw : ∀ n ∈ l, (Lit.int k n).wf = true) : Row k (w.alloc (.cells C t fr)) (.slice (some ⟨w.heap.size, 0, none⟩) n n) l := by
  subst hn hC
  refine ⟨_, _, rfl, Nat.le_refl _, hl, hw, fun _ => ⟨_, _, rfl, fun i hi => ?_⟩⟩
  rw [Nat.zero_add, World.cell?_alloc_mark]
  simp [hi]

theorem Row.nil (k : IntKind) (w : World) : Row k w (.slice none 0 0) [] :=
  ⟨none, 0, rfl, by simp, by simp, by simp, by simp⟩

end Go.Proofs.Ytgaafchdmfgkkaa.B
