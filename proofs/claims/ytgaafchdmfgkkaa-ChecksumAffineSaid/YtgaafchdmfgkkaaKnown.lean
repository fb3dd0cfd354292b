/-
  known() answers true.
-/
import Derived.Test.YtgaafchdmfgkkaaCalls
namespace Go.Proofs.Ytgaafchdmfgkkaa.Crc
open Go.ChangeShapes Go.WideShapes Go.ChangeAt Go.RowKit B
set_option linter.unusedVariables false

theorem k1 : ((ext 0 [49, 50, 51, 52, 53, 54, 55, 56, 57]).toNat : Int) = 3808858755 := by decide +kernel
theorem k2 : ((hash [97]).toNat : Int) = 12638187200555641996 := by decide +kernel
theorem k3 : ((hash []).toNat : Int) = 14695981039346656037 := by decide +kernel
theorem row9 (w : World) : Row .u8 (w.alloc (.cells #[.int .u8 49, .int .u8 50, .int .u8 51, .int .u8 52, .int .u8 53, .int .u8 54, .int .u8 55, .int .u8 56, .int .u8 57] 5 (9, 10))) (.slice (some ⟨w.heap.size, 0, none⟩) 9 9) [49, 50, 51, 52, 53, 54, 55, 56, 57] :=
  Row.new w _ _ _ _ _ rfl rfl (by decide) (by decide)
theorem row1 (w : World) : Row .u8 (w.alloc (.cells #[.int .u8 97] 5 (1, 2))) (.slice (some ⟨w.heap.size, 0, none⟩) 1 1) [97] :=
  Row.new w _ _ _ _ _ rfl rfl (by decide) (by decide)

set_option maxHeartbeats 400000 in
theorem known (w : World) : Calls Try.prog 15 #[] w fun e w' => e = .returned (.bool true) ∧ Below w.heap.size w w' := by
  have kc := fun (w : World) (C : Array Value) (n c : Nat) => Lib.run_convert_bytes_const (P := Try.prog) w 22 5 C n c Try.underlying22 Try.underlying5
  go_enter Try.func15, Try.ntmps15
  go_wp2_with fail
  refine (crc _ _ _ (row9 w)).mono ?_
  rintro e w' ⟨rfl, rfl⟩
  rw [k1]
  have hb1 : Below w.heap.size w (w.alloc (.cells #[.int .u8 49, .int .u8 50, .int .u8 51, .int .u8 52, .int .u8 53, .int .u8 54, .int .u8 55, .int .u8 56, .int .u8 57] 5 (9, 10))) := (Below.refl _ _).alloc (Nat.le_refl _) _
  generalize (w.alloc (.cells #[.int .u8 49, .int .u8 50, .int .u8 51, .int .u8 52, .int .u8 53, .int .u8 54, .int .u8 55, .int .u8 56, .int .u8 57] 5 (9, 10))) = w1 at *
  go_wp2_with fail
  refine (hashC _ _ _ (row1 _)).mono ?_
  rintro e w' ⟨rfl, rfl⟩
  rw [k2]
  go_wp2_with fail
  refine (hashC _ _ _ (Row.nil _ _)).mono ?_
  rintro e w' ⟨rfl, rfl⟩
  rw [k3]
  go_wp2_with fail
  go_ret
  exact ⟨rfl, hb1.alloc hb1.size _⟩
end Go.Proofs.Ytgaafchdmfgkkaa.Crc
