/-
  Contracts of checksum.ExtendCRC, CRC and Hash and of the reference's Extend, CRC and Hash: for every slice that reads as a list of bytes.
-/
import Derived.Test.YtgaafchdmfgkkaaBase
import Derived.Test.YtgaafchdmfgkkaaPlain
namespace Go.Proofs.Ytgaafchdmfgkkaa.Crc
open Go.ChangeShapes Go.WideShapes Go.ChangeAt Go.RowKit B
set_option linter.unusedVariables false

theorem not32 (r : BitVec 32) : bits .xor .u32 IntKind.u32.max (r.toNat : Int) = ((~~~ r).toNat : Int) := by
  have h : IntKind.u32.max = (((BitVec.allOnes 32).toNat : Nat) : Int) := by decide
  rw [h, u32_xor_nat _ _ (BitVec.isLt _) r.isLt, ← BitVec.toNat_xor, BitVec.allOnes_xor]
theorem xor32 (r s : BitVec 32) : bits .xor .u32 (r.toNat : Int) (s.toNat : Int) = ((r ^^^ s).toNat : Int) := by
  rw [u32_xor_nat _ _ r.isLt s.isLt, BitVec.toNat_xor]
theorem and32 (r s : BitVec 32) : bits .and .u32 (r.toNat : Int) (s.toNat : Int) = ((r &&& s).toNat : Int) := by
  rw [u32_and_nat _ _ r.isLt s.isLt, BitVec.toNat_and]
theorem byte32 (c : Int) (h0 : 0 ≤ c) (h1 : c < 256) : c = ((BitVec.ofInt 32 c).toNat : Int) := by
  obtain ⟨n, rfl⟩ := Int.eq_ofNat_of_zero_le h0
  rw [BitVec.ofInt_natCast, BitVec.toNat_ofNat, Nat.mod_eq_of_lt (by omega)]

theorem xor_start (R : BitVec 32) (c : Int) (h0 : 0 ≤ c) (h1 : c < 256) : bits .xor .u32 (R.toNat : Int) c = ((R ^^^ BitVec.ofInt 32 c).toNat : Int) := by
  conv => lhs; rw [byte32 c h0 h1]
  rw [xor32]
theorem and_one_t (B : BitVec 32) (h : B &&& 1 = 1) : (bits .and .u32 (B.toNat : Int) 1 == 1) = true := by
  have := and32 B 1
  rw [h] at this
  rw [beq_iff_eq]
  exact this
theorem and_one_f (B : BitVec 32) (h : ¬ B &&& 1 = 1) : (bits .and .u32 (B.toNat : Int) 1 == 1) = false := by
  have e := and32 B 1
  rw [beq_eq_false_iff_ne]
  intro hh
  apply h
  have : ((B &&& 1).toNat : Int) = 1 := by rw [← e]; exact hh
  exact BitVec.eq_of_toNat_eq (by rw [show (B &&& 1).toNat = 1 by omega]; rfl)
theorem bits8_succ (j : Nat) (x : BitVec 32) : bits8 (j + 1) x = bit (bits8 j x) := rfl
theorem take_run (r : BitVec 32) (zs : List Int) (k : Nat) (h : k < zs.length) : run r (zs.take (k + 1)) = byte (run r (zs.take k)) (zs[k]?.getD 0) := by
  rw [List.take_succ_eq_append_getElem h, run, run, List.foldl_append]
  simp [h]

theorem take_hash (zs : List Int) (k : Nat) (h : k < zs.length) : hash (zs.take (k + 1)) = hstep (hash (zs.take k)) (zs[k]?.getD 0) := by
  rw [List.take_succ_eq_append_getElem h, hash, hash, List.foldl_append]
  simp [h]
theorem hash_step (R : BitVec 64) (c : Int) (h0 : 0 ≤ c) (h1 : c < 256) :
    IntKind.u64.wrap (bits .xor .u64 (R.toNat : Int) c * 1099511628211) = ((hstep R c).toNat : Int) := by
  obtain ⟨n, rfl⟩ := Int.eq_ofNat_of_zero_le h0
  have e : (BitVec.ofInt 64 (n : Int)).toNat = n := by rw [BitVec.ofInt_natCast, BitVec.toNat_ofNat, Nat.mod_eq_of_lt (by omega)]
  have hx : bits .xor .u64 (R.toNat : Int) (n : Int) = ((R ^^^ BitVec.ofInt 64 (n : Int)).toNat : Int) := by
    rw [u64_xor_nat _ _ R.isLt (by omega), BitVec.toNat_xor, e]
  rw [hx, hstep, BitVec.toNat_mul, IntKind.wrap_u64]
  rw [show (1099511628211#64).toNat = 1099511628211 from rfl]
  omega

theorem shr1 (x : BitVec 32) : HDiv.hDiv (α := Int) (β := Int) (γ := Int) (x.toNat : Int) 2 = ((x >>> 1).toNat : Int) := by
  rw [BitVec.toNat_ushiftRight, Nat.shiftRight_eq_div_pow]; omega
theorem lit32 : (2197175160 : Int) = ((2197175160#32).toNat : Int) := by decide
theorem wf_u8 {n : Int} (h : (Lit.int .u8 n).wf = true) : 0 ≤ n ∧ n < 256 := by
  have : 0 ≤ n ∧ n ≤ 255 := by simpa [Lit.wf, IntKind.min, IntKind.max, IntKind.signed, IntKind.bits] using h
  omega
theorem getD_mem {l : List Int} {i : Nat} (h : i < l.length) : l.getD i 0 ∈ l := by
  rw [List.getD_eq_getElem?_getD, List.getElem?_eq_getElem h]; exact List.getElem_mem h

/-- a row of bytes, as the walks take it -/
theorem Row.bytes {w : World} {v : Value} {l : List Int} (h : Row .u8 w v l) : ∃ a cap, v = .slice a l.length cap ∧ l.length ≤ 9223372036854775807 ∧
    ∀ i, i < l.length → ∃ b off, a = some ⟨b, off, none⟩ ∧ w.cell? ⟨b, off + i, none⟩ = some (.int .u8 (l[i]?.getD 0)) ∧ 0 ≤ l[i]?.getD 0 ∧ l[i]?.getD 0 < 256 := by
  obtain ⟨a, cap, rfl, h1, h2, _, h3, h4⟩ := h
  unfold maxLen at h2
  refine ⟨a, cap, rfl, by omega, fun i hi => ?_⟩
  obtain ⟨b, off, rfl, hc⟩ := h4 (by intro e; subst e; simp at hi)
  have := hc i hi
  have hw := wf_u8 (h3 _ (getD_mem hi))
  rw [List.getD_eq_getElem?_getD] at this hw
  exact ⟨b, off, rfl, this, hw.1, hw.2⟩

set_option maxHeartbeats 400000 in
theorem extend (v : Value) (l : List Int) (r : BitVec 32) (w : World) (h : Row .u8 w v l) :
    Calls Try.prog 11 #[.int .u32 (r.toNat : Int), v] w fun e w' => e = .returned (.int .u32 ((ext r l).toNat : Int)) ∧ w = w' := by
  obtain ⟨a, cap, rfl, hm, hc⟩ := Row.bytes h
  clear h
  have HC := Lib.hid hc
  clear hc
  generalize hL : l.length = len at *
  have HL := Lib.hid hL
  clear hL
  go_enter Try.func11, Try.ntmps11
  go_wp2
  go_loop [5, 13] (fun t i => ∃ k : Nat, k ≤ len ∧ i = .int .i64 k ∧ t = .int .u32 ((run (~~~ r) (l.take k)).toNat : Int)) (fun _ i => len - (intOf i).toNat)
  case atStart => exact ⟨0, Nat.zero_le _, rfl, by rw [not32]; rfl⟩
  case round =>
    obtain ⟨k, hk, rfl, rfl⟩ := hrel
    by_cases hlt : k < len
    · obtain ⟨b, off, rfl, hcell, hb0, hb1⟩ := HC.out k hlt
      have HK := Lib.hid (take_run (~~~ r) l k (by have := HL.out; omega))
      generalize run (~~~ r) (l.take k) = R at *
      generalize l[k]?.getD 0 = c at *
      go_wp2
      go_loop [5, 21] (fun t i => ∃ j : Nat, j ≤ 8 ∧ i = .int .i64 j ∧ t = .int .u32 ((bits8 j (R ^^^ BitVec.ofInt 32 c)).toNat : Int)) (fun _ i => 8 - (intOf i).toNat)
      case atStart => exact ⟨0, Nat.zero_le _, rfl, by rw [xor_start R c hb0 hb1]; rfl⟩
      case round =>
        obtain ⟨j, hj, rfl, rfl⟩ := hrel
        have HS := Lib.hid (bits8_succ j (R ^^^ BitVec.ofInt 32 c))
        by_cases hlt2 : j < 8
        · generalize bits8 j (R ^^^ BitVec.ofInt 32 c) = B at *
          by_cases hb1 : B &&& 1 = 1
          · have ha : (bits .and .u32 (B.toNat : Int) 1 == 1) = true := and_one_t B hb1
            go_wp2
            go_round
            case rel => exact ⟨j + 1, by omega, by go_num, by rw [HS.out, bit, if_pos hb1, shr1, lit32, xor32]⟩
            case measure => simp [intOf]; omega
          · have ha : (bits .and .u32 (B.toNat : Int) 1 == 1) = false := and_one_f B hb1
            go_wp2
            go_round
            case rel => exact ⟨j + 1, by omega, by go_num, by rw [HS.out, bit, if_neg hb1, shr1]⟩
            case measure => simp [intOf]; omega
        · obtain rfl : j = 8 := by omega
          go_wp2
          go_round
          case rel => exact ⟨k + 1, by omega, by go_num, by rw [HK.out, byte]⟩
          case measure => simp [intOf]; omega
    · go_wp2
      go_ret
      exact ⟨ret_int (by rw [ext, not32, show k = len by omega, ← HL.out, List.take_length]), rfl⟩

set_option maxHeartbeats 400000 in
theorem refExtend (v : Value) (l : List Int) (r : BitVec 32) (w : World) (h : Row .u8 w v l) :
    Calls Try.prog 12 #[.int .u32 (r.toNat : Int), v] w fun e w' => e = .returned (.int .u32 ((ext r l).toNat : Int)) ∧ w = w' := by
  obtain ⟨a, cap, rfl, hm, hc⟩ := Row.bytes h
  clear h
  have HC := Lib.hid hc
  clear hc
  generalize hL : l.length = len at *
  have HL := Lib.hid hL
  clear hL
  go_enter Try.func12, Try.ntmps12
  go_wp2
  go_loop [5, 6] (fun t i => ∃ k : Nat, k ≤ len ∧ i = .int .i64 k ∧ t = .int .u32 ((run (~~~ r) (l.take k)).toNat : Int)) (fun _ i => len - (intOf i).toNat)
  case atStart => exact ⟨0, Nat.zero_le _, rfl, by rw [not32]; rfl⟩
  case round =>
    obtain ⟨k, hk, rfl, rfl⟩ := hrel
    by_cases hlt : k < len
    · obtain ⟨b, off, rfl, hcell, hb0, hb1⟩ := HC.out k hlt
      have HK := Lib.hid (take_run (~~~ r) l k (by have := HL.out; omega))
      generalize run (~~~ r) (l.take k) = R at *
      generalize l[k]?.getD 0 = c at *
      go_wp2
      go_loop [5, 7] (fun t i => ∃ j : Nat, j ≤ 8 ∧ i = .int .i64 j ∧ t = .int .u32 ((bits8 j (R ^^^ BitVec.ofInt 32 c)).toNat : Int)) (fun _ i => 8 - (intOf i).toNat)
      case atStart => exact ⟨0, Nat.zero_le _, rfl, by rw [xor_start R c hb0 hb1]; rfl⟩
      case round =>
        obtain ⟨j, hj, rfl, rfl⟩ := hrel
        have HS := Lib.hid (bits8_succ j (R ^^^ BitVec.ofInt 32 c))
        by_cases hlt2 : j < 8
        · generalize bits8 j (R ^^^ BitVec.ofInt 32 c) = B at *
          by_cases hb1 : B &&& 1 = 1
          · have ha : (bits .and .u32 (B.toNat : Int) 1 == 1) = true := and_one_t B hb1
            go_wp2
            go_round
            case rel => exact ⟨j + 1, by omega, by go_num, by rw [HS.out, bit, if_pos hb1, shr1, lit32, xor32]⟩
            case measure => simp [intOf]; omega
          · have ha : (bits .and .u32 (B.toNat : Int) 1 == 1) = false := and_one_f B hb1
            go_wp2
            go_round
            case rel => exact ⟨j + 1, by omega, by go_num, by rw [HS.out, bit, if_neg hb1, shr1]⟩
            case measure => simp [intOf]; omega
        · obtain rfl : j = 8 := by omega
          go_wp2
          go_round
          case rel => exact ⟨k + 1, by omega, by go_num, by rw [HK.out, byte]⟩
          case measure => simp [intOf]; omega
    · go_wp2
      go_ret
      exact ⟨ret_int (by rw [ext, not32, show k = len by omega, ← HL.out, List.take_length]), rfl⟩

theorem crc (v : Value) (l : List Int) (w : World) (h : Row .u8 w v l) :
    Calls Try.prog 9 #[v] w fun e w' => e = .returned (.int .u32 ((ext 0 l).toNat : Int)) ∧ w = w' := by
  have H := Lib.hid h
  clear h
  go_enter Try.func9, Try.ntmps9
  go_wp2_with (go_at_call 11; refine (extend v l 0 w H.out).mono ?_; rintro e w' ⟨rfl, rfl⟩)
  go_ret
  exact ⟨rfl, rfl⟩

theorem refCrc (v : Value) (l : List Int) (w : World) (h : Row .u8 w v l) :
    Calls Try.prog 10 #[v] w fun e w' => e = .returned (.int .u32 ((ext 0 l).toNat : Int)) ∧ w = w' := by
  have H := Lib.hid h
  clear h
  go_enter Try.func10, Try.ntmps10
  go_wp2_with (go_at_call 12; refine (refExtend v l 0 w H.out).mono ?_; rintro e w' ⟨rfl, rfl⟩)
  go_ret
  exact ⟨rfl, rfl⟩

set_option maxHeartbeats 400000 in
theorem hashC (v : Value) (l : List Int) (w : World) (h : Row .u8 w v l) :
    Calls Try.prog 13 #[v] w fun e w' => e = .returned (.int .u64 ((hash l).toNat : Int)) ∧ w = w' := by
  obtain ⟨a, cap, rfl, hm, hc⟩ := Row.bytes h
  clear h
  have HC := Lib.hid hc
  clear hc
  generalize hL : l.length = len at *
  have HL := Lib.hid hL
  clear hL
  go_enter Try.func13, Try.ntmps13
  go_wp2
  go_loop [3, 8] (fun t i => ∃ k : Nat, k ≤ len ∧ i = .int .i64 k ∧ t = .int .u64 ((hash (l.take k)).toNat : Int)) (fun _ i => len - (intOf i).toNat)
  case atStart => exact ⟨0, Nat.zero_le _, rfl, rfl⟩
  case round =>
    obtain ⟨k, hk, rfl, rfl⟩ := hrel
    by_cases hlt : k < len
    · obtain ⟨b, off, rfl, hcell, hb0, hb1⟩ := HC.out k hlt
      have HK := Lib.hid (take_hash l k (by have := HL.out; omega))
      generalize hash (l.take k) = R at *
      generalize l[k]?.getD 0 = c at *
      go_wp2
      go_round
      case rel => exact ⟨k + 1, by omega, by go_num, by rw [HK.out, hash_step R c hb0 hb1]⟩
      case measure => simp [intOf]; omega
    · go_wp2
      go_ret
      exact ⟨ret_int (by rw [show k = len by omega, ← HL.out, List.take_length]), rfl⟩

set_option maxHeartbeats 400000 in
theorem refHash (v : Value) (l : List Int) (w : World) (h : Row .u8 w v l) :
    Calls Try.prog 14 #[v] w fun e w' => e = .returned (.int .u64 ((hash l).toNat : Int)) ∧ w = w' := by
  obtain ⟨a, cap, rfl, hm, hc⟩ := Row.bytes h
  clear h
  have HC := Lib.hid hc
  clear hc
  generalize hL : l.length = len at *
  have HL := Lib.hid hL
  clear hL
  go_enter Try.func14, Try.ntmps14
  go_wp2
  go_loop [3, 4] (fun t i => ∃ k : Nat, k ≤ len ∧ i = .int .i64 k ∧ t = .int .u64 ((hash (l.take k)).toNat : Int)) (fun _ i => len - (intOf i).toNat)
  case atStart => exact ⟨0, Nat.zero_le _, rfl, rfl⟩
  case round =>
    obtain ⟨k, hk, rfl, rfl⟩ := hrel
    by_cases hlt : k < len
    · obtain ⟨b, off, rfl, hcell, hb0, hb1⟩ := HC.out k hlt
      have HK := Lib.hid (take_hash l k (by have := HL.out; omega))
      generalize hash (l.take k) = R at *
      generalize l[k]?.getD 0 = c at *
      go_wp2
      go_round
      case rel => exact ⟨k + 1, by omega, by go_num, by rw [HK.out, hash_step R c hb0 hb1]⟩
      case measure => simp [intOf]; omega
    · go_wp2
      go_ret
      exact ⟨ret_int (by rw [show k = len by omega, ← HL.out, List.take_length]), rfl⟩
end Go.Proofs.Ytgaafchdmfgkkaa.Crc
