/-
  Parse, Format, in one text: see the remarks at the head of each part.
-/
import Derived.Test.YtpplleoiehnlkaaMLong
import Derived.Test.YtpplleoiehnlkaaMPlain
/-
  Contracts of bignat.scaleAndAdd and Parse.
-/
namespace Go.Proofs.Ytpplleoiehnlkaa.Nt
open Go.ChangeShapes Go.WideShapes Go.ChangeAt Go.RowKit B
set_option linter.unusedVariables false

theorem own_form {w : World} {base : Nat} {e : TypeId} {size : Nat} {v : Value} {n : Nat} {xs : List Value} (h : w.ownsRow base e size v n xs) :
    ∃ a cap, v = .slice a n cap ∧ n ≤ cap ∧ cap ≤ 9223372036854775807 ∧ (0 < n → ∃ g, a = some ⟨g, 0, none⟩ ∧ base ≤ g) := by
  rcases h.2 with ⟨rfl, h0⟩ | ⟨g, cap, cur, rfl, hb, _, h1, h2, _⟩
  · exact ⟨none, 0, by rw [h0], by omega, by omega, fun hn => by omega⟩
  · unfold maxLen at h2
    exact ⟨_, cap, rfl, h1, by omega, fun _ => ⟨g, rfl, hb⟩⟩

/-- a row of the caller's own comes back changed -/
def RetSA (base : Nat) (w : World) (x : Int) (n : Nat) (e : Ending) (w' : World) : Prop :=
  ∃ v m l, e = .returned v ∧ w'.ownsRow base 37 1 v m (l.map (Value.int .u32)) ∧ Ds l ∧ N l = x ∧ m ≤ n + 1 ∧ Below base w w'

set_option maxHeartbeats 1000000 in
theorem scaleAdd (v : Value) (base n : Nat) (l : List Int) (s p : Int) (w : World) (ho : w.ownsRow base 37 1 v n (l.map (Value.int .u32))) (hd : Ds l) (hn : n ≤ 4294967296) (hbw : base ≤ w.heap.size)
    (hs : 0 ≤ s ∧ s < 4294967296) (hp : 0 ≤ p ∧ p < 4294967296) :
    Calls Try.prog 89 #[v, .int .u32 s, .int .u32 p] w (RetSA base w (N l * s + p) n) := by
  obtain ⟨a, cap, rfl, hcap, hcm, hform⟩ := own_form ho
  have hlen : l.length = n := by have := ho.1; simpa using this
  have HO := Lib.hid ho
  have HD := Lib.hid hd
  have HF := Lib.hid hform
  have HL := Lib.hid hlen
  clear ho hd hform hlen
  go_enter Try.func89, Try.ntmps89
  go_wp2
  go_loopg [7, 15] n (fun gk t i wr => ∃ (k : Nat) (c : Int) (pre : List Int), k ≤ n ∧ n - k ≤ gk ∧ i = .int .i64 k ∧ t = .int .u64 c ∧ 0 ≤ c ∧ c < 4294967296 ∧ pre.length = k ∧ Ds pre ∧ pre ++ saL s (l.drop k) c = saL s l p ∧ saC s (l.drop k) c = saC s l p ∧
      wr.ownsRow base 37 1 (.slice a n cap) n ((pre ++ l.drop k).map (Value.int .u32)) ∧ Below base w wr)
  case atStart => exact ⟨0, p, [], Nat.zero_le _, Nat.le_refl _, rfl, rfl, hp.1, hp.2, rfl, Ds.nil, rfl, rfl, HO.out, Below.refl _ _⟩
  case round =>
    obtain ⟨k, c, pre, hk, hgk, rfl, rfl, hc0, hc1, hp1, hp2, hp3, hp4, ho, hb⟩ := hrel
    have HP := Lib.hid (And.intro hp1 (And.intro hp2 (And.intro hp3 hp4)))
    clear hp1 hp2 hp3 hp4
    by_cases hlt : k < n
    · obtain ⟨g, rfl, hgb⟩ := HF.out (by omega)
      obtain ⟨hce, hfz⟩ := own_cell ho k hlt
      have hkl : k < l.length := by rw [HL.out]; exact hlt
      rw [at_border HP.out.1 hkl] at hce
      have dd := HD.out.at k
      have HS := Lib.hid (saL_step s l k c hkl)
      have HB := Lib.hid (set_border HP.out.1 hkl)
      generalize l[k]?.getD 0 = x at *
      have hxs := mul_bd dd hs
      go_wp2
      go_roundg (n - (k + 1))
      case measure => omega
      case rel =>
        refine ⟨k + 1, (x * s + c) / 4294967296, pre ++ [(x * s + c) % 4294967296], by omega, Nat.le_refl _, by go_num, rfl, by omega, by omega, by simp [HP.out.1], HP.out.2.1.app (Ds.cons (by omega) Ds.nil), ?_, ?_, ?_, hb.setCell hgb _⟩
        · rw [← HP.out.2.2.1, HS.out.1, List.append_assoc]; rfl
        · rw [← HP.out.2.2.2, HS.out.2]
        · have := own_store ho k ((x * s + c) % 4294967296)
          rwa [HB.out] at this
    · obtain rfl : k = n := by omega
      have HE := Lib.hid (show pre = saL s l p ∧ c = saC s l p by
        have e1 := HP.out.2.2.1
        have e2 := HP.out.2.2.2
        rw [List.drop_eq_nil_of_le (by rw [HL.out]; exact Nat.le_refl _)] at e1 e2
        simp only [saL, saC, List.append_nil] at e1 e2
        exact ⟨e1, e2⟩)
      have HV := Lib.hid (saL_N s l p)
      rw [← HE.out.1, ← HE.out.2, HL.out] at HV
      rw [List.drop_eq_nil_of_le (by rw [HL.out]; exact Nat.le_refl _), List.append_nil] at ho
      by_cases hz : 0 < c
      · have HR := Lib.hid (show Ds (pre ++ [c]) ∧ N (pre ++ [c]) = N l * s + p by
          refine ⟨HP.out.2.1.app (Ds.cons ⟨hc0, hc1⟩ Ds.nil), ?_⟩
          rw [N_app, HP.out.1]
          have := HV.out
          simp only [N, Int.mul_zero, Int.add_zero]
          omega)
        have hpl : pre.length ≤ 4294967296 := by have := HP.out.1; omega
        have hsz := hb.size
        go_wp2_with (at_builtin; refine app_row rfl (.tmp 37) (.tmp 40) 23 rfl base 37 .u32 4 Try.underlying23 info32 _ k pre rfl (ho.alloc _) _ [c] rfl (Row.new wr [c] _ _ _ _ rfl rfl (by simp [maxLen]) (by intro n hn; rw [List.mem_singleton.1 hn]; exact wf32 ⟨hc0, hc1⟩)) (by simp [maxLen]; omega) (by simp; omega) (by simp; omega) ?_; intro v' w' ho' hb')
        go_ret
        refine ⟨_, k + 1, pre ++ [c], rfl, ?_, HR.out.1, HR.out.2, Nat.le_refl _, (hb.alloc (by omega) _).trans hb'⟩
        exact ho'
      · have HR := Lib.hid (show N pre = N l * s + p by
          have := HV.out
          rw [show c = 0 by omega, Int.mul_zero] at this
          omega)
        go_wp2
        go_ret
        exact ⟨_, k, pre, rfl, ho, HP.out.2.1, HR.out, by omega, hb⟩

/-- the text of a number, as Parse takes it -/
def okDec (b : List UInt8) : Bool := !b.isEmpty && !(decide (1 < b.length) && decide ((b[0]?.getD 0).toNat = 48)) && b.all isD
def pcode (b : List UInt8) : Int := if 4000 < b.length then 4 else if okDec b = true then 0 else 2
def pval (b : List UInt8) : Int := if 4000 < b.length then 0 else if okDec b = true then dval b else 0
def RetP (base : Nat) (w : World) (b : List UInt8) (e : Ending) (w' : World) : Prop :=
  ∃ v, e = .returned (.tuple #[v, .int .i64 (pcode b)]) ∧ IsNew base w' v (pval b) ∧ Below base w w'

theorem bytes_take (s : ByteArray) (k : Nat) (h : k < s.size) : s.data.toList.take (k + 1) = s.data.toList.take k ++ [s[k]] := by
  rw [List.take_succ_eq_append_getElem (by simpa using h)]; rfl
theorem bytes_chunk (s : ByteArray) (i k : Nat) (h : i + k < s.size) : (s.data.toList.drop i).take (k + 1) = (s.data.toList.drop i).take k ++ [s[i + k]] := by
  rw [List.take_succ_eq_append_getElem (by simp; exact (by omega : k < s.size - i))]
  congr 1
  simp
  try rfl
theorem p10_val : p10 8 = 100000000 ∧ p10 9 = 1000000000 := by decide

theorem all_sub {b : List UInt8} (h : b.all isD = true) (k j : Nat) : ((b.drop k).take j).all isD = true := by
  rw [List.all_eq_true] at h ⊢
  exact fun x hx => h x (List.mem_of_mem_drop (List.mem_of_mem_take hx))
theorem all_at {s : ByteArray} (h : s.data.toList.all isD = true) {i : Nat} (hi : i < s.size) : 48 ≤ ((s[i]).toNat : Int) ∧ ((s[i]).toNat : Int) ≤ 57 := by
  rw [List.all_eq_true] at h
  have := h s[i] (List.getElem_mem (l := s.data.toList) (n := i) (by simpa using hi))
  simp [isD] at this
  omega
theorem notok (s : ByteArray) (k : Nat) (h : k < s.size) (hb : (s[k].toNat : Int) < 48 ∨ 57 < (s[k].toNat : Int)) (h4 : s.size ≤ 4000) (hl : s.data.toList.length = s.size) (ho : okDec s.data.toList = s.data.toList.all isD) :
    pcode s.data.toList = 2 ∧ pval s.data.toList = 0 := by
  have : s.data.toList.all isD = false := by
    rw [List.all_eq_false]
    refine ⟨s[k], ?_, ?_⟩
    · exact List.getElem_mem (l := s.data.toList) (n := k) (by omega)
    · simp [isD]; omega
  simp only [pcode, pval, hl, if_neg (show ¬ 4000 < s.size by omega), ho, this]
  exact ⟨rfl, rfl⟩

set_option maxHeartbeats 2000000 in
theorem parse (s : ByteArray) (w : World) (hs : s.size ≤ maxLen) :
    Calls Try.prog 80 #[.string s] w (RetP w.heap.size w s.data.toList) := by
  unfold maxLen at hs
  have hbl : s.data.toList.length = s.size := by simp
  by_cases h4 : 4000 < s.size
  · have HR := Lib.hid (show pcode s.data.toList = 4 ∧ pval s.data.toList = 0 by simp only [pcode, pval, hbl, if_pos h4]; exact ⟨trivial, trivial⟩)
    clear hbl
    go_enter Try.func80, Try.ntmps80
    go_wp2_with fail
    go_ret2
    exact ⟨.slice none 0 0, by rw [HR.out.1]; rfl, by rw [HR.out.2]; exact IsNew.nil _ _, Below.refl _ _⟩
  have HB := Lib.hid hbl
  by_cases h0 : s.size = 0
  · have HR := Lib.hid (show pcode s.data.toList = 2 ∧ pval s.data.toList = 0 by
      have : s.data.toList = [] := List.eq_nil_of_length_eq_zero (by omega)
      rw [this]; decide)
    have hz : ((s.size : Int) == 0) = true := by rw [h0]; rfl
    clear hbl h0
    go_enter Try.func80, Try.ntmps80
    go_wp2_with fail
    go_ret2
    exact ⟨.slice none 0 0, by rw [HR.out.1]; rfl, by rw [HR.out.2]; exact IsNew.nil _ _, Below.refl _ _⟩
  have hz : ((s.size : Int) == 0) = false := by rw [beq_eq_false_iff_ne]; omega
  have hp0 : 0 < s.size := Nat.pos_of_ne_zero h0
  clear h0
  by_cases h1 : 1 < s.size ∧ (s[0]'hp0).toNat = 48
  · have HR := Lib.hid (show pcode s.data.toList = 2 ∧ pval s.data.toList = 0 by
      have e0 : s.data.toList[0]?.getD 0 = s[0]'hp0 := by
        rw [List.getElem?_eq_getElem (by omega)]; rfl
      have : okDec s.data.toList = false := by
        unfold okDec
        rw [e0, hbl]
        simp [h1.1, h1.2]
      simp only [pcode, pval, hbl, if_neg h4, this]
      exact ⟨rfl, rfl⟩)
    have hg : (decide (1 < (s.size : Int))) = true := by simp; omega
    have hc : (((s[0]'hp0).toNat : Int) == 48) = true := by rw [h1.2]; rfl
    clear hbl
    go_enter Try.func80, Try.ntmps80
    go_wp2_with fail
    go_ret2
    exact ⟨.slice none 0 0, by rw [HR.out.1]; rfl, by rw [HR.out.2]; exact IsNew.nil _ _, Below.refl _ _⟩
  have HOK := Lib.hid (show okDec s.data.toList = s.data.toList.all isD by
    have e0 : s.data.toList[0]?.getD 0 = s[0]'hp0 := by
      rw [List.getElem?_eq_getElem (by omega)]; rfl
    have hne : s.data.toList.isEmpty = false := by
      rw [List.isEmpty_eq_false_iff]; intro e; rw [e] at hbl; simp at hbl; omega
    unfold okDec
    rw [e0, hbl, hne]
    by_cases h2 : 1 < s.size
    · have : ¬ (s[0]'hp0).toNat = 48 := fun h => h1 ⟨h2, h⟩
      simp [h2, this]
    · simp [h2])
  have hc1 : (decide (1 < (s.size : Int)) && (((s[0]'hp0).toNat : Int) == 48)) = false := by
    by_cases h2 : 1 < s.size
    · have : ¬ (s[0]'hp0).toNat = 48 := fun h => h1 ⟨h2, h⟩
      rw [Bool.and_eq_false_iff]; right; rw [beq_eq_false_iff_ne]; omega
    · rw [Bool.and_eq_false_iff]; left; simp; omega
  have key : ∀ (Q : Prop), ((1 < s.size ∧ (((s[0]'hp0).toNat : Int) == 48) = false) → Q) → (¬ 1 < s.size → Q) → Q := by
    intro Q q1 q2
    by_cases h2 : 1 < s.size
    · exact q1 ⟨h2, by rw [beq_eq_false_iff_ne]; have : ¬ (s[0]'hp0).toNat = 48 := fun h => h1 ⟨h2, h⟩; omega⟩
    · exact q2 h2
  clear h1 hc1
  have h4' : s.size ≤ 4000 := by omega
  clear hbl h4
  refine key _ (fun hh => ?_) (fun hh => ?_)
  · obtain ⟨h2, hc⟩ := hh
    have hg : (decide (1 < (s.size : Int))) = true := by simp; omega
    clear key
    go_enter Try.func80, Try.ntmps80
    go_wp2_with fail
    go_loopg [4] s.size (fun gk i wr => ∃ k : Nat, k ≤ s.size ∧ s.size - k ≤ gk ∧ i = .int .i64 k ∧ (s.data.toList.take k).all isD = true ∧ Below w.heap.size w wr)
    case atStart => exact ⟨0, Nat.zero_le _, Nat.le_refl _, rfl, rfl, Below.refl _ _⟩
    case round =>
      obtain ⟨k, hk, hgk, rfl, ha, hb⟩ := hrel
      have HA := Lib.hid ha
      clear ha
      by_cases hlt : k < s.size
      · have HT := Lib.hid (bytes_take s k hlt)
        have hcb : (s[k]).toNat < 256 := (s[k]).toNat_lt
        by_cases hlo : ((s[k]).toNat : Int) < 48
        · have HR := Lib.hid (notok s k hlt (by omega) h4' HB.out HOK.out)
          have hd1 : decide (((s[k]).toNat : Int) < 48) = true := by simp; omega
          go_wp2
          go_ret2
          exact ⟨.slice none 0 0, by rw [HR.out.1]; rfl, by rw [HR.out.2]; exact IsNew.nil _ _, hb⟩
        by_cases hhi : 57 < ((s[k]).toNat : Int)
        · have HR := Lib.hid (notok s k hlt (by omega) h4' HB.out HOK.out)
          have hd1 : decide (((s[k]).toNat : Int) < 48) = false := by simp; omega
          go_wp2
          go_ret2
          exact ⟨.slice none 0 0, by rw [HR.out.1]; rfl, by rw [HR.out.2]; exact IsNew.nil _ _, hb⟩
        · have hd1 : decide (((s[k]).toNat : Int) < 48) = false := by simp; omega
          have hd2 : decide (57 < ((s[k]).toNat : Int)) = false := by simp; omega
          have HD := Lib.hid (show isD s[k] = true by simp [isD]; omega)
          go_wp2
          go_roundg (s.size - (k + 1))
          case measure => omega
          case rel => exact ⟨k + 1, by omega, Nat.le_refl _, by go_num, by rw [HT.out, List.all_append, HA.out]; simp [HD.out], hb⟩
      · obtain rfl : k = s.size := by omega
        have HALL := Lib.hid (show s.data.toList.all isD = true by have := HA.out; rwa [List.take_of_length_le (by rw [HB.out]; exact Nat.le_refl _)] at this)
        have HFIN := Lib.hid (show pcode s.data.toList = 0 ∧ pval s.data.toList = dval s.data.toList by
          have hl := HB.out
          simp only [pcode, pval, hl, if_neg (show ¬ 4000 < s.size by omega), HOK.out, HALL.out, if_true]
          exact ⟨trivial, trivial⟩)
        clear HA
        go_wp2
        clear hk hgk
        go_loopg [5, 6] s.size (fun gk v i wr => ∃ (k m : Nat) (l : List Int), k ≤ s.size ∧ s.size - k ≤ gk ∧ i = .int .i64 k ∧ wr.ownsRow w.heap.size 37 1 v m (l.map (Value.int .u32)) ∧ Ds l ∧ N l = dval (s.data.toList.take k) ∧ m ≤ k ∧ Below w.heap.size w wr)
        case atStart => exact ⟨0, 0, [], Nat.zero_le _, Nat.le_refl _, rfl, ⟨rfl, .inl ⟨rfl, rfl⟩⟩, Ds.nil, rfl, Nat.le_refl _, hb⟩
        case round =>
          clear hb
          obtain ⟨k, m, l, hk, hgk, rfl, ho, hd, hN, hm, hb⟩ := hrel
          have HO := Lib.hid ho
          have HD := Lib.hid (And.intro hd hN)
          clear ho hd hN
          by_cases hlt : k < s.size
          · obtain ⟨wo, rfl⟩ : ∃ wo : World, wo = wr := ⟨_, rfl⟩
            go_wp2
            go_loopg [6, 7, 8, 9] 9 (fun gk i p q t wr => ∃ j : Nat, j ≤ 9 ∧ 9 - j ≤ gk ∧ k + j ≤ s.size ∧ i = .int .i64 ((k : Int) + (j : Int)) ∧ p = .int .u32 (dval ((s.data.toList.drop k).take j)) ∧ q = .int .u32 (p10 j) ∧ t = .int .i64 j ∧ wr = wo)
            case atStart => exact ⟨0, Nat.zero_le _, Nat.le_refl _, by omega, by simp, rfl, rfl, rfl, rfl⟩
            case round =>
              obtain ⟨j, hj, hgj, hkj, rfl, rfl, rfl, rfl, rfl⟩ := hrel
              have HBD := Lib.hid (dval_bd ((s.data.toList.drop k).take j) (all_sub HALL.out k j))
              have hcl : ((s.data.toList.drop k).take j).length = j := by simp; have := HB.out; simp at this; omega
              rw [hcl] at HBD
              have HCL := Lib.hid hcl
              clear hcl
              have HP9 := Lib.hid p10_val
              by_cases hc1 : j < 9 ∧ k + j < s.size
              · obtain ⟨hj9, hks⟩ := hc1
                have hcb : 48 ≤ ((s[k + j]).toNat : Int) ∧ ((s[k + j]).toNat : Int) ≤ 57 := all_at HALL.out hks
                have hbd : 0 ≤ dval ((s.data.toList.drop k).take j) ∧ dval ((s.data.toList.drop k).take j) < 100000000 ∧ 1 ≤ p10 j ∧ p10 j ≤ 100000000 := by
                  have h1 := p10_mono (show j ≤ 8 by omega)
                  have h2 := p10_pos j
                  have h3 := HP9.out.1
                  have h4 := HBD.out
                  omega
                have HC := Lib.hid (bytes_chunk s k j hks)
                have HS := Lib.hid (dval_snoc ((s.data.toList.drop k).take j) s[k + j])
                rw [← HC.out] at HS
                generalize dval ((s.data.toList.drop k).take j) = part at *
                have HP := Lib.hid (show p10 (j + 1) = 10 * p10 j from rfl)
                generalize p10 j = scale at *
                have hd1 : decide ((j : Int) < 9) = true := by simp; omega
                go_wp2
                go_roundg (9 - (j + 1))
                case measure => omega
                case rel => exact ⟨j + 1, by omega, Nat.le_refl _, by omega, by go_num, by rw [HS.out], by rw [HP.out, Int.mul_comm], by go_num, rfl⟩
              · have HAPP := Lib.hid (show dval (s.data.toList.take (k + j)) = dval (s.data.toList.take k) * p10 j + dval ((s.data.toList.drop k).take j) by
                  have e := dval_app (s.data.toList.take k) ((s.data.toList.drop k).take j)
                  rw [HCL.out, ← List.take_add] at e
                  exact e)
                have hj1 : 1 ≤ j := by omega
                have hbd : 0 ≤ dval ((s.data.toList.drop k).take j) ∧ dval ((s.data.toList.drop k).take j) < 1000000000 ∧ 1 ≤ p10 j ∧ p10 j ≤ 1000000000 := by
                  have h1 := p10_mono (show j ≤ 9 by omega)
                  have h2 := p10_pos j
                  have h3 := HP9.out.2
                  have h4 := HBD.out
                  omega
                generalize dval ((s.data.toList.drop k).take j) = part at *
                generalize p10 j = scale at *
                by_cases hj9 : j < 9
                · have hd1 : decide ((j : Int) < 9) = true := by simp; omega
                  have hd2 : decide ((k : Int) + (j : Int) < (s.size : Int)) = false := by simp; omega
                  have hd3 : ¬ ((k : Int) + (j : Int) < (s.size : Int)) := by omega
                  clear hc1
                  go_wp2_with fail
                  refine (scaleAdd _ w.heap.size m l scale part _ HO.out HD.out.1 (by omega) hb.size ⟨by omega, by omega⟩ ⟨by omega, by omega⟩).mono ?_
                  rintro e w5 ⟨v5, m5, l5, rfl, ho5, hd5, hN5, hm5, hb5⟩
                  rw [HD.out.2, ← HAPP.out] at hN5
                  have HN5 := Lib.hid hN5
                  clear hN5
                  go_wp2_with fail
                  go_roundg (s.size - (k + j))
                  case measure => omega
                  case rel => exact ⟨k + j, m5, l5, hkj, Nat.le_refl _, by go_num, ho5, hd5, HN5.out, by omega, hb.trans hb5⟩
                · have hd1 : decide ((j : Int) < 9) = false := by simp; omega
                  clear hc1
                  go_wp2_with fail
                  refine (scaleAdd _ w.heap.size m l scale part _ HO.out HD.out.1 (by omega) hb.size ⟨by omega, by omega⟩ ⟨by omega, by omega⟩).mono ?_
                  rintro e w5 ⟨v5, m5, l5, rfl, ho5, hd5, hN5, hm5, hb5⟩
                  rw [HD.out.2, ← HAPP.out] at hN5
                  have HN5 := Lib.hid hN5
                  clear hN5
                  go_wp2_with fail
                  go_roundg (s.size - (k + j))
                  case measure => omega
                  case rel => exact ⟨k + j, m5, l5, hkj, Nat.le_refl _, by go_num, ho5, hd5, HN5.out, by omega, hb.trans hb5⟩
          · have HE := Lib.hid (show N l = dval s.data.toList by
              rw [HD.out.2, List.take_of_length_le (by rw [HB.out]; omega)])
            go_wp2_with fail
            refine (trimN HO.out HD.out.1).mono ?_
            rintro e w5 ⟨v', rfl, hn, rfl⟩
            rw [HE.out] at hn
            go_wp2_with fail
            go_ret2
            exact ⟨v', by rw [HFIN.out.1]; rfl, by rw [HFIN.out.2]; exact hn, hb⟩
  · have hg : (decide (1 < (s.size : Int))) = false := by simp; omega
    clear key
    go_enter Try.func80, Try.ntmps80
    go_wp2_with fail
    go_loopg [4] s.size (fun gk i wr => ∃ k : Nat, k ≤ s.size ∧ s.size - k ≤ gk ∧ i = .int .i64 k ∧ (s.data.toList.take k).all isD = true ∧ Below w.heap.size w wr)
    case atStart => exact ⟨0, Nat.zero_le _, Nat.le_refl _, rfl, rfl, Below.refl _ _⟩
    case round =>
      obtain ⟨k, hk, hgk, rfl, ha, hb⟩ := hrel
      have HA := Lib.hid ha
      clear ha
      by_cases hlt : k < s.size
      · have HT := Lib.hid (bytes_take s k hlt)
        have hcb : (s[k]).toNat < 256 := (s[k]).toNat_lt
        by_cases hlo : ((s[k]).toNat : Int) < 48
        · have HR := Lib.hid (notok s k hlt (by omega) h4' HB.out HOK.out)
          have hd1 : decide (((s[k]).toNat : Int) < 48) = true := by simp; omega
          go_wp2
          go_ret2
          exact ⟨.slice none 0 0, by rw [HR.out.1]; rfl, by rw [HR.out.2]; exact IsNew.nil _ _, hb⟩
        by_cases hhi : 57 < ((s[k]).toNat : Int)
        · have HR := Lib.hid (notok s k hlt (by omega) h4' HB.out HOK.out)
          have hd1 : decide (((s[k]).toNat : Int) < 48) = false := by simp; omega
          go_wp2
          go_ret2
          exact ⟨.slice none 0 0, by rw [HR.out.1]; rfl, by rw [HR.out.2]; exact IsNew.nil _ _, hb⟩
        · have hd1 : decide (((s[k]).toNat : Int) < 48) = false := by simp; omega
          have hd2 : decide (57 < ((s[k]).toNat : Int)) = false := by simp; omega
          have HD := Lib.hid (show isD s[k] = true by simp [isD]; omega)
          go_wp2
          go_roundg (s.size - (k + 1))
          case measure => omega
          case rel => exact ⟨k + 1, by omega, Nat.le_refl _, by go_num, by rw [HT.out, List.all_append, HA.out]; simp [HD.out], hb⟩
      · obtain rfl : k = s.size := by omega
        have HALL := Lib.hid (show s.data.toList.all isD = true by have := HA.out; rwa [List.take_of_length_le (by rw [HB.out]; exact Nat.le_refl _)] at this)
        have HFIN := Lib.hid (show pcode s.data.toList = 0 ∧ pval s.data.toList = dval s.data.toList by
          have hl := HB.out
          simp only [pcode, pval, hl, if_neg (show ¬ 4000 < s.size by omega), HOK.out, HALL.out, if_true]
          exact ⟨trivial, trivial⟩)
        clear HA
        go_wp2
        clear hk hgk
        go_loopg [5, 6] s.size (fun gk v i wr => ∃ (k m : Nat) (l : List Int), k ≤ s.size ∧ s.size - k ≤ gk ∧ i = .int .i64 k ∧ wr.ownsRow w.heap.size 37 1 v m (l.map (Value.int .u32)) ∧ Ds l ∧ N l = dval (s.data.toList.take k) ∧ m ≤ k ∧ Below w.heap.size w wr)
        case atStart => exact ⟨0, 0, [], Nat.zero_le _, Nat.le_refl _, rfl, ⟨rfl, .inl ⟨rfl, rfl⟩⟩, Ds.nil, rfl, Nat.le_refl _, hb⟩
        case round =>
          clear hb
          obtain ⟨k, m, l, hk, hgk, rfl, ho, hd, hN, hm, hb⟩ := hrel
          have HO := Lib.hid ho
          have HD := Lib.hid (And.intro hd hN)
          clear ho hd hN
          by_cases hlt : k < s.size
          · obtain ⟨wo, rfl⟩ : ∃ wo : World, wo = wr := ⟨_, rfl⟩
            go_wp2
            go_loopg [6, 7, 8, 9] 9 (fun gk i p q t wr => ∃ j : Nat, j ≤ 9 ∧ 9 - j ≤ gk ∧ k + j ≤ s.size ∧ i = .int .i64 ((k : Int) + (j : Int)) ∧ p = .int .u32 (dval ((s.data.toList.drop k).take j)) ∧ q = .int .u32 (p10 j) ∧ t = .int .i64 j ∧ wr = wo)
            case atStart => exact ⟨0, Nat.zero_le _, Nat.le_refl _, by omega, by simp, rfl, rfl, rfl, rfl⟩
            case round =>
              obtain ⟨j, hj, hgj, hkj, rfl, rfl, rfl, rfl, rfl⟩ := hrel
              have HBD := Lib.hid (dval_bd ((s.data.toList.drop k).take j) (all_sub HALL.out k j))
              have hcl : ((s.data.toList.drop k).take j).length = j := by simp; have := HB.out; simp at this; omega
              rw [hcl] at HBD
              have HCL := Lib.hid hcl
              clear hcl
              have HP9 := Lib.hid p10_val
              by_cases hc1 : j < 9 ∧ k + j < s.size
              · obtain ⟨hj9, hks⟩ := hc1
                have hcb : 48 ≤ ((s[k + j]).toNat : Int) ∧ ((s[k + j]).toNat : Int) ≤ 57 := all_at HALL.out hks
                have hbd : 0 ≤ dval ((s.data.toList.drop k).take j) ∧ dval ((s.data.toList.drop k).take j) < 100000000 ∧ 1 ≤ p10 j ∧ p10 j ≤ 100000000 := by
                  have h1 := p10_mono (show j ≤ 8 by omega)
                  have h2 := p10_pos j
                  have h3 := HP9.out.1
                  have h4 := HBD.out
                  omega
                have HC := Lib.hid (bytes_chunk s k j hks)
                have HS := Lib.hid (dval_snoc ((s.data.toList.drop k).take j) s[k + j])
                rw [← HC.out] at HS
                generalize dval ((s.data.toList.drop k).take j) = part at *
                have HP := Lib.hid (show p10 (j + 1) = 10 * p10 j from rfl)
                generalize p10 j = scale at *
                have hd1 : decide ((j : Int) < 9) = true := by simp; omega
                go_wp2
                go_roundg (9 - (j + 1))
                case measure => omega
                case rel => exact ⟨j + 1, by omega, Nat.le_refl _, by omega, by go_num, by rw [HS.out], by rw [HP.out, Int.mul_comm], by go_num, rfl⟩
              · have HAPP := Lib.hid (show dval (s.data.toList.take (k + j)) = dval (s.data.toList.take k) * p10 j + dval ((s.data.toList.drop k).take j) by
                  have e := dval_app (s.data.toList.take k) ((s.data.toList.drop k).take j)
                  rw [HCL.out, ← List.take_add] at e
                  exact e)
                have hj1 : 1 ≤ j := by omega
                have hbd : 0 ≤ dval ((s.data.toList.drop k).take j) ∧ dval ((s.data.toList.drop k).take j) < 1000000000 ∧ 1 ≤ p10 j ∧ p10 j ≤ 1000000000 := by
                  have h1 := p10_mono (show j ≤ 9 by omega)
                  have h2 := p10_pos j
                  have h3 := HP9.out.2
                  have h4 := HBD.out
                  omega
                generalize dval ((s.data.toList.drop k).take j) = part at *
                generalize p10 j = scale at *
                by_cases hj9 : j < 9
                · have hd1 : decide ((j : Int) < 9) = true := by simp; omega
                  have hd2 : decide ((k : Int) + (j : Int) < (s.size : Int)) = false := by simp; omega
                  have hd3 : ¬ ((k : Int) + (j : Int) < (s.size : Int)) := by omega
                  clear hc1
                  go_wp2_with fail
                  refine (scaleAdd _ w.heap.size m l scale part _ HO.out HD.out.1 (by omega) hb.size ⟨by omega, by omega⟩ ⟨by omega, by omega⟩).mono ?_
                  rintro e w5 ⟨v5, m5, l5, rfl, ho5, hd5, hN5, hm5, hb5⟩
                  rw [HD.out.2, ← HAPP.out] at hN5
                  have HN5 := Lib.hid hN5
                  clear hN5
                  go_wp2_with fail
                  go_roundg (s.size - (k + j))
                  case measure => omega
                  case rel => exact ⟨k + j, m5, l5, hkj, Nat.le_refl _, by go_num, ho5, hd5, HN5.out, by omega, hb.trans hb5⟩
                · have hd1 : decide ((j : Int) < 9) = false := by simp; omega
                  clear hc1
                  go_wp2_with fail
                  refine (scaleAdd _ w.heap.size m l scale part _ HO.out HD.out.1 (by omega) hb.size ⟨by omega, by omega⟩ ⟨by omega, by omega⟩).mono ?_
                  rintro e w5 ⟨v5, m5, l5, rfl, ho5, hd5, hN5, hm5, hb5⟩
                  rw [HD.out.2, ← HAPP.out] at hN5
                  have HN5 := Lib.hid hN5
                  clear hN5
                  go_wp2_with fail
                  go_roundg (s.size - (k + j))
                  case measure => omega
                  case rel => exact ⟨k + j, m5, l5, hkj, Nat.le_refl _, by go_num, ho5, hd5, HN5.out, by omega, hb.trans hb5⟩
          · have HE := Lib.hid (show N l = dval s.data.toList by
              rw [HD.out.2, List.take_of_length_le (by rw [HB.out]; omega)])
            go_wp2_with fail
            refine (trimN HO.out HD.out.1).mono ?_
            rintro e w5 ⟨v', rfl, hn, rfl⟩
            rw [HE.out] at hn
            go_wp2_with fail
            go_ret2
            exact ⟨v', by rw [HFIN.out.1]; rfl, by rw [HFIN.out.2]; exact hn, hb⟩
end Go.Proofs.Ytpplleoiehnlkaa.Nt

/-
  Contract of bignat.Format.
-/
namespace Go.Proofs.Ytpplleoiehnlkaa.Nt
open Go.ChangeShapes Go.WideShapes Go.ChangeAt Go.RowKit B
set_option linter.unusedVariables false

theorem info8 : (Try.prog.info? 5).map (fun i => (i.zero, i.size, i.bytes)) = some (some (.int .u8 0), 1, 1) := by kernel_rfl
/-- the text of a number comes back -/
def RetS (base : Nat) (w : World) (n : Int) (e : Ending) (w' : World) : Prop := ∃ s, e = .returned (.string s) ∧ IsDec s n ∧ Below base w w'
/-- digits as bytes -/
def asc (l : List Int) : List Int := l.map (· + 48)
theorem asc_snoc (l : List Int) (d : Int) : asc l ++ [48 + d] = asc (l ++ [d]) := by simp [asc, Int.add_comm]
theorem asc_wf {l : List Int} (h : D10 l) : ∀ n ∈ asc l, (Lit.int .u8 n).wf = true := by
  intro n hn
  simp only [asc, List.mem_map] at hn
  obtain ⟨d, hd, rfl⟩ := hn
  have := h d hd
  exact wf8 (by omega)

theorem own_below {w w' : World} {base : Nat} {e : TypeId} {size : Nat} {v : Value} {n : Nat} {xs : List Value} (h : w.ownsRow base e size v n xs) (hb : Below w.heap.size w w') : w'.ownsRow base e size v n xs := by
  refine ⟨h.1, ?_⟩
  rcases h.2 with h0 | ⟨g, cap, cur, h1, h2, h3, h4⟩
  · exact .inl h0
  · refine .inr ⟨g, cap, cur, h1, h2, ?_, h4⟩
    rw [hb.block g (by rcases Nat.lt_or_ge g w.heap.size with h | h; exact h; rw [Array.getElem?_eq_none h] at h3; cases h3)]
    exact h3

theorem conv_dec {w : World} {base g m cap : Nat} {R : List Int} (ho : w.ownsRow base 5 1 (.slice (some ⟨g, 0, none⟩) m cap) m ((asc R).reverse.map (Value.int .u8))) (hD : D10 R) (hl : R.length = m) :
    (convert 68 9 (.slice (some ⟨g, 0, none⟩) m cap)).run Try.prog w = .ok (.string (decS R)) w := by
  have e : m = (decB R).length := by simp [decB, hl]
  conv => lhs; rw [e]
  refine run_convert_bytes_back (P := Try.prog) w 68 9 5 ⟨g, 0, none⟩ cap (decB R) Try.underlying68 Try.underlying5 Try.underlying9 ?_
  intro j hj
  have hjm : j < m := by omega
  have ea : Addr.add ⟨g, 0, none⟩ j = ⟨g, j, none⟩ := by
    unfold Addr.add; split <;> simp_all
  rw [ea, (own_cell ho j hjm).1]
  congr 2
  have hjr : j < (asc R).reverse.length := by simp [asc]; omega
  rw [List.getElem?_eq_getElem hjr, Option.getD_some]
  simp only [asc, decB, List.getElem_reverse, List.getElem_map, ← List.map_reverse]
  have := hD _ (List.getElem_mem (l := R) (n := R.length - 1 - j) (by omega))
  generalize R[R.length - 1 - j]'(by omega) = d at *
  rw [UInt8.toNat_ofNat']
  omega

set_option maxHeartbeats 2000000 in
set_option maxRecDepth 100000 in
theorem format (va : Value) (c : Nat) (n : Int) (w : World) (ha : Num w va c n) (hc : c ≤ 4294967296) :
    Calls Try.prog 21 #[va] w (RetS w.heap.size w n) := by
  have HA := Lib.hid ha
  have HLT := Lib.hid ha.lt
  clear ha
  go_enter Try.func21, Try.ntmps21
  go_wp2_with fail
  refine (normalize va c n w HA.out hc).mono ?_
  rintro e w1 ⟨v1, rfl, h1, hb1⟩
  have HI := Lib.hid h1
  obtain ⟨lx, rx, cx, ex, _⟩ := h1
  have HE := Lib.hid (And.intro cx ex)
  obtain ⟨a1, p1, rfl, g1, m1, _⟩ := Row.parts rx
  clear rx cx ex
  by_cases h0 : lx.length = 0
  · have HZ := Lib.hid (show n = 0 by
      have : lx = [] := List.eq_nil_of_length_eq_zero h0
      rw [← HE.out.2, this]; rfl)
    have hd : ((lx.length : Int) == 0) = true := by rw [h0]; rfl
    go_wp2_with fail
    go_ret
    exact ⟨⟨#[48]⟩, rfl, .inl ⟨HZ.out, rfl⟩, hb1⟩
  · have hd : ((lx.length : Int) == 0) = false := by rw [beq_eq_false_iff_ne]; omega
    have HP := Lib.hid (show 0 < n by
      have := HE.out.1.pos (by rintro rfl; simp at h0)
      have := HE.out.2
      omega)
    go_wp2_with fail
    go_loopg [3, 4] n.toNat (fun gk p v wr => ∃ (X : Int) (R : List Int) (m : Nat), IsNew w.heap.size wr p X ∧ X.toNat ≤ gk ∧ X ≤ n ∧ D10 R ∧ n = V10 R + p10 R.length * X ∧ (X = 0 → R.getLast? ≠ some 0) ∧
        wr.ownsRow w.heap.size 5 1 v m ((asc R).map (Value.int .u8)) ∧ Below w.heap.size w wr)
    case atStart => exact ⟨n, [], 0, HI.out, Nat.le_refl _, Int.le_refl _, D10.nil, by simp [V10, p10], by have := HP.out; omega, ⟨rfl, .inl ⟨rfl, rfl⟩⟩, hb1⟩
    case round =>
      obtain ⟨X, R, m, hi, hgk, hXn, hD, hn, hlast, ho, hb⟩ := hrel
      have HI2 := Lib.hid hi
      have n1 := hi.nonneg
      obtain ⟨ly, ry, cy, ey, _⟩ := hi
      have HE2 := Lib.hid (And.intro cy ey)
      have HQ := Lib.hid (And.intro hD (And.intro hn hlast))
      have HO := Lib.hid ho
      obtain ⟨a2, p2, rfl, g2, m2, _⟩ := Row.parts ry
      clear ry cy ey hD hn hlast ho
      by_cases hz : ly.length = 0
      · have HX0 := Lib.hid (show X = 0 by
          have : ly = [] := List.eq_nil_of_length_eq_zero hz
          rw [← HE2.out.2, this]; rfl)
        have hd2 : decide (0 < (ly.length : Int)) = false := by rw [hz]; rfl
        have HC10 := Lib.hid (show C10 R ∧ V10 R = n by
          have h1 := HQ.out.2.1
          rw [HX0.out, Int.mul_zero] at h1
          exact ⟨⟨HQ.out.1, HQ.out.2.2 HX0.out⟩, by omega⟩)
        obtain ⟨av, cv, rfl, hcv, hcvm, hfv⟩ := own_form HO.out
        have HFV := Lib.hid hfv
        have hRl : R.length = m := by have := HO.out.1; simpa [asc] using this
        have HRL := Lib.hid hRl
        have hAL : (asc R).length = m := by simp [asc]; exact hRl
        have HAL := Lib.hid hAL
        have hm0 : 0 < m := by
          rcases Nat.eq_zero_or_pos m with h | h
          · exfalso
            have : R = [] := List.eq_nil_of_length_eq_zero (by omega)
            have h2 := HC10.out.2
            have h3 := HP.out
            rw [this] at h2
            simp [V10] at h2
            omega
          · exact h
        obtain ⟨g, rfl, hgb⟩ := HFV.out hm0
        clear hfv hRl hAL HFV HI2 HE2
        go_wp2
        clear hz hd2
        go_loopg [8, 9] m (fun gk i j wr => ∃ k : Nat, m - 2 * k ≤ gk ∧ 2 * k ≤ m + 1 ∧ i = .int .i64 k ∧ j = .int .i64 ((m : Int) - 1 - k) ∧
            wr.ownsRow w.heap.size 5 1 (.slice (some ⟨g, 0, none⟩) m cv) m ((turn (asc R) k).map (Value.int .u8)) ∧ Below w.heap.size w wr)
        case atStart => exact ⟨0, Nat.le_refl _, by omega, rfl, by simp, by rw [turn_zero]; exact HO.out, hb⟩
        case round =>
          clear hb
          obtain ⟨k, hgk2, hk2, rfl, rfl, ho, hb⟩ := hrel
          by_cases hlt : k < m - 1 - k
          · obtain ⟨c1, f1⟩ := own_cell ho k (by omega)
            obtain ⟨c2, f2⟩ := own_cell ho (m - 1 - k) (by omega)
            rw [turn_at _ _ _ (by rw [HAL.out]; omega), HAL.out, if_neg (by omega)] at c1 c2
            have HT := Lib.hid (turn_succ (asc R) k (by rw [HAL.out]; exact hlt))
            rw [HAL.out] at HT
            generalize (asc R)[k]?.getD 0 = x at *
            generalize (asc R)[m - 1 - k]?.getD 0 = y at *
            go_wp2
            go_region
            go_wp2
            go_roundg (m - 2 * (k + 1))
            case measure => omega
            case rel =>
              refine ⟨k + 1, Nat.le_refl _, by omega, by go_num, by go_num, ?_, ((hb.setCell hgb _).setCell hgb _).drew⟩
              rw [← HT.out]
              exact (own_store (own_store ho k y) (m - 1 - k) x).drew
          · have hrev := turn_end (asc R) k (by rw [HAL.out]; omega) (by rw [HAL.out]; exact hk2)
            rw [hrev] at ho
            have hconv := conv_dec (cap := cv) ho HC10.out.1.1 HRL.out
            clear hrev
            go_wp2
            go_ret
            exact ⟨decS R, rfl, .inr ⟨HP.out, R, HC10.out.1, HC10.out.2, rfl⟩, hb⟩
      · have hd2 : decide (0 < (ly.length : Int)) = true := by simp; omega
        have hXp : 0 < X := by
          have := HE2.out.1.pos (by rintro rfl; simp at hz)
          have := HE2.out.2
          omega
        have HNUM := Lib.hid (IsNew.num HI2.out c (by have := HLT.out; omega))
        go_wp2_with fail
        refine (divDigit _ c X 1000000000 wr HNUM.out hc (by omega) (by omega)).mono ?_
        rintro e w3 ⟨vq, rfl, hq, hb3⟩
        have HQ3 := Lib.hid hq
        have hq0 := hq.nonneg
        obtain ⟨lq, rq, cq, eq, _⟩ := hq
        have HEQ := Lib.hid (And.intro cq eq)
        obtain ⟨a3, p3, rfl, g3, m3, _⟩ := Row.parts rq
        have HO3 := Lib.hid (own_below HO.out hb3)
        have hb4 := hb.trans (hb3.mono hb.size)
        have hb0 := hb
        have hr0 : 0 ≤ X % 1000000000 ∧ X % 1000000000 < 1000000000 := by omega
        have HX := Lib.hid (show X = X % 1000000000 + 1000000000 * (X / 1000000000) ∧ X / 1000000000 < X by omega)
        generalize X % 1000000000 = part0 at *
        generalize X / 1000000000 = X1 at *
        have HLQ := Lib.hid (show lq.length = 0 ↔ X1 = 0 by
          rw [← HEQ.out.2, HEQ.out.1.zero, List.length_eq_zero_iff])
        clear rq cq eq hb hb3 HI2 HE2
        go_wp2
        clear hz hd2
        go_loopg [4, 6, 7] 9 (fun gk v p i wr => ∃ (k m : Nat) (part : Int) (R : List Int), k ≤ 9 ∧ 9 - k ≤ gk ∧ i = .int .i64 k ∧ p = .int .u32 part ∧ 0 ≤ part ∧ part < p10 (9 - k) ∧ D10 R ∧ n = V10 R + p10 R.length * (part + p10 (9 - k) * X1) ∧ (X1 = 0 → part = 0 → R.getLast? ≠ some 0) ∧
            wr.ownsRow w.heap.size 5 1 v m ((asc R).map (Value.int .u8)) ∧ IsNew w.heap.size wr (.slice a3 lq.length p3) X1 ∧ Below w.heap.size w wr)
        case atStart => exact ⟨0, m, part0, R, by omega, by omega, rfl, rfl, by omega, by rw [p10_val.2]; omega, HQ.out.1, by rw [p10_val.2, ← HX.out.1]; exact HQ.out.2.1, by intro h1 h2; have := HX.out; omega, HO3.out, HQ3.out.mono hb0.size, hb4⟩
        case round =>
          obtain ⟨k, m, part, R, hk, hgk3, rfl, rfl, hp0, hp1, hD, hN, hL, ho, hin, hb⟩ := hrel
          have HIN := Lib.hid hin
          clear hin
          have HW := Lib.hid (And.intro hD (And.intro hN hL))
          have HO := Lib.hid ho
          have hRl : R.length = m := by have := ho.1; simpa [asc] using this
          have HRL := Lib.hid hRl
          have hpb : part < 1000000000 := by
            have h1 := p10_mono (show 9 - k ≤ 9 by omega)
            rw [p10_val.2] at h1
            omega
          have HPB := Lib.hid hp1
          clear hD hN hL ho hRl hp1
          by_cases hc9 : k < 9 ∧ (0 < part ∨ 0 < X1)
          · obtain ⟨hk9, hpos⟩ := hc9
            have hRb : R.length ≤ 32 * c := p10_len (fmt_bound R part X1 k n HW.out.1 hp0 hq0 HW.out.2.1 hpos) HLT.out
            have hmb : m ≤ 137438953472 := by have := HRL.out; omega
            clear hRb
            have HST := Lib.hid (fmt_step R part X1 k hk9 n HW.out.2.1)
            have hd9 : decide ((k : Int) < 9) = true := by simp; omega
            have hAL : (asc R).length ≤ 137438953472 := by simp [asc]; have := HRL.out; omega
            have HNX := Lib.hid (show part / 10 < p10 (9 - (k + 1)) by
              have h1 := HPB.out
              obtain ⟨t, ht⟩ : ∃ t, 9 - k = t + 1 := ⟨9 - k - 1, by omega⟩
              rw [ht, p10] at h1
              rw [show 9 - (k + 1) = t by omega]
              omega)
            have hgs : w.heap.size ≤ wr.heap.size := hb.size
            have hmod : 0 ≤ part % 10 ∧ part % 10 < 10 := by omega
            have HROW := Lib.hid (Row.new wr [48 + part % 10] 5 (0, 0) #[.int .u8 (48 + part % 10)] 1 rfl rfl (by simp [maxLen]) (by intro n hn; rw [List.mem_singleton.1 hn]; exact wf8 (by omega)))
            have hw1 : part / 10 < part ∨ part = 0 := by omega
            by_cases hpp : 0 < part
            · have hdp : decide (0 < part) = true := by simp; omega
              go_wp2_with (at_builtin; refine app_row2 rfl (.tmp 37) (.tmp 42) 68 rfl w.heap.size 5 .u8 1 Try.underlying68 info8 _ m (asc R) rfl (HO.out.alloc _) _ [48 + part % 10] rfl HROW.out (by simp [maxLen]; omega) (by simp; omega) (by simp; omega) ?_; intro v' w' ho' hg' hb')
              have HIN' := Lib.hid ((HIN.out.keep ((Below.refl _ wr).alloc (Nat.le_refl _) _)).other (HO.out.alloc _) (by decide) hg')
              rw [asc_snoc] at ho'
              have HO' := Lib.hid ho'
              clear ho' hg'
              go_roundg (9 - (k + 1))
              case measure => omega
              case rel => exact ⟨k + 1, _, part / 10, R ++ [part % 10], by omega, Nat.le_refl _, by go_num, rfl, by omega, HNX.out, HW.out.1.snoc hmod, HST.out, fun h1 h2 => fmt_last R _ (by omega), HO'.out, HIN'.out, (hb.alloc hb.size _).trans hb'⟩
            · obtain rfl : part = 0 := by omega
              have hX1p : 0 < X1 := by omega
              have hlp0 : 0 < lq.length := by
                have := HLQ.out
                omega
              have hlp : decide (0 < (lq.length : Int)) = true := by rw [decide_eq_true_eq]; omega
              have hlp2 : decide (0 < lq.length) = true := by rw [decide_eq_true_eq]; omega
              have hdp : decide (0 < (0 : Int)) = false := rfl
              go_wp2_with (at_builtin; refine app_row2 rfl (.tmp 37) (.tmp 42) 68 rfl w.heap.size 5 .u8 1 Try.underlying68 info8 _ m (asc R) rfl (HO.out.alloc _) _ [48 + 0 % 10] rfl HROW.out (by simp [maxLen]; omega) (by simp; omega) (by simp; omega) ?_; intro v' w' ho' hg' hb')
              have HIN' := Lib.hid ((HIN.out.keep ((Below.refl _ wr).alloc (Nat.le_refl _) _)).other (HO.out.alloc _) (by decide) hg')
              rw [asc_snoc] at ho'
              have HO' := Lib.hid ho'
              clear ho' hg'
              go_roundg (9 - (k + 1))
              case measure => omega
              case rel => exact ⟨k + 1, _, 0 / 10, R ++ [0 % 10], by omega, Nat.le_refl _, by go_num, rfl, by omega, HNX.out, HW.out.1.snoc hmod, HST.out, fun h1 h2 => by omega, HO'.out, HIN'.out, (hb.alloc hb.size _).trans hb'⟩
          · have HFN := Lib.hid (show n = V10 R + p10 R.length * X1 ∧ (X1 = 0 → R.getLast? ≠ some 0) by
              have h1 := HW.out.2.1
              have h2 := HPB.out
              by_cases hk9 : k < 9
              · have hz : part = 0 ∧ X1 = 0 := by omega
                refine ⟨?_, fun h => HW.out.2.2 h hz.1⟩
                rw [hz.1, hz.2] at h1
                rw [hz.2]
                simp only [Int.mul_zero, Int.add_zero] at h1 ⊢
                exact h1
              · obtain rfl : k = 9 := by omega
                rw [Nat.sub_self, p10] at h1 h2
                obtain rfl : part = 0 := by omega
                rw [Int.one_mul, Int.zero_add] at h1
                exact ⟨h1, fun h => HW.out.2.2 h rfl⟩)
            by_cases hk9 : k < 9
            · have hd9 : decide ((k : Int) < 9) = true := by simp; omega
              have hdp : decide (0 < part) = false := by simp; omega
              have hlp0 : lq.length = 0 := by
                have := HLQ.out
                omega
              have hlp : decide (0 < (lq.length : Int)) = false := by rw [decide_eq_false_iff_not]; omega
              have hlp2 : decide (0 < lq.length) = false := by rw [decide_eq_false_iff_not]; omega
              clear hlp0
              clear hc9
              go_wp2
              go_roundg X1.toNat
              case measure => have := HX.out; omega
              case rel => exact ⟨X1, R, m, HIN.out, Nat.le_refl _, by have := HX.out; omega, HW.out.1, HFN.out.1, HFN.out.2, HO.out, hb⟩
            · have hd9 : decide ((k : Int) < 9) = false := by simp; omega
              clear hc9
              go_wp2
              go_roundg X1.toNat
              case measure => have := HX.out; omega
              case rel => exact ⟨X1, R, m, HIN.out, Nat.le_refl _, by have := HX.out; omega, HW.out.1, HFN.out.1, HFN.out.2, HO.out, hb⟩
end Go.Proofs.Ytpplleoiehnlkaa.Nt
