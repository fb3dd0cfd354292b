/-
  Contracts of credencelaw2.same and known.
-/
import Derived.Test.YtpplleoiehnlkaaRFrac
import Derived.Test.YtpplleoiehnlkaaMQAdd
import Derived.Test.YtpplleoiehnlkaaMQMul
import Derived.Test.YtpplleoiehnlkaaMQText
namespace Go.Proofs.Ytpplleoiehnlkaa.Nt
open Go.ChangeShapes Go.WideShapes Go.ChangeAt Go.RowKit B
set_option linter.unusedVariables false

set_option maxHeartbeats 1000000 in
theorem sameR (va vb : Value) (p q : Bool) (la ma lb mb : List Int) (w : World) (ha : FRow w va p la ma) (hb : FRow w vb q lb mb) :
    Calls Try.prog 13 #[va, vb] w fun e w' => e = .returned (.bool (decide (p = q ∧ la = lb ∧ ma = mb))) ∧ Below w.heap.size w w' := by
  have HFA := Lib.hid ha
  have HFB := Lib.hid hb
  obtain ⟨vna, vda, rfl, hna, hda⟩ := ha
  obtain ⟨vnb, vdb, rfl, hnb, hdb⟩ := hb
  obtain ⟨ana, pna, rfl, _⟩ := Row.parts hna
  obtain ⟨ada, pda, rfl, _⟩ := Row.parts hda
  obtain ⟨anb, pnb, rfl, _⟩ := Row.parts hnb
  obtain ⟨adb, pdb, rfl, _⟩ := Row.parts hdb
  obtain ⟨hA, hB, hW, hS⟩ := pro2 w (.bool p) (.slice ana la.length pna) (.slice ada ma.length pda) (.bool q) (.slice anb lb.length pnb) (.slice adb mb.length pdb) 25 25
  have HFA := Lib.hid (HFA.out.keep hW)
  have HFB := Lib.hid (HFB.out.keep hW)
  have HW := Lib.hid hW
  have HS := Lib.hid hS
  obtain ⟨z, hz⟩ : ∃ z, decide (p = q ∧ la = lb ∧ ma = mb) = z := ⟨_, rfl⟩
  have HZ := Lib.hid hz
  clear hz hna hda hnb hdb hS hA hB hW
  go_enter Try.func13, Try.ntmps13
  go_wp2_with fail
  refine (rFSameR _ _ p q la ma lb mb _ HFA.out HFB.out).mono ?_
  rintro e w1 ⟨rfl, hb1⟩
  rw [HZ.out]
  go_wp2_with fail
  go_ret
  exact ⟨by rw [HZ.out]; rfl, HW.out.trans (hb1.mono (by have := HS.out; omega))⟩
theorem IsQ.same_iff {b1 b2 : Nat} {w : World} {va vb : Value} {p q : Rat} {la ma lb mb : List Int} (c1 : Canon la) (c2 : Canon ma) (e1 : N la = (p.num.natAbs : Int)) (e2 : N ma = (p.den : Int))
    (c3 : Canon lb) (c4 : Canon mb) (e3 : N lb = (q.num.natAbs : Int)) (e4 : N mb = (q.den : Int)) : decide (decide (p.num < 0) = decide (q.num < 0) ∧ la = lb ∧ ma = mb) = decide (p = q) := by
  rw [Bool.eq_iff_iff, decide_eq_true_iff, decide_eq_true_iff]
  constructor
  · rintro ⟨h1, rfl, rfl⟩
    apply Rat.ext
    · have : (p.num.natAbs : Int) = q.num.natAbs := by rw [← e1, e3]
      rw [decide_eq_decide] at h1
      omega
    · have : (p.den : Int) = q.den := by rw [← e2, e4]
      omega
  · rintro rfl
    exact ⟨rfl, Canon.inj c1 c3 (by rw [e1, e3]), Canon.inj c2 c4 (by rw [e2, e4])⟩
theorem sameQ {b1 b2 : Nat} {va vb : Value} {p q : Rat} {w : World} (ha : IsQ b1 w va p) (hb : IsQ b2 w vb q) :
    Calls Try.prog 13 #[va, vb] w fun e w' => e = .returned (.bool (decide (p = q))) ∧ Below w.heap.size w w' := by
  obtain ⟨la, ma, fa, c1, c2, e1, e2⟩ := ha.frow
  obtain ⟨lb, mb, fb, c3, c4, e3, e4⟩ := hb.frow
  refine (sameR va vb _ _ la ma lb mb w fa fb).mono ?_
  rintro e w' ⟨rfl, h⟩
  exact ⟨by rw [IsQ.same_iff (b1 := b1) (b2 := b2) (w := w) (va := va) (vb := vb) c1 c2 e1 e2 c3 c4 e3 e4], h⟩

theorem qParseOk (s : ByteArray) (w : World) (hs : s.size ≤ maxLen) (hc : fpC s.data.toList = 0) :
    Calls Try.prog 16 #[.string s] w (RetQE w.heap.size w (fpQ s.data.toList) 0) :=
  (qParse s w hs).mono fun e w' h => by
    rcases h with ⟨_, h⟩ | ⟨h, _⟩
    · exact h
    · exact absurd hc h
theorem qParseErr (s : ByteArray) (w : World) (hs : s.size ≤ maxLen) (hc : fpC s.data.toList ≠ 0) :
    Calls Try.prog 16 #[.string s] w (ErrQ w (fpC s.data.toList)) :=
  (qParse s w hs).mono fun e w' h => by
    rcases h with ⟨h, _⟩ | ⟨_, h⟩
    · exact absurd h hc
    · exact h
theorem k_parse : fpC [48, 46, 49, 50, 53] = 0 ∧ fpQ [48, 46, 49, 50, 53] = 1 / 8 := by decide +kernel
theorem k_ft1 {s : ByteArray} (h : IsFT s (-3 / 4)) : s = ⟨#[45, 51, 47, 52]⟩ :=
  IsFT.unique h ⟨decS [3], decS [4], .inr ⟨by decide +kernel, [3], ⟨by unfold D10; decide, by decide⟩, by decide +kernel, rfl⟩, .inr ⟨by decide +kernel, [4], ⟨by unfold D10; decide, by decide⟩, by decide +kernel, rfl⟩, by decide +kernel⟩
theorem k_ft2 {s : ByteArray} (h : IsFT s (-5 / 8)) : s = ⟨#[45, 53, 47, 56]⟩ :=
  IsFT.unique h ⟨decS [5], decS [8], .inr ⟨by decide +kernel, [5], ⟨by unfold D10; decide, by decide⟩, by decide +kernel, rfl⟩, .inr ⟨by decide +kernel, [8], ⟨by unfold D10; decide, by decide⟩, by decide +kernel, rfl⟩, by decide +kernel⟩
theorem k_new : Rat.divInt (-6) 8 = -3 / 4 := by decide +kernel
theorem k_add : (-3 / 4 : Rat) + 1 / 8 = -5 / 8 := by decide +kernel
theorem k_cmp : cmpQ (-3 / 4) (1 / 8) = -1 := by decide +kernel
theorem k_b : Qb 1 (-3 / 4) ∧ Qb 1 (1 / 8) ∧ Qb 1 (-5 / 8) := by unfold Qb; decide +kernel
set_option maxHeartbeats 4000000 in
theorem known (w : World) : Calls Try.prog 14 #[] w fun e w' => e = .returned (.bool true) ∧ Below w.heap.size w w' := by
  go_enter Try.func14, Try.ntmps14
  go_wp2_with fail
  refine (qNew (-6) 8 _ (by decide) (by decide) (by decide) (by decide) (by decide)).mono ?_
  rintro e wk1 ⟨vk1, rfl, rk2, hbk1⟩
  rw [k_new] at rk2
  obtain ⟨fk4, fk5, fk6, fk7, fk8, fk9, fk10, rfl⟩ := rk2.form
  have Hk3 := Lib.hid rk2
  clear rk2
  have Bk11 := Lib.hid (Box3.new wk1 (.bool fk4) (.slice fk5 fk6 fk7) (.slice fk8 fk9 fk10) 25)
  have hbk2 := alloc_below wk1 (.cells #[.bool fk4, .slice fk5 fk6 fk7, .slice fk8 fk9 fk10] 25 (0, 0))
  generalize hEk12 : wk1.alloc (.cells #[.bool fk4, .slice fk5 fk6 fk7, .slice fk8 fk9 fk10] 25 (0, 0)) = wk2 at *
  have Ek12 := Lib.hid hEk12
  clear hEk12
  go_wp2_with fail
  rw [Ek12.out]
  refine (qParseOk ⟨#[48, 46, 49, 50, 53]⟩ _ (by decide) k_parse.1).mono ?_
  rintro e wk3 ⟨vk13, rfl, rk14, hbk3⟩
  rw [show fpQ (⟨#[48, 46, 49, 50, 53]⟩ : ByteArray).data.toList = 1 / 8 from k_parse.2] at rk14
  obtain ⟨fk16, fk17, fk18, fk19, fk20, fk21, fk22, rfl⟩ := rk14.form
  have Hk15 := Lib.hid rk14
  clear rk14
  have Bk23 := Lib.hid (Box3.new wk3 (.bool fk16) (.slice fk17 fk18 fk19) (.slice fk20 fk21 fk22) 25)
  have hbk4 := alloc_below wk3 (.cells #[.bool fk16, .slice fk17 fk18 fk19, .slice fk20 fk21 fk22] 25 (0, 0))
  generalize hEk24 : wk3.alloc (.cells #[.bool fk16, .slice fk17 fk18 fk19, .slice fk20 fk21 fk22] 25 (0, 0)) = wk4 at *
  have Ek24 := Lib.hid hEk24
  clear hEk24
  obtain ⟨⟨zk25, zk26, zk27⟩, _, _, _⟩ := (Bk11.out.keep hbk3)
  have ltk28 := cell_lt zk25
  dsimp only at ltk28
  go_wp2_with fail
  rw [Ek24.out]
  refine (qFormat _ 1 ((-3 / 4 : Rat)) _ (IsQ.raw (((Hk3.out.keep hbk2).keep hbk3).keep hbk4) 1 (Qb.mono (k_b.1) (by omega))) (by omega) (k_b.1)).mono ?_
  rintro e wk5 ⟨tk32, rfl, dk33, hbk5⟩
  obtain rfl := k_ft1 dk33
  clear zk25 zk26 zk27 ltk28
  obtain ⟨⟨zk34, zk35, zk36⟩, _, _, _⟩ := (((Bk11.out.keep hbk3).keep hbk4).keep hbk5)
  obtain ⟨⟨zk37, zk38, zk39⟩, _, _, _⟩ := (Bk23.out.keep hbk5)
  go_wp2_with fail
  refine (qAdd _ _ 1 ((-3 / 4 : Rat)) ((1 / 8 : Rat)) _ (IsQ.raw ((((Hk3.out.keep hbk2).keep hbk3).keep hbk4).keep hbk5) 1 (Qb.mono (k_b.1) (by omega))) (IsQ.raw ((Hk15.out.keep hbk4).keep hbk5) 1 (Qb.mono (k_b.2.1) (by omega))) (by omega)).mono ?_
  rintro e wk6 ⟨vk40, rfl, rk41, hbk6⟩
  rw [k_add] at rk41
  obtain ⟨fk43, fk44, fk45, fk46, fk47, fk48, fk49, rfl⟩ := rk41.form
  have Hk42 := Lib.hid rk41
  clear rk41
  go_wp2_with fail
  refine (qFormat _ 1 ((-5 / 8 : Rat)) _ (IsQ.raw Hk42.out 1 (Qb.mono (k_b.2.2) (by omega))) (by omega) (k_b.2.2)).mono ?_
  rintro e wk7 ⟨tk50, rfl, dk51, hbk7⟩
  obtain rfl := k_ft2 dk51
  clear zk34 zk35 zk36 zk37 zk38 zk39
  obtain ⟨⟨zk52, zk53, zk54⟩, _, _, _⟩ := (((((Bk11.out.keep hbk3).keep hbk4).keep hbk5).keep hbk6).keep hbk7)
  obtain ⟨⟨zk55, zk56, zk57⟩, _, _, _⟩ := (((Bk23.out.keep hbk5).keep hbk6).keep hbk7)
  go_wp2_with fail
  refine (qCmp _ _ 1 ((-3 / 4 : Rat)) ((1 / 8 : Rat)) _ (IsQ.raw ((((((Hk3.out.keep hbk2).keep hbk3).keep hbk4).keep hbk5).keep hbk6).keep hbk7) 1 (Qb.mono (k_b.1) (by omega))) (IsQ.raw ((((Hk15.out.keep hbk4).keep hbk5).keep hbk6).keep hbk7) 1 (Qb.mono (k_b.2.1) (by omega))) (by omega)).mono ?_
  rintro e wk8 ⟨rfl, hbk8⟩
  rw [k_cmp]
  clear zk52 zk53 zk54 zk55 zk56 zk57
  go_wp2_with fail
  have hbk1_s := hbk1.size
  have hbk2_s := hbk2.size
  have hbk3_s := hbk3.size
  have hbk4_s := hbk4.size
  have hbk5_s := hbk5.size
  have hbk6_s := hbk6.size
  have hbk7_s := hbk7.size
  go_ret
  exact ⟨rfl, (((((((hbk1.trans (hbk2.mono (by omega))).trans (hbk3.mono (by omega))).trans (hbk4.mono (by omega))).trans (hbk5.mono (by omega))).trans (hbk6.mono (by omega))).trans (hbk7.mono (by omega))).trans (hbk8.mono (by omega)))⟩
end Go.Proofs.Ytpplleoiehnlkaa.Nt
