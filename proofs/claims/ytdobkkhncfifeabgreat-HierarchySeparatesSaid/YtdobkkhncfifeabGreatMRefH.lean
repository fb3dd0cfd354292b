/-
  RefH, RefI, in one text: see the remarks at the head of each part.
-/
import Derived.Test.YtdobkkhncfifeabGreatMRefE
import Derived.Deep.RegionHeld3
namespace Go.Proofs.YtdobkkhncfifeabGreat.Nt
open Go.ChangeShapes Go.WideShapes Go.ChangeAt Go.RowKit B
set_option linter.unusedVariables false
end Go.Proofs.YtdobkkhncfifeabGreat.Nt
namespace Go.Proofs.YtdobkkhncfifeabGreat.Nt
open Go.ChangeShapes Go.WideShapes Go.ChangeAt Go.RowKit B
set_option linter.unusedVariables false
theorem decS_cons (R:List Int) (d:Int):(⟨#[UInt8.ofNat (d+48).toNat]⟩:ByteArray)++decS R=decS (R++[d]):=by
 apply ByteArray.ext
 simp [decS,decB]
theorem conv_one (w:World) (d:Int) (h:0<=d/\d<10) :
    (convert 69 9 (.slice (some ⟨w.heap.size,0,none⟩) 1 1)).run Tryz.prog (w.alloc (.cells #[.int .u8 (48+d)] 5 (0,0)))=.ok (.string ⟨#[UInt8.ofNat (d+48).toNat]⟩) (w.alloc (.cells #[.int .u8 (48+d)] 5 (0,0))):=by
 have:=run_convert_bytes_back (P:=Tryz.prog) (w.alloc (.cells #[.int .u8 (48+d)] 5 (0,0))) 69 9 5 ⟨w.heap.size,0,none⟩ 1 [UInt8.ofNat (d+48).toNat] Tryz.underlying69 Tryz.underlying5 Tryz.underlying9 ?_
 ·exact this
 ·intro j hj
  obtain rfl:j=0:=by simpa using hj
  have ea:Addr.add ⟨w.heap.size,0,none⟩ 0=⟨w.heap.size,0,none⟩:=by
   unfold Addr.add; split<;>simp_all
  rw [ea,World.cell?_alloc_mark]
  simp
  omega
set_option maxHeartbeats 2000000 in
theorem rFormat (va:Value) (c:Nat) (n:Int) (w:World) (ha:Num w va c n) (hc:c<=4294967296) :
    Calls Tryz.prog 95 #[va] w (RetS w.heap.size w n):=by
 have HA:=Lib.hid ha
 have HLT:=Lib.hid ha.lt
 have HNN:=Lib.hid ha.nonneg
 clear ha
 go_enter Tryz.func95,Tryz.ntmps95
 go_wp2_with fail
 refine (rNorm va c n w HA.out (by omega)).mono ?_
 rintro e w1 ⟨v1,rfl,h1,hb1⟩
 have HI:=Lib.hid h1
 clear h1
 by_cases hz:n=0
 ·obtain ⟨a1,p1,rfl⟩:=IsNew.zero HI.out hz
  have HZ:=Lib.hid hz
  clear hz
  go_wp2_with fail
  go_ret
  exact ⟨_,rfl,.inl ⟨HZ.out,rfl⟩,hb1⟩
 obtain ⟨a1,n1,p1,rfl,hn1,hp1,hq1⟩:=IsNew.lenPos HI.out hz
 have hd1:((n1:Int) == 0)=false:=by rw [beq_eq_false_iff_ne]; omega
 have hn0:0<n:=by have:=HNN.out; omega
 clear hz
 go_wp2_with fail
 clear hd1 hn1 hp1 hq1
 go_loopg [3,4] n.toNat (fun gk v t wr=>∃ (X:Int) (R:List Int),0<=X/\X<=n/\X.toNat<=gk/\t=.string (decS R)/\Hid (IsNew w.heap.size wr v X)/\Hid (D10 R/\n=V10 R+p10 R.length*X/\(X=0->R.getLast?≠some 0))/\Hid (Below w.heap.size w wr))
 case atStart=>exact ⟨n,[],by omega,Int.le_refl _,Nat.le_refl _,rfl,HI,⟨D10.nil,by simp [V10,p10],by omega⟩,hb1⟩
 case round =>
  clear HI hb1
  obtain ⟨X,R,hX0,hXn,hgk,rfl,HI,HQ,HB⟩:=hrel
  by_cases hz:X=0
  ·obtain ⟨a1,p1,rfl⟩:=IsNew.zero HI.out hz
   have HZ:=Lib.hid (show C10 R/\V10 R=n by
    have h:=HQ.out
    rw [hz,Int.mul_zero,Int.add_zero] at h
    exact ⟨⟨h.1,h.2.2 rfl⟩,h.2.1.symm⟩)
   clear hz
   go_wp2_with fail
   go_ret
   exact ⟨_,rfl,.inr ⟨hn0,R,HZ.out.1,HZ.out.2,rfl⟩,HB.out⟩
  ·obtain ⟨a2,n2,p2,rfl,hn2,hp2,hq2⟩:=IsNew.lenPos HI.out hz
   have hd2:decide ((n2:Int)>0)=true:=by simp; omega
   have hX1:0<X:=by omega
   clear hz
   go_wp2_with fail
   refine (rSmall _ c X 10 wr (HI.out.num c (by have:=HLT.out; omega)) hc (by omega) (by omega)).mono ?_
   rintro e w2 ⟨v2,rfl,h2,hb2⟩
   have HI2:=Lib.hid (h2.mono (base':=w.heap.size) HB.out.size)
   clear h2 hd2
   have hr0:0<=X % 10/\X % 10<10:=by omega
   have hconv:=conv_one w2 (X % 10) hr0
   have HS:=Lib.hid (show D10 (R++[X % 10])/\n=V10 (R++[X % 10])+p10 (R++[X % 10]).length*(X / 10)/\(X / 10=0->(R++[X % 10]).getLast?≠some 0) by
    refine ⟨HQ.out.1.snoc hr0,?_,fun h=>fmt_last R (X % 10) (by omega)⟩
    rw [V10_snoc,List.length_append,List.length_singleton,p10,Int.mul_comm 10 _,Int.mul_assoc,Int.add_assoc,<-Int.mul_add,show X % 10+10*(X / 10)=X by omega]
    exact HQ.out.2.1)
   have HD:=Lib.hid (decS_cons R (X % 10))
   have hsz:(decS R).size<=137438953472:=by
    have h1:p10 R.length<=n:=by
     have h2:=Int.mul_le_mul_of_nonneg_left (show 1<=X by omega) (show 0<=p10 R.length by have:=p10_pos R.length; omega)
     have h3:=V10_nonneg HQ.out.1
     have h4:=HQ.out.2.1
     omega
    have h2:=p10_len h1 HLT.out
    have h3:(decS R).size=R.length:=by simp [decS,decB,ByteArray.size]
    omega
   obtain ⟨r,hr⟩:∃ r,X % 10=r:=⟨_,rfl⟩
   rw [hr] at hr0 hconv HS HD ⊢
   have HRR:=Lib.hid hr
   clear hr
   go_wp2_with fail
   go_roundg (X / 10).toNat
   case measure=>omega
   case rel=>exact ⟨X / 10,R++[r],by omega,by omega,Nat.le_refl _,by rw [<-HD.out],HI2.out.keep ((Below.refl _ _).alloc (Nat.le_refl _) _),HS.out,(HB.out.trans (hb2.mono HB.out.size)).alloc (Nat.le_trans HB.out.size hb2.size) _⟩
end Go.Proofs.YtdobkkhncfifeabGreat.Nt
