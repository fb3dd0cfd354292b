/-
  Texts of numbers and fractions.
-/
import Derived.Test.YtbokoblnehgkaaaMDb
import Derived.Test.YtbokoblnehgkaaaMQText
namespace Go.Proofs.Ytbokoblnehgkaaa.Gx
open Go Go.RowKit Tw B Nt
set_option linter.unusedVariables false
set_option linter.unusedSimpArgs false
set_option maxHeartbeats 1000000
open Classical in
noncomputable def decT (n:Int):List UInt8:=if h:∃ s,IsDec s n then (Classical.choose h).data.toList else []
theorem decT_of {s:ByteArray} {n:Int} (h:IsDec s n):decT n=s.data.toList:=by
 have he:∃ s,IsDec s n:=⟨s,h⟩
 unfold decT
 rw [dif_pos he,IsDec.unique (Classical.choose_spec he) h]
theorem decT_len {n:Int} {c:Nat} (h:n<Bp c):(decT n).length<=32*c+1:=by
 unfold decT
 split
 ·rename_i he
  have:=Nt.dec_size (Classical.choose_spec he) h
  rw [Array.length_toList]
  exact this
 ·simp
noncomputable def ftT (q:Rat):List UInt8 :=
 if q.den=1 then (if q.num<0 then 45::decT (q.num.natAbs:Int) else decT (q.num.natAbs:Int))
 else (if q.num<0 then 45::decT (q.num.natAbs:Int) else decT (q.num.natAbs:Int))++47::decT (q.den:Int)
theorem app_data (a b:ByteArray):(a++b).data.toList=a.data.toList++b.data.toList:=by
 rw [ByteArray.data_append]; simp
theorem ftT_of {s:ByteArray} {q:Rat} (h:IsFT s q):ftT q=s.data.toList:=by
 obtain ⟨t1,t2,h1,h2,rfl⟩:=h
 unfold ftT
 rw [decT_of h1,decT_of h2]
 split<;>split<;>simp [app_data]
@[go_sem] noncomputable def bFmtS:Spec:=⟨[nT],fun d=>(.dat .str (decT (N d.1)),[d.1.length<=5000000])⟩
theorem str_ret {ρ:List Value} {X:Nat->Prop} {w:World} {s:ByteArray} {l:List UInt8} (h:l=s.data.toList) (hl:l.length<=maxLen):m ρ X w (.dat .str l) [.string s]:=by
 subst h
 exact m_str_of hl
theorem bFmt_ok:SpecOk Try.prog 26 bFmtS:=by
 refine spec_of (s:=bFmtS) Try.func26 rfl (by decide) fun d hp ρ X w vs hX hm=>?_
 obtain ⟨x,rfl,h1⟩:=args1 hm
 refine (Nt.format x 5000000 _ w (num_of h1 _ hp.1) (by decide)).mono fun e w' ⟨s,h2,h3,h4⟩=>⟨_,h2,str_ret (decT_of h3) ?_,h4⟩
 have:=decT_len (N_lt' (ds_of h1) hp.1)
 exact Nat.le_trans this (by decide)
theorem ftT_len {q:Rat} {c:Nat} (h:qs q<=c):(ftT q).length<=64*c+4:=by
 have h1:=decT_len (Int.lt_of_lt_of_le (Qb_qs q).1 (Bp_mono h))
 have h2:=decT_len (Int.lt_of_lt_of_le (Qb_qs q).2 (Bp_mono h))
 unfold ftT
 split<;>split<;>simp<;>omega
@[go_sem] noncomputable def qFmtS:Spec:=⟨[fT],fun d=>(.dat .str (ftT (fq d.1)),[fs d.1<=900000,Fd d.1])⟩
theorem qFmt_ok:SpecOk Try.prog 28 qFmtS:=by
 refine spec_of (s:=qFmtS) Try.func28 rfl (by decide) fun d hp ρ X w vs hX hm=>?_
 obtain ⟨x,rfl,h1⟩:=args1 hm
 obtain ⟨p1,p2,-⟩:=hp
 have hs:=qs_fq p2
 refine (qFormat x 1000000 _ w (raw_of h1 _ (by omega)) (by decide) ((Qb_qs _).mono (by omega))).mono fun e w' ⟨s,h2,h3,h4⟩=>⟨_,h2,str_ret (ftT_of h3) ?_,h4⟩
 have:=ftT_len (q:=fq d.1) (c:=1000000) (by omega)
 exact Nat.le_trans this (by decide)
@[go_sem] noncomputable def E7:Env:=((E6).add 26 bFmtS).add 28 qFmtS
end Go.Proofs.Ytbokoblnehgkaaa.Gx
