/-
  Texts of numbers and fractions.
-/
import Derived.Test.YtdobkkhncfifeabGreatMDb
import Derived.Test.YtdobkkhncfifeabGreatMQText
namespace Go.Proofs.YtdobkkhncfifeabGreat.Gx
open Go Go.RowKit Tw B Nt
set_option linter.unusedVariables false
set_option linter.unusedSimpArgs false
set_option maxHeartbeats 1000000
open Classical in
noncomputable def decT (n:Int):List UInt8:=if h:∃ s,IsDec s n then (Classical.choose h).data.toList else []
theorem decT_of {s:ByteArray} {n:Int} (h:IsDec s n):decT n=s.data.toList:=by
 have he:∃ s,IsDec s n:=⟨s,h⟩
 unfold decT
 rw [dif_pos he,IsDec.unique (Classical.choose_spec he) h]
theorem decT_len {n:Int} {c:Nat} (h:n<Bp c):(decT n).length<=32*c+1:=by
 unfold decT
 split
 ·rename_i he
  have:=Nt.dec_size (Classical.choose_spec he) h
  rw [Array.length_toList]
  exact this
 ·simp
noncomputable def ftT (q:Rat):List UInt8 :=
 if q.den=1 then (if q.num<0 then 45::decT (q.num.natAbs:Int) else decT (q.num.natAbs:Int))
 else (if q.num<0 then 45::decT (q.num.natAbs:Int) else decT (q.num.natAbs:Int))++47::decT (q.den:Int)
@[go_sem] noncomputable def bFmtS:Spec:=⟨[nT],fun d=>(.dat .str (decT (N d.1)),[d.1.length<=5000000])⟩
theorem str_ret {ρ:List Value} {X:Nat->Prop} {w:World} {s:ByteArray} {l:List UInt8} (h:l=s.data.toList) (hl:l.length<=maxLen):m ρ X w (.dat .str l) [.string s]:=by
 subst h
 exact m_str_of hl
@[go_sem] noncomputable def rFmtS:Spec:=⟨[nT],fun d=>(.dat .str (decT (N d.1)),[d.1.length<=5000000])⟩
theorem rFmt_ok:SpecOk Tryz.prog 95 rFmtS:=by
 refine spec_of (s:=rFmtS) Tryz.func95 rfl (by decide) fun d hp ρ X w vs hX hm=>?_
 obtain ⟨x,rfl,h1⟩:=args1 hm
 refine (Nt.rFormat x 5000000 _ w (num_of h1 _ hp.1) (by decide)).mono fun e w' ⟨s,h2,h3,h4⟩=>⟨_,h2,str_ret (decT_of h3) ?_,h4⟩
 have:=decT_len (N_lt' (ds_of h1) hp.1)
 exact Nat.le_trans this (by decide)
@[go_sem] noncomputable def E7:Env:=(E6).add 95 rFmtS
theorem E7_ok:E7.Ok:=(E6_ok).add rFmt_ok
@[go_sem] noncomputable def rFFmtS:Spec:=⟨[fT],fun d=>(.dat .str (ftT (fq d.1)),[fs d.1<=900000])⟩
theorem rFFmt_ok:SpecOk Tryz.prog 92 rFFmtS:=by
 refine fn_ok E7_ok rFFmtS Tryz.func92 rfl (by decide) (N:=26) rfl (res:=[.tmp 2]) rfl (by decide) [] [] [] 100 (by kernel_rfl) ?_
 rintro ⟨x,_⟩ hw hp
 refine ⟨rfl,fun H hH=>?_⟩
 dsimp only [go_sem] at hw hp ⊢
 obtain ⟨hp1,-⟩:=hp
 have sx:=qs_fq (fd_of hw.1)
 generalize fq x=q at *
 have l1:=len_num q
 have l2:=len_den q
 have d1:=decT_len (Int.lt_of_lt_of_le (Qb_qs q).1 (Bp_mono (show qs q<=1000000 by omega)))
 have d2:=decT_len (Int.lt_of_lt_of_le (Qb_qs q).2 (Bp_mono (show qs q<=1000000 by omega)))
 have o1:(dg 1).length<=16000000:=by decide
 have e1:N (dg 1)=1:=N_dg (by omega)
 rw [N_num,N_den,e1,qf_neg]
 have key:decide (cmpI (q.den:Int) 1≠0)=decide (q.den≠1):=by
  refine decide_eq_decide.2 ⟨fun h e=>h (by rw [e]; rfl),fun h e=>h ?_⟩
  unfold cmpI at e
  split at e
  ·cases e
  ·split at e
   ·omega
   ·cases e
 rw [key]
 refine ⟨by omega,by omega,fun h=>?_,fun h=>?_⟩<;>simp only [decide_eq_true_eq,decide_eq_false_iff_not] at h
 ·refine ⟨by simp only [List.length_cons,List.length_nil]; omega,by omega,o1,fun k=>?_,fun k=>?_⟩<;>simp only [decide_eq_true_eq,decide_eq_false_iff_not,Decidable.not_not] at k
  ·refine ⟨by simp only [List.length_cons,List.length_nil]; omega,by omega,by simp only [List.length_cons,List.length_nil,List.length_append]; omega,?_,trivial⟩
   unfold ftT
   rw [if_neg k,if_pos h]
   simp
  ·refine ⟨?_,trivial⟩
   unfold ftT
   rw [if_pos k,if_pos h]
 ·refine ⟨by omega,o1,fun k=>?_,fun k=>?_⟩<;>simp only [decide_eq_true_eq,decide_eq_false_iff_not,Decidable.not_not] at k
  ·refine ⟨by simp only [List.length_cons,List.length_nil]; omega,by omega,by simp only [List.length_cons,List.length_nil,List.length_append]; omega,?_,trivial⟩
   unfold ftT
   rw [if_neg k,if_neg h]
   simp
  ·refine ⟨?_,trivial⟩
   unfold ftT
   rw [if_pos k,if_neg h]
end Go.Proofs.YtdobkkhncfifeabGreat.Gx
