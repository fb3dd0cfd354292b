/-
  MHd: HF HB HC HD HE in one text.
-/
import Derived.Test.YtdobkkhncfifeabGreatMHc
import Derived.Test.YtdobkkhncfifeabGreatD9
namespace Go.Proofs.YtdobkkhncfifeabGreat.Gx
open Go Go.RowKit Tw B Nt
set_option linter.unusedVariables false
set_option linter.unusedSimpArgs false
set_option maxHeartbeats 4000000
set_option maxRecDepth 20000
theorem dec_dig {d:Int} (h0:0<d) (h1:d<10):decT d=decB [d]:=by
 have:IsDec (decS [d]) d:=.inr ⟨h0,[d],⟨fun x hx=>by rw [List.mem_singleton] at hx; omega,by simp; omega⟩,by simp [V10],rfl⟩
 rw [decT_of this]
 rfl
theorem divInt_one (n:Int):Rat.divInt n 1=(n:Rat):=by
 rw [show Rat.divInt n 1=mkRat n 1 from rfl]
 apply Rat.ext
 ·simp [Rat.num_mkRat]
 ·simp [Rat.den_mkRat]
theorem ftT_small {n:Int} (h:n=1∨n=2∨n=3):ftT (Rat.divInt n 1)=[UInt8.ofNat (48+n.toNat)]:=by
 rw [divInt_one]
 unfold ftT
 rw [if_pos (Rat.den_intCast n),Rat.num_intCast,if_neg (by omega)]
 have e:((n.natAbs:Nat):Int)=n:=by omega
 rw [e,dec_dig (by omega) (by omega)]
 rcases h with rfl|rfl|rfl<;>rfl
theorem qs_small {n:Int} (h0:0<=n) (h1:n<=3):qs (Rat.divInt n 1)<=900000:=by
 rw [divInt_one]
 refine Nat.le_trans (qs_le (c:=2) ?_) (by decide)
 have h2:Bp 2=18446744073709551616:=by decide
 unfold Qb
 rw [Rat.num_intCast,Rat.den_intCast,h2]
 omega
@[go_sem] noncomputable def whoS:Spec:=⟨[.int .i64],fun d=>(.dat fT (qf (Rat.divInt d.1 1)),[])⟩
@[go_sem] noncomputable def EHFa:Env:=((EJ2).add 98 rFNewS).add 92 rFFmtS
theorem EHFa_ok:EHFa.Ok:=((EJ2_ok).add rFNew_ok).add rFFmt_ok
theorem who_ok:SpecOk Tryz.prog 93 whoS:=by
 refine fn_ok EHFa_ok whoS Tryz.func93 rfl (by decide) (N:=11) rfl (res:=[.cell 2 137]) rfl (by decide) [] [] [] 100 (by kernel_rfl) ?_
 rintro ⟨n,_⟩ hw hp
 refine ⟨rfl,fun H hH=>?_⟩
 dsimp only [go_sem] at hw hp ⊢
 exact ⟨if_neg (by decide),trivial⟩
@[go_sem] def rvvS:Spec:=⟨[valT],fun d=>(.dat .bool true,[d.1.1=(1:Int)/\d.1.2.2=([]:Str)])⟩
theorem rvv_ok:SpecOk Tryz.prog 91 rvvS:=by
 refine fn_ok EHFa_ok rvvS Tryz.func91 rfl (by decide) (N:=41) rfl (res:=[.tmp 2]) rfl (by decide) [] [] [] 100 (by kernel_rfl) ?_
 rintro ⟨v,_⟩ hw hp
 refine ⟨rfl,fun H hH=>?_⟩
 dsimp only [go_sem] at hw hp ⊢
 obtain ⟨⟨h1,h2⟩,-⟩:=hp
 rw [h2]
 refine ⟨fun _=>⟨rfl,trivial⟩,fun e=>absurd h1 (of_decide_eq_false e)⟩
@[go_sem] noncomputable def EHFb:Env:=((EHFa).add 93 whoS).add 91 rvvS
theorem EHFb_ok:EHFb.Ok:=((EHFa_ok).add who_ok).add rvv_ok
@[go_sem] def rfmS:Spec:=⟨[valT],fun d=>(.dat .str (if d.1.2.1=(1:Int) then [49] else if d.1.2.1=(2:Int) then [50] else [51]),[d.1.1=(1:Int)/\d.1.2.2=([]:Str)/\(d.1.2.1=(1:Int)∨d.1.2.1=(2:Int)∨d.1.2.1=(3:Int))])⟩
theorem rfm_ok:SpecOk Tryz.prog 90 rfmS:=by
 refine fn_ok EHFb_ok rfmS Tryz.func90 rfl (by decide) (N:=39) rfl (res:=[.tmp 2]) rfl (by decide) [] [] [5] 100 (by kernel_rfl) ?_
 rintro ⟨v,_⟩ hw hp
 refine ⟨rfl,fun H hH=>?_⟩
 dsimp only [go_sem] at hw hp ⊢
 obtain ⟨⟨h1,h2,h3⟩,-⟩:=hp
 refine ⟨⟨h1,h2⟩,fun e=>absurd e (by decide),fun _=>⟨fun _=>?_,fun e=>absurd h1 (of_decide_eq_false e)⟩⟩
 obtain ⟨v1,n,v3⟩:=v
 change Int at n
 change n=1∨n=2∨n=3 at h3
 show fs (qf (Rat.divInt n 1))<=900000/\ftT (fq (qf (Rat.divInt n 1)))=(if n=1 then [49] else if n=2 then [50] else [51])/\True
 rw [fq_qf,fs_qf,ftT_small h3]
 refine ⟨?_,?_,trivial⟩
 ·rcases h3 with rfl|rfl|rfl<;>exact qs_small (by decide) (by decide)
 ·rcases h3 with rfl|rfl|rfl<;>rfl
end Go.Proofs.YtdobkkhncfifeabGreat.Gx
namespace Go.Proofs.YtdobkkhncfifeabGreat.Gx
open Go Go.RowKit Tw B Nt
set_option linter.unusedVariables false
set_option linter.unusedSimpArgs false
set_option maxHeartbeats 4000000
set_option maxRecDepth 20000
def isP (s:PS) (k:Int):Bool:=(!s.2.2&&decide (s.2.1<(s.1.length:Int)))&&decide ((tk s).1=k)
@[go_sem] def isM:MSpec:=⟨[.b 95 psT,.d (.int .i64)],fun d=>⟨[(0,.box 95 (dA psT d.1 .nil))],1,.dat .bool (isP d.1 d.2.1),[psP d.1]⟩⟩
@[go_sem] noncomputable def EJ3:Env:=(EJ2).addM 46 wnM
theorem EJ3_ok:EJ3.Ok:=(EJ2_ok).addM wnM_ok
theorem isM_ok:MSpecOk Tryz.prog 85 isM:=by
 refine fnM_ok EJ3_ok isM Tryz.func85 rfl (by decide) (N:=37) rfl (res:=[.tmp 4]) rfl (by decide) [] [] [] 100 (by kernel_rfl) ?_
 rintro ⟨s,(k:Int),_⟩ hw hp H hH
 dsimp only [go_sem] at hw hp ⊢
 obtain ⟨hp,-⟩:=hp
 obtain ⟨l,a,b⟩:=s
 change List Tok at l
 change Int at a
 obtain ⟨⟨h0,h1⟩,h2,h3⟩:=hp
 change (0:Int)<=a at h0
 clear hw
 simp only [imp_self,true_and,imp2,and_true]
 have hb:∀ x:Bool,((x&&decide (a<(l.length:Int)))=true)->(0:Int)<=a/\a<(l.length:Int):=fun x h=>by
  simp only [Bool.and_eq_true,decide_eq_true_eq] at h
  exact ⟨h0,h.2⟩
 refine ⟨fun h=>hb _ h,?_⟩
 and_intros<;>first|trivial|rfl
def nxB (s:PS) (k:Int):Bool:=(s.2.2||decide ((s.1.length:Int)<=s.2.1))||decide ((tk s).1≠k)
def nexP (s:PS) (k:Int):PS×Str:=if nxB s k=true then (bad s,[]) else (adv s,(tk s).2)
@[go_sem] def nxM:MSpec:=⟨[.b 95 psT,.d (.int .i64)],fun d=>⟨[(0,.box 95 (dA psT (nexP d.1 d.2.1).1 .nil))],1,.dat .str (nexP d.1 d.2.1).2,[psP d.1]⟩⟩
theorem nxM_ok:MSpecOk Tryz.prog 74 nxM:=by
 refine fnM_ok EJ3_ok nxM Tryz.func74 rfl (by decide) (N:=58) rfl (res:=[.tmp 4]) rfl (by decide) [] [] [] 100 (by kernel_rfl) ?_
 rintro ⟨s,(k:Int),_⟩ hw hp H hH
 dsimp only [go_sem] at hw hp ⊢
 obtain ⟨hp,-⟩:=hp
 obtain ⟨l,a,b⟩:=s
 change List Tok at l
 change Int at a
 obtain ⟨⟨h0,h1⟩,h2,h3⟩:=hp
 change (0:Int)<=a at h0
 change a<=(l.length:Int) at h1
 change l.length<=20000 at h2
 clear hw
 simp only [imp_self,true_and,imp2,and_true]
 have hz:∀ n,l.getD n (zd (.pair (.int .i64) .str))=l.getD n ((0,[]):Tok):=fun _=>rfl
 have ht:tk (l,a,b)=l.getD a.toNat (0,[]):=rfl
 have e1:a+1-1=a:=by omega
 simp only [hz,e1,<-ht]
 have hn:nexP (l,a,b) k=if nxB (l,a,b) k=true then (bad (l,a,b),[]) else (adv (l,a,b),(tk (l,a,b)).2):=rfl
 have hnb:nxB (l,a,b) k=((b||decide ((l.length:Int)<=a))||decide ((tk (l,a,b)).1≠k)):=rfl
 have hlt:(b||decide ((l.length:Int)<=a))=false->(0:Int)<=a/\a<(l.length:Int):=fun h=>by
  simp only [Bool.or_eq_false_iff,decide_eq_false_iff_not] at h
  omega
 refine ⟨hlt,fun h=>?_,fun h=>?_⟩
 ·rw [hn,if_pos (hnb.trans h)]
  and_intros<;>first|trivial|rfl
 ·have h5:=hlt (Bool.or_eq_false_iff.1 h).1
  have i1:inR .i64 (a+1):=by rw [inR_i64]; omega
  have i2:inR .i64 a:=by rw [inR_i64]; omega
  rw [hn,if_neg (by rw [hnb]; exact fun h'=>by rw [h] at h'; cases h')]
  refine ⟨i1,i2,h5,?_⟩
  and_intros<;>first|trivial|rfl
theorem nexP_ad {s:PS} (h:psP s) (k:Int):Ad s (nexP s k).1:=by
 unfold nexP
 split
 ·exact Ad.bad h
 ·rename_i e
  refine Ad.adv h ?_
  unfold nxB at e
  simp only [Bool.or_eq_true,decide_eq_true_eq,not_or] at e
  have:=e.1.2
  omega
def resv (t:Str):Bool:=if t=[114,101,108,97,116,105,111,110] then true else if t=[99,101,114,116,97,105,110] then true else if t=[116,117,112,108,101] then true else if t=[107,101,121] then true else if t=[114,117,108,101] then true else if t=[105,109,112,108,105,101,115] then true else if t=[111,114] then true else if t=[99,111,117,110,116] then true else if t=[116,111] then true else if t=[111,102] then true else if t=[102,97,99,116,111,114] then true else if t=[102,111,114] then true else if t=[111,98,115,101,114,118,101] then true else if t=[100,101,110,121] then true else if t=[97,115,107] then true else if t=[112,114,111,98,97,98,105,108,105,116,121] then true else if t=[115,117,109] then true else if t=[116,104,114,101,115,104,111,108,100] then true else if t=[116,111,112] then true else if t=[116,114,117,101] then true else if t=[102,97,108,115,101] then true else if t=[110,111,116] then true else if t=[105,110,116] then true else if t=[115,116,114,105,110,103] then true else false
@[go_sem] def resS:Spec:=⟨[.str],fun d=>(.dat .bool (resv d.1),[])⟩
theorem res_ok:SpecOk Tryz.prog 75 resS:=by
 refine fn_ok EJ3_ok resS Tryz.func75 rfl (by decide) (N:=29) rfl (res:=[.tmp 2]) rfl (by decide) [] [] [] 300 (by kernel_rfl) ?_
 rintro ⟨t,_⟩ hw hp
 refine ⟨rfl,fun H hH=>?_⟩
 dsimp only [go_sem] at hw hp ⊢
 clear hw hp
 change Str at t
 refine ⟨fun h=>⟨fun _=>⟨by cases of_decide_eq_true h; rfl,trivial⟩,fun h'=>by rw [h] at h'; cases h'⟩,fun h0=>?_⟩
 refine ⟨fun h=>⟨fun _=>⟨by cases of_decide_eq_true h; rfl,trivial⟩,fun h'=>by rw [h] at h'; cases h'⟩,fun h1=>?_⟩
 refine ⟨fun h=>⟨fun _=>⟨by cases of_decide_eq_true h; rfl,trivial⟩,fun h'=>by rw [h] at h'; cases h'⟩,fun h2=>?_⟩
 refine ⟨fun h=>⟨fun _=>⟨by cases of_decide_eq_true h; rfl,trivial⟩,fun h'=>by rw [h] at h'; cases h'⟩,fun h3=>?_⟩
 refine ⟨fun h=>⟨fun _=>⟨by cases of_decide_eq_true h; rfl,trivial⟩,fun h'=>by rw [h] at h'; cases h'⟩,fun h4=>?_⟩
 refine ⟨fun h=>⟨fun _=>⟨by cases of_decide_eq_true h; rfl,trivial⟩,fun h'=>by rw [h] at h'; cases h'⟩,fun h5=>?_⟩
 refine ⟨fun h=>⟨fun _=>⟨by cases of_decide_eq_true h; rfl,trivial⟩,fun h'=>by rw [h] at h'; cases h'⟩,fun h6=>?_⟩
 refine ⟨fun h=>⟨fun _=>⟨by cases of_decide_eq_true h; rfl,trivial⟩,fun h'=>by rw [h] at h'; cases h'⟩,fun h7=>?_⟩
 refine ⟨fun h=>⟨fun _=>⟨by cases of_decide_eq_true h; rfl,trivial⟩,fun h'=>by rw [h] at h'; cases h'⟩,fun h8=>?_⟩
 refine ⟨fun h=>⟨fun _=>⟨by cases of_decide_eq_true h; rfl,trivial⟩,fun h'=>by rw [h] at h'; cases h'⟩,fun h9=>?_⟩
 refine ⟨fun h=>⟨fun _=>⟨by cases of_decide_eq_true h; rfl,trivial⟩,fun h'=>by rw [h] at h'; cases h'⟩,fun h10=>?_⟩
 refine ⟨fun h=>⟨fun _=>⟨by cases of_decide_eq_true h; rfl,trivial⟩,fun h'=>by rw [h] at h'; cases h'⟩,fun h11=>?_⟩
 refine ⟨fun h=>⟨fun _=>⟨by cases of_decide_eq_true h; rfl,trivial⟩,fun h'=>by rw [h] at h'; cases h'⟩,fun h12=>?_⟩
 refine ⟨fun h=>⟨fun _=>⟨by cases of_decide_eq_true h; rfl,trivial⟩,fun h'=>by rw [h] at h'; cases h'⟩,fun h13=>?_⟩
 refine ⟨fun h=>⟨fun _=>⟨by cases of_decide_eq_true h; rfl,trivial⟩,fun h'=>by rw [h] at h'; cases h'⟩,fun h14=>?_⟩
 refine ⟨fun h=>⟨fun _=>⟨by cases of_decide_eq_true h; rfl,trivial⟩,fun h'=>by rw [h] at h'; cases h'⟩,fun h15=>?_⟩
 refine ⟨fun h=>⟨fun _=>⟨by cases of_decide_eq_true h; rfl,trivial⟩,fun h'=>by rw [h] at h'; cases h'⟩,fun h16=>?_⟩
 refine ⟨fun h=>⟨fun _=>⟨by cases of_decide_eq_true h; rfl,trivial⟩,fun h'=>by rw [h] at h'; cases h'⟩,fun h17=>?_⟩
 refine ⟨fun h=>⟨fun _=>⟨by cases of_decide_eq_true h; rfl,trivial⟩,fun h'=>by rw [h] at h'; cases h'⟩,fun h18=>?_⟩
 refine ⟨fun h=>⟨fun _=>⟨by cases of_decide_eq_true h; rfl,trivial⟩,fun h'=>by rw [h] at h'; cases h'⟩,fun h19=>?_⟩
 refine ⟨fun h=>⟨fun _=>⟨by cases of_decide_eq_true h; rfl,trivial⟩,fun h'=>by rw [h] at h'; cases h'⟩,fun h20=>?_⟩
 refine ⟨fun h=>⟨fun _=>⟨by cases of_decide_eq_true h; rfl,trivial⟩,fun h'=>by rw [h] at h'; cases h'⟩,fun h21=>?_⟩
 refine ⟨fun h=>⟨fun _=>⟨by cases of_decide_eq_true h; rfl,trivial⟩,fun h'=>by rw [h] at h'; cases h'⟩,fun h22=>?_⟩
 refine ⟨fun h=>⟨by cases of_decide_eq_true h; rfl,trivial⟩,fun h23=>⟨?_,trivial⟩⟩
 unfold resv
 rw [if_neg (of_decide_eq_false h0),if_neg (of_decide_eq_false h1),if_neg (of_decide_eq_false h2),if_neg (of_decide_eq_false h3),if_neg (of_decide_eq_false h4),if_neg (of_decide_eq_false h5),if_neg (of_decide_eq_false h6),if_neg (of_decide_eq_false h7),if_neg (of_decide_eq_false h8),if_neg (of_decide_eq_false h9),if_neg (of_decide_eq_false h10),if_neg (of_decide_eq_false h11),if_neg (of_decide_eq_false h12),if_neg (of_decide_eq_false h13),if_neg (of_decide_eq_false h14),if_neg (of_decide_eq_false h15),if_neg (of_decide_eq_false h16),if_neg (of_decide_eq_false h17),if_neg (of_decide_eq_false h18),if_neg (of_decide_eq_false h19),if_neg (of_decide_eq_false h20),if_neg (of_decide_eq_false h21),if_neg (of_decide_eq_false h22),if_neg (of_decide_eq_false h23)]
def namP (s:PS):PS×Str:=(if resv (nexP s 1).2=true then bad (nexP s 1).1 else (nexP s 1).1,(nexP s 1).2)
@[go_sem] noncomputable def EJ4:Env:=(((EJ3).addM 85 isM).addM 74 nxM).add 75 resS
theorem EJ4_ok:EJ4.Ok:=(((EJ3_ok).addM isM_ok).addM nxM_ok).add res_ok
@[go_sem] def nmM:MSpec:=⟨[.b 95 psT],fun d=>⟨[(0,.box 95 (dA psT (namP d.1).1 .nil))],1,.dat .str (namP d.1).2,[psP d.1]⟩⟩
theorem nmM_ok:MSpecOk Tryz.prog 63 nmM:=by
 refine fnM_ok EJ4_ok nmM Tryz.func63 rfl (by decide) (N:=12) rfl (res:=[.tmp 2]) rfl (by decide) [(1,[(5,.ow)])] [] [] 100 (by kernel_rfl) ?_
 rintro ⟨s,_⟩ hw hp H hH
 dsimp only [go_sem] at hw hp ⊢
 obtain ⟨hp,-⟩:=hp
 refine ⟨hp,?_⟩
 unfold namP
 generalize nexP s 1=x
 refine ⟨fun h=>?_,fun h=>?_⟩<;>rw [h]
 ·and_intros<;>first|trivial|rfl
 ·and_intros<;>first|trivial|rfl
theorem namP_ad {s:PS} (h:psP s):Ad s (namP s).1:=by
 unfold namP
 have:=nexP_ad h 1
 dsimp only
 split
 ·exact this.trans (Ad.bad this.1)
 ·exact this
def par8 (t:Str):Val×Bool:=if t=[49] then ((1,1,[]),true) else if t=[50] then ((1,2,[]),true) else if t=[51] then ((1,3,[]),true) else ((0,0,[]),false)
@[go_sem] def p8S:Spec:=⟨[.str],fun d=>(.tup (.cons (.dat valT (par8 d.1).1) (.cons (.dat .bool (par8 d.1).2) .nil)),[d.1=[]∨numOk d.1])⟩
@[go_sem] noncomputable def EJ4n:Env:=(EJ4).add 90 rfmS
theorem EJ4n_ok:EJ4n.Ok:=(EJ4_ok).add rfm_ok
theorem p8_ok:SpecOk Tryz.prog 87 p8S:=by
 refine fn_ok EJ4n_ok p8S Tryz.func87 rfl (by decide) (N:=87) rfl (res:=[.cell 2 44,.tmp 3]) rfl (by decide) [] [] [3] 100 (by kernel_rfl) ?_
 rintro ⟨t,_⟩ hw hp
 refine ⟨rfl,fun H hH=>?_⟩
 dsimp only [go_sem] at hw hp ⊢
 obtain ⟨hp,-⟩:=hp
 change Str at t
 rcases hp with rfl|hp
 ·exact ⟨fun h=>h,fun h=>h,fun _=>⟨rfl,rfl,rfl,rfl,rfl,trivial⟩,fun h=>absurd h (by decide)⟩
 obtain ⟨d,rfl,hd⟩:∃ d:UInt8,t=[d]/\(d=49∨d=50∨d=51):=by
  rcases hp with h|h|h
  ·exact ⟨49,h,.inl rfl⟩
  ·exact ⟨50,h,.inr (.inl rfl)⟩
  ·exact ⟨51,h,.inr (.inr rfl)⟩
 refine ⟨fun h=>h,fun h=>h,fun e=>by simp at e,fun _=>?_⟩
 refine hH.go [] 100 _ _ ?_
 dsimp only [go_sem]
 have hpar:par8 [d]=((1,strAt [d] 0-48,[]),true):=by rcases hd with rfl|rfl|rfl<;>rfl
 have hform:(if strAt [d] 0-48=(1:Int) then [49] else if strAt [d] 0-48=(2:Int) then [50] else [51])=[d]:=by rcases hd with rfl|rfl|rfl<;>rfl
 have hc:49<=strAt [d] 0/\strAt [d] 0<=51:=by rcases hd with rfl|rfl|rfl<;>decide
 have hlen:([d]:Str).length=1:=rfl
 have b0:(0:Int)<=0/\(0:Int)<(([d]:Str).length:Int):=by rw [hlen]; decide
 refine ⟨b0,fun e=>?_,fun _=>?_⟩
 ·have e:strAt [d] 0=39:=of_decide_eq_true e
  omega
 refine HOk.loop (by assumption) (fun i:Nat=>⟨[(6,.dat (.int .i64) (i:Int)),(4,.ref 1 0),(2,.ref 0 0),(0,.dat .str [d])],[(1,.box 44 (.cons (.dat (.int .i64) (1:Int)) (.cons (.dat (.int .i64) (if i=0 then (0:Int) else 48-strAt [d] 0)) (.cons (.dat .str []) .nil)))),(0,.box 44 (zA valT .nil))],2⟩) (fun i=>i<=1) (fun i=>1-i) 0 2 (Nat.zero_le _) ?_ ?_
 ·dsimp only [go_sem]
  and_intros<;>first|trivial|rfl|omega
 ·rintro i hi R hm
  refine HOk.go (by assumption) [] 100 _ _ ?_
  dsimp only [go_sem]
  have hi2:i=0∨i=1:=by omega
  have hz:strAt [d] ((0:Nat):Int)=strAt [d] 0:=rfl
  rcases hi2 with rfl|rfl
  ·rw [if_pos (rfl:(0:Nat)=0)]
   simp only [hz]
   generalize strAt [d] 0=c at hpar hform hc hm ⊢
   refine ⟨fun _=>⟨b0,fun h=>h,fun h=>h,fun _=>b0,fun h=>h,fun h=>h,fun _=>⟨by rw [inR_i64]; omega,b0,?_,by rw [inR_i64]; omega,by rw [inR_i64]; omega,by rw [inR_i64]; omega,hm _ 1 2 (by omega) (by omega) ?_⟩,fun e=>?_⟩,fun e=>?_⟩
   ·exact ⟨by show (0:Int)<=_; omega,by show _<=(255:Int); omega⟩
   ·dsimp only [go_sem]
    have hq:(10*0-(c-48):Int)=48-c:=by omega
    rw [if_neg (by decide)]
    and_intros<;>first|trivial|rfl|exact hq|omega
   ·rw [decide_eq_true (show 48<=c by omega),decide_eq_true (show c<=57 by omega)] at e
    cases e
   ·rw [hlen] at e; cases e
  ·rw [if_neg (by decide:¬(1:Nat)=0)]
   generalize strAt [d] 0=c at hpar hform hc hm ⊢
   have hn:-(48-c)=c-48:=by omega
   have h3:c-48=1∨c-48=2∨c-48=(3:Int):=by omega
   rw [hn,hpar,hform]
   refine ⟨fun e=>?_,fun _=>⟨b0,fun h=>h,fun h=>h,fun h=>h,fun _=>⟨by rw [inR_i64]; omega,⟨rfl,rfl,h3⟩,fun e=>?_,fun _=>?_⟩,fun e=>?_⟩⟩
   ·rw [hlen] at e; cases e
   ·simp at e
   ·and_intros<;>first|trivial|rfl
   ·simp at e; omega
theorem tk_mem {s:PS} (h:psP s) (hl:s.2.1<(s.1.length:Int)):tk s∈s.1:=by
 obtain ⟨⟨h0,h1⟩,h2,h3⟩:=h
 exact getDm _ (by omega)
theorem isP3 {s:PS} (h:psP s):isP s 3=false:=by
 cases e:isP s 3 with
 | false=>rfl
 | true =>
  unfold isP at e
  simp only [Bool.and_eq_true,decide_eq_true_eq] at e
  exact absurd e.2 (h.2.2 _ (tk_mem h e.1.2)).1
theorem nex2 {s:PS} (h:psP s):(nexP s 2).2=[]∨numOk (nexP s 2).2:=by
 unfold nexP
 split
 ·exact .inl rfl
 ·rename_i e
  unfold nxB at e
  simp only [Bool.or_eq_true,decide_eq_true_eq,not_or,Decidable.not_not] at e
  exact .inr ((h.2.2 _ (tk_mem h (by have:=e.1.2; omega))).2 e.2)
def intP (s:PS):PS×Int:=(if (par8 (nexP s 2).2).2=true then (nexP s 2).1 else bad (nexP s 2).1,(par8 (nexP s 2).2).1.2.1)
theorem intP_ad {s:PS} (h:psP s):Ad s (intP s).1:=by
 unfold intP
 have:=nexP_ad h 2
 dsimp only
 split
 ·exact this
 ·exact this.trans (Ad.bad this.1)
@[go_sem] noncomputable def EJ5:Env:=((EJ4).addM 63 nmM).add 87 p8S
theorem EJ5_ok:EJ5.Ok:=((EJ4_ok).addM nmM_ok).add p8_ok
@[go_sem] def itM:MSpec:=⟨[.b 95 psT],fun d=>⟨[(0,.box 95 (dA psT (intP d.1).1 .nil))],1,.dat (.int .i64) (intP d.1).2,[psP d.1]⟩⟩
theorem itM_ok:MSpecOk Tryz.prog 89 itM:=by
 refine fnM_ok EJ5_ok itM Tryz.func89 rfl (by decide) (N:=18) rfl (res:=[.tmp 2]) rfl (by decide) [(1,[(7,.ow)])] [] [] 100 (by kernel_rfl) ?_
 rintro ⟨s,_⟩ hw hp H hH
 dsimp only [go_sem] at hw hp ⊢
 obtain ⟨hp,-⟩:=hp
 refine ⟨hp,nex2 hp,?_⟩
 unfold intP
 generalize nexP s 2=x
 refine ⟨fun h=>?_,fun h=>?_⟩
 ·have h:(par8 x.2).2=false:=by simpa using h
  rw [h]
  and_intros<;>first|trivial|rfl
 ·have h:(par8 x.2).2=true:=by simpa using h
  rw [h]
  and_intros<;>first|trivial|rfl
@[go_sem] def vnS:Spec:=⟨[.int .i64],fun d=>(.dat valT (1,d.1,[]),[])⟩
theorem vn_ok:SpecOk Tryz.prog 88 vnS:=by
 refine fn_ok EJ5_ok vnS Tryz.func88 rfl (by decide) (N:=5) rfl (res:=[.cell 2 44]) rfl (by decide) [] [] [] 100 (by kernel_rfl) ?_
 rintro ⟨(n:Int),_⟩ hw hp
 refine ⟨rfl,fun H hH=>?_⟩
 dsimp only [go_sem] at hw hp ⊢
 and_intros<;>first|trivial|rfl
def conP (s:PS):PS×Val:=((intP s).1,(1,(intP s).2,[]))
@[go_sem] noncomputable def EJ6:Env:=((EJ5).addM 89 itM).add 88 vnS
theorem EJ6_ok:EJ6.Ok:=((EJ5_ok).addM itM_ok).add vn_ok
@[go_sem] def cnsM:MSpec:=⟨[.b 95 psT],fun d=>⟨[(0,.box 95 (dA psT (conP d.1).1 .nil))],1,.dat valT (conP d.1).2,[psP d.1]⟩⟩
theorem cnsM_ok:MSpecOk Tryz.prog 86 cnsM:=by
 refine fnM_ok EJ6_ok cnsM Tryz.func86 rfl (by decide) (N:=22) rfl (res:=[.cell 2 44]) rfl (by decide) [(1,[(6,.ow)]),(6,[(20,.ow)])] [] [2] 100 (by kernel_rfl) ?_
 rintro ⟨s,_⟩ hw hp H hH
 dsimp only [go_sem] at hw hp ⊢
 obtain ⟨hp,-⟩:=hp
 refine ⟨hp,fun h=>?_,fun h=>?_⟩
 ·rw [isP3 hp] at h; cases h
 ·refine ⟨hp,?_⟩
  and_intros<;>first|trivial|rfl
def terP (s:PS):PS×Term:=if isP s 1=true then ((namP s).1,((namP s).2,0,0,[])) else ((conP s).1,([],(conP s).2))
theorem terP_ad {s:PS} (h:psP s):Ad s (terP s).1:=by
 unfold terP
 split
 ·exact namP_ad h
 ·exact intP_ad h
@[go_sem] noncomputable def EJ7:Env:=(EJ6).addM 86 cnsM
theorem EJ7_ok:EJ7.Ok:=(EJ6_ok).addM cnsM_ok
@[go_sem] def trmM:MSpec:=⟨[.b 95 psT],fun d=>⟨[(0,.box 95 (dA psT (terP d.1).1 .nil))],1,.dat termT (terP d.1).2,[psP d.1]⟩⟩
theorem trmM_ok:MSpecOk Tryz.prog 82 trmM:=by
 refine fnM_ok EJ7_ok trmM Tryz.func82 rfl (by decide) (N:=11) rfl (res:=[.cell 2 46]) rfl (by decide) [(1,[(4,.ow)]),(2,[(6,.ow)]),(3,[(9,.ow)])] [] [] 100 (by kernel_rfl) ?_
 rintro ⟨s,_⟩ hw hp H hH
 dsimp only [go_sem] at hw hp ⊢
 obtain ⟨hp,-⟩:=hp
 refine ⟨hp,fun h=>⟨hp,?_⟩,fun h=>⟨hp,?_⟩⟩
 ·unfold terP
  rw [if_pos h]
  and_intros<;>first|trivial|rfl
 ·unfold terP
  rw [if_neg (by rw [h]; decide)]
  and_intros<;>first|trivial|rfl
end Go.Proofs.YtdobkkhncfifeabGreat.Gx
namespace Go.Proofs.YtdobkkhncfifeabGreat.Gx
open Go Go.RowKit Tw B Nt
set_option linter.unusedVariables false
set_option linter.unusedSimpArgs false
set_option maxHeartbeats 4000000
set_option maxRecDepth 20000
def opP (s:PS):PS×Int :=
 if (nexP s 4).2=[61] then ((nexP s 4).1,1) else if (nexP s 4).2=[33,61] then ((nexP s 4).1,2)
 else if (nexP s 4).2=[60] then ((nexP s 4).1,3) else if (nexP s 4).2=[60,61] then ((nexP s 4).1,4) else (bad (nexP s 4).1,0)
theorem opP_ad {s:PS} (h:psP s):Ad s (opP s).1:=by
 have h1:=nexP_ad h 4
 unfold opP
 repeat' split
 all_goals first|exact h1|exact h1.trans (Ad.bad h1.1)
@[go_sem] noncomputable def EJ8:Env:=(EJ7).addM 82 trmM
theorem EJ8_ok:EJ8.Ok:=(EJ7_ok).addM trmM_ok
@[go_sem] def opM:MSpec:=⟨[.b 95 psT],fun d=>⟨[(0,.box 95 (dA psT (opP d.1).1 .nil))],1,.dat (.int .i64) (opP d.1).2,[psP d.1]⟩⟩
theorem opM_ok:MSpecOk Tryz.prog 83 opM:=by
 refine fnM_ok EJ8_ok opM Tryz.func83 rfl (by decide) (N:=16) rfl (res:=[.tmp 2]) rfl (by decide) [(1,[(4,.ow)])] [] [] 100 (by kernel_rfl) ?_
 rintro ⟨s,_⟩ hw hp H hH
 dsimp only [go_sem] at hw hp ⊢
 obtain ⟨hp,-⟩:=hp
 refine ⟨hp,?_⟩
 unfold opP
 generalize nexP s 4=x
 refine ⟨fun h=>?_,fun h1=>⟨fun h=>?_,fun h2=>⟨fun h=>?_,fun h3=>⟨fun h=>?_,fun h4=>?_⟩⟩⟩⟩
 ·rw [if_pos (of_decide_eq_true h)]
  and_intros<;>first|trivial|rfl
 ·rw [if_neg (of_decide_eq_false h1),if_pos (of_decide_eq_true h)]
  and_intros<;>first|trivial|rfl
 ·rw [if_neg (of_decide_eq_false h1),if_neg (of_decide_eq_false h2),if_pos (of_decide_eq_true h)]
  and_intros<;>first|trivial|rfl
 ·rw [if_neg (of_decide_eq_false h1),if_neg (of_decide_eq_false h2),if_neg (of_decide_eq_false h3),if_pos (of_decide_eq_true h)]
  and_intros<;>first|trivial|rfl
 ·rw [if_neg (of_decide_eq_false h1),if_neg (of_decide_eq_false h2),if_neg (of_decide_eq_false h3),if_neg (of_decide_eq_false h4)]
  and_intros<;>first|trivial|rfl
def terF:Nat->PS->List Term->PS×List Term
 | 0,s,acc=>(s,acc)
 | n+1,s,acc=>if (takP s [44]).2=true then terF n (terP (takP s [44]).1).1 (acc++[(terP (takP s [44]).1).2]) else ((takP s [44]).1,acc)
theorem terF_ad:∀ (n:Nat) {s:PS} (acc:List Term),psP s->Ad s (terF n s acc).1
 | 0,s,_,h=>Ad.refl h
 | n+1,s,acc,h=>by
  unfold terF
  have h1:=(takP_ad h [44]).1
  split
  ·have h2:=terP_ad h1.1
   exact (h1.trans h2).trans (terF_ad n _ h2.1)
  ·exact h1
def atoP (s:PS) (r:Str) (ng:Bool):PS×Atom :=
 if (takP (wanP s [40]) [41]).2=true then ((takP (wanP s [40]) [41]).1,(r,ng,[]))
 else (wanP (terF 20001 (terP (takP (wanP s [40]) [41]).1).1 [(terP (takP (wanP s [40]) [41]).1).2]).1 [41],(r,ng,(terF 20001 (terP (takP (wanP s [40]) [41]).1).1 [(terP (takP (wanP s [40]) [41]).1).2]).2))
theorem atoP_ad {s:PS} (h:psP s) (r:Str) (ng:Bool):Ad s (atoP s r ng).1:=by
 have h1:=wanP_ad h [40]
 have h2:=(takP_ad h1.1 [41]).1
 have h3:=terP_ad h2.1
 have h4:=terF_ad 20001 [(terP (takP (wanP s [40]) [41]).1).2] h3.1
 unfold atoP
 split
 ·exact h1.trans h2
 ·exact (((h1.trans h2).trans h3).trans h4).trans (wanP_ad h4.1 _)
@[go_sem] noncomputable def EJ9:Env:=(EJ8).addM 83 opM
theorem EJ9_ok:EJ9.Ok:=(EJ8_ok).addM opM_ok
@[go_sem] def atoM:MSpec:=⟨[.b 95 psT,.d .str,.d .bool],fun d=>⟨[(0,.box 95 (dA psT (atoP d.1 d.2.1 d.2.2.1).1 .nil))],1,.dat atomT (atoP d.1 d.2.1 d.2.2.1).2,[psP d.1]⟩⟩
theorem atoM_ok:MSpecOk Tryz.prog 81 atoM:=by
 refine fnM_ok EJ9_ok atoM Tryz.func81 rfl (by decide) (N:=35) rfl (res:=[.cell 6 42]) rfl (by decide) [(1,[(10,.ag)]),(2,[(12,.ow)]),(3,[(14,.ow)]),(5,[(19,.ow),(20,.dt),(1000000,.mx [(0,1000000),(1,4000000),(5000000,0)])]),(6,[(24,.ow)]),(7,[(28,.ow),(29,.dt),(1000000,.mx [(0,1000000),(1,4000000),(5000000,0)])]),(8,[(33,.ow)])] [(9,[3])] [] 100 (by kernel_rfl) ?_
 rintro ⟨s,r,ng,_⟩ hw hp H hH
 dsimp only [go_sem] at hw hp ⊢
 obtain ⟨hp,-⟩:=hp
 have h1:=wanP_ad hp [40]
 have h2:=(takP_ad h1.1 [41]).1
 have h3:=terP_ad h2.1
 refine ⟨hp,h1.1,fun h=>?_,fun h=>?_⟩
 ·unfold atoP
  rw [if_pos h]
  and_intros<;>first|trivial|rfl
 ·refine ⟨h2.1,by show 1*48<=140737488355328; decide,?_⟩
  have hz:atoP s r ng=(wanP (terF 20001 (terP (takP (wanP s [40]) [41]).1).1 [(terP (takP (wanP s [40]) [41]).1).2]).1 [41],(r,ng,(terF 20001 (terP (takP (wanP s [40]) [41]).1).1 [(terP (takP (wanP s [40]) [41]).1).2]).2)):=by
   unfold atoP; rw [if_neg (by rw [h]; decide)]
  have hln:(takP (wanP s [40]) [41]).1.1.length<=20000:=h2.1.2.1
  have hat0:=h3.1.1.1
  have hln3:=h3.1.2.1
  generalize (terP (takP (wanP s [40]) [41]).1).2=t0 at hz ⊢
  generalize (terP (takP (wanP s [40]) [41]).1).1=s3 at hz h3 hat0 hln3 ⊢
  refine hH.loop (fun x:Nat×PS×List Term=>⟨[(0,.ref 0 0),(7,.ref 2 0),(6,.ref 1 0)],[(0,.box 95 (dA psT x.2.1 .nil)),(1,.box 42 (zA atomT .nil)),(2,.box 42 (.cons (.dat .str r) (.cons (.dat .bool ng) (.cons (.own 3) .nil)))),(3,.row 46 termT x.2.2)],4⟩) (fun x=>psP x.2.1/\((x.2.1.1.length:Int)-x.2.1.2.1).toNat<x.1/\x.2.2.length+x.1<=20002/\terF x.1 x.2.1 x.2.2=terF 20001 s3 [t0]) (fun x=>((x.2.1.1.length:Int)-x.2.1.2.1).toNat) (20001,s3,[t0]) 4 ⟨h3.1,by dsimp only; omega,Nat.le_refl _,rfl⟩ ?_ ?_
  ·dsimp only [go_sem]
   and_intros<;>first|trivial|rfl|omega
  ·rintro ⟨n,q,acc⟩ ⟨g1,g2,g3,g4⟩ R hm
   dsimp only at g1 g2 g3 g4
   obtain ⟨n,rfl⟩:∃ m,n=m+1:=⟨n-1,by omega⟩
   have g5:=takP_ad g1 [44]
   have g6:=terP_ad g5.1.1
   refine hH.run 100 _ _ ?_
   dsimp only [go_sem]
   refine ⟨g1,fun e=>?_,fun e=>?_⟩
   ·have hl:∀ t:Term,(acc.length+([t]:List Term).length)*48<=140737488355328:=fun t=>by rw [List.length_singleton]; omega
    have h7:q.2.1+1<=(terP (takP q [44]).1).1.2.1:=Int.le_trans (g5.2 e) g6.2.2
    have h8:(terP (takP q [44]).1).1.1.length=q.1.length:=by rw [g6.2.1,g5.1.2.1]
    have h9:=g6.1.1.2
    rw [terF,if_pos e] at g4
    generalize terP (takP q [44]).1=y at g4 g6 h7 h8 h9 ⊢
    refine ⟨g5.1.1,hl _,rfl,hH.ren [(0,0),(1,1),(2,2),(3,4)] 4 rfl rfl (Nat.le_of_ble_eq_true rfl) rfl ?_⟩
    dsimp only [go_sem]
    refine hm _ (n,y.1,acc++[y.2]) 4 ⟨g6.1,by dsimp only; omega,by dsimp only; rw [List.length_append,List.length_singleton]; omega,g4⟩ (by dsimp only; omega) ?_
    dsimp only [go_sem]
    and_intros<;>first|trivial|rfl|omega
   ·rw [terF,if_neg (by rw [e]; decide)] at g4
    rw [hz,<-g4]
    refine ⟨g5.1.1,?_⟩
    and_intros<;>first|trivial|rfl
def cqF:Nat->PS->Bool->Cq->PS×Cq
 | 0,s,_,c=>(s,c)
 | n+1,s,m,c =>
  if (m&&!s.2.2)=true then
   if (takP s [110,111,116]).2=true then
    cqF n (takP (atoP (namP (takP s [110,111,116]).1).1 (namP (takP s [110,111,116]).1).2 true).1 [44]).1 (takP (atoP (namP (takP s [110,111,116]).1).1 (namP (takP s [110,111,116]).1).2 true).1 [44]).2 (c.1++[(atoP (namP (takP s [110,111,116]).1).1 (namP (takP s [110,111,116]).1).2 true).2],c.2)
   else if (decide ((terP (takP s [110,111,116]).1).2.1≠[])&&peekP (terP (takP s [110,111,116]).1).1 [40])=true then
    cqF n (takP (atoP (terP (takP s [110,111,116]).1).1 (terP (takP s [110,111,116]).1).2.1 false).1 [44]).1 (takP (atoP (terP (takP s [110,111,116]).1).1 (terP (takP s [110,111,116]).1).2.1 false).1 [44]).2 (c.1++[(atoP (terP (takP s [110,111,116]).1).1 (terP (takP s [110,111,116]).1).2.1 false).2],c.2)
   else
    cqF n (takP (terP (opP (terP (takP s [110,111,116]).1).1).1).1 [44]).1 (takP (terP (opP (terP (takP s [110,111,116]).1).1).1).1 [44]).2 (c.1,c.2++[((opP (terP (takP s [110,111,116]).1).1).2,(terP (takP s [110,111,116]).1).2,(terP (opP (terP (takP s [110,111,116]).1).1).1).2)])
  else (s,c)
def cqK:Nat->PS->Bool->Bool
 | 0,_,_=>true
 | n+1,s,m =>
  if (m&&!s.2.2)=true then
   if (takP s [110,111,116]).2=true then
    cqK n (takP (atoP (namP (takP s [110,111,116]).1).1 (namP (takP s [110,111,116]).1).2 true).1 [44]).1 (takP (atoP (namP (takP s [110,111,116]).1).1 (namP (takP s [110,111,116]).1).2 true).1 [44]).2
   else decide ((terP (takP s [110,111,116]).1).2.1≠[])&&if peekP (terP (takP s [110,111,116]).1).1 [40]=true then
    cqK n (takP (atoP (terP (takP s [110,111,116]).1).1 (terP (takP s [110,111,116]).1).2.1 false).1 [44]).1 (takP (atoP (terP (takP s [110,111,116]).1).1 (terP (takP s [110,111,116]).1).2.1 false).1 [44]).2
   else
    cqK n (takP (terP (opP (terP (takP s [110,111,116]).1).1).1).1 [44]).1 (takP (terP (opP (terP (takP s [110,111,116]).1).1).1).1 [44]).2
  else true
def cqP' (s:PS):PS×Cq :=
 if (takP s [116,114,117,101]).2=true then ((takP s [116,114,117,101]).1,([],[]))
 else cqF 50000 (takP s [116,114,117,101]).1 true ([],[])
theorem cqF_ad:∀ (n:Nat) {s:PS} (m:Bool) (c:Cq),psP s->Ad s (cqF n s m c).1
 | 0,s,_,_,h=>Ad.refl h
 | n+1,s,m,c,h=>by
  unfold cqF
  split
  ·have h1:=(takP_ad h [110,111,116]).1
   split
   ·have h2:=namP_ad h1.1
    have h3:=atoP_ad h2.1 (namP (takP s [110,111,116]).1).2 true
    have h4:=(takP_ad h3.1 [44]).1
    exact (((h1.trans h2).trans h3).trans h4).trans (cqF_ad n _ _ h4.1)
   ·have h2:=terP_ad h1.1
    split
    ·have h3:=atoP_ad h2.1 (terP (takP s [110,111,116]).1).2.1 false
     have h4:=(takP_ad h3.1 [44]).1
     exact (((h1.trans h2).trans h3).trans h4).trans (cqF_ad n _ _ h4.1)
    ·have h3:=opP_ad h2.1
     have h4:=terP_ad h3.1
     have h5:=(takP_ad h4.1 [44]).1
     exact ((((h1.trans h2).trans h3).trans h4).trans h5).trans (cqF_ad n _ _ h5.1)
  ·exact Ad.refl h
theorem cqP'_ad {s:PS} (h:psP s):Ad s (cqP' s).1:=by
 unfold cqP'
 have h1:=(takP_ad h [116,114,117,101]).1
 split
 ·exact h1
 ·exact h1.trans (cqF_ad _ _ _ h1.1)
@[go_sem] noncomputable def EJA:Env:=(EJ9).addM 81 atoM
theorem EJA_ok:EJA.Ok:=(EJ9_ok).addM atoM_ok
@[go_sem] def cqM:MSpec:=⟨[.b 95 psT],fun d=>⟨[(0,.box 95 (dA psT (cqP' d.1).1 .nil))],1,(.dat cqT (cqP' d.1).2),[psP d.1,cqK 50000 (takP d.1 [116,114,117,101]).1 true=true]⟩⟩
theorem cqM_ok:MSpecOk Tryz.prog 76 cqM:=by
 refine fnM_ok EJA_ok cqM Tryz.func76 rfl (by decide) (N:=65) rfl (res:=[.cell 2 29]) rfl (by decide) [(1,[(7,.ag)]),(2,[(9,.ow)]),(7,[(22,.ow)]),(8,[(27,.ow),(28,.ow),(29,.dt),(1000000,.mx [(0,1000000),(1,4000000),(2,1000000),(5000000,0)])]),(9,[(33,.ow)]),(10,[(37,.tr true),(39,.ow)]),(11,[(46,.ow),(47,.dt),(1000000,.mx [(0,1000000),(1,4000000),(5000000,0)])]),(13,[(53,.ow)]),(14,[(56,.ow)]),(15,[(61,.dt)]),(6,[(20,.ow)])] [(16,[3,4])] [] 100 (by kernel_rfl) ?_
 rintro ⟨s,_⟩ hw hp H hH
 dsimp only [go_sem] at hw hp ⊢
 obtain ⟨hp,hkk,-⟩:=hp
 have h1:=takP_ad hp [116,114,117,101]
 refine ⟨hp,fun h=>?_,fun h=>?_⟩
 ·unfold cqP'
  rw [if_pos h]
  and_intros<;>first|trivial|rfl
 ·have hz:cqP' s=cqF 50000 (takP s [116,114,117,101]).1 true ([],[]):=by
    unfold cqP'; rw [if_neg (by rw [h]; decide)]
  have hln:(takP s [116,114,117,101]).1.1.length<=20000:=h1.1.1.2.1
  have hat0:=h1.1.1.1
  replace h1:=h1.1.1
  generalize (takP s [116,114,117,101]).1=s0 at hz h1 hln hat0 hkk ⊢
  refine hH.loop (fun x:Nat×PS×Bool×Cq=>⟨[(4,.dat .bool x.2.2.1),(0,.ref 0 0),(3,.ref 2 0),(2,.ref 1 0)],[(0,.box 95 (dA psT x.2.1 .nil)),(1,.box 29 (zA cqT .nil)),(2,.box 29 (.cons (.own 3) (.cons (.own 4) .nil))),(3,.row 42 atomT x.2.2.2.1),(4,.row 48 cmpT x.2.2.2.2)],5⟩) (fun x=>psP x.2.1/\2*((x.2.1.1.length:Int)-x.2.1.2.1).toNat+(if x.2.2.1=true then 1 else 0)<x.1/\x.2.2.2.1.length+x.1<=50000/\x.2.2.2.2.length+x.1<=50000/\cqK x.1 x.2.1 x.2.2.1=true/\cqF x.1 x.2.1 x.2.2.1 x.2.2.2=cqF 50000 s0 true ([],[])) (fun x=>2*((x.2.1.1.length:Int)-x.2.1.2.1).toNat+(if x.2.2.1=true then 1 else 0)) (50000,s0,true,([],[])) 3 ⟨h1,by dsimp only; rw [if_pos rfl]; omega,Nat.le_refl _,Nat.le_refl _,hkk,rfl⟩ ?_ ?_
  ·dsimp only [go_sem]
   and_intros<;>first|trivial|rfl|omega
  ·rintro ⟨n,q,m,c⟩ ⟨g1,g2,g3,g4,g5,g6⟩ R hm
   dsimp only at g1 g2 g3 g4 g5 g6
   obtain ⟨ca,cc⟩:=c
   change List Atom at ca
   change List Cmp at cc
   dsimp only at g3 g4
   obtain ⟨n,rfl⟩:∃ k,n=k+1:=⟨n-1,by omega⟩
   refine hH.run 200 _ _ ?_
   dsimp only [go_sem]
   simp only [imp_self,imp2,true_and,and_true]
   have meas:∀ K:PS×Bool,Ad q K.1->(K.2=true->q.2.1+1<=K.1.2.1)->2*((K.1.1.length:Int)-K.1.2.1).toNat+(if K.2=true then 1 else 0)<2*((q.1.length:Int)-q.2.1).toNat+1:=by
    intro K h1 h2
    have h3:K.1.1.length=q.1.length:=by rw [h1.2.1]
    have h4:=h1.2.2
    have h5:=h1.1.1.2
    split
    ·rename_i e
     have:=h2 e
     omega
    ·omega
   have gT:=(takP_ad g1 [110,111,116]).1
   refine ⟨fun e=>?_,fun e=>?_⟩
   ·have em:m=true:=(Bool.and_eq_true_iff.1 e).1
    rw [cqF,if_pos e] at g6
    rw [cqK,if_pos e] at g5
    rw [if_pos em] at g2
    refine ⟨g1,fun e1=>?_,fun e1=>?_⟩
    ·rw [if_pos e1] at g5 g6
     have gN:=namP_ad gT.1
     have gA:=atoP_ad gN.1 (namP (takP q [110,111,116]).1).2 true
     have gK:=takP_ad gA.1 [44]
     have hk:Ad q (takP (atoP (namP (takP q [110,111,116]).1).1 (namP (takP q [110,111,116]).1).2 true).1 [44]).1/\((takP (atoP (namP (takP q [110,111,116]).1).1 (namP (takP q [110,111,116]).1).2 true).1 [44]).2=true->q.2.1+1<=(takP (atoP (namP (takP q [110,111,116]).1).1 (namP (takP q [110,111,116]).1).2 true).1 [44]).1.2.1):=⟨((gT.trans gN).trans gA).trans gK.1,fun h=>Int.le_trans (by have:=((gT.trans gN).trans gA).2.2; omega) (gK.2 h)⟩
     have hl:∀ a:Atom,(ca.length+([a]:List Atom).length)*48<=140737488355328:=fun a=>by rw [List.length_singleton]; omega
     refine ⟨gT.1,gN.1,hl _,gA.1,hH.ren [(0,0),(1,1),(2,2),(3,5),(4,4)] 5 rfl rfl (Nat.le_of_ble_eq_true rfl) rfl ?_⟩
     dsimp only [go_sem]
     refine hm _ (n,(takP (atoP (namP (takP q [110,111,116]).1).1 (namP (takP q [110,111,116]).1).2 true).1 [44]).1,(takP (atoP (namP (takP q [110,111,116]).1).1 (namP (takP q [110,111,116]).1).2 true).1 [44]).2,(ca++[(atoP (namP (takP q [110,111,116]).1).1 (namP (takP q [110,111,116]).1).2 true).2],cc)) 5 ⟨?_,?_,?_,?_,g5,g6⟩ ?_ ?_
     ·exact hk.1.1
     ·have:=meas _ hk.1 hk.2; dsimp only; omega
     ·dsimp only; rw [List.length_append,List.length_singleton]; omega
     ·dsimp only; omega
     ·have:=meas _ hk.1 hk.2; dsimp only; rw [if_pos em]; exact this
     ·dsimp only [go_sem]
      and_intros<;>first|trivial|rfl|omega
    ·rw [if_neg (by rw [e1]; decide)] at g5 g6
     simp only [Bool.and_eq_true] at g5
     obtain ⟨g7,g5⟩:=g5
     have gN:=terP_ad gT.1
     refine ⟨gT.1,g7,gN.1,fun e2=>?_,fun e2=>?_⟩
     ·rw [if_pos e2] at g5
      have ec:(decide ((terP (takP q [110,111,116]).1).2.1≠[])&&peekP (terP (takP q [110,111,116]).1).1 [40])=true:=by rw [g7,e2]; rfl
      rw [if_pos ec] at g6
      have gA:=atoP_ad gN.1 (terP (takP q [110,111,116]).1).2.1 false
      have gK:=takP_ad gA.1 [44]
      have hk:Ad q (takP (atoP (terP (takP q [110,111,116]).1).1 (terP (takP q [110,111,116]).1).2.1 false).1 [44]).1/\((takP (atoP (terP (takP q [110,111,116]).1).1 (terP (takP q [110,111,116]).1).2.1 false).1 [44]).2=true->q.2.1+1<=(takP (atoP (terP (takP q [110,111,116]).1).1 (terP (takP q [110,111,116]).1).2.1 false).1 [44]).1.2.1):=⟨((gT.trans gN).trans gA).trans gK.1,fun h=>Int.le_trans (by have:=((gT.trans gN).trans gA).2.2; omega) (gK.2 h)⟩
      have hl:∀ a:Atom,(ca.length+([a]:List Atom).length)*48<=140737488355328:=fun a=>by rw [List.length_singleton]; omega
      refine ⟨gN.1,hl _,gA.1,hH.ren [(0,0),(1,1),(2,2),(3,6),(4,4)] 5 rfl rfl (Nat.le_of_ble_eq_true rfl) rfl ?_⟩
      dsimp only [go_sem]
      refine hm _ (n,(takP (atoP (terP (takP q [110,111,116]).1).1 (terP (takP q [110,111,116]).1).2.1 false).1 [44]).1,(takP (atoP (terP (takP q [110,111,116]).1).1 (terP (takP q [110,111,116]).1).2.1 false).1 [44]).2,(ca++[(atoP (terP (takP q [110,111,116]).1).1 (terP (takP q [110,111,116]).1).2.1 false).2],cc)) 5 ⟨?_,?_,?_,?_,g5,g6⟩ ?_ ?_
      ·exact hk.1.1
      ·have:=meas _ hk.1 hk.2; dsimp only; omega
      ·dsimp only; rw [List.length_append,List.length_singleton]; omega
      ·dsimp only; omega
      ·have:=meas _ hk.1 hk.2; dsimp only; rw [if_pos em]; exact this
      ·dsimp only [go_sem]
       and_intros<;>first|trivial|rfl|omega
     ·rw [if_neg (by rw [e2]; decide)] at g5
      have ec:¬(decide ((terP (takP q [110,111,116]).1).2.1≠[])&&peekP (terP (takP q [110,111,116]).1).1 [40])=true:=by rw [g7,e2]; decide
      rw [if_neg ec] at g6
      have gO:=opP_ad gN.1
      have gA:=terP_ad gO.1
      have gK:=takP_ad gA.1 [44]
      have hk:Ad q (takP (terP (opP (terP (takP q [110,111,116]).1).1).1).1 [44]).1/\((takP (terP (opP (terP (takP q [110,111,116]).1).1).1).1 [44]).2=true->q.2.1+1<=(takP (terP (opP (terP (takP q [110,111,116]).1).1).1).1 [44]).1.2.1):=⟨(((gT.trans gN).trans gO).trans gA).trans gK.1,fun h=>Int.le_trans (by have:=(((gT.trans gN).trans gO).trans gA).2.2; omega) (gK.2 h)⟩
      have hl:∀ a:Cmp,(cc.length+([a]:List Cmp).length)*104<=140737488355328:=fun a=>by rw [List.length_singleton]; omega
      refine ⟨gN.1,gO.1,hl _,gA.1,hH.ren [(0,0),(1,1),(2,2),(3,3),(4,4)] 5 rfl rfl (Nat.le_of_ble_eq_true rfl) rfl ?_⟩
      dsimp only [go_sem]
      refine hm _ (n,(takP (terP (opP (terP (takP q [110,111,116]).1).1).1).1 [44]).1,(takP (terP (opP (terP (takP q [110,111,116]).1).1).1).1 [44]).2,(ca,cc++[((opP (terP (takP q [110,111,116]).1).1).2,(terP (takP q [110,111,116]).1).2,(terP (opP (terP (takP q [110,111,116]).1).1).1).2)])) 5 ⟨?_,?_,?_,?_,g5,g6⟩ ?_ ?_
      ·exact hk.1.1
      ·have:=meas _ hk.1 hk.2; dsimp only; omega
      ·dsimp only; omega
      ·dsimp only; rw [List.length_append,List.length_singleton]; omega
      ·have:=meas _ hk.1 hk.2; dsimp only; rw [if_pos em]; exact this
      ·dsimp only [go_sem]
       and_intros<;>first|trivial|rfl|omega
   ·rw [cqF,if_neg (by rw [e]; decide)] at g6
    rw [hz,<-g6]
    and_intros<;>first|trivial|rfl|omega
end Go.Proofs.YtdobkkhncfifeabGreat.Gx
namespace Go.Proofs.YtdobkkhncfifeabGreat.Gx
open Go Go.RowKit Tw B Nt
set_option linter.unusedVariables false
set_option linter.unusedSimpArgs false
set_option maxHeartbeats 4000000
set_option maxRecDepth 20000
def unK (s:PS):Prop:=cqK 50000 (takP s [116,114,117,101]).1 true=true/\(takP (cqP' s).1 [111,114]).2=false
@[go_sem] noncomputable def EJB:Env:=(EJA).addM 76 cqM
theorem EJB_ok:EJB.Ok:=(EJA_ok).addM cqM_ok
@[go_sem] def unM:MSpec:=⟨[.b 95 psT],fun d=>⟨[(0,.box 95 (dA psT (cqP' d.1).1 .nil))],1,(.dat (.slice cqT) [(cqP' d.1).2]),[psP d.1,unK d.1]⟩⟩
theorem unM_ok:MSpecOk Tryz.prog 64 unM:=by
 refine fnM_ok EJB_ok unM Tryz.func64 rfl (by decide) (N:=15) rfl (res:=[.tmp 2]) rfl (by decide) [(1,[(5,.ow)]),(2,[(8,.ow)]),(3,[(11,.ow),(12,.dt)])] [(4,[1])] [] 100 (by kernel_rfl) ?_
 rintro ⟨s,_⟩ hw hp H hH
 dsimp only [go_sem] at hw hp ⊢
 obtain ⟨hp,⟨hk1,hk2⟩,-⟩:=hp
 have h1:=cqP'_ad hp
 have ht:(takP (cqP' s).1 [111,114]).1=(cqP' s).1:=by
  unfold takP at hk2 ⊢
  split at hk2
  ·cases hk2
  ·rename_i e; rw [if_neg e]
 refine ⟨hp,hk1,?_⟩
 refine hH.loop (fun _:Unit=>⟨[(0,.ref 0 0),(3,.own 1)],[(0,.box 95 (dA psT (cqP' s).1 .nil)),(1,.row 29 cqT [(cqP' s).2])],2⟩) (fun _=>True) (fun _=>0) () 2 trivial ?_ ?_
 ·dsimp only [go_sem]
  and_intros<;>first|trivial|rfl|omega
 ·rintro ⟨⟩-R hm
  refine hH.run 100 _ _ ?_
  dsimp only [go_sem]
  refine ⟨h1.1,fun e=>?_,fun e=>?_⟩
  ·rw [hk2] at e; cases e
  ·rw [ht]
   and_intros<;>first|trivial|rfl
@[go_sem] noncomputable def EJC:Env:=(EJB).addM 64 unM
theorem EJC_ok:EJC.Ok:=(EJB_ok).addM unM_ok
def dsK (s:PS):Prop:=(takP s [102,97,108,115,101]).2=false/\unK s
theorem takP_no {s:PS} {t:Str} (h:(takP s t).2=false):(takP s t).1=s:=by
 unfold takP at h ⊢
 split at h
 ·cases h
 ·rename_i e; rw [if_neg e]
@[go_sem] def dsM:MSpec:=⟨[.b 95 psT],fun d=>⟨[(0,.box 95 (dA psT (cqP' d.1).1 .nil))],1,(.dat (.slice cqT) [(cqP' d.1).2]),[psP d.1,dsK d.1]⟩⟩
theorem dsM_ok:MSpecOk Tryz.prog 47 dsM:=by
 refine fnM_ok EJC_ok dsM Tryz.func47 rfl (by decide) (N:=7) rfl (res:=[.tmp 2]) rfl (by decide) [(1,[(4,.ow)]),(3,[(6,.ow)])] [] [] 100 (by kernel_rfl) ?_
 rintro ⟨s,_⟩ hw hp H hH
 dsimp only [go_sem] at hw hp ⊢
 obtain ⟨hp,⟨hk1,hk2⟩,-⟩:=hp
 refine ⟨hp,fun e=>?_,fun e=>?_⟩
 ·rw [hk1] at e; cases e
 ·rw [takP_no hk1]
  refine ⟨hp,hk2,?_⟩
  and_intros<;>first|trivial|rfl
def dnP (s:PS):Bool:=!s.2.2&&decide (s.2.1=(s.1.length:Int))
@[go_sem] def dnM:MSpec:=⟨[.b 95 psT],fun d=>⟨[(0,.box 95 (dA psT d.1 .nil))],1,(.dat .bool (dnP d.1)),[]⟩⟩
theorem dnM_ok:MSpecOk Tryz.prog 48 dnM:=by
 refine fnM_ok EJC_ok dnM Tryz.func48 rfl (by decide) (N:=20) rfl (res:=[.tmp 2]) rfl (by decide) [] [] [] 100 (by kernel_rfl) ?_
 rintro ⟨s,_⟩ hw hp H hH
 dsimp only [go_sem] at hw hp ⊢
 obtain ⟨l,a,b⟩:=s
 simp only [imp_self,true_and,imp2,and_true]
 and_intros<;>first|trivial|rfl
@[go_sem] noncomputable def EJD:Env:=((EJC).addM 47 dsM).addM 48 dnM
theorem EJD_ok:EJD.Ok:=((EJC_ok).addM dsM_ok).addM dnM_ok
def ps0 (s:Str):PS:=((lexP s).1,0,false)
def pqK (s:Str):Prop:=lexK s/\(s.length<=16384/\∀ k,k<s.length->chr s k≠10)/\(lexP s).2=true/\psP (ps0 s)/\peekP (ps0 s) [40]=false/\dsK (ps0 s)/\dnP (cqP' (ps0 s)).1=true
@[go_sem] def pqS:Spec:=⟨[.str],fun d=>(.tup (.cons (.dat qryT ([],[(cqP' (ps0 d.1)).2])) (.cons (.dat (.int .i64) (0:Int)) .nil)),[pqK d.1])⟩
theorem pq_ok:SpecOk Tryz.prog 26 pqS:=by
 refine fn_ok EJD_ok pqS Tryz.func26 rfl (by decide) (N:=51) rfl (res:=[.cell 2 33,.tmp 3]) rfl (by decide) [(13,[(37,.ow)]),(16,[(44,.ow)]),(17,[(47,.ow)])] [] [] 100 (by kernel_rfl) ?_
 rintro ⟨s,_⟩ hw hp
 refine ⟨rfl,fun H hH=>?_⟩
 dsimp only [go_sem] at hw hp ⊢
 obtain ⟨⟨hk1,⟨hk2,hk3⟩,hk4,hk5,hk6,hk7,hk8⟩,-⟩:=hp
 change Str at s
 change s.length<=16384 at hk2
 refine ⟨fun e=>?_,fun _=>?_⟩
 ·have:=of_decide_eq_true e
  exact absurd this (by omega)
 refine hH.loop (fun i:Nat=>⟨[(4,.dat (.int .i64) (i:Int)),(3,.dat (.int .i64) (0:Int)),(2,.ref 0 0),(0,.dat .str s)],[(0,.box 33 (zA qryT .nil))],1⟩) (fun i=>i<=s.length) (fun i=>s.length-i) 0 1 (Nat.zero_le _) ?_ ?_
 ·dsimp only [go_sem]
  and_intros<;>first|trivial|rfl|omega
 ·intro i hi R hm
  refine hH.run 200 _ _ ?_
  dsimp only [go_sem]
  have hk2':lexK s:=hk1
  have hps:psP ((lexP s).1,(0:Int),false):=hk5
  have hpk:peekP ((lexP s).1,(0:Int),false) [40]=false:=hk6
  have hds:dsK ((lexP s).1,(0:Int),false):=hk7
  have hdn:dnP (cqP' ((lexP s).1,(0:Int),false)).1=true:=hk8
  simp only [chr_at]
  refine ⟨fun d=>?_,fun d=>?_⟩<;>simp only [decide_eq_true_eq,decide_eq_false_iff_not] at d
  ·have d:i<s.length:=by omega
   have h10:=hk3 i d
   have hb:(0:Int)<=(i:Int)/\(i:Int)<(s.length:Int):=by omega
   refine ⟨hb,fun e=>absurd (of_decide_eq_true e) h10,fun _=>⟨by rw [inR_i64]; omega,hm _ (i+1) 1 d (by omega) ?_⟩⟩
   dsimp only [go_sem]
   and_intros<;>first|trivial|rfl|omega
  ·refine ⟨hk2',fun e=>?_,fun _=>⟨hps,fun e=>?_,fun _=>⟨hps,hds,fun e=>?_,fun _=>?_⟩⟩⟩
   ·rw [hk4] at e; cases e
   ·rw [hpk] at e; cases e
   ·rw [hdn] at e; cases e
   ·exact ⟨trivial,trivial,rfl,trivial,trivial,trivial⟩
def cqOf (s:Str):Cq:=(cqP' (ps0 s)).2
@[go_sem] noncomputable def EJE:Env:=(EJD).add 26 pqS
theorem EJE_ok:EJE.Ok:=(EJD_ok).add pq_ok
@[go_sem] def paS:Spec:=⟨[.str],fun d=>(.dat cqT (cqOf d.1),[pqK d.1])⟩
theorem pa_ok:SpecOk Tryz.prog 23 paS:=by
 refine fn_ok EJE_ok paS Tryz.func23 rfl (by decide) (N:=19) rfl (res:=[.cell 2 29]) rfl (by decide) [] [] [] 100 (by kernel_rfl) ?_
 rintro ⟨s,_⟩ hw hp
 refine ⟨rfl,fun H hH=>?_⟩
 dsimp only [go_sem] at hw hp ⊢
 obtain ⟨hp,-⟩:=hp
 have h1:(0:Int)<=0/\(0:Int)<((1:Nat):Int):=by decide
 exact ⟨hp,fun e=>absurd (of_decide_eq_true e) (fun h=>h rfl),fun _=>⟨h1,rfl,trivial⟩⟩
end Go.Proofs.YtdobkkhncfifeabGreat.Gx
namespace Go.Proofs.YtdobkkhncfifeabGreat.Gx
open Go Go.RowKit Tw B Nt
set_option linter.unusedVariables false
set_option linter.unusedSimpArgs false
set_option maxHeartbeats 4000000
set_option maxRecDepth 100000
def kw1:Str:=[65,40,120,41,44,32,82,40,120,44,32,121,41,44,32,66,40,121,41]
def kw2:Str:=[82,40,120,41,44,32,83,40,120,44,32,121,41]
def kw3:Str:=[82,40,120,41,44,32,83,40,121,41,44,32,84,40,120,44,32,122,41]
theorem ps_tok {s:PS} (h1:(0<=s.2.1/\s.2.1<=(s.1.length:Int))/\s.1.length<=20000) (h2:∀ t∈s.1,t.1≠3/\t.1≠2):psP s:=⟨h1.1,h1.2,fun t ht=>⟨(h2 t ht).1,fun h=>absurd h (h2 t ht).2⟩⟩
theorem kw1_ok:pqK kw1:=⟨⟨by decide +kernel,by decide +kernel⟩,⟨by decide +kernel,by decide +kernel⟩,by decide +kernel,ps_tok (by decide +kernel) (by decide +kernel),by decide +kernel,⟨by decide +kernel,by decide +kernel,by decide +kernel⟩,by decide +kernel⟩
theorem kw2_ok:pqK kw2:=⟨⟨by decide +kernel,by decide +kernel⟩,⟨by decide +kernel,by decide +kernel⟩,by decide +kernel,ps_tok (by decide +kernel) (by decide +kernel),by decide +kernel,⟨by decide +kernel,by decide +kernel,by decide +kernel⟩,by decide +kernel⟩
theorem kw3_ok:pqK kw3:=⟨⟨by decide +kernel,by decide +kernel⟩,⟨by decide +kernel,by decide +kernel⟩,by decide +kernel,ps_tok (by decide +kernel) (by decide +kernel),by decide +kernel,⟨by decide +kernel,by decide +kernel,by decide +kernel⟩,by decide +kernel⟩
def kc1:Cq:=([([65],false,[([120],0,0,[])]),([82],false,[([120],0,0,[]),([121],0,0,[])]),([66],false,[([121],0,0,[])])],[])
def kc2:Cq:=([([82],false,[([120],0,0,[])]),([83],false,[([120],0,0,[]),([121],0,0,[])])],[])
def kc3:Cq:=([([82],false,[([120],0,0,[])]),([83],false,[([121],0,0,[])]),([84],false,[([120],0,0,[]),([122],0,0,[])])],[])
theorem cq_1:cqOf kw1=kc1:=by kernel_rfl
theorem cq_2:cqOf kw2=kc2:=by kernel_rfl
theorem cq_3:cqOf kw3=kc3:=by kernel_rfl
theorem kc1_P:cqP kc1:=⟨by decide +kernel,by decide +kernel,by decide +kernel⟩
theorem kc2_P:cqP kc2:=⟨by decide +kernel,by decide +kernel,by decide +kernel⟩
theorem kc3_P:cqP kc3:=⟨by decide +kernel,by decide +kernel,by decide +kernel⟩
theorem kv1:viR kc1 (vio kc1)=((([],[kc1]),[120],[121],0,1,2),true):=by kernel_rfl
theorem kv2:(viR kc2 (vio kc2)).2=false:=by decide +kernel
theorem kv3:(comps kc3).length=2:=by decide +kernel
@[go_sem] def knS:Spec:=⟨[],fun d=>(.dat .bool true,[])⟩
@[go_sem] noncomputable def EJF:Env:=(EJE).add 23 paS
theorem EJF_ok:EJF.Ok:=(EJE_ok).add pa_ok
theorem kn_ok:SpecOk Tryz.prog 10 knS:=by
 refine fn_ok EJF_ok knS Tryz.func10 rfl (by decide) (N:=35) rfl (res:=[.tmp 0]) rfl (by decide) [] [] [] 100 (by kernel_rfl) ?_
 rintro ⟨_⟩ hw hp
 refine ⟨rfl,fun H hH=>?_⟩
 dsimp only [go_sem] at hw hp ⊢
 clear hw hp
 have hk1:=kw1_ok
 have hk2:=kw2_ok
 have hk3:=kw3_ok
 have hc1:cqOf [65,40,120,41,44,32,82,40,120,44,32,121,41,44,32,66,40,121,41]=kc1:=cq_1
 have hc2:cqOf [82,40,120,41,44,32,83,40,120,44,32,121,41]=kc2:=cq_2
 have hc3:cqOf [82,40,120,41,44,32,83,40,121,41,44,32,84,40,120,44,32,122,41]=kc3:=cq_3
 have ha3:isA3 Tryz.prog 60:=⟨_,_,rfl,rfl,rfl,rfl,rfl⟩
 have hl3:decide (((comps kc3).length:Int)=2)=true:=by rw [kv3]; rfl
 simp only [imp_self,imp2,true_and,and_true]
 simp only [hc1,hc2,hc3,kv1,kv2]
 refine ⟨hk1,kc1_P,hk2,kc2_P,fun _=>ha3,fun _=>ha3,fun _=>hk3,fun _=>kc3_P,?_⟩
 rw [hl3]
 decide
end Go.Proofs.YtdobkkhncfifeabGreat.Gx
