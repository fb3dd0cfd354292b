/-
  QFmt, QParse, QParse2, in one text: see the remarks at the head of each part.
-/
import Derived.Test.YtdobkkhncfifeabGreatMQ
import Derived.Test.YtdobkkhncfifeabGreatMQMul
import Derived.Test.YtdobkkhncfifeabGreatMRefH
namespace Go.Proofs.YtdobkkhncfifeabGreat.Nt
open Go.ChangeShapes Go.WideShapes Go.ChangeAt Go.RowKit B
set_option linter.unusedVariables false
theorem dec_size {s:ByteArray} {n:Int} {c:Nat} (h:IsDec s n) (hn:n<Bp c):s.size<=32*c+1:=by
 rcases h with ⟨_,rfl⟩|⟨h0,l,h1,h2,rfl⟩
 ·have:(⟨#[48]⟩:ByteArray).size=1:=rfl
  omega
 ·have hs:(decS l).size=l.length:=by simp [decS,decB,ByteArray.size]
  rcases hl:l.length with _|k
  ·omega
  ·have hp:p10 k<=n:=by
     obtain ⟨m,x,rfl⟩:∃ m x,l=m++[x]:=⟨l.dropLast,l.getLast (by intro e; rw [e] at hl; simp at hl),(List.dropLast_concat_getLast _).symm⟩
     have hm:m.length=k:=by simpa using hl
     rw [V10_snoc,hm] at h2
     have hx:x≠0:=by intro e; subst e; exact h1.2 (by simp)
     have hx2:=h1.1 x (by simp)
     have hm0:0<=V10 m:=V10_nonneg (fun d hd=>h1.1 d (by simp [hd]))
     have:=Int.mul_le_mul_of_nonneg_left (show 1<=x by omega) (show 0<=p10 k by have:=p10_pos k; omega)
     omega
   have:=p10_len hp hn
   omega
end Go.Proofs.YtdobkkhncfifeabGreat.Nt
namespace Go.Proofs.YtdobkkhncfifeabGreat.Nt
open Go.ChangeShapes Go.WideShapes Go.ChangeAt Go.RowKit B
set_option linter.unusedVariables false
end Go.Proofs.YtdobkkhncfifeabGreat.Nt
namespace Go.Proofs.YtdobkkhncfifeabGreat.Nt
open Go.ChangeShapes Go.WideShapes Go.ChangeAt Go.RowKit B
set_option linter.unusedVariables false
end Go.Proofs.YtdobkkhncfifeabGreat.Nt
