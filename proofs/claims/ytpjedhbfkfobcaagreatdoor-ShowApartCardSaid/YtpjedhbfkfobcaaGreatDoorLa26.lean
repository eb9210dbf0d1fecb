/- Folding: eval.Fold, and the laws EvalFolds and EvalSame. -/
import Derived.Test.YtpjedhbfkfobcaaGreatDoorLa21
set_option linter.unusedVariables false
set_option linter.unusedSimpArgs false
namespace Go.Proofs.YtpjedhbfkfobcaaGreatDoor
open Go.AM
def exsR (n:Nat)(g:Nat→Nat→T):List Ex:=(List.range n).map fun i=>Ex.mk (g i 0).int (g i 1).int (Xab (g i 2))
theorem kidsOf_l (n:Nat)(g:Nat→Nat→T):Xab (T.l n g)=exsR n g:=by rw[Xmo];rfl
theorem shift0 (g:Nat→Nat→T):(fun i j=>g (0+i) j)=g:=by funext i j;rw[Nat.zero_add]
def pushX (n:Nat)(g:Nat→Nat→T)(a b:Int)(c:T):Nat→Nat→T:=fun i j=>(bif Nat.blt i n then (g i j) else (([[T.i a,T.i b,c]]:List (List T)).getD (0+(i-n)) []).getD j (.b false))
theorem pushX_lt {n:Nat}{g:Nat→Nat→T}{a b:Int}{c:T}{i j:Nat}(h:i<n):pushX n g a b c i j=g i j:=by
 unfold pushX
 rw[show Nat.blt i n=true from by rw[Nat.blt_eq];exact h];rfl
theorem blt_self (n:Nat):Nat.blt n n=false:=by
 cases hc:Nat.blt n n with
 | false=>rfl
 | true=>rw[Nat.blt_eq] at hc;omega
theorem pushX_at (n:Nat)(g:Nat→Nat→T)(a b:Int)(c:T):pushX n g a b c n 0= .i a∧pushX n g a b c n 1= .i b∧pushX n g a b c n 2=c:=by
 unfold pushX
 rw[blt_self,Nat.sub_self]
 exact ⟨rfl,rfl,rfl⟩
theorem exsR_pushX (n:Nat)(g:Nat→Nat→T)(a b:Int)(c:T):exsR (n+1) (pushX n g a b c)=exsR n g++[Ex.mk a b (Xab c)]:=by
 unfold exsR
 rw[List.range_succ,List.map_append]
 obtain ⟨h0,h1,h2⟩:=pushX_at n g a b c
 congr 1
 ·refine List.map_congr_left fun i hi=> ?_
  have hi:=List.mem_range.1 hi
  rw[pushX_lt hi,pushX_lt hi,pushX_lt hi]
 ·simp[h0,h1,h2,int_i]
theorem grow {k:T}{F:Ex→Ex}(hk3:k.len≤3){B:Nat→Nat→Nat→(Nat→Nat→T)→Option R}(hc:∀ i,i<k.len→∃ o n t,Ex.mk o n (Xab t)=F (exAt k i)∧KW t∧Ev fun N=>∀ M g,B N (M+1) i g=B N M (i+1) (pushX i g o n t)):
  ∀ m,m≤k.len→∃ g,exsR m g=((Xab k).take m).map F∧(∀ i,i<m→KW (g i 2))∧Ev fun N=>∀ M,B N (M+m) 0 (fun _ _=> .b false)=B N M m g
 | 0,_=>⟨fun _ _=> .b false,rfl,fun i hi=>absurd hi (Nat.not_lt_zero _),Ev.of fun N M=>rfl⟩
 | m+1,hm=>by
  obtain ⟨g,h1,h2,h3⟩:=grow hk3 hc m (by omega)
  obtain ⟨o,n,t,e1,e2,e3⟩:=hc m (by omega)
  refine ⟨pushX m g o n t,?_,fun i hi=> ?_,h3.imp2 e3 fun N h3 e3 M=> ?_⟩
  ·rw[exsR_pushX,h1,e1,List.take_add_one,Xkk k (by omega),List.map_append];rfl
  ·by_cases c:i<m
   ·rw[pushX_lt c];exact h2 i c
   ·obtain rfl:i=m:=by omega
    rw[(pushX_at i g o n t).2.2];exact e2
  ·rw[show M+(m+1)=(M+1)+m by omega,h3,e3]
theorem KW_l {n:Nat}{g:Nat→Nat→T}(hn:n≤9223372036854775807)(h:∀ i,i<n→KW (g i 2)):KW (T.l n g):=⟨hn,h⟩
end Go.Proofs.YtpjedhbfkfobcaaGreatDoor
