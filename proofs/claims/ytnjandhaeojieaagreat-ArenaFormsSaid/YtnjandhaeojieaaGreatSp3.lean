/- What package expr's functions come to. -/
import Derived.Test.YtnjandhaeojieaaGreatMo4
import Derived.Test.YtnjandhaeojieaaGreatFnA
set_option linter.unusedVariables false
set_option linter.unusedSimpArgs false
namespace Go.Proofs.YtnjandhaeojieaaGreat
open Go.AM
theorem Kids_sp:Ev fun n=>∀ op,Xve (K n) op=ri (kidsN op):=by
 refine ⟨9,fun n hn op=> ?_⟩
 obtain ⟨m,rfl⟩:∃ m,n=m+2:=⟨n-2,by omega⟩
 rw[C_expr_Kids_K,Xiz.B0_eq]
 unfold kidsN ri
 simp only[Bool.cond_eq_ite,decide_eq_true_eq,beq_iff_eq]
 repeat' split
 all_goals first|rfl|(exfalso;omega)
theorem number_sp:Ev fun N=>∀ op n k,Xqu (K N) op n k=rb (Xit op n):=by
 refine ⟨9,fun N hn op n k=> ?_⟩
 obtain ⟨m,rfl⟩:∃ m,N=m+2:=⟨N-2,by omega⟩
 rw[C_expr_number_K,Xgl.B0_eq,Xgl.B0_eq]
 unfold Xit
 simp only[Bool.cond_eq_ite,decide_eq_true_eq,beq_iff_eq]
 repeat' split
 all_goals first
  | rfl
  | (exfalso;omega)
  | (refine congrArg rb ?_;rw[Bool.eq_iff_iff];simp only[decide_eq_true_eq,beq_iff_eq,Bool.false_eq_true,eq_self_iff_true,true_iff,false_iff];omega)
theorem goesB_sp {h:H}{k:T}(hk:KW k){d:Int}(h0:0≤d)(h1:d≤12)
  (hc:∀ i,i<k.len→∀ op m n b,0≤n→n≤60→Xhw h op m (k.el i 2) (d+1) n b=rib (goesE (.mk op m (Xad (k.el i 2))) (d+1) n b).1 (goesE (.mk op m (Xad (k.el i 2))) (d+1) n b).2):
  ∀ (m i:Nat),i+m=k.len→∀ (N:Nat) (n:Int) (b:Bool),m<N→0≤n→n≤61→Xeb.B0 h N d k (k.len:Int) (i:Int) n b=rib (goesL ((Xad k).drop i) d n b).1 (goesL ((Xad k).drop i) d n b).2
 | 0,i,hi,N,n,b,hN,hn0,hn1=>by
  obtain ⟨N,rfl⟩:∃ M,N=M+1:=⟨N-1,by omega⟩
  rw[Xeb.B0_eq,List.drop_of_length_le (by rw[Xbn];omega)]
  simp only[Bool.cond_eq_ite,decide_eq_true_eq]
  rw[if_neg (by omega)]
  rfl
 | m+1,i,hi,N,n,b,hN,hn0,hn1=>by
  obtain ⟨N,rfl⟩:∃ M,N=M+1:=⟨N-1,by omega⟩
  have hlt:i<k.len:=by omega
  have hlen:=hk.len
  rw[Xeb.B0_eq,Xhg k i hlt]
  simp only[Bool.cond_eq_ite,decide_eq_true_eq,Bool.and_eq_true,goesL]
  rw[if_pos (by omega),if_pos (by omega)]
  by_cases hn:60<n
  ·rw[if_pos hn,if_pos hn];rfl
  ·rw[if_neg hn,if_neg hn,Xaq (by omega) (by omega),Int.toNat_natCast,hc i hlt _ _ n b hn0 (by omega),rib_bind,Xal,Xer,int_i,Xmq,Xaq (by omega) (by omega)]
   have hr:=goesE_range (exAt k i) (d+1) n b hn0 (by omega)
   exact goesB_sp hk h0 h1 hc m (i+1) (by omega) N _ _ (by omega) (by unfold exAt at hr;omega) hr.2
theorem goes_sp:∀ k,KW k→∀ d:Int,0≤d→d≤13→Ev fun N=>∀ op m n b,0≤n→n≤60→Xhw (K N) op m k d n b=rib (goesE (.mk op m (Xad k)) d n b).1 (goesE (.mk op m (Xad k)) d n b).2:=by
 refine Xkc fun k ih hk d h0 h1=> ?_
 by_cases hd:12<d
 ·refine ⟨1,fun N hN op m n b hn0 hn1=> ?_⟩
  obtain ⟨N,rfl⟩:∃ M,N=M+1:=⟨N-1,by omega⟩
  rw[Xnu]
  simp only[Bool.cond_eq_ite,decide_eq_true_eq,goesE]
  rw[if_pos (by omega),if_pos hd]
  rfl
 ·refine Ev.step ((Ev.all (k:=k.len) fun i hi=>ih i hi (hk.el hi) (d+1) (by omega) (by omega)).imp2 (Ev.ge (k.len+1)) fun N hc hN op m n b hn0 hn1=> ?_)
  rw[Xnu]
  simp only[Bool.cond_eq_ite,decide_eq_true_eq,goesE]
  rw[if_neg (by omega),if_neg hd,Xaq (by omega) (by omega)]
  by_cases hn:60<n+1
  ·rw[if_pos (by omega),if_pos hn];rfl
  ·rw[if_neg (by omega),if_neg hn]
   have:=goesB_sp hk h0 (by omega) hc k.len 0 (by omega) N (n+1) b (by omega) (by omega) (by omega)
   simpa using this
theorem counted_sp (k:T)(hk:KW k):Ev fun N=>∀ op m,Xov (K N) op m k=rib (nodesE (.mk op m (Xad k))) (goesE (.mk op m (Xad k)) 1 0 false).2:=
 Ev.step ((goes_sp k hk 1 (by omega) (by omega)).imp fun N h op m=>by
  rw[C_expr_counted_K,h op m 0 false (by omega) (by omega)];rfl)
theorem light_sp (k:T)(hk:KW k):Ev fun N=>∀ op m,Xsk (K N) op m k=rb (Xni (.mk op m (Xad k))):=
 Ev.step ((counted_sp k hk).imp fun N h op m=>by
  rw[C_expr_light_K,h,rib_bind,Xal,Xer,int_i,Xmq]
  simp only[Bool.cond_eq_ite,decide_eq_true_eq,Xni]
  split
  ·rename_i hle;simp[hle,rb]
  ·rename_i hle;simp[hle,rb])
theorem soundI_sp {h:H}{k:T}(hk:KW k)(hc:∀ i,i<k.len→∀ op m,Xmb h op m (k.el i 2)=rb (!Xfl (.mk op m (Xad (k.el i 2))))):
  ∀ (m i:Nat),i+m=k.len→∀ (N:Nat),m<N→∃ x,Xbf.B0 h N k (k.len:Int) (i:Int)=ri x∧decide (x≥0)= !Xju ((Xad k).drop i)
 | 0,i,hi,N,hN=>by
  obtain ⟨N,rfl⟩:∃ M,N=M+1:=⟨N-1,by omega⟩
  refine ⟨-1,?_,?_⟩
  ·rw[Xbf.B0_eq]
   simp only[Bool.cond_eq_ite,decide_eq_true_eq]
   rw[if_neg (by omega)]
   rfl
  ·rw[List.drop_of_length_le (by rw[Xbn];omega)];rfl
 | m+1,i,hi,N,hN=>by
  obtain ⟨N,rfl⟩:∃ M,N=M+1:=⟨N-1,by omega⟩
  have hlt:i<k.len:=by omega
  have hlen:=hk.len
  rw[Xbf.B0_eq,Xhg k i hlt]
  simp only[Bool.cond_eq_ite,decide_eq_true_eq,Bool.and_eq_true,Xju]
  rw[if_pos (by omega),if_pos (by omega),Int.toNat_natCast,hc i hlt,Xor,Xal,Xmq,Xaq (by omega) (by omega)]
  show ∃ x,(if (!Xfl (exAt k i))=true then _ else _)=ri x∧_
  cases hs:Xfl (exAt k i) with
  | false=>exact ⟨i,rfl,by simp⟩
  | true=>
   obtain ⟨x,h1,h2⟩:=soundI_sp hk hc m (i+1) (by omega) N (by omega)
   exact ⟨x,by rw[if_neg (by simp)];exact h1,by rw[h2];rfl⟩
theorem sound_sp:∀ k,KW k→Ev fun N=>∀ op m,Xoj (K N) op m k=rb (Xfl (.mk op m (Xad k))):=by
 refine Xkc fun k ih hk=> ?_
 have h1:Ev fun N=>∀ i,i<k.len→∀ op m,Xmb (K N) op m (k.el i 2)=rb (!Xfl (.mk op m (Xad (k.el i 2)))):=
  Ev.all fun i hi=>Ev.step ((ih i hi (hk.el hi)).imp fun N h op m=>by rw[C_expr_sound_1_K,h];rfl)
 have h2:Ev fun N=>∃ x,Xec (K N) k=ri x∧decide (x≥0)= !Xju (Xad k):=
  Ev.step ((h1.imp2 (Ev.ge (k.len+1))) fun N h hN=>by
   rw[Xiv]
   have:=soundI_sp hk h k.len 0 (by omega) N (by omega)
   simpa using this)
 have h3:Ev fun N=>Xdq (K N) k=rb (!Xju (Xad k)):=
  Ev.step (h2.imp fun N ⟨x,h,hx⟩=>by
   rw[Xhx,h,Xfd,Xal,int_i,hx];rfl)
 refine Ev.step (Ev.imp3 h3 Kids_sp number_sp fun N h3 hK hn op m=> ?_)
 rw[C_expr_sound_K,hK,Xfd,Xal,int_i,hn,Xor,Xal,Xmq,h3,Xor,Xal,Xmq]
 simp only[Bool.cond_eq_ite,decide_eq_true_eq,beq_iff_eq,Xfl,Xbn,ge_iff_le]
 by_cases c1:0≤kidsN op
 ·rw[if_pos c1]
  by_cases c2:(k.len:Int)=kidsN op
  ·rw[if_pos c2]
   cases c3:Xit op m with
   | true=>simp[c1,c2,rb]
   | false=>simp[c1,c2,rb]
  ·rw[if_neg c2];simp[c1,c2,rb]
 ·rw[if_neg c1];simp[c1,rb]
theorem May_sp (k:T)(hk:KW k):Ev fun N=>∀ op m,Xtm (K N) op m k=ri (mayE (.mk op m (Xad k))):=
 Ev.step ((light_sp k hk).imp2 (sound_sp k hk) fun N h1 h2 op m=>by
  rw[C_expr_May_K,h1,Xor,Xal,Xmq,h2,Xor,Xal,Xmq]
  unfold mayE
  cases Xni (.mk op m (Xad k))<;>cases Xfl (.mk op m (Xad k))<;>rfl)
end Go.Proofs.YtnjandhaeojieaaGreat
set_option linter.unusedVariables false
set_option linter.unusedSimpArgs false
namespace Go.Proofs.YtnjandhaeojieaaGreat
open Go.AM
theorem indexS_sp {h:H}{l:T}(hl:l.len≤9223372036854775807)(s:ByteArray):∀ (m i:Nat),i+m=l.len→∀ N,m<N→∃ x,Xcl.B0 h N l s (l.len:Int) (i:Int)=ri x∧decide (x≥0)=((strsOf l).drop i).any fun w=>strEq s w
 | 0,i,hi,N,hN=>by
  obtain ⟨N,rfl⟩:∃ M,N=M+1:=⟨N-1,by omega⟩
  refine ⟨-1,?_,?_⟩
  ·rw[Xcl.B0_eq]
   simp only[Bool.cond_eq_ite,decide_eq_true_eq]
   rw[if_neg (by omega)]
   rfl
  ·unfold strsOf;rw[Xjy _ (by omega)];rfl
 | m+1,i,hi,N,hN=>by
  obtain ⟨N,rfl⟩:∃ M,N=M+1:=⟨N-1,by omega⟩
  have hlt:i<l.len:=by omega
  have ih:=indexS_sp (h:=h) hl s m (i+1) (by omega) N (by omega)
  unfold strsOf at ih ⊢
  rw[Xcl.B0_eq,Xgg _ hlt]
  simp only[Bool.cond_eq_ite,decide_eq_true_eq,Bool.and_eq_true,List.any_cons]
  rw[if_pos (by omega),if_pos (by omega),Int.toNat_natCast,Xaq (by omega) (by omega)]
  cases hs:strEq s (l.el i 0).str with
  | true=>exact ⟨i,rfl,by simp⟩
  | false=>
   obtain ⟨x,h1,h2⟩:=ih
   exact ⟨x,by rw[if_neg (by simp)];exact h1,by rw[h2];rfl⟩
theorem containsS_sp (l:T)(hl:l.len≤9223372036854775807):Ev fun N=>∀ s,Xhp (K N) l s=rb ((strsOf l).any fun w=>strEq s w):=
 Ev.step (Ev.step ((Ev.ge (l.len+1)).imp fun N hN s=>by
  obtain ⟨x,h1,h2⟩:=indexS_sp (h:=K N) hl s l.len 0 (by omega) N (by omega)
  rw[Xnw,Xqm]
  have h1:Xcl.B0 (K N) N l s (l.len:Int) 0=ri x:=h1
  rw[h1,Xfd,Xal,int_i,h2]
  rfl))
theorem nameB_sp {h:H}{s:ByteArray}(hs:s.size≤16):∀ (m i:Nat),i+m=s.size→∀ N,2*m<N→Xea.B0 h N s (s.size:Int) (i:Int)=rb (Xgm s i m)
 | 0,i,hi,N,hN=>by
  obtain ⟨N,rfl⟩:∃ M,N=M+1:=⟨N-1,by omega⟩
  rw[Xea.B0_eq]
  simp only[Bool.cond_eq_ite,decide_eq_true_eq]
  rw[if_neg (by omega)]
  rfl
 | m+1,i,hi,N,hN=>by
  obtain ⟨N,rfl⟩:∃ M,N=M+2:=⟨N-2,by omega⟩
  have ih:=nameB_sp (h:=h) hs m (i+1) (by omega) N (by omega)
  rw[Xea.B0_eq,Xea.B1_eq,Xaq (by omega) (by omega)]
  have ih':Xea.B0 h N s (s.size:Int) ((i:Int)+1)=rb (Xgm s (i+1) m):=ih
  rw[ih',Int.toNat_natCast]
  simp only[Bool.cond_eq_ite,decide_eq_true_eq,Bool.and_eq_true,beq_iff_eq,Xgm]
  rw[if_pos (by omega),if_pos (by omega)]
  generalize bt s i=c
  have e:∀ b:Bool,Xmf i c=b→(Xmf i c&&Xgm s (i+1) m)=(b&&Xgm s (i+1) m):=fun b hb=>by rw[hb]
  have yes:Xmf i c=true↔(97≤c∧c≤122∨0<i∧(48≤c∧c≤57∨c=95)):=by unfold Xmf;simp
  have no:Xmf i c=false↔¬(97≤c∧c≤122∨0<i∧(48≤c∧c≤57∨c=95)):=by rw[←yes];simp
  repeat' split
  all_goals first
   | (rw[e true (yes.2 (by omega))];rfl)
   | (rw[e false (no.2 (by omega))];rfl)
theorem words_sp:Ev fun N=>Xvf (K N)=some (lookR [(0,(T.l 18 fun i j=>((words.map fun w=>[T.s w]).getD i []).getD j (.b false)))]):=
 Ev.step (Ev.of fun N=>C_dom_words_K N)
theorem name_sp:Ev fun N=>∀ s,Xtn (K N) s=rb (nameE s):=by
 refine Ev.step (Ev.imp3 words_sp (containsS_sp (T.l 18 fun i j=>((words.map fun w=>[T.s w]).getD i []).getD j (.b false)) (by decide)) (Ev.ge 40) fun N hw hc hN s=> ?_)
 rw[C_dom_name_K]
 unfold nameE
 simp only[Bool.cond_eq_ite,decide_eq_true_eq]
 by_cases h1:(s.size:Int)<1
 ·rw[if_pos h1]
  have:decide (1≤s.size∧s.size≤16)=false:=by simp;omega
  rw[this];rfl
 ·rw[if_neg h1]
  by_cases h2:(s.size:Int)>16
  ·rw[if_pos h2]
   have:decide (1≤s.size∧s.size≤16)=false:=by simp;omega
   rw[this];rfl
  ·rw[if_neg h2]
   have h3:decide (1≤s.size∧s.size≤16)=true:=by simp;omega
   rw[h3,hw,Xrk,Xal]
   have e1:(T.l ((T.l 18 fun i j=>((words.map fun w=>[T.s w]).getD i []).getD j (.b false)).len) fun i j=>(T.l 18 fun i j=>((words.map fun w=>[T.s w]).getD i []).getD j (.b false)).el (0+i) j)=(T.l 18 fun i j=>((words.map fun w=>[T.s w]).getD i []).getD j (.b false)):=by
    show T.l 18 _=T.l 18 _
    congr 1
    funext i j
    show ((words.map fun w=>[T.s w]).getD (0+i) []).getD j (.b false)=_
    rw[Nat.zero_add]
   rw[e1,hc s,Xor,Xal,Xmq]
   have e2:(strsOf (T.l 18 fun i j=>((words.map fun w=>[T.s w]).getD i []).getD j (.b false)))=words:=rfl
   rw[e2]
   show (if (wordE s)=true then _ else _)=_
   cases hwd:wordE s with
   | true=>rfl
   | false=>
    rw[if_neg (by simp)]
    have:=nameB_sp (h:=K N) (s:=s) (by omega) s.size 0 (by omega) N (by omega)
    simpa using this
theorem Find1_sp (N:Nat)(a:ByteArray)(b:Bool)(x y z:Int)(c:Nat→T):Xsl (K (N+1)) a b x y z c=rb (strEq a (c 0).str):=C_dom_Find_1_K N a b x y z c
theorem findI_sp {N:Nat}{l:T}(hl:l.len≤9223372036854775807)(c:Nat→T):∀ (m i:Nat),i+m=l.len→∀ M,m<M→Xbg.B0 (K (N+1)) M l c (l.len:Int) (i:Int)=ri (Xjj (c 0).str ((Xaa l).drop i) i)
 | 0,i,hi,M,hM=>by
  obtain ⟨M,rfl⟩:∃ M',M=M'+1:=⟨M-1,by omega⟩
  rw[Xbg.B0_eq]
  unfold Xaa
  rw[Xjy _ (by omega)]
  simp only[Bool.cond_eq_ite,decide_eq_true_eq]
  rw[if_neg (by omega)]
  rfl
 | m+1,i,hi,M,hM=>by
  obtain ⟨M,rfl⟩:∃ M',M=M'+1:=⟨M-1,by omega⟩
  have hlt:i<l.len:=by omega
  have ih:=findI_sp (N:=N) hl c m (i+1) (by omega) M (by omega)
  unfold Xaa at ih ⊢
  rw[Xbg.B0_eq,Xgg _ hlt,Find1_sp,Xor,Xal,Xmq]
  simp only[Bool.cond_eq_ite,decide_eq_true_eq,Bool.and_eq_true,Xjj]
  rw[if_pos (by omega),if_pos (by omega),Int.toNat_natCast,Xaq (by omega) (by omega)]
  show (if strEq (vaAt l i).name (c 0).str=true then _ else _)=_
  split
  ·rfl
  ·exact ih
theorem Find_sp (l:T)(hl:l.len≤9223372036854775807):Ev fun N=>∀ s,Xto (K N) l s=ri (findE (Xaa l) s):=by
 refine ⟨l.len+5,fun N hN s=> ?_⟩
 obtain ⟨N,rfl⟩:∃ M,N=M+3:=⟨N-3,by omega⟩
 rw[C_dom_Find_K,Xjk]
 have:=findI_sp (N:=N) hl (fun j=>([T.s s]:List T).getD j (.b false)) l.len 0 (by omega) (N+1) (by omega)
 have e:((([T.s s]:List T).getD 0 (.b false))).str=s:=rfl
 simp only[e] at this
 have this:Xbg.B0 (K (N+1)) (N+1) l (fun j=>([T.s s]:List T).getD j (.b false)) (l.len:Int) 0=ri (Xjj s ((Xaa l).drop 0) 0):=this
 rw[this]
 rfl
theorem Size_sp:Ev fun N=>∀ a b x y z,Xeu (K N) a b x y z=ri (sizeV ⟨a,b,x,y,z⟩):=by
 refine ⟨2,fun N hN a b x y z=> ?_⟩
 obtain ⟨N,rfl⟩:∃ M,N=M+2:=⟨N-2,by omega⟩
 rw[C_dom_Size_K,Xlb.B0_eq]
 unfold sizeV
 simp only[Bool.cond_eq_ite,decide_eq_true_eq,beq_iff_eq]
 repeat' split
 all_goals first
  | rfl
  | (exfalso;omega)
  | (show ri _=ri _;congr 1;rw[Xaq (a:=z-y) (by omega) (by omega),Xaq (by omega) (by omega)])
theorem low_sp:Ev fun N=>∀ a b x y z,Xka (K N) a b x y z=ri (lowV ⟨a,b,x,y,z⟩):=by
 refine ⟨2,fun N hN a b x y z=> ?_⟩
 obtain ⟨N,rfl⟩:∃ M,N=M+2:=⟨N-2,by omega⟩
 rw[C_dom_low_K]
 unfold lowV
 simp only[Bool.cond_eq_ite,decide_eq_true_eq,beq_iff_eq]
 split<;>rfl
theorem sorted_sp:Ev fun N=>∀ a b x y z,Xku (K N) a b x y z=ri (Xdt ⟨a,b,x,y,z⟩):=by
 refine Ev.step (Size_sp.imp2 (Ev.ge 2) fun N hS hN a b x y z=> ?_)
 obtain ⟨N,rfl⟩:∃ M,N=M+1:=⟨N-1,by omega⟩
 rw[C_dom_sorted_K]
 simp only[hS,Xfd,Xal,int_i,Xdz.B0_eq]
 unfold Xdt
 simp only[Bool.cond_eq_ite,decide_eq_true_eq,beq_iff_eq,bne_iff_ne,ne_eq]
 generalize sizeV ⟨a,b,x,y,z⟩=q
 repeat' split
 all_goals first
  | rfl
  | (exfalso;simp_all;done)
  | (exfalso;omega)
end Go.Proofs.YtnjandhaeojieaaGreat
set_option linter.unusedVariables false
set_option linter.unusedSimpArgs false
namespace Go.Proofs.YtnjandhaeojieaaGreat
open Go.AM
theorem totalB_sp {h:H}{l:T}(hl:l.len≤9223372036854775807)(hs:∀ a b x y z,Xku h a b x y z=ri (Xdt ⟨a,b,x,y,z⟩))(hz:∀ a b x y z,Xeu h a b x y z=ri (sizeV ⟨a,b,x,y,z⟩)):
  ∀ (m i:Nat),i+m=l.len→∀ N n,m<N→0≤n→n≤512→Xil.B0 h N n l (l.len:Int) (i:Int)=ri (Xfk ((Xaa l).drop i) n)
 | 0,i,hi,N,n,hN,h0,h1=>by
  obtain ⟨N,rfl⟩:∃ M,N=M+1:=⟨N-1,by omega⟩
  rw[Xil.B0_eq]
  unfold Xaa
  rw[Xjy _ (by omega)]
  simp only[Bool.cond_eq_ite,decide_eq_true_eq]
  rw[if_neg (by omega)]
  rfl
 | m+1,i,hi,N,n,hN,h0,h1=>by
  obtain ⟨N,rfl⟩:∃ M,N=M+1:=⟨N-1,by omega⟩
  have hlt:i<l.len:=by omega
  have hr:=Xfx (vaAt l i)
  have hm0:0≤n*sizeV (vaAt l i):=Int.mul_nonneg h0 hr.1
  have hm1:n*sizeV (vaAt l i)≤512*2001:=Int.le_trans (Int.mul_le_mul_of_nonneg_left hr.2 h0) (Int.mul_le_mul_of_nonneg_right h1 (by omega))
  have e:(Xaa l).drop i=vaAt l i::(Xaa l).drop (i+1):=by unfold Xaa;exact Xgg _ hlt
  have e1:(⟨(l.el (i:Int).toNat 0).str,(l.el (i:Int).toNat 1).bool,(l.el (i:Int).toNat 2).int,(l.el (i:Int).toNat 3).int,(l.el (i:Int).toNat 4).int⟩:Va)=vaAt l i:=by rw[Int.toNat_natCast];rfl
  rw[Xil.B0_eq,hs,Xfd,Xal,int_i,hz,Xfd,Xal,int_i,e,e1]
  simp only[Bool.cond_eq_ite,decide_eq_true_eq,Bool.and_eq_true,Xfk,bne_iff_ne,ne_eq]
  rw[if_pos (by omega),if_pos (by omega),Xaq (a:=(i:Int)+1) (by omega) (by omega),Xaq (a:=n*sizeV (vaAt l i)) (by omega) (by omega)]
  by_cases c1:Xdt (vaAt l i)=0
  ·simp only[c1,not_true_eq_false,if_false,gt_iff_lt]
   by_cases c2:512<n*sizeV (vaAt l i)
   ·simp only[c2,if_true];rfl
   ·simp only[c2,if_false]
    exact totalB_sp hl hs hz m (i+1) (by omega) N _ (by omega) hm0 (by omega)
  ·simp only[c1,not_false_eq_true,if_true];rfl
theorem Total_sp (l:T)(hl:l.len≤9223372036854775807):Ev fun N=>Xkn (K N) l=ri (Xcz (Xaa l)):=by
 refine Ev.step (Ev.imp3 sorted_sp Size_sp (Ev.ge (l.len+1)) fun N hs hz hN=> ?_)
 rw[C_dom_Total_K]
 unfold Xcz
 simp only[Bool.cond_eq_ite,decide_eq_true_eq,Xbj]
 by_cases c:(l.len:Int)>6
 ·rw[if_pos c,if_pos (by omega)];rfl
 ·rw[if_neg c,if_neg (by omega)]
  have:=totalB_sp hl hs hz l.len 0 (by omega) N 1 (by omega) (by omega) (by omega)
  simpa using this
theorem mayB_sp {h:H}{l:T}(hl:l.len≤9223372036854775807)(hn:∀ s,Xtn h s=rb (nameE s))(hf:∀ s,Xto h l s=ri (findE (Xaa l) s))(hs:∀ a b x y z,Xku h a b x y z=ri (Xdt ⟨a,b,x,y,z⟩))(ht:Xkn h l=ri (Xcz (Xaa l))):
  ∀ (m i:Nat),i+m=l.len→∀ N,m<N→Xmk.B0 h N l l (l.len:Int) (i:Int)=ri (Xln (Xaa l) ((Xaa l).drop i) i)
 | 0,i,hi,N,hN=>by
  obtain ⟨N,rfl⟩:∃ M,N=M+1:=⟨N-1,by omega⟩
  have e:(Xaa l).drop i=[]:=by unfold Xaa;exact Xjy _ (by omega)
  rw[Xmk.B0_eq,e,ht,Xfd,Xal,int_i]
  simp only[Bool.cond_eq_ite,decide_eq_true_eq,beq_iff_eq,Xln]
  rw[if_neg (by omega)]
  split<;>rfl
 | m+1,i,hi,N,hN=>by
  obtain ⟨N,rfl⟩:∃ M,N=M+1:=⟨N-1,by omega⟩
  have hlt:i<l.len:=by omega
  have e:(Xaa l).drop i=vaAt l i::(Xaa l).drop (i+1):=by unfold Xaa;exact Xgg _ hlt
  have e1:(⟨(l.el (i:Int).toNat 0).str,(l.el (i:Int).toNat 1).bool,(l.el (i:Int).toNat 2).int,(l.el (i:Int).toNat 3).int,(l.el (i:Int).toNat 4).int⟩:Va)=vaAt l i:=by rw[Int.toNat_natCast];rfl
  have e2:(l.el (i:Int).toNat 0).str=(vaAt l i).name:=by rw[Int.toNat_natCast];rfl
  rw[Xmk.B0_eq,e,hn,Xor,Xal,Xmq,hf,Xfd,Xal,int_i,hs,Xfd,Xal,int_i,e1,e2]
  simp only[Bool.cond_eq_ite,decide_eq_true_eq,Bool.and_eq_true,Xln,bne_iff_ne,ne_eq]
  rw[if_pos (by omega),if_pos (by omega),Xaq (a:=(i:Int)+1) (by omega) (by omega)]
  cases c1:nameE (vaAt l i).name with
  | false=>rfl
  | true=>
   simp only[Bool.not_true,Bool.false_eq_true,if_false,Bool.true_eq_false]
   by_cases c2:findE (Xaa l) (vaAt l i).name<(i:Int)
   ·simp only[c2,if_true];rfl
   ·simp only[c2,if_false]
    by_cases c3:Xdt (vaAt l i)=0
    ·simp only[c3,not_true_eq_false,if_false]
     exact mayB_sp hl hn hf hs ht m (i+1) (by omega) N (by omega)
    ·simp only[c3,not_false_eq_true,if_true];rfl
theorem MayV_sp (l:T)(hl:l.len≤9223372036854775807):Ev fun N=>Xnv (K N) l=ri (mayV (Xaa l)):=by
 refine Ev.step (Ev.imp2 (Ev.imp4 name_sp (Find_sp l hl) sorted_sp (Total_sp l hl) fun N h1 h2 h3 h4=>(⟨h1,h2,h3,h4⟩:_∧_∧_∧_)) (Ev.ge (l.len+1)) fun N h hN=> ?_)
 rw[C_dom_May_K]
 have:=mayB_sp hl h.1 h.2.1 h.2.2.1 h.2.2.2 l.len 0 (by omega) N (by omega)
 simpa [mayV] using this
def Ints (t:T)(l:List Int):Prop:=t.len=l.length∧∀ i v,l[i]? =some v→(t.el i 0).int=v
theorem Ints.intsOf {t:T}{l:List Int}(h:Ints t l):intsOf t=l:=by
 apply List.ext_getElem?
 intro i
 by_cases hi:i<t.len
 ·rw[intsOf_get t hi]
  have h1:i<l.length:=by rw[←h.1];exact hi
  rw[List.getElem?_eq_getElem h1,h.2 i _ (List.getElem?_eq_getElem h1)]
 ·rw[List.getElem?_eq_none (by rw[intsOf_len];omega),List.getElem?_eq_none (by rw[←h.1];omega)]
theorem Ints.shift {t:T}{l:List Int}(h:Ints t l):Ints (T.l t.len fun i j=>t.el (0+i) j) l:=⟨h.1,fun i v hv=>by show (t.el (0+i) 0).int=v;rw[Nat.zero_add];exact h.2 i v hv⟩
theorem valuesB_sp {h:H}{l:T}(hl:l.len≤6)(hz:∀ a b x y z,Xeu h a b x y z=ri (sizeV ⟨a,b,x,y,z⟩))(hw:∀ a b x y z,Xka h a b x y z=ri (lowV ⟨a,b,x,y,z⟩))(hp:∀ v∈Xaa l,Xdt v=0∧0<sizeV v):
  ∀ (m i:Nat),i+m=l.len→∀ N s g,m<N→0≤s→s≤512→∃ g',Xgs.B0 h N i s l (l.len:Int) (i:Int) g=some (lookR [(0,T.l l.len g'),(1,.b true)])∧(∀ j c,j<i→g' j c=g j c)∧(∀ j v,(Xap ((Xaa l).drop i) s)[j]? =some v→(g' (i+j) 0).int=v)
 | 0,i,hi,N,s,g,hN,h0,h1=>by
  obtain ⟨N,rfl⟩:∃ M,N=M+1:=⟨N-1,by omega⟩
  have e:(Xaa l).drop i=[]:=by unfold Xaa;exact Xjy _ (by omega)
  have hil:i=l.len:=by omega
  refine ⟨g,?_,fun _ _ _=>rfl,fun j v hj=>by rw[e] at hj;simp[Xap] at hj⟩
  rw[Xgs.B0_eq]
  simp only[Bool.cond_eq_ite,decide_eq_true_eq]
  rw[if_neg (by omega),hil]
 | m+1,i,hi,N,s,g,hN,h0,h1=>by
  obtain ⟨N,rfl⟩:∃ M,N=M+1:=⟨N-1,by omega⟩
  have hlt:i<l.len:=by omega
  have e:(Xaa l).drop i=vaAt l i::(Xaa l).drop (i+1):=by unfold Xaa;exact Xgg _ hlt
  have hmem:vaAt l i∈Xaa l:=List.mem_of_getElem? (Xds l hlt)
  obtain ⟨hso,hpos⟩:=hp _ hmem
  have hsz:=Xfx (vaAt l i)
  have hlow: -1000≤lowV (vaAt l i)∧lowV (vaAt l i)≤1000:=by
   unfold lowV
   split
   ·omega
   ·rename_i h2
    unfold sizeV at hpos
    rw[if_neg h2] at hpos
    split at hpos
    ·omega
    ·omega
  have hmod0:0≤Int.tmod s (sizeV (vaAt l i)):=Int.tmod_nonneg _ h0
  have hmod1:Int.tmod s (sizeV (vaAt l i))<sizeV (vaAt l i):=Int.tmod_lt_of_pos _ hpos
  have hdiv0:0≤Int.tdiv s (sizeV (vaAt l i)):=Int.tdiv_nonneg h0 (by omega)
  have hdiv1:Int.tdiv s (sizeV (vaAt l i))≤s:=by
   rw[Int.tdiv_eq_ediv_of_nonneg h0]
   exact Int.ediv_le_self _ h0
  rw[Xgs.B0_eq,hz,Xfd,Xal,int_i,hw,Xfd,Xal,int_i]
  have e1:(⟨(l.el (i:Int).toNat 0).str,(l.el (i:Int).toNat 1).bool,(l.el (i:Int).toNat 2).int,(l.el (i:Int).toNat 3).int,(l.el (i:Int).toNat 4).int⟩:Va)=vaAt l i:=by rw[Int.toNat_natCast];rfl
  rw[e1]
  simp only[Bool.cond_eq_ite,decide_eq_true_eq,Bool.and_eq_true,Bool.not_eq_true',beq_eq_false_iff_ne,ne_eq]
  rw[if_pos (by omega),if_pos (by omega),if_pos (by omega),if_pos (by omega),if_pos (by omega),Xaq (a:=(i:Int)+1) (by omega) (by omega),Xaq (a:=Int.tdiv s (sizeV (vaAt l i))) (by omega) (by omega)]
  obtain ⟨g',h2,h3,h4⟩:=valuesB_sp hl hz hw hp m (i+1) (by omega) N (Int.tdiv s (sizeV (vaAt l i))) (fun q j=>(bif Nat.blt q i then (g q j) else ((([[(T.i (IntKind.wrap .i64 (lowV (vaAt l i)+Int.tmod s (sizeV (vaAt l i)))))]]:List (List T)).getD (0+(q-i)) []).getD j (.b false)))) (by omega) hdiv0 (by omega)
  simp only[Bool.cond_eq_ite] at h2
  refine ⟨g',h2,fun j c hj=> ?_,fun j v hj=> ?_⟩
  ·rw[h3 j c (by omega)]
   have:Nat.blt j i=true:=by rw[Nat.blt_eq];exact hj
   simp only[this,cond_true]
  ·rw[e] at hj
   simp only[Xap] at hj
   cases j with
   | zero=>
    obtain rfl:lowV (vaAt l i)+Int.tmod s (sizeV (vaAt l i))=v:=by simpa using hj
    rw[Nat.add_zero,h3 i 0 (by omega)]
    have:Nat.blt i i=false:=by
     cases hb:Nat.blt i i with
     | false=>rfl
     | true=>rw[Nat.blt_eq] at hb;omega
    simp only[this,cond_false,Nat.sub_self]
    show IntKind.wrap .i64 _=_
    rw[Xaq (by omega) (by omega)]
   | succ j=>
    have:=h4 j v (by simpa using hj)
    rwa [show i+(j+1)=i+1+j by omega]
theorem Xwc (l:T)(hl:l.len≤9223372036854775807):Ev fun N=>∀ s,∃ t,Xjg (K N) l s=some (lookR [(0,t),(1,.b (Xcc (Xaa l) s))])∧(Xcc (Xaa l) s=true→Ints t (Xap (Xaa l) s)):=by
 refine Ev.step (Ev.imp2 (Ev.imp4 (MayV_sp l hl) (Total_sp l hl) Size_sp low_sp fun N h1 h2 h3 h4=>(⟨h1,h2,h3,h4⟩:_∧_∧_∧_)) (Ev.ge (l.len+1)) fun N h hN s=> ?_)
 obtain ⟨hm,ht,hz,hw⟩:=h
 rw[C_dom_Values_K,hm,Xfd,Xal,int_i,ht,Xfd,Xal,int_i]
 simp only[Bool.cond_eq_ite,decide_eq_true_eq,bne_iff_ne,ne_eq]
 unfold Xcc
 by_cases c1:mayV (Xaa l)=0
 ·rw[if_neg (by simpa using c1)]
  by_cases c2:s<0
  ·rw[if_pos c2]
   have:decide (mayV (Xaa l)=0∧0≤s∧s<Xcz (Xaa l))=false:=by simp;omega
   rw[this]
   exact ⟨_,rfl,fun h=>by cases h⟩
  ·rw[if_neg c2]
   by_cases c3:s≥Xcz (Xaa l)
   ·rw[if_pos c3]
    have:decide (mayV (Xaa l)=0∧0≤s∧s<Xcz (Xaa l))=false:=by simp;omega
    rw[this]
    exact ⟨_,rfl,fun h=>by cases h⟩
   ·rw[if_neg c3]
    have h5:decide (mayV (Xaa l)=0∧0≤s∧s<Xcz (Xaa l))=true:=by simp;omega
    rw[h5]
    have htot:=Xfa c1
    have hlen:=Xhl htot
    rw[Xbj] at hlen
    have hr:=Xgy (Xaa l)
    obtain ⟨g',h6,_,h7⟩:=valuesB_sp hlen hz hw (Xkq htot) l.len 0 (by omega) N s (fun _ _=> .b false) (by omega) (by omega) (by omega)
    refine ⟨_,h6,fun _=>⟨?_,fun i v hv=> ?_⟩⟩
    ·rw[Xtw,Xbj];rfl
    ·have:=h7 i v (by simpa using hv)
     rw[Nat.zero_add] at this
     exact this
 ·rw[if_pos (by simpa using c1)]
  have:decide (mayV (Xaa l)=0∧0≤s∧s<Xcz (Xaa l))=false:=by simp[c1]
  rw[this]
  exact ⟨_,rfl,fun h=>by cases h⟩
end Go.Proofs.YtnjandhaeojieaaGreat
