/- What package expr's functions come to. -/
import Derived.Test.YtpjedhbfkfobcaaGreatDoorMo4
import Derived.Test.YtpjedhbfkfobcaaGreatDoorFnA
set_option linter.unusedVariables false
set_option linter.unusedSimpArgs false
namespace Go.Proofs.YtpjedhbfkfobcaaGreatDoor
open Go.AM
theorem Kids_sp:Ev fun n=>∀ op,Xrr (K n) op=ri (kidsN op):=by
 refine ⟨9,fun n hn op=> ?_⟩
 obtain ⟨m,rfl⟩:∃ m,n=m+2:=⟨n-2,by omega⟩
 rw[C_expr_Kids_K,Xhf.B0_eq]
 unfold kidsN ri
 simp only[Bool.cond_eq_ite,decide_eq_true_eq,beq_iff_eq]
 repeat' split
 all_goals first|rfl|(exfalso;omega)
theorem number_sp:Ev fun N=>∀ op n k,Xof (K N) op n k=rb (Xgw op n):=by
 refine ⟨9,fun N hn op n k=> ?_⟩
 obtain ⟨m,rfl⟩:∃ m,N=m+2:=⟨N-2,by omega⟩
 rw[C_expr_number_K,Xex.B0_eq,Xex.B0_eq]
 unfold Xgw
 simp only[Bool.cond_eq_ite,decide_eq_true_eq,beq_iff_eq]
 repeat' split
 all_goals first
  | rfl
  | (exfalso;omega)
  | (refine congrArg rb ?_;rw[Bool.eq_iff_iff];simp only[decide_eq_true_eq,beq_iff_eq,Bool.false_eq_true,eq_self_iff_true,true_iff,false_iff];omega)
theorem goesB_sp {h:H}{k:T}(hk:KW k){d:Int}(h0:0≤d)(h1:d≤12)
  (hc:∀ i,i<k.len→∀ op m n b,0≤n→n≤60→Xga h op m (k.el i 2) (d+1) n b=rib (goesE (.mk op m (Xab (k.el i 2))) (d+1) n b).1 (goesE (.mk op m (Xab (k.el i 2))) (d+1) n b).2):
  ∀ (m i:Nat),i+m=k.len→∀ (N:Nat) (n:Int) (b:Bool),m<N→0≤n→n≤61→Xde.B0 h N d k (k.len:Int) (i:Int) n b=rib (goesL ((Xab k).drop i) d n b).1 (goesL ((Xab k).drop i) d n b).2
 | 0,i,hi,N,n,b,hN,hn0,hn1=>by
  obtain ⟨N,rfl⟩:∃ M,N=M+1:=⟨N-1,by omega⟩
  rw[Xde.B0_eq,List.drop_of_length_le (by rw[Xbd];omega)]
  simp only[Bool.cond_eq_ite,decide_eq_true_eq]
  rw[if_neg (by omega)]
  rfl
 | m+1,i,hi,N,n,b,hN,hn0,hn1=>by
  obtain ⟨N,rfl⟩:∃ M,N=M+1:=⟨N-1,by omega⟩
  have hlt:i<k.len:=by omega
  have hlen:=hk.len
  rw[Xde.B0_eq,Xca k i hlt]
  simp only[Bool.cond_eq_ite,decide_eq_true_eq,Bool.and_eq_true,goesL]
  rw[if_pos (by omega),if_pos (by omega)]
  by_cases hn:60<n
  ·rw[if_pos hn,if_pos hn];rfl
  ·rw[if_neg hn,if_neg hn,Xbh (by omega) (by omega),Int.toNat_natCast,hc i hlt _ _ n b hn0 (by omega),rib_bind,Xar,Xno,int_i,Xmw,Xbh (by omega) (by omega)]
   have hr:=goesE_range (exAt k i) (d+1) n b hn0 (by omega)
   exact goesB_sp hk h0 h1 hc m (i+1) (by omega) N _ _ (by omega) (by unfold exAt at hr;omega) hr.2
theorem goes_sp:∀ k,KW k→∀ d:Int,0≤d→d≤13→Ev fun N=>∀ op m n b,0≤n→n≤60→Xga (K N) op m k d n b=rib (goesE (.mk op m (Xab k)) d n b).1 (goesE (.mk op m (Xab k)) d n b).2:=by
 refine Xha fun k ih hk d h0 h1=> ?_
 by_cases hd:12<d
 ·refine ⟨1,fun N hN op m n b hn0 hn1=> ?_⟩
  obtain ⟨N,rfl⟩:∃ M,N=M+1:=⟨N-1,by omega⟩
  rw[Xkz]
  simp only[Bool.cond_eq_ite,decide_eq_true_eq,goesE]
  rw[if_pos (by omega),if_pos hd]
  rfl
 ·refine Ev.step ((Ev.all (k:=k.len) fun i hi=>ih i hi (hk.el hi) (d+1) (by omega) (by omega)).imp2 (Ev.ge (k.len+1)) fun N hc hN op m n b hn0 hn1=> ?_)
  rw[Xkz]
  simp only[Bool.cond_eq_ite,decide_eq_true_eq,goesE]
  rw[if_neg (by omega),if_neg hd,Xbh (by omega) (by omega)]
  by_cases hn:60<n+1
  ·rw[if_pos (by omega),if_pos hn];rfl
  ·rw[if_neg (by omega),if_neg hn]
   have:=goesB_sp hk h0 (by omega) hc k.len 0 (by omega) N (n+1) b (by omega) (by omega) (by omega)
   simpa using this
theorem counted_sp (k:T)(hk:KW k):Ev fun N=>∀ op m,Xmc (K N) op m k=rib (nodesE (.mk op m (Xab k))) (goesE (.mk op m (Xab k)) 1 0 false).2:=
 Ev.step ((goes_sp k hk 1 (by omega) (by omega)).imp fun N h op m=>by
  rw[C_expr_counted_K,h op m 0 false (by omega) (by omega)];rfl)
theorem light_sp (k:T)(hk:KW k):Ev fun N=>∀ op m,Xju (K N) op m k=rb (Xfi (.mk op m (Xab k))):=
 Ev.step ((counted_sp k hk).imp fun N h op m=>by
  rw[C_expr_light_K,h,rib_bind,Xar,Xno,int_i,Xmw]
  simp only[Bool.cond_eq_ite,decide_eq_true_eq,Xfi]
  split
  ·rename_i hle;simp[hle,rb]
  ·rename_i hle;simp[hle,rb])
theorem soundI_sp {h:H}{k:T}(hk:KW k)(hc:∀ i,i<k.len→∀ op m,Xjm h op m (k.el i 2)=rb (!Xed (.mk op m (Xab (k.el i 2))))):
  ∀ (m i:Nat),i+m=k.len→∀ (N:Nat),m<N→∃ x,Xax.B0 h N k (k.len:Int) (i:Int)=ri x∧decide (x≥0)= !Xhr ((Xab k).drop i)
 | 0,i,hi,N,hN=>by
  obtain ⟨N,rfl⟩:∃ M,N=M+1:=⟨N-1,by omega⟩
  refine ⟨-1,?_,?_⟩
  ·rw[Xax.B0_eq]
   simp only[Bool.cond_eq_ite,decide_eq_true_eq]
   rw[if_neg (by omega)]
   rfl
  ·rw[List.drop_of_length_le (by rw[Xbd];omega)];rfl
 | m+1,i,hi,N,hN=>by
  obtain ⟨N,rfl⟩:∃ M,N=M+1:=⟨N-1,by omega⟩
  have hlt:i<k.len:=by omega
  have hlen:=hk.len
  rw[Xax.B0_eq,Xca k i hlt]
  simp only[Bool.cond_eq_ite,decide_eq_true_eq,Bool.and_eq_true,Xhr]
  rw[if_pos (by omega),if_pos (by omega),Int.toNat_natCast,hc i hlt,Xlv,Xar,Xmw,Xbh (by omega) (by omega)]
  show ∃ x,(if (!Xed (exAt k i))=true then _ else _)=ri x∧_
  cases hs:Xed (exAt k i) with
  | false=>exact ⟨i,rfl,by simp⟩
  | true=>
   obtain ⟨x,h1,h2⟩:=soundI_sp hk hc m (i+1) (by omega) N (by omega)
   exact ⟨x,by rw[if_neg (by simp)];exact h1,by rw[h2];rfl⟩
theorem sound_sp:∀ k,KW k→Ev fun N=>∀ op m,Xlt (K N) op m k=rb (Xed (.mk op m (Xab k))):=by
 refine Xha fun k ih hk=> ?_
 have h1:Ev fun N=>∀ i,i<k.len→∀ op m,Xjm (K N) op m (k.el i 2)=rb (!Xed (.mk op m (Xab (k.el i 2)))):=
  Ev.all fun i hi=>Ev.step ((ih i hi (hk.el hi)).imp fun N h op m=>by rw[C_expr_sound_1_K,h];rfl)
 have h2:Ev fun N=>∃ x,Xdf (K N) k=ri x∧decide (x≥0)= !Xhr (Xab k):=
  Ev.step ((h1.imp2 (Ev.ge (k.len+1))) fun N h hN=>by
   rw[Xgy]
   have:=soundI_sp hk h k.len 0 (by omega) N (by omega)
   simpa using this)
 have h3:Ev fun N=>Xcu (K N) k=rb (!Xhr (Xab k)):=
  Ev.step (h2.imp fun N ⟨x,h,hx⟩=>by
   rw[Xgb,h,Xgv,Xar,int_i,hx];rfl)
 refine Ev.step (Ev.imp3 h3 Kids_sp number_sp fun N h3 hK hn op m=> ?_)
 rw[C_expr_sound_K,hK,Xgv,Xar,int_i,hn,Xlv,Xar,Xmw,h3,Xlv,Xar,Xmw]
 simp only[Bool.cond_eq_ite,decide_eq_true_eq,beq_iff_eq,Xed,Xbd,ge_iff_le]
 by_cases c1:0≤kidsN op
 ·rw[if_pos c1]
  by_cases c2:(k.len:Int)=kidsN op
  ·rw[if_pos c2]
   cases c3:Xgw op m with
   | true=>simp[c1,c2,rb]
   | false=>simp[c1,c2,rb]
  ·rw[if_neg c2];simp[c1,c2,rb]
 ·rw[if_neg c1];simp[c1,rb]
theorem May_sp (k:T)(hk:KW k):Ev fun N=>∀ op m,Xql (K N) op m k=ri (mayE (.mk op m (Xab k))):=
 Ev.step ((light_sp k hk).imp2 (sound_sp k hk) fun N h1 h2 op m=>by
  rw[C_expr_May_K,h1,Xlv,Xar,Xmw,h2,Xlv,Xar,Xmw]
  unfold mayE
  cases Xfi (.mk op m (Xab k))<;>cases Xed (.mk op m (Xab k))<;>rfl)
end Go.Proofs.YtpjedhbfkfobcaaGreatDoor
set_option linter.unusedVariables false
set_option linter.unusedSimpArgs false
namespace Go.Proofs.YtpjedhbfkfobcaaGreatDoor
open Go.AM
theorem indexS_sp {h:H}{l:T}(hl:l.len≤9223372036854775807)(s:ByteArray):∀ (m i:Nat),i+m=l.len→∀ N,m<N→∃ x,Xbw.B0 h N l s (l.len:Int) (i:Int)=ri x∧decide (x≥0)=((strsOf l).drop i).any fun w=>strEq s w
 | 0,i,hi,N,hN=>by
  obtain ⟨N,rfl⟩:∃ M,N=M+1:=⟨N-1,by omega⟩
  refine ⟨-1,?_,?_⟩
  ·rw[Xbw.B0_eq]
   simp only[Bool.cond_eq_ite,decide_eq_true_eq]
   rw[if_neg (by omega)]
   rfl
  ·unfold strsOf;rw[Xjo _ (by omega)];rfl
 | m+1,i,hi,N,hN=>by
  obtain ⟨N,rfl⟩:∃ M,N=M+1:=⟨N-1,by omega⟩
  have hlt:i<l.len:=by omega
  have ih:=indexS_sp (h:=h) hl s m (i+1) (by omega) N (by omega)
  unfold strsOf at ih ⊢
  rw[Xbw.B0_eq,Xdy _ hlt]
  simp only[Bool.cond_eq_ite,decide_eq_true_eq,Bool.and_eq_true,List.any_cons]
  rw[if_pos (by omega),if_pos (by omega),Int.toNat_natCast,Xbh (by omega) (by omega)]
  cases hs:strEq s (l.el i 0).str with
  | true=>exact ⟨i,rfl,by simp⟩
  | false=>
   obtain ⟨x,h1,h2⟩:=ih
   exact ⟨x,by rw[if_neg (by simp)];exact h1,by rw[h2];rfl⟩
theorem containsS_sp (l:T)(hl:l.len≤9223372036854775807):Ev fun N=>∀ s,Xfu (K N) l s=rb ((strsOf l).any fun w=>strEq s w):=
 Ev.step (Ev.step ((Ev.ge (l.len+1)).imp fun N hN s=>by
  obtain ⟨x,h1,h2⟩:=indexS_sp (h:=K N) hl s l.len 0 (by omega) N (by omega)
  rw[Xla,Xnu]
  have h1:Xbw.B0 (K N) N l s (l.len:Int) 0=ri x:=h1
  rw[h1,Xgv,Xar,int_i,h2]
  rfl))
theorem nameB_sp {h:H}{s:ByteArray}(hs:s.size≤16):∀ (m i:Nat),i+m=s.size→∀ N,2*m<N→Xdd.B0 h N s (s.size:Int) (i:Int)=rb (Xee s i m)
 | 0,i,hi,N,hN=>by
  obtain ⟨N,rfl⟩:∃ M,N=M+1:=⟨N-1,by omega⟩
  rw[Xdd.B0_eq]
  simp only[Bool.cond_eq_ite,decide_eq_true_eq]
  rw[if_neg (by omega)]
  rfl
 | m+1,i,hi,N,hN=>by
  obtain ⟨N,rfl⟩:∃ M,N=M+2:=⟨N-2,by omega⟩
  have ih:=nameB_sp (h:=h) hs m (i+1) (by omega) N (by omega)
  rw[Xdd.B0_eq,Xdd.B1_eq,Xbh (by omega) (by omega)]
  have ih':Xdd.B0 h N s (s.size:Int) ((i:Int)+1)=rb (Xee s (i+1) m):=ih
  rw[ih',Int.toNat_natCast]
  simp only[Bool.cond_eq_ite,decide_eq_true_eq,Bool.and_eq_true,beq_iff_eq,Xee]
  rw[if_pos (by omega),if_pos (by omega)]
  generalize bt s i=c
  have e:∀ b:Bool,Xhy i c=b→(Xhy i c&&Xee s (i+1) m)=(b&&Xee s (i+1) m):=fun b hb=>by rw[hb]
  have yes:Xhy i c=true↔(97≤c∧c≤122∨0<i∧(48≤c∧c≤57∨c=95)):=by unfold Xhy;simp
  have no:Xhy i c=false↔¬(97≤c∧c≤122∨0<i∧(48≤c∧c≤57∨c=95)):=by rw[←yes];simp
  repeat' split
  all_goals first
   | (rw[e true (yes.2 (by omega))];rfl)
   | (rw[e false (no.2 (by omega))];rfl)
theorem words_sp:Ev fun N=>Xrs (K N)=some (lookR [(0,(T.l 18 fun i j=>((words.map fun w=>[T.s w]).getD i []).getD j (.b false)))]):=
 Ev.step (Ev.of fun N=>C_dom_words_K N)
theorem name_sp:Ev fun N=>∀ s,Xqm (K N) s=rb (nameE s):=by
 refine Ev.step (Ev.imp3 words_sp (containsS_sp (T.l 18 fun i j=>((words.map fun w=>[T.s w]).getD i []).getD j (.b false)) (by decide)) (Ev.ge 40) fun N hw hc hN s=> ?_)
 rw[C_dom_name_K]
 unfold nameE
 simp only[Bool.cond_eq_ite,decide_eq_true_eq]
 by_cases h1:(s.size:Int)<1
 ·rw[if_pos h1]
  have:decide (1≤s.size∧s.size≤16)=false:=by simp;omega
  rw[this];rfl
 ·rw[if_neg h1]
  by_cases h2:(s.size:Int)>16
  ·rw[if_pos h2]
   have:decide (1≤s.size∧s.size≤16)=false:=by simp;omega
   rw[this];rfl
  ·rw[if_neg h2]
   have h3:decide (1≤s.size∧s.size≤16)=true:=by simp;omega
   rw[h3,hw,some_bind,Xar]
   have e1:(T.l ((T.l 18 fun i j=>((words.map fun w=>[T.s w]).getD i []).getD j (.b false)).len) fun i j=>(T.l 18 fun i j=>((words.map fun w=>[T.s w]).getD i []).getD j (.b false)).el (0+i) j)=(T.l 18 fun i j=>((words.map fun w=>[T.s w]).getD i []).getD j (.b false)):=by
    show T.l 18 _=T.l 18 _
    congr 1
    funext i j
    show ((words.map fun w=>[T.s w]).getD (0+i) []).getD j (.b false)=_
    rw[Nat.zero_add]
   rw[e1,hc s,Xlv,Xar,Xmw]
   have e2:(strsOf (T.l 18 fun i j=>((words.map fun w=>[T.s w]).getD i []).getD j (.b false)))=words:=rfl
   rw[e2]
   show (if (wordE s)=true then _ else _)=_
   cases hwd:wordE s with
   | true=>rfl
   | false=>
    rw[if_neg (by simp)]
    have:=nameB_sp (h:=K N) (s:=s) (by omega) s.size 0 (by omega) N (by omega)
    simpa using this
theorem Find1_sp (N:Nat)(a:ByteArray)(b:Bool)(x y z:Int)(c:Nat→T):Xps (K (N+1)) a b x y z c=rb (strEq a (c 0).str):=C_dom_Find_1_K N a b x y z c
theorem findI_sp {N:Nat}{l:T}(hl:l.len≤9223372036854775807)(c:Nat→T):∀ (m i:Nat),i+m=l.len→∀ M,m<M→Xay.B0 (K (N+1)) M l c (l.len:Int) (i:Int)=ri (Xhp (c 0).str ((Xaa l).drop i) i)
 | 0,i,hi,M,hM=>by
  obtain ⟨M,rfl⟩:∃ M',M=M'+1:=⟨M-1,by omega⟩
  rw[Xay.B0_eq]
  unfold Xaa
  rw[Xjo _ (by omega)]
  simp only[Bool.cond_eq_ite,decide_eq_true_eq]
  rw[if_neg (by omega)]
  rfl
 | m+1,i,hi,M,hM=>by
  obtain ⟨M,rfl⟩:∃ M',M=M'+1:=⟨M-1,by omega⟩
  have hlt:i<l.len:=by omega
  have ih:=findI_sp (N:=N) hl c m (i+1) (by omega) M (by omega)
  unfold Xaa at ih ⊢
  rw[Xay.B0_eq,Xdy _ hlt,Find1_sp,Xlv,Xar,Xmw]
  simp only[Bool.cond_eq_ite,decide_eq_true_eq,Bool.and_eq_true,Xhp]
  rw[if_pos (by omega),if_pos (by omega),Int.toNat_natCast,Xbh (by omega) (by omega)]
  show (if strEq (vaAt l i).name (c 0).str=true then _ else _)=_
  split
  ·rfl
  ·exact ih
theorem Find_sp (l:T)(hl:l.len≤9223372036854775807):Ev fun N=>∀ s,Xqn (K N) l s=ri (findE (Xaa l) s):=by
 refine ⟨l.len+5,fun N hN s=> ?_⟩
 obtain ⟨N,rfl⟩:∃ M,N=M+3:=⟨N-3,by omega⟩
 rw[C_dom_Find_K,Xhq]
 have:=findI_sp (N:=N) hl (fun j=>([T.s s]:List T).getD j (.b false)) l.len 0 (by omega) (N+1) (by omega)
 have e:((([T.s s]:List T).getD 0 (.b false))).str=s:=rfl
 simp only[e] at this
 have this:Xay.B0 (K (N+1)) (N+1) l (fun j=>([T.s s]:List T).getD j (.b false)) (l.len:Int) 0=ri (Xhp s ((Xaa l).drop 0) 0):=this
 rw[this]
 rfl
theorem Size_sp:Ev fun N=>∀ a b x y z,Xil (K N) a b x y z=ri (sizeV ⟨a,b,x,y,z⟩):=by
 refine ⟨2,fun N hN a b x y z=> ?_⟩
 obtain ⟨N,rfl⟩:∃ M,N=M+2:=⟨N-2,by omega⟩
 rw[C_dom_Size_K,Xir.B0_eq]
 unfold sizeV
 simp only[Bool.cond_eq_ite,decide_eq_true_eq,beq_iff_eq]
 repeat' split
 all_goals first
  | rfl
  | (exfalso;omega)
  | (show ri _=ri _;congr 1;rw[Xbh (a:=z-y) (by omega) (by omega),Xbh (by omega) (by omega)])
theorem sorted_sp:Ev fun N=>∀ a b x y z,Xik (K N) a b x y z=ri (Xdu ⟨a,b,x,y,z⟩):=by
 refine Ev.step (Size_sp.imp2 (Ev.ge 2) fun N hS hN a b x y z=> ?_)
 obtain ⟨N,rfl⟩:∃ M,N=M+1:=⟨N-1,by omega⟩
 rw[C_dom_sorted_K]
 simp only[hS,Xgv,Xar,int_i,Xdc.B0_eq]
 unfold Xdu
 simp only[Bool.cond_eq_ite,decide_eq_true_eq,beq_iff_eq,bne_iff_ne,ne_eq]
 generalize sizeV ⟨a,b,x,y,z⟩=q
 repeat' split
 all_goals first
  | rfl
  | (exfalso;simp_all;done)
  | (exfalso;omega)
end Go.Proofs.YtpjedhbfkfobcaaGreatDoor
set_option linter.unusedVariables false
set_option linter.unusedSimpArgs false
namespace Go.Proofs.YtpjedhbfkfobcaaGreatDoor
open Go.AM
theorem totalB_sp {h:H}{l:T}(hl:l.len≤9223372036854775807)(hs:∀ a b x y z,Xik h a b x y z=ri (Xdu ⟨a,b,x,y,z⟩))(hz:∀ a b x y z,Xil h a b x y z=ri (sizeV ⟨a,b,x,y,z⟩)):
  ∀ (m i:Nat),i+m=l.len→∀ N n,m<N→0≤n→n≤512→Xgn.B0 h N n l (l.len:Int) (i:Int)=ri (Xio ((Xaa l).drop i) n)
 | 0,i,hi,N,n,hN,h0,h1=>by
  obtain ⟨N,rfl⟩:∃ M,N=M+1:=⟨N-1,by omega⟩
  rw[Xgn.B0_eq]
  unfold Xaa
  rw[Xjo _ (by omega)]
  simp only[Bool.cond_eq_ite,decide_eq_true_eq]
  rw[if_neg (by omega)]
  rfl
 | m+1,i,hi,N,n,hN,h0,h1=>by
  obtain ⟨N,rfl⟩:∃ M,N=M+1:=⟨N-1,by omega⟩
  have hlt:i<l.len:=by omega
  have hr:=Xnh (vaAt l i)
  have hm0:0≤n*sizeV (vaAt l i):=Int.mul_nonneg h0 hr.1
  have hm1:n*sizeV (vaAt l i)≤512*2001:=Int.le_trans (Int.mul_le_mul_of_nonneg_left hr.2 h0) (Int.mul_le_mul_of_nonneg_right h1 (by omega))
  have e:(Xaa l).drop i=vaAt l i::(Xaa l).drop (i+1):=by unfold Xaa;exact Xdy _ hlt
  have e1:(⟨(l.el (i:Int).toNat 0).str,(l.el (i:Int).toNat 1).bool,(l.el (i:Int).toNat 2).int,(l.el (i:Int).toNat 3).int,(l.el (i:Int).toNat 4).int⟩:Va)=vaAt l i:=by rw[Int.toNat_natCast];rfl
  rw[Xgn.B0_eq,hs,Xgv,Xar,int_i,hz,Xgv,Xar,int_i,e,e1]
  simp only[Bool.cond_eq_ite,decide_eq_true_eq,Bool.and_eq_true,Xio,bne_iff_ne,ne_eq]
  rw[if_pos (by omega),if_pos (by omega),Xbh (a:=(i:Int)+1) (by omega) (by omega),Xbh (a:=n*sizeV (vaAt l i)) (by omega) (by omega)]
  by_cases c1:Xdu (vaAt l i)=0
  ·simp only[c1,not_true_eq_false,if_false,gt_iff_lt]
   by_cases c2:512<n*sizeV (vaAt l i)
   ·simp only[c2,if_true];rfl
   ·simp only[c2,if_false]
    exact totalB_sp hl hs hz m (i+1) (by omega) N _ (by omega) hm0 (by omega)
  ·simp only[c1,not_false_eq_true,if_true];rfl
theorem Total_sp (l:T)(hl:l.len≤9223372036854775807):Ev fun N=>Xog (K N) l=ri (Xlc (Xaa l)):=by
 refine Ev.step (Ev.imp3 sorted_sp Size_sp (Ev.ge (l.len+1)) fun N hs hz hN=> ?_)
 rw[C_dom_Total_K]
 unfold Xlc
 simp only[Bool.cond_eq_ite,decide_eq_true_eq,Xcc]
 by_cases c:(l.len:Int)>6
 ·rw[if_pos c,if_pos (by omega)];rfl
 ·rw[if_neg c,if_neg (by omega)]
  have:=totalB_sp hl hs hz l.len 0 (by omega) N 1 (by omega) (by omega) (by omega)
  simpa using this
theorem mayB_sp {h:H}{l:T}(hl:l.len≤9223372036854775807)(hn:∀ s,Xqm h s=rb (nameE s))(hf:∀ s,Xqn h l s=ri (findE (Xaa l) s))(hs:∀ a b x y z,Xik h a b x y z=ri (Xdu ⟨a,b,x,y,z⟩))(ht:Xog h l=ri (Xlc (Xaa l))):
  ∀ (m i:Nat),i+m=l.len→∀ N,m<N→Xjw.B0 h N l l (l.len:Int) (i:Int)=ri (Xgd (Xaa l) ((Xaa l).drop i) i)
 | 0,i,hi,N,hN=>by
  obtain ⟨N,rfl⟩:∃ M,N=M+1:=⟨N-1,by omega⟩
  have e:(Xaa l).drop i=[]:=by unfold Xaa;exact Xjo _ (by omega)
  rw[Xjw.B0_eq,e,ht,Xgv,Xar,int_i]
  simp only[Bool.cond_eq_ite,decide_eq_true_eq,beq_iff_eq,Xgd]
  rw[if_neg (by omega)]
  split<;>rfl
 | m+1,i,hi,N,hN=>by
  obtain ⟨N,rfl⟩:∃ M,N=M+1:=⟨N-1,by omega⟩
  have hlt:i<l.len:=by omega
  have e:(Xaa l).drop i=vaAt l i::(Xaa l).drop (i+1):=by unfold Xaa;exact Xdy _ hlt
  have e1:(⟨(l.el (i:Int).toNat 0).str,(l.el (i:Int).toNat 1).bool,(l.el (i:Int).toNat 2).int,(l.el (i:Int).toNat 3).int,(l.el (i:Int).toNat 4).int⟩:Va)=vaAt l i:=by rw[Int.toNat_natCast];rfl
  have e2:(l.el (i:Int).toNat 0).str=(vaAt l i).name:=by rw[Int.toNat_natCast];rfl
  rw[Xjw.B0_eq,e,hn,Xlv,Xar,Xmw,hf,Xgv,Xar,int_i,hs,Xgv,Xar,int_i,e1,e2]
  simp only[Bool.cond_eq_ite,decide_eq_true_eq,Bool.and_eq_true,Xgd,bne_iff_ne,ne_eq]
  rw[if_pos (by omega),if_pos (by omega),Xbh (a:=(i:Int)+1) (by omega) (by omega)]
  cases c1:nameE (vaAt l i).name with
  | false=>rfl
  | true=>
   simp only[Bool.not_true,Bool.false_eq_true,if_false,Bool.true_eq_false]
   by_cases c2:findE (Xaa l) (vaAt l i).name<(i:Int)
   ·simp only[c2,if_true];rfl
   ·simp only[c2,if_false]
    by_cases c3:Xdu (vaAt l i)=0
    ·simp only[c3,not_true_eq_false,if_false]
     exact mayB_sp hl hn hf hs ht m (i+1) (by omega) N (by omega)
    ·simp only[c3,not_false_eq_true,if_true];rfl
theorem MayV_sp (l:T)(hl:l.len≤9223372036854775807):Ev fun N=>Xpr (K N) l=ri (mayV (Xaa l)):=by
 refine Ev.step (Ev.imp2 (Ev.imp4 name_sp (Find_sp l hl) sorted_sp (Total_sp l hl) fun N h1 h2 h3 h4=>(⟨h1,h2,h3,h4⟩:_∧_∧_∧_)) (Ev.ge (l.len+1)) fun N h hN=> ?_)
 rw[C_dom_May_K]
 have:=mayB_sp hl h.1 h.2.1 h.2.2.1 h.2.2.2 l.len 0 (by omega) N (by omega)
 simpa [mayV] using this
def Ints (t:T)(l:List Int):Prop:=t.len=l.length∧∀ i v,l[i]? =some v→(t.el i 0).int=v
theorem Ints.shift {t:T}{l:List Int}(h:Ints t l):Ints (T.l t.len fun i j=>t.el (0+i) j) l:=⟨h.1,fun i v hv=>by show (t.el (0+i) 0).int=v;rw[Nat.zero_add];exact h.2 i v hv⟩
end Go.Proofs.YtpjedhbfkfobcaaGreatDoor
