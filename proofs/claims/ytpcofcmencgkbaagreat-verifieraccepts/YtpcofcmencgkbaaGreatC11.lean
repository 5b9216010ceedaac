/- For the claim of VerifierAccepts: parts XU5, XU6, LP9, XU7, LR1, LR2, LR3, LR4, LR5, LR6, LR7, LR8, LR9, MP1, LQ2, XV1, LQ3, XV2, LQ4, XV3, XV4. -/
import Derived.Test.YtpcofcmencgkbaaGreatC10
import Derived.Test.YtpcofcmencgkbaaGreatC06
import Derived.Test.YtpcofcmencgkbaaGreatC09
import Derived.Test.YtpcofcmencgkbaaGreatC05
import Derived.Test.YtpcofcmencgkbaaGreatC07
set_option linter.defProp false
set_option linter.unusedSectionVars false
set_option linter.unusedSimpArgs false
set_option linter.unusedVariables false
set_option maxRecDepth 100000
open Bool renaming eq_false_iff->wF,false_and->uY,false_or->ng,or_false->abD,true_and->nh,true_or->Fk
open Classical renaming byContradiction->oQ
open Go.IntKind renaming i64->cV,wrap_i64->c0
open Go.Proofs.Tryz renaming prog->ab
open Go.aA renaming Id->bz,hb->eB
open Go.aA.aa renaming one->j4
open Go.aA.cv renaming jC->e9
open Go.aA.aB renaming s->aO
open Go.aA.bm renaming of->dH
open Go.aA.ak renaming T->aP,qe->qQ,rat->a3
open Go.aA.aF renaming po->n6
open Go.aA.dy renaming cons->bZ,nil->eH,pure->jJ
open Int renaming natCast_mul->pI,ofNat_le->KD,toNat_natCast->nU
open Lean.Grind.Field renaming div_eq_mul_inv->BO
open List renaming all_eq_true->ek,any_eq_false->r7,any_eq_true->yW,append_nil->mn,contains_eq_mem->Fj,contains_iff_mem->jN,eq_nil_of_length_eq_zero->uW,eq_of_mem_replicate->jl,ext_getElem->jL,filter_append->ks,findIdx?_eq_none_iff->abF,findIdx?_eq_some_iff_getElem->abE,flatten_append->abH,flatten_cons->Qv,foldl_append->wH,getD_eq_getElem?_getD->dE,getElem?_eq_getElem->eu,getElem?_eq_none->yI,getElem?_map->kv,getElem?_set->yu,getElem_drop->BK,getElem_map->gm,getElem_mem->bo,getElem_range->kT,getElem_set->BJ,length->uI,length_append->cy,length_cons->fU,length_drop->m8,length_filter_le->qR,length_map->aL,length_mapIdx->BI,length_nil->gR,length_pos_iff->fN,length_range->cR,length_replicate->pP,length_set->kQ,length_singleton->lT,length_take->eZ,length_zipWith->gY,map_append->dW,map_congr_left->kq,map_drop->Qu,map_eq_nil_iff->gP,map_id'->n7,map_map->iA,map_replicate->Fm,map_singleton->gQ,map_take->ET,mem_cons_of_mem->cX,mem_cons_self->cg,mem_filter->iU,mem_flatMap->g3,mem_iff_getElem->fy,mem_map->bd,mem_of_mem_take->gZ,mem_range->cb,mem_singleton->bU,nodup_range->pQ,range->aR,range_succ->gz,replicate->bI,take_length->gl,take_succ_eq_append_getElem->kP,zipWith->Fl,zipWith_cons_cons->abG
open Nat renaming add_comm->Qt,add_sub_cancel_left->tt,le_mul_of_pos_right->r0,le_refl->a2,le_trans->bx,lt_of_le_of_lt->gN,mod_eq_of_lt->dL,mod_lt->bG,mul_le_mul_right->cr,not_lt_zero->ew,succ_mul->gB
open Option renaming getD_some->BN
set_option maxHeartbeats 4000000
open Go.aA Go.Proofs Go.Lib
namespace Go.Proofs.YtpcofcmencgkbaaGreat
abbrev eT(N cm:Nat):List Nat:=(aR N).map λ i=>(cm+i)%N
def al5{N cm:Nat}(h:cm<N):(eT N cm).Nodup:=by
 have key:∀i,i<N->(cm+i)%N=if cm+i<N then cm+i else cm+i-N:=λ i f=>by
   split;next h=>exact dL h
   next h=>rw[Nat.mod_eq_sub_mod ac,dL ac]
 unfold eT List.Nodup;rw[List.pairwise_map];refine List.Pairwise.imp_of_mem ?_ (pQ (n:=N));intro a b c hb d e;have c:=cb.1 c;have hb:=cb.1 hb;rw[key a c,key b hb]at e;split at e<;>split at e<;>omega
def xU{N cm:Nat}:∀k∈eT N cm,k<N:=λ k a=>by obtain⟨i,b,rfl⟩:=bd.1 a;have:=cb.1 b;exact bG _ ac
abbrev cK(P:List Nat)(i:Nat):List Nat:=(aR i).filter λ i=>P.contains i
def acJ{P:List Nat}{i:Nat}(h:P.contains i=true):cK P (i+1)=cK P i++[i]:=by unfold cK;rw[gz,ks,List.filter_cons_of_pos h];simp
def acI{P:List Nat}{i:Nat}(h:P.contains i=false):cK P (i+1)=cK P i:=by unfold cK;rw[gz,ks,List.filter_cons_of_neg (by rw[h];decide)];simp
def acH{P:List Nat}{i:Nat}:∀k∈cK P i,k<i:=λ k a=>cb.1 (iU.1 a).1
def Rk(P:List Nat)(i:Nat):(cK P i).length<=i:=by have:=qR (λ i=>P.contains i) (aR i);rwa[cR]at this
def Aq{M:List (List ak)}(a:M≠[])(c first:Nat):kG (mg M c first)=.agg [bP (cK (bS M (eT M.length (first%M.length))) M.length),oz (gu (aE M (cK (bS M (eT M.length (first%M.length))) M.length)) c).bE,aD (gu (aE M (cK (bS M (eT M.length (first%M.length))) M.length)) c).inv,aD ((il (cK (bS M (eT M.length (first%M.length))) M.length) M.length).map λ i=>gg (aE M (cK (bS M (eT M.length (first%M.length))) M.length)) (M.getD i [])),aD (gu (aE M (cK (bS M (eT M.length (first%M.length))) M.length)) c).bh]:=by
 have e:M.isEmpty=false:=by rw[wF];exact λ h=>a (List.isEmpty_iff.1 h)
 unfold mg;rw[e];simp only[Bool.false_eq_true,if_false];unfold kG;simp only[C0]
section
variable(G:Nat->Option (List aa)){K:b6}{q e r:Nat}(F:eb K q e r){n w:Nat}{M:List (List ak)}
def acK{P:List Nat}(C:P.Nodup){c i:Nat}(Y:M.length<=4000)(pw:P.length<=4000)(u:i<M.length){A iB:List Nat}(U:A.length<=4000)(v:iB=if P.contains i then A++[i]else A):bb ab G (aT (ao 15) 1) (ao 15).aH (bj 2) .normal (λ q=>(13,ix M A q)::km M P c i q) (iw M A) (λ q=>(13,ix M iB q)::km M P c (i+1) q) (iw M iB):=by
 have es:=Oo M A u;have Z:((aE M A).map aj).length=A.length:=by rw[aL];exact aL ..
 have X:(A.map aq).length=A.length:=aL ..;have Q:∀k(o:k<P.length),P[k]=i->(P.take k).contains i=false:=λ k o e=>by rw[wF];intro h;have T:=jN.1 h;obtain⟨j,R,O⟩:=fy.1 T;rw[eZ]at R;rw[List.getElem_take]at O;have:=(List.getElem_inj C (h₀:=ac) (h₁:=o)).1 (O.trans e.symm);omega
 let f:Nat->List Nat:=λ k=>if(P.take k).contains i then A++[i]else A;have t:f 0=A:=rfl;have J:f P.length=iB:=by show(if(P.take P.length).contains i then A++[i]else A)=iB;rw[gl];exact v.symm
 have I:∀k,k<P.length->bb ab G (aT (ao 15) 2) (ao 15).aH (bj 0) .normal (λ q=>(13,ix M (f k) q)::lG M P c i k q) (iw M (f k)) (λ q=>(13,ix M (f (k+1)) q)::lG M P c i (k+1) q) (iw M (f (k+1))):=λ k o=>by
   have Gt:=O4 (i:=i) o;by_cases e:P[k]=i;have N:=Q k o e;rw[N,decide_eq_true e,ng]at Gt;have S:f k=A:=if_neg (by rw[N];decide);have D:f (k+1)=A++[i]:=if_pos Gt;rw[S,D];have m:A++[i]≠[]:=am;by_cases hN:A=[];have x1:∀q,ix M A q=.ar:=λ q=>(qv hN q).1;have cu:iw M A=λ q=>[(q.b,bV),(q.d,bV)]:=funext λ q=>(qv hN q).2;have H:∀q,ix M (A++[i]) q=.ah q.c 1 0 1 false:=λ q=>by rw[(lM m q).1,es,hN];rfl
   have E:iw M (A++[i])=λ q=>[(q.a,⟨[aq i],1,false⟩),(q.b,dh (.ah q.a 1 0 1 false) .ar .ar .ar .ar),(q.c,⟨[aj M[i]],1,false⟩),(q.d,bV)]:=funext λ q=>by rw[(lM m q).2,es,hN];rfl
   simp only[x1,cu,H,E];exact alU G ac u k o (decide_eq_true e);have x1:∀q,ix M A q=.ah q.c 1 0 ((aE M A).map aj).length false:=λ q=>(lM hN q).1;have cu:iw M A=λ q=>[(q.a,⟨A.map aq,1,false⟩),(q.b,dh (.ah q.a 1 0 (A.map aq).length false) .ar .ar .ar .ar),(q.c,⟨(aE M A).map aj,1,false⟩),(q.d,bV)]:=funext λ q=>(lM hN q).2;have H:∀q,ix M (A++[i]) q=.ah q.c 1 0 (((aE M A).map aj).length+1) false:=λ q=>by rw[(lM m q).1,es,dW,cy];rfl
   have E:iw M (A++[i])=λ q=>[(q.a,⟨A.map aq++[aq i],1,false⟩),(q.b,dh (.ah q.a 1 0 ((A.map aq).length+1) false) .ar .ar .ar .ar),(q.c,⟨(aE M A).map aj++[aj M[i]],1,false⟩),(q.d,bV)]:=funext λ q=>by rw[(lM m q).2,es,dW,dW,cy];rfl
   simp only[x1,cu,H,E];exact alX G (l:=A.map aq) (L:=(aE M A).map aj) ac ac ac u k o (decide_eq_true e);rw[decide_eq_false e,abD]at Gt;have D:f (k+1)=f k:=by show(if(P.take (k+1)).contains i then A++[i]else A)=_;rw[Gt]
   rw[D];generalize f k=B;by_cases hN:B=[];have x1:∀q,ix M B q=.ar:=λ q=>(qv hN q).1;have cu:iw M B=λ q=>[(q.b,bV),(q.d,bV)]:=funext λ q=>(qv hN q).2;simp only[x1,cu];exact alW G ac k o (decide_eq_false e);have x1:∀q,ix M B q=.ah q.c 1 0 ((aE M B).map aj).length false:=λ q=>(lM hN q).1;have cu:iw M B=λ q=>[(q.a,⟨B.map aq,1,false⟩),(q.b,dh (.ah q.a 1 0 (B.map aq).length false) .ar .ar .ar .ar),(q.c,⟨(aE M B).map aj,1,false⟩),(q.d,bV)]:=funext λ q=>(lM hN q).2;simp only[x1,cu];exact alY G (l:=B.map aq) (L:=(aE M B).map aj) ac k o (decide_eq_false e)
 by_cases hN:A=[];have y:ix M A aO=.ar:=(qv hN _).1;have z:iw M A aO=[([2],bV),([4],bV)]:=(qv hN _).2;have x1:∀q,ix M A q=.ar:=λ q=>(qv hN q).1;have cu:iw M A=λ q=>[(q.b,bV),(q.d,bV)]:=funext λ q=>(qv hN q).2;by_cases g:iB=[];have j3:∀q,ix M iB q=.ar:=λ q=>(qv g q).1;have p:iw M iB=λ q=>[(q.b,bV),(q.d,bV)]:=funext λ q=>(qv g q).2;simp only[x1,cu,j3,p];refine alR G ac ac u (λ k q=>(13,ix M (f k) q)::lG M P c i k q) (λ k=>iw M (f k)) (by simp only[t,y]) (by simp only[t,z]) I ?_;simp only[J,j3,p];exact alV G;have j3:∀q,ix M iB q=.ah q.c 1 0 ((aE M iB).map aj).length false:=λ q=>(lM g q).1;have p:iw M iB=λ q=>[(q.a,⟨iB.map aq,1,false⟩),(q.b,dh (.ah q.a 1 0 (iB.map aq).length false) .ar .ar .ar .ar),(q.c,⟨(aE M iB).map aj,1,false⟩),(q.d,bV)]:=funext λ q=>(lM g q).2;simp only[x1,cu,j3,p];refine alS G (l':=iB.map aq) (L':=(aE M iB).map aj) ac ac u (λ k q=>(13,ix M (f k) q)::lG M P c i k q) (λ k=>iw M (f k)) (by simp only[t,y]) (by simp only[t,z]) I ?_;simp only[J,j3,p];exact WA G;have g:iB≠[]:=by rw[v];split<;>simp[hN]
 have y:ix M A aO=.ah [3] 1 0 ((aE M A).map aj).length false:=(lM hN _).1;have z:iw M A aO=[([1],⟨A.map aq,1,false⟩),([2],dh (.ah [1] 1 0 (A.map aq).length false) .ar .ar .ar .ar),([3],⟨(aE M A).map aj,1,false⟩),([4],bV)]:=(lM hN _).2;have x1:∀q,ix M A q=.ah q.c 1 0 ((aE M A).map aj).length false:=λ q=>(lM hN q).1;have cu:iw M A=λ q=>[(q.a,⟨A.map aq,1,false⟩),(q.b,dh (.ah q.a 1 0 (A.map aq).length false) .ar .ar .ar .ar),(q.c,⟨(aE M A).map aj,1,false⟩),(q.d,bV)]:=funext λ q=>(lM hN q).2;have j3:∀q,ix M iB q=.ah q.c 1 0 ((aE M iB).map aj).length false:=λ q=>(lM g q).1;have p:iw M iB=λ q=>[(q.a,⟨iB.map aq,1,false⟩),(q.b,dh (.ah q.a 1 0 (iB.map aq).length false) .ar .ar .ar .ar),(q.c,⟨(aE M iB).map aj,1,false⟩),(q.d,bV)]:=funext λ q=>(lM g q).2;simp only[x1,cu,j3,p];refine alT G (l:=A.map aq) (L:=(aE M A).map aj) (l':=iB.map aq) (L':=(aE M iB).map aj) ac ac u (λ k q=>(13,ix M (f k) q)::lG M P c i k q) (λ k=>iw M (f k)) (by simp only[t,y]) (by simp only[t,z]) I ?_;simp only[J,j3,p];exact WA G
def acG{P A:List Nat}{c:Nat}:bb ab G (aT (ao 15) 1) (ao 15).aH (bj 2) (.exit 2) (λ q=>(13,ix M A q)::km M P c M.length q) (iw M A) (λ q=>(13,aD (aE M A))::[(12,.ref q.b 0 0),(6,.ref q.d 0 0),(0,aD M),(1,aq c)]) (λ q=>[(q.b,dh (bP A) .ar .ar .ar .ar),(q.d,bV)]):=by by_cases hN:A=[];have x1:∀q,ix M A q=.ar:=λ q=>(qv hN q).1;have cu:iw M A=λ q=>[(q.b,bV),(q.d,bV)]:=funext λ q=>(qv hN q).2;simp only[x1,cu];subst hN;exact(alP G).hZ λ q m g=>bN.afT g nt;have x1:∀q,ix M A q=.ah q.c 1 0 ((aE M A).map aj).length false:=λ q=>(lM hN q).1;have cu:iw M A=λ q=>[(q.a,⟨A.map aq,1,false⟩),(q.b,dh (.ah q.a 1 0 (A.map aq).length false) .ar .ar .ar .ar),(q.c,⟨(aE M A).map aj,1,false⟩),(q.d,bV)]:=funext λ q=>(lM hN q).2;simp only[x1,cu];exact(alQ G (l:=A.map aq) (L:=(aE M A).map aj)).hZ λ q m g=>bN.afS g (λ e f=>by obtain⟨x,_,rfl⟩:=bd.1 f;infer_instance) (λ e f=>by obtain⟨x,_,rfl⟩:=bd.1 f;infer_instance) nt
noncomputable abbrev Ap(M:List (List ak))(c cm i:Nat)(q:aB):List (Nat×aa):=[(6,.ref q.c 0 0),(0,aD M),(1,aq c),(2,aq cm),(9,aq i)]
include F in theorem al2(hm:a4 K n w M)(w0:0<w)(fe:M.length<=4000)(cw:w<=4000){j:Nat}(hj:M.length<=j\/w<=j)(hB:bF K q (grow K j n))(c cm:Nat)(Mn:cm<M.length)(i:Nat)(hi:i<M.length):bb ab G (aT (ao 15) 0) (ao 15).aH (bj 0) .normal (fun q=>(7,bt q.a 1 ((gV M (eT M.length cm) i).map aq))::(8,oI (aE M (gV M (eT M.length cm) i)))::[(6,.ref q.c 0 0),(0,aD M),(1,aq c),(2,aq cm),(9,aq i)]) (fun q=>a8 q.a 1 ((gV M (eT M.length cm) i).map aq)++[(q.c,bV)]) (fun q=>(7,bt q.a 1 ((gV M (eT M.length cm) (i+1)).map aq))::(8,oI (aE M (gV M (eT M.length cm) (i+1))))::[(6,.ref q.c 0 0),(0,aD M),(1,aq c),(2,aq cm),(9,aq (i+1))]) (fun q=>a8 q.a 1 ((gV M (eT M.length cm) (i+1)).map aq)++[(q.c,bV)]):=by
 have el:(eT M.length cm).length=M.length:=by unfold eT;rw[aL,cR]
 have hP:i<(eT M.length cm).length:=by rw[el];exact hi
 have hC:=W7 M hm (ord:=eT M.length cm) xU i;have p7:=W6 M (eT M.length cm) i;have afc:(eT M.length cm)[i]=(cm+i)%M.length:=by unfold eT;rw[gm,kT]
 have hx:(cm+i)%M.length<M.length:=bG _ ac;rw[W8 M hP,afc];have JJ:cV.wrap ((cm:Int)+(i:Int))=((cm+i:Nat):Int):=by rw[c0];omega
 exact WV G F (A:=fun q=>Ap M c cm i q) (B:=fun q=>Ap M c cm (i+1) q) (bC:=fun q=>[(q.c,bV)]) (bO:=fun q=>[(q.c,bV)]) hm fe cw ac hx hC hj ac hB (fun r mV hq=>by have H:bb ab G (aT (ao 15) 0) (ao 15).aH (bj 0) .normal (fun q=>(7,.ar)::(8,.ar)::Ap M c cm i q) (fun q=>[(q.c,bV)]) (fun q=>(7,.ah q.a 1 0 1 false)::(8,.ah q.b 1 0 1 false)::Ap M c cm (i+1) q) (fun q=>[(q.a,⟨[aq ((cm+i)%M.length)],1,false⟩),(q.b,⟨[aj M[(cm+i)%M.length]],1,true⟩),(q.c,bV)]):=a9 ⟨[29,0],[19,0],[3],[4]⟩ [bu 33 aj hi,hw 38 JJ,xn 41 .i64 aj M (cm+i) ac,aU 47 1 aj hx,ox (A:=[]) [19,0] 1 [aj M[(cm+i)%M.length]] 1 rfl mV,hb 55 hq,a5 35 i] an;exact H.hZ fun q m gd=>bN.Ts gd rfl (fun e he=>by rw[bU.1 he];infer_instance) (fun e he=>by rw[bU.1 he];rfl)) (fun r mV hq=>a9 aO [bu 33 aj hi,hw 38 JJ,xn 41 .i64 aj M (cm+i) ac,aU 47 1 aj hx,ox (A:=[]) [19,0] 1 [aj M[(cm+i)%M.length]] 1 rfl mV,hb 55 hq,a5 35 i] an) (fun l L r _ _ _ _ rz z4 aci ln mV hq=>by have H:bb ab G (aT (ao 15) 0) (ao 15).aH (bj 0) .normal (fun q=>(7,.ah q.a 1 0 l.length false)::(8,.sl 1 L)::Ap M c cm i q) (fun q=>[(q.a,⟨l,1,false⟩),(q.c,bV)]) (fun q=>(7,.ah q.a 1 0 (l.length+1) false)::(8,.ah q.b 1 0 (L.length+1) false)::Ap M c cm (i+1) q) (fun q=>[(q.a,⟨l++[aq ((cm+i)%M.length)],1,false⟩),(q.b,⟨L++[aj M[(cm+i)%M.length]],1,true⟩),(q.c,bV)]):=a9 ⟨[29,0],[19,0],[3],[4]⟩ [bu 33 aj hi,hw 38 JJ,xn 41 .i64 aj M (cm+i) ac,zF 44 1 24 L rz ac,aU 47 1 aj hx,l5 50 1 24 [13,0] 18 L (aj M[(cm+i)%M.length]) ac (g9 (k:=1)),ox (A:=[]) [19,0] 1 (L++[aj M[(cm+i)%M.length]]) (L.length+1) ln mV,hb 55 hq,l5 59 1 8 [1] 28 l (aq ((cm+i)%M.length)) ac (g9 (k:=1)),a5 35 i] an;exact H.hZ fun q m gd=>bN.Ts gd ln.symm (fun e he=>b9.all e he) (fun e he=>(b9.all (k:=1) (l:=l++[aq ((cm+i)%M.length)]) e he).size)) (fun l L r _ _ _ _ rz z4 aci ln mV hq=>a9 aO [bu 33 aj hi,hw 38 JJ,xn 41 .i64 aj M (cm+i) ac,zF 44 1 24 L rz ac,aU 47 1 aj hx,l5 50 1 24 [13,0] 18 L (aj M[(cm+i)%M.length]) ac (g9 (k:=1)),ox (A:=[]) [19,0] 1 (L++[aj M[(cm+i)%M.length]]) (L.length+1) ln mV,hb 55 hq,a5 35 i] an)
def al1{c cm:Nat}{l:List Nat}{S:aa}[bg S]:bb ab G (aT (ao 15) 0) (ao 15).aH (bj 0) (.exit 0) (λ q=>(7,bt q.a 1 (l.map aq))::(8,S)::[(6,.ref q.c 0 0),(0,aD M),(1,aq c),(2,aq cm),(9,aq M.length)]) (λ q=>a8 q.a 1 (l.map aq)++[(q.c,bV)]) (λ q=>(7,bP l)::[(6,.ref q.c 0 0),(0,aD M),(1,aq c)]) (λ q=>[(q.c,bV)]):=(j1 (A:=λ q=>(8,S)::[(6,.ref q.c 0 0),(0,aD M),(1,aq c),(2,aq cm),(9,aq M.length)]) (B:=λ q=>[(6,.ref q.c 0 0),(0,aD M),(1,aq c)]) (bC:=λ q=>[(q.c,bV)]) (bO:=λ q=>[(q.c,bV)]) aO [cS 33 aj M]).vp (λ e d=>by obtain⟨x,_,rfl⟩:=bd.1 d;infer_instance) (λ m q g x f=>by rw[bU.1 f];exact⟨Ne.symm g.ne.2.1,nt⟩)
include F in theorem aj2{c first:Nat}(hm:a4 K n w M)(w0:0<w)(fe:M.length<=4000)(cw:w<=4000)(p7:c<=4000)(f9:first<256){j:Nat}(hj:M.length<=j\/w<=j)(hB:bF K q (grow K j n)):ag ab G 15 [aD M,aq c,aq first] (kG (mg M c first)):=by
 by_cases bp:M=[];.subst bp;have ce:=Vq G F (c:=c) hm w0 fe cw p7 hj hB;have e:mg [] c first=gu [] c:=rfl;rw[e];exact bK [hc ce] an
 . rw[Aq bp];have HS:=fN.2 bp;have Mn:first%M.length<M.length:=bG _ HS;have TG:(((M.map aj).length:Int)==0)=false:=by rw[aL];exact beq_eq_false_iff_ne.2 ac
   have el:(eT M.length (first%M.length)).length=M.length:=by unfold eT;rw[aL,cR]
   have dM:=fun i hi=>al2 G F hm w0 fe cw hj hB c (first%M.length) Mn i hi;have Ue:eY .rem .int (aq first) (.int .i64 ((M.map aj).length:Nat))=some (aq (first%M.length)):=by rw[IJ (by rw[aL];exact HS),aL]
   generalize hf:first%M.length=cm at*;have o8:=lI hm (ord:=eT M.length cm) xU;have Mv:=xY M (al5 Mn);have amD:gV M (eT M.length cm) M.length=bS M (eT M.length cm):=by have:=W5 M (eT M.length cm);rwa[el]at this
   have pw:(bS M (eT M.length cm)).length<=M.length:=by have:=n6 (S:=aR M.length) Mv fun x hx=>cb.2 (o8.1 x hx);rwa[cR]at this
   have uc:=al1 G (M:=M) (c:=c) (cm:=cm) (l:=bS M (eT M.length cm)) (S:=oI (aE M (bS M (eT M.length cm))));have UZ:bb ab G (aT (ao 15) 0) (ao 15).aH (bj 0) (.exit 0) (fun q=>(7,bt q.a 1 ((gV M (eT M.length cm) M.length).map aq))::(8,oI (aE M (gV M (eT M.length cm) M.length)))::[(6,.ref q.c 0 0),(0,aD M),(1,aq c),(2,aq cm),(9,aq M.length)]) (fun q=>a8 q.a 1 ((gV M (eT M.length cm) M.length).map aq)++[(q.c,bV)]) (fun q=>(7,bP (bS M (eT M.length cm)))::[(6,.ref q.c 0 0),(0,aD M),(1,aq c)]) (fun q=>[(q.c,bV)]):=by rw[amD];exact uc
   clear uc;generalize bS M (eT M.length cm)=P at*;have hA:∀k∈cK P M.length,k<M.length:=acH;have TI:(cK P M.length).Nodup:=pQ.filter _;have agi:(cK P M.length).length<=w:=bx (n6 (S:=P) TI fun x hx=>jN.1 (iU.1 hx).2) o8.2;have atq:=Rk P M.length;have atV:(aE M (cK P M.length)).length=(cK P M.length).length:=aL ..;have hs:a4 K n w (aE M (cK P M.length)):=hm.sub hA;have ce:=Vq G F (M:=aE M (cK P M.length)) (c:=c) hs w0 ac cw p7 (j:=j) ac hB;have WB:=aj3 G (l:=cK P M.length) (n:=M.length) ac ac;have ahs:∀k∈il (cK P M.length) M.length,k<M.length/\k∉cK P M.length:=fun k hk=>by obtain⟨h1,h2⟩:=iU.1 hk;refine⟨cb.1 h1,fun h=>?_⟩;rw[jN.2 h]at h2;cases h2
   have NH:(il (cK P M.length) M.length).length<=M.length:=by have:=qR (fun i=>!(cK P M.length).contains i) (aR M.length);rwa[cR]at this
   have apI:=fun(hne:cK P M.length≠[]){i:Nat}(hi:i<M.length)(hn:i∉cK P M.length)=>RH G F hm w0 fe cw hj hB hA TI agi hne hi hn;have jC:=fun(hne:aE M (cK P M.length)≠[])=>Vw G hne (fun x hx=>(hs x hx).1) ac (ac:w<=9000);have iE:=fun i(hi:i<M.length)=>acK G Mv (c:=c) fe ac hi (A:=cK P i) (iB:=cK P (i+1)) (by have:=Rk P i;omega) (by cases h:P.contains i with|true=>rw[acJ h];rfl|false=>rw[acI h];rfl);have MV:=acG G (M:=M) (P:=P) (A:=cK P M.length) (c:=c);unfold kG at ce;generalize(gu (aE M (cK P M.length)) c).bE=fo at*;generalize(gu (aE M (cK P M.length)) c).inv=p8 at*;generalize(gu (aE M (cK P M.length)) c).bh=ob at*;generalize(gu (aE M (cK P M.length)) c).rows=adO at*;generalize(gu (aE M (cK P M.length)) c).ez=atu at*;by_cases hne:cK P M.length=[]
   . have SH:aE M (cK P M.length)=[]:=by rw[hne];rfl
     have SI:∀i,i<=(il (cK P M.length) M.length).length->(((il (cK P M.length) M.length).take i).map fun i=>gg (aE M (cK P M.length)) (M.getD i [])).map aj=bI i (aa.sl 2 []):=fun i hi=>by
       refine List.eq_replicate_iff.2 ⟨?_,fun b hb=>?_⟩;.rw[aL,aL,eZ];omega
       .obtain⟨x,hx,rfl⟩:=bd.1 hb;obtain⟨k,_,rfl⟩:=bd.1 hx;rw[SH];rfl
     have Cr:aD ((il (cK P M.length) M.length).map fun i=>gg (aE M (cK P M.length)) (M.getD i []))=.sl 1 (bI (il (cK P M.length) M.length).length (aa.sl 2 [])):=by have:=SI _ (a2 _);rw[gl]at this;unfold aD;rw[this]
     rw[Cr];haveI:bg (aa.sl 1 (bI (il (cK P M.length) M.length).length (aa.sl 2 []))):=by rw[<-Cr];infer_instance
     haveI:bn (bI (il (cK P M.length) M.length).length (aa.sl 2 [])):=by have:=SI _ (a2 _);rw[<-this];infer_instance
     rw[SH]at ce MV;generalize il (cK P M.length) M.length=ol at*;exact bK [hb 22 TG,ho 29 Ue,dz (ao 15) 0 0 0 M.length ⟨[1],[2],[0,0],[4]⟩ (fun i q=>(7,bt q.a 1 ((gV M (eT M.length cm) i).map aq))::(8,oI (aE M (gV M (eT M.length cm) i)))::[(6,.ref q.c 0 0),(0,aD M),(1,aq c),(2,aq cm),(9,aq i)]) (fun i q=>a8 q.a 1 ((gV M (eT M.length cm) i).map aq)++[(q.c,bV)]) (.exit 0) (fun q=>(7,bP P)::[(6,.ref q.c 0 0),(0,aD M),(1,aq c)]) (fun q=>[(q.c,bV)]) dM UZ,dz (ao 15) 1 2 1 M.length ⟨[1],[2000005,0],[3],[2000002,0]⟩ (fun i q=>(13,ix M (cK P i) q)::km M P c i q) (fun i=>iw M (cK P i)) (.exit 2) (fun q=>(13,aD [])::[(12,.ref q.b 0 0),(6,.ref q.d 0 0),(0,aD M),(1,aq c)]) (fun q=>[(q.b,dh (bP (cK P M.length)) .ar .ar .ar .ar),(q.d,bV)]) iE MV,hc ce,hw 108 (show(((M.map aj).length:Nat):Int)=(M.length:Int)by rw[aL]),hc WB,dz (ao 15) 3 0 200000001 ol.length ⟨[1],[400000000000001,0],[400000000000003,0],[4]⟩ (fun i q=>qm M [] ol i q) (fun i q=>lE (cK P M.length) (oz fo) (aD p8) (aD ob) (bI i aa.ar) q) (.exit 6) (fun q=>[(12,.ref q.b 0 0),(6,.ref q.c 0 0)]) (fun q=>[(q.b,dh (bP (cK P M.length)) (oz fo) (aD p8) (.sl 1 (bI ol.length (aa.sl 2 []))) (aD ob)),(q.c,bV)]) (fun i hi=>by
           rw[List.replicate_succ'];by_cases h0:i=0;.subst h0;exact alx G (S:=[]) ac hi
           .exact aly G (S:=[]) (L:=bI i aa.ar) (fun h=>h0 (by have:=congrArg uI h;rwa[pP]at this)) (by rw[pP];omega) ac hi) (Wp G (c':=.ar) (by rw[pP,pP]) (fun e he=>by rw[jl he];rfl) (fun e he=>by rw[jl he];rfl) (fun F=>PC F _) (fun c hc=>by obtain⟨x,hx,h⟩:=g3.1 hc;rw[jl hx]at h;rw[bU.1 h];exact bg.pure) (fun σ=>JF σ _))] an
   . have rz:aE M (cK P M.length)≠[]:=fun h=>hne (gP.1 h);have p0:0<(aE M (cK P M.length)).length:=fN.2 rz;have apJ:=fun{i:Nat}=>apI hne (i:=i);have Za:=jC rz;have afa:(il (cK P M.length) M.length).map (fun i=>gg (aE M (cK P M.length)) (M.getD i []))=((il (cK P M.length) M.length).take (il (cK P M.length) M.length).length).map (fun i=>gg (aE M (cK P M.length)) (M.getD i [])):=by rw[gl]
     rw[afa];generalize il (cK P M.length) M.length=ol at*;exact bK [hb 22 TG,ho 29 Ue,dz (ao 15) 0 0 0 M.length ⟨[1],[2],[0,0],[4]⟩ (fun i q=>(7,bt q.a 1 ((gV M (eT M.length cm) i).map aq))::(8,oI (aE M (gV M (eT M.length cm) i)))::[(6,.ref q.c 0 0),(0,aD M),(1,aq c),(2,aq cm),(9,aq i)]) (fun i q=>a8 q.a 1 ((gV M (eT M.length cm) i).map aq)++[(q.c,bV)]) (.exit 0) (fun q=>(7,bP P)::[(6,.ref q.c 0 0),(0,aD M),(1,aq c)]) (fun q=>[(q.c,bV)]) dM UZ,dz (ao 15) 1 2 1 M.length ⟨[1],[2000005,0],[3],[2000002,0]⟩ (fun i q=>(13,ix M (cK P i) q)::km M P c i q) (fun i=>iw M (cK P i)) (.exit 2) (fun q=>(13,aD (aE M (cK P M.length)))::[(12,.ref q.b 0 0),(6,.ref q.d 0 0),(0,aD M),(1,aq c)]) (fun q=>[(q.b,dh (bP (cK P M.length)) .ar .ar .ar .ar),(q.d,bV)]) iE MV,hc ce,hw 108 (show(((M.map aj).length:Nat):Int)=(M.length:Int)by rw[aL]),hc WB,dz (ao 15) 3 0 200000001 ol.length ⟨[1],[400000000000001,0],[400000000000003,0],[4]⟩ (fun i q=>qm M (aE M (cK P M.length)) ol i q) (fun i q=>lE (cK P M.length) (oz fo) (aD p8) (aD ob) (((ol.take i).map fun i=>gg (aE M (cK P M.length)) (M.getD i [])).map aj) q) (.exit 6) (fun q=>[(12,.ref q.b 0 0),(6,.ref q.c 0 0)]) (fun q=>[(q.b,dh (bP (cK P M.length)) (oz fo) (aD p8) (.sl 1 (((ol.take ol.length).map fun i=>gg (aE M (cK P M.length)) (M.getD i [])).map aj)) (aD ob)),(q.c,bV)]) (fun i hi=>by
           have hk:=ahs _ (bo hi);obtain⟨o,Ug⟩:=apJ hk.1 hk.2;rw[kP hi,dW,dW,gQ,gQ,aX hk.1];by_cases hl:(ol.take i).map (fun i=>gg (aE M (cK P M.length)) (M.getD i []))=[];.rw[hl];exact alz G ac hi p0 hk.1 Za Ug
           .exact alA G (L:=(((ol.take i).map fun i=>gg (aE M (cK P M.length)) (M.getD i [])).map aj)) (fun h=>hl (gP.1 h)) (by rw[aL,aL,eZ];omega) ac hi p0 hk.1 Za Ug) (Wp G (c':=.ar) rfl (fun e he=>by obtain⟨x,_,rfl⟩:=bd.1 he;rfl) (fun e he=>by obtain⟨x,_,rfl⟩:=bd.1 he;rfl) (fun F=>e6.same F _) (fun c hc=>by obtain⟨x,hx,h⟩:=g3.1 hc;obtain⟨y,_,rfl⟩:=bd.1 hx;rw[bU.1 h];exact bg.pure) (fun σ=>jJ fun c hc=>by obtain⟨x,hx,h⟩:=g3.1 hc;obtain⟨y,_,rfl⟩:=bd.1 hx;rw[bU.1 h];exact bg.pure))] an
abbrev di(z:Int):aa:=.int .i64 z
def va(l:List Int)(n:Nat)(i:Nat):Bool:=decide (l.getD i 0<0)||(decide (l.getD i 0≥(n:Int))||(decide (0<i)&&decide (l.getD i 0<=l.getD (i-1) 0)))
def sn(l:List Int)(n:Nat):Bool:=(aR l.length).all λ i=>!va l n i
def mh(M:List (List ak))(rows:Int)(w:Int):Bool:=(M.all λ r=>decide ((r.length:Int)=w))&&decide ((M.length:Int)=rows)
end
section
variable(G:Nat->Option (List aa))
noncomputable abbrev Xl(l:List Int)(n i:Nat):List (Nat×aa):=[(0,.sl 1 (l.map di)),(1,aq n),(4,.bool false),(5,aq i)]
noncomputable abbrev Jx(l:List Int)(n i:Nat):List (Nat×aa):=[(0,.sl 1 (l.map di)),(1,aq n),(4,.bool false),(7,.sl 1 (l.map di)),(8,.int .i64 ((l.map di).length:Nat)),(9,aq i)]
def IA{i:Nat}(h:0<i)(a:i<9000):cV.wrap ((i:Int)-1)=((i-1:Nat):Int):=by rw[c0];omega
def zD{i:Nat}{b:Bool}(h:decide (0<i)=b):decide ((i:Int)>0)=b:=by rw[<-h];by_cases e:0<i;rw[decide_eq_true e,decide_eq_true ac];rw[decide_eq_false e,decide_eq_false ac]
def at6{l:List Int}{n i:Nat}(a:i<l.length)(g:l.length<=9000)(b:Bool)(h:va l n i=b):kV ab G (ao 55) 0 0 (match b with|true=>.ret|false=>.normal) (Xl l n i) (match b with|true=>[(4,.bool false)]|false=>Xl l n (i+1)):=by unfold va at h;rw[aX a]at h;cases h1:decide (l[i]<0)with|true=>rw[h1,Fk]at h;subst h;exact rd [bu 9 di a,aU 14 1 di a,hb 16 h1]|false=>rw[h1,ng]at h;cases c:decide (l[i]≥(n:Int))with|true=>rw[c,Fk]at h;subst h;exact rd [bu 9 di a,aU 14 1 di a,hb 16 h1,aU 20 1 di a,hb 23 c]|false=>rw[c,ng]at h;cases h3:decide (0<i)with|false=>rw[h3,uY]at h;subst h;exact rd [bu 9 di a,aU 14 1 di a,hb 16 h1,aU 20 1 di a,hb 23 c,hb 27 (zD h3),a5 11 i]|true=>have e:=of_decide_eq_true h3;have d:i-1<l.length:=ac;rw[h3,nh,aX d]at h;cases b with|true=>exact rd [bu 9 di a,aU 14 1 di a,hb 16 h1,aU 20 1 di a,hb 23 c,hb 27 (zD h3),aU 31 1 di a,hw 35 (IA e ac),aU 36 1 di d,hb 38 h]|false=>exact rd [bu 9 di a,aU 14 1 di a,hb 16 h1,aU 20 1 di a,hb 23 c,hb 27 (zD h3),aU 31 1 di a,hw 35 (IA e ac),aU 36 1 di d,hb 38 h,a5 11 i]
def Ps{l:List Int}{n i:Nat}(a:i<l.length)(j:l.length<=9000)(b:Bool)(h:va l n i=b):kV ab G (ao 50) 0 0 (match b with|true=>.ret|false=>.normal) (Jx l n i) (match b with|true=>[(4,.bool false)]|false=>Jx l n (i+1)):=by unfold va at h;rw[aX a]at h;cases h1:decide (l[i]<0)with|true=>rw[h1,Fk]at h;subst h;exact rd [bu 10 di a,aU 12 1 di a,hb 15 h1]|false=>rw[h1,ng]at h;cases c:decide (l[i]≥(n:Int))with|true=>rw[c,Fk]at h;subst h;exact rd [bu 10 di a,aU 12 1 di a,hb 15 h1,hb 19 c]|false=>rw[c,ng]at h;cases h3:decide (0<i)with|false=>rw[h3,uY]at h;subst h;exact rd [bu 10 di a,aU 12 1 di a,hb 15 h1,hb 19 c,hb 23 (zD h3),a5 34 i]|true=>have f:=of_decide_eq_true h3;have d:i-1<l.length:=ac;rw[h3,nh,aX d]at h;have e:decide (l[i-1]≥l[i])=b:=h;cases b with|true=>exact rd [bu 10 di a,aU 12 1 di a,hb 15 h1,hb 19 c,hb 23 (zD h3),hw 27 (IA f ac),aU 28 1 di d,hb 31 e]|false=>exact rd [bu 10 di a,aU 12 1 di a,hb 15 h1,hb 19 c,hb 23 (zD h3),hw 27 (IA f ac),aU 28 1 di d,hb 31 e,a5 34 i]
def ZA{l:List Int}{n:Nat}(b:l.length<=9000):ag ab G 50 [oz l,aq n] (.bool (sn l n)):=by rcases xk (λ i=>!va l n i) l.length with⟨e,h⟩|⟨e,i,a,d,g⟩;rw[show sn l n=true from e];exact bK [gw (ao 50) 0 0 0 l.length (Jx l n) (.exit 0) [] (λ i a=>Ps G a b false (by have:=h i a;simpa using this)) (rd [cS 10 di l])];rw[show sn l n=false from e];exact bK [gw (ao 50) 0 0 0 i (Jx l n) .ret [(4,.bool false)] (λ j f=>Ps G (ac:j<l.length) b false (by have:=g j f;simpa using this)) (Ps G a b true (by simpa using d))]
def HH{r:List ak}{w:Int}{b:Bool}(h:decide ((r.length:Int)=w)=b):((((r.map aP).length:Nat):Int)!=w)=!b:=by rw[aL,<-h];by_cases e:(r.length:Int)=w;rw[decide_eq_true e,e];exact bne_self_eq_false _;rw[decide_eq_false e];exact bne_iff_ne.2 e
def MY{α:Type}{f:α->aa}{M:List α}{rows:Int}{b:Bool}(h:decide ((M.length:Int)=rows)=b):((((M.map f).length:Nat):Int)==rows)=b:=by rw[aL,<-h];by_cases e:(M.length:Int)=rows;rw[decide_eq_true e,e];exact beq_self_eq_true _;rw[decide_eq_false e];exact beq_eq_false_iff_ne.2 e
end
end Go.Proofs.YtpcofcmencgkbaaGreat
namespace Go.aA
section
variable{P:Program}{G:Nat->Option (List aa)}
def xu{f g:FuncId}{A:List aa}{r:aa}(i:Id)(el:aa)(k:Nat)(cs:List aa)[l:bn A][j:bn cs](h:ag P G f (A++[.fn (.func g) [] [.cE cs 0]]) r)(m:el.cells=cs:=by rfl):aV P G:=vx [(i,⟨[el],k,false⟩)] (args:=A++[.fn (.func g) [] [.ref i 0 0]]) h (by
 have e:∀A:List aa,(∀c∈A,cd c)->dy (aQ.of [(i,(⟨[el],k,false⟩:aJ))]) (A++[.fn (.func g) [] [.ref i 0 0]]) (A++[.fn (.func g) [] [.cE cs 0]]):=λ A=>by induction A with|nil=>intro _;subst m;exact bZ (View.fn eH (bZ (View.ref (av:=⟨[el],k,false⟩) (by simp[aQ.of,List.lookup]) rfl (jJ j.pure)) eH)) eH|cons a A d=>exact λ b=>bZ (View.pure (b a cg)) (d λ c hc=>b c (cX _ hc))
 exact e A l.pure)
end
end Go.aA
namespace Go.Proofs.YtpcofcmencgkbaaGreat
section
variable(G:Nat->Option (List aa))
def Wa(i:Nat)(b:i<=1000):ag ab G 100 [.int .i64 (i:Int)] (a3 (((i:Nat):Int):Rat)).T:=by have h:=V9 G (((i:Nat):Int):Rat) ((apG b).mono);exact aN [hc (xZ G i ac ac),hc h]
def vL:ag ab G 100 [.int .i64 0] (a3 0).T:=Wa G 0 al
def xK:ag ab G 100 [.int .i64 1] (a3 1).T:=Wa G 1 al
abbrev UC(l:List Nat)(n i:Nat):List (Nat×aa):=[(0,bP l),(1,aq n),(6,bP l),(7,.int .i64 ((l.map aq).length:Nat)),(8,aq i)]
def LM{a b:Nat}{c:Bool}(h:decide (a=b)=c):((b:Int)==(a:Int))=c:=by rw[<-h];by_cases e:a=b;subst e;rw[decide_eq_true rfl];exact beq_self_eq_true _;rw[decide_eq_false e];exact beq_eq_false_iff_ne.2 ac
def pD{l:List Nat}{n:Nat}(m:l.length<=9000):ag ab G 70 [bP l,aq n] (.bool (l.contains n)):=by
 rcases first (λ i=>decide (l.getD i 0=n)) l.length with h1|⟨i,a,d,g⟩;rw[show l.contains n=false from by rw[Fj,decide_eq_false];intro h;have⟨i,a,e⟩:=fy.1 h;have:=h1 i a;rw[aX a,decide_eq_true e]at this;cases this];have f:ag ab G 115 [bP l,aq n] (.int .i64 (-1)):=by refine bK [gw (ao 115) 0 0 0 l.length (UC l n) (.exit 0) [] (λ i a=>?_) (rd [cS 9 aq l])];have:=h1 i a;rw[aX a]at this;exact rd [bu 9 aq a,aU 14 1 aq a,hb 16 (LM this),a5 18 i]
 exact aN [hc f];rw[aX a]at d;rw[show l.contains n=true from by rw[Fj,decide_eq_true];rw[<-of_decide_eq_true d];exact bo a];have f:ag ab G 115 [bP l,aq n] (aq i):=by refine bK [gw (ao 115) 0 0 0 i (UC l n) .ret [(4,aq i)] (λ j k=>?_) ?_];have c:j<l.length:=ac;have:=g j k;rw[aX c]at this;exact rd [bu 9 aq c,aU 14 1 aq c,hb 16 (LM this),a5 18 j];exact rd [bu 9 aq a,aU 14 1 aq a,hb 16 (LM d)]
 exact aN [hc f,hb 8 (show decide ((i:Int)≥0)=true from decide_eq_true ac)]
noncomputable abbrev Hs(M:List (List ak))(f:aa)(i:Nat):List (Nat×aa):=[(0,aD M),(1,f),(6,aD M),(7,.int .i64 ((M.map aj).length:Nat)),(8,aq i)]
def Es{M:List (List ak)}{g:Nat}{c:aa}[bg c]{p:Nat->Bool}(r:M.length<=9000)(h:∀i(d:i<M.length),ag ab G g [aj M[i],c] (.bool (p i))){b:Bool}(e:(aR M.length).any p=b):ag ab G 98 [aD M,.fn (.func g) [] [c]] (.bool b):=by
 subst e;rcases first p M.length with h1|⟨i,d,m,n⟩;rw[show(aR M.length).any p=false from r7.2 λ x o=>by rw[h1 x (cb.1 o)];decide];have l:ag ab G 138 [aD M,.fn (.func g) [] [c]] (.int .i64 (-1)):=by refine bK [gw (ao 138) 0 0 0 M.length (Hs M (.fn (.func g) [] [c])) (.exit 0) [] (λ i d=>?_) (rd [cS 9 aj M])];have k:=h i d;rw[h1 i d]at k;exact rd [bu 9 aj d,aU 14 1 aj d,hc k,a5 18 i]
 exact aN [hc l];rw[show(aR M.length).any p=true from yW.2 ⟨i,cb.2 d,m⟩];have l:ag ab G 138 [aD M,.fn (.func g) [] [c]] (aq i):=by refine bK [gw (ao 138) 0 0 0 i (Hs M (.fn (.func g) [] [c])) .ret [(4,aq i)] (λ j q=>?_) ?_];have f:j<M.length:=ac;have k:=h j f;rw[n j q]at k;exact rd [bu 9 aj f,aU 14 1 aj f,hc k,a5 18 j];have k:=h i d;rw[m]at k;exact rd [bu 9 aj d,aU 14 1 aj d,hc k]
 exact aN [hc l,hb 8 (show decide ((i:Int)≥0)=true from decide_eq_true ac)]
def aqT(r:List ak)(w:Int):ag ab G 99 [aj r,.cE [di w] 0] (.bool (!decide ((r.length:Int)=w))):=by cases h:decide ((r.length:Int)=w)with|true=>exact aN [hb 7 (HH h)]|false=>exact aN [hb 7 (HH h)]
def Jv{M:List (List ak)}{rows w:Int}(j:M.length<=9000):ag ab G 49 [aD M,di rows,di w] (.bool (mh M rows w)):=by
 have k:(aR M.length).any (λ i=>!decide (((M.getD i []).length:Int)=w))=!(M.all λ r=>decide ((r.length:Int)=w)):=by rw[Bool.eq_iff_iff,yW,Bool.not_eq_true',List.all_eq_false];constructor;rintro⟨i,a,h⟩;have a:=cb.1 a;rw[aX a]at h;exact⟨_,bo a,by simpa using h⟩;rintro⟨r,l,h⟩;obtain⟨i,a,rfl⟩:=fy.1 l;exact⟨i,cb.2 a,by rw[aX a];simpa using h⟩
 have b:=Es G (M:=M) (g:=99) (c:=.cE [di w] 0) (p:=λ i=>!decide (((M.getD i []).length:Int)=w)) j (λ i a=>by rw[aX a];exact aqT G M[i] w) k;unfold mh;cases h1:decide ((M.length:Int)=rows)with|false=>rw[Bool.and_false];exact aN [hb 10 (MY (f:=aj) h1)]|true=>rw[Bool.and_true];cases e:(M.all λ r=>decide ((r.length:Int)=w))with|true=>rw[e]at b;exact aN [hb 10 (MY (f:=aj) h1),xu (A:=[aD M]) [0] (di w) 1 [di w] b]|false=>rw[e]at b;exact aN [hb 10 (MY (f:=aj) h1),xu (A:=[aD M]) [0] (di w) 1 [di w] b]
variable{K:b6}{q e r:Nat}(F:eb K q e r){n m:Nat}
include F
omit F in theorem W4{a b:List ak}{i:Nat}(ha:i<a.length)(hb:i<b.length):dV (a.take (i+1)) (b.take (i+1))=if(a[i]).bM||(b[i]).bM then dV (a.take i) (b.take i)else(dV (a.take i) (b.take i)).add ((a[i]).mul (b[i])):=by unfold dV;rw[kP ha,kP hb,List.zip_append (by rw[eZ,eZ];omega),wH];rfl
noncomputable abbrev amU(a b:List ak)(i:Nat)(q:aB):List (Nat×aa):=[(6,.ref q.a 0 0),(4,.ref q.b 0 0),(0,aj a),(1,aj b),(12,.int .i64 ((a.map aP).length:Nat)),(13,aq i)]
noncomputable abbrev vP(a b:List ak)(i:Nat)(q:aB):List (bz×aJ):=[(q.a,⟨[(dV (a.take i) (b.take i)).T],2,false⟩),(q.b,⟨[.agg [.ar,.ar]],2,false⟩)]
def xL{a:ak}(c:a.G K n)(d:bF K q n):ag ab G 154 [a.T] (.int .i64 (az.eE a.2.val)):=ak4 G F c d
def aqR{a b:List ak}(h:a.length<=b.length)(C:a.length<=9000)(A:cU K n a)(hb:cU K m b)(h1:bF K q n)(w:bF K q m)(h3:bF K q (q9 K a n m)):ag ab G 140 [aj a,aj b] (.aM [(dV (a.take a.length) (b.take a.length)).T,.bool true]):=by
 have g:∀i,i<=a.length->(dV (a.take i) (b.take i)).G K (q9 K a n m):=λ i f=>by have:=DN (K:=K) (n:=n) (m:=m) (a:=a.take i) (b:=b.take i) (λ x t=>A x (gZ t)) (λ x t=>hb x (gZ t));exact this.mono (cr _ (by rw[eZ];omega))
 refine bK [hc (vL G),dz (ao 140) 0 0 0 a.length ⟨[3,0],[0,0],[3],[4]⟩ (amU a b) (vP a b) (.exit 0) (λ q=>[(6,.ref q.a 0 0),(4,.ref q.b 0 0)]) (vP a b a.length) (λ i f=>?_) (a9 aO [cS 14 aP a])];have d:i<b.length:=ac;have v:=A _ (bo f);have p:=hb _ (bo d);have B:1*(n+m+K.c+1)<=q9 K a n m:=cr _ ac;have u:=xL G F v h1;have z:=xL G F p w;have j:=W4 f d;cases k:(a[i]).bM with|true=>rw[k,Fk,if_pos rfl]at j;unfold vP;rw[j];exact a9 aO [bu 14 aP f,aU 18 2 aP f,hc u,eB 21 (s5 k),a5 54 i]|false=>cases o:(b[i]).bM with|true=>rw[o,Bool.or_true,if_pos rfl]at j;unfold vP;rw[j];exact a9 aO [bu 14 aP f,aU 18 2 aP f,hc u,eB 21 (s5 k),aU 25 2 aP d,hc z,eB 28 (s5 o),a5 54 i]|false=>rw[k,o,abD,if_neg Bool.false_ne_true]at j;have x1:=Nr G F (a:=(a[i]).2) (b:=(b[i]).2) v p h1 w;have cu:=V3 G F (a:=(dV (a.take i) (b.take i)).2) (b:=((a[i]).mul (b[i])).2) (g i ac) (v.mul p) h3 (show bF K q (n+m+K.c)by unfold bF at*;omega);unfold vP;rw[j];exact a9 aO [bu 14 aP f,aU 18 2 aP f,hc u,eB 21 (s5 k),aU 25 2 aP d,hc z,eB 28 (s5 o),aU 33 2 aP f,aU 37 2 aP d,hc x1,hc cu,a5 54 i]
def Pp{a b:List ak}{z:ak}{jz:Nat}(h:a.length=b.length)(j:a.length<=9000)(d:cU K n a)(hb:cU K m b)(k:z.G K jz)(h1:bF K q n)(i:bF K q m)(h3:bF K q (q9 K a n m))(h4:bF K q jz):ag ab G 101 [aj a,aj b,z.T] (.bool (fF (dV a b) z)):=by have p:=aqR G F (Nat.le_of_eq h) j d hb h1 i h3;rw[gl,h,gl]at p;have g:=DN d hb;exact aN [hc p,hc (V8 G F (c:=fF (dV a b) z) g k h3 h4 sA)]
omit F in noncomputable abbrev aq7(M:List (List ak))(l:List Nat)(k i:Nat):List (Nat×aa):=[(0,aD M),(1,bP l),(2,aq k),(10,bP l),(11,.int .i64 ((l.map aq).length:Nat)),(12,aq i)]
omit F in theorem ZB{M:List (List ak)}{l:List Nat}{k:Nat}(hl:∀i∈l,i<M.length)(bp:∀r∈M,k<r.length)(fe:l.length<=9000):ag ab G 102 [aD M,bP l,aq k] (aj (jU M l k)):=by
 refine bK [ue (ao 102) 0 0 0 l.length 2 48 25 7 (fun i=>((M.getD (l.getD i 0) []).getD k (a3 0)).T) ((jU M l k).map aP) (aq7 M l k) (.exit 0) [] al (fun i hi=>?_) (rN [cS 13 aq l] an (by intros;kernel_rfl)) ?_] an;.have hx:=hl _ (bo hi);have hk:=bp _ (bo hx);rw[aX hi,aX hx,aX hk];exact p4 12 13 (fun x=>[bu 13 aq hi,aU 14 1 aq hi,aU 19 1 aj hx,aU 22 2 aP hk]++x++[a5 26 i]) an (by intros;kernel_rfl)
 .unfold jU;rw[iA,<-x6 (f:=aP∘fun i=>(M.getD i []).getD k (a3 0)) (d:=0)];rfl
def aqQ{M:List (List ak)}{v:List ak}{w:Nat}(t:a4 K n w M)(hv:cU K m v)(x:v.length=w)(k:M.length<=9000)(u:w<=9000)(h1:bF K q n)(h:bF K q m)(h3:bF K q (w*(n+m+K.c+1))):ag ab G 104 [aD M,aj v] (.bool ((aR M.length).all λ i=>fF (dV (M.getD i []) v) (a3 0))):=by
 have o:∀i(f:i<M.length),ag ab G 148 [aj M[i],.cE [aj v] 0] (.bool (!fF (dV (M.getD i []) v) (a3 0))):=λ i f=>by have⟨j,g1⟩:=t _ (bo f);have s:=Pp G F (a:=M[i]) (b:=v) (z:=a3 0) (jz:=m) ac ac g1 hv ak.G.zero h1 h (by unfold q9;rw[j];exact h3) h;rw[aX f];exact aN [hc (vL G),hc s]
 have p:(aR M.length).any (λ i=>!fF (dV (M.getD i []) v) (a3 0))=!((aR M.length).all λ i=>fF (dV (M.getD i []) v) (a3 0)):=by rw[List.all_eq_not_any_not,Bool.not_not]
 have l:=Es G (M:=M) (g:=148) (c:=.cE [aj v] 0) k o p;generalize(aR M.length).all (λ i=>fF (dV (M.getD i []) v) (a3 0))=b at*;cases b<;>exact aN [xu (A:=[aD M]) [0] (aj v) 1 [aj v] l]
end
end Go.Proofs.YtpcofcmencgkbaaGreat
namespace Go.aA.fE
noncomputable section
open Classical
def bL:Nat->(Nat->az)->az|0,_=>0|n+1,f=>bL n f+f n
def cF{n:Nat}{f g:Nat->az}(h:∀i,i<n->f i=g i):bL n f=bL n g:=by induction n with|zero=>rfl|succ n a=>rw[bL,bL,a λ i b=>h i ac,h n ac]
def nP(n:Nat):bL n (λ _=>0)=0:=by induction n with|zero=>rfl|succ n a=>rw[bL,a];grind
def Ek(n:Nat)(f g:Nat->az):bL n (λ i=>f i+g i)=bL n f+bL n g:=by induction n with|zero=>simp only[bL];grind|succ n a=>rw[bL,bL,bL,a];grind
def ap6(n:Nat)(f g:Nat->az):bL n (λ i=>f i-g i)=bL n f-bL n g:=by induction n with|zero=>simp only[bL];grind|succ n a=>rw[bL,bL,bL,a];grind
def lf(n:Nat)(c:az)(f:Nat->az):bL n (λ i=>c*f i)=c*bL n f:=by induction n with|zero=>rw[bL,bL];grind|succ n a=>rw[bL,bL,a];grind
def uz(n:Nat)(c:az)(f:Nat->az):bL n (λ i=>f i*c)=bL n f*c:=by induction n with|zero=>rw[bL,bL];grind|succ n a=>rw[bL,bL,a];grind
def pA(n m:Nat)(f:Nat->Nat->az):bL n (λ i=>bL m λ j=>f i j)=bL m λ j=>bL n λ i=>f i j:=by induction n with|zero=>simp only[bL];rw[nP]|succ n a=>simp only[bL];rw[a,Ek]
def mZ{n k:Nat}(e:k<n)(f:Nat->az)(h:∀i,i<n->i≠k->f i=0):bL n f=f k:=by induction n with|zero=>omega|succ n c=>rw[bL];by_cases a:k=n;subst a;rw[cF (g:=λ _=>0) λ i d=>h i ac ac,nP];grind;rw[c ac λ i d b=>h i ac b,h n ac ac];grind
def aX{α:Type}{l:List α}{i:Nat}{d:α}(h:i<l.length):l.getD i d=l[i]:=by rw[dE,eu h,BN]
abbrev er:=List (List az)
def br(m:er)(i k:Nat):az:=(m.getD i []).getD k 0
def jQ(n w:Nat)(m:er)(v:Nat->az):Prop:=∃y:Nat->az,∀k,k<w->v k=bL n λ j=>y j*br m j k
def jQ.row{n w i:Nat}(m:er)(b:i<n):jQ n w m (br m i):=⟨λ j=>if j=i then 1 else 0,λ k c=>by rw[mZ b _ (λ j d a=>by show(if j=i then(1:az)else 0)*_=0;rw[if_neg a];grind)];show _=(if i=i then(1:az)else 0)*_;rw[if_pos rfl];grind⟩
def jQ.congr{n w:Nat}{m:er}{u v:Nat->az}(h:jQ n w m u)(e:∀k,k<w->v k=u k):jQ n w m v:=by have⟨y,b⟩:=h;exact⟨y,λ k a=>by rw[e k a,b k a]⟩
def jQ.smul{n w:Nat}{m:er}{v:Nat->az}(c:az)(h:jQ n w m v):jQ n w m λ k=>c*v k:=by have⟨y,b⟩:=h;exact⟨λ j=>c*y j,λ k a=>by show c*v k=_;rw[b k a,<-lf];exact cF λ i _=>ap⟩
def jQ.add{n w:Nat}{m:er}{u v:Nat->az}(h:jQ n w m u)(d:jQ n w m v):jQ n w m λ k=>u k+v k:=by have⟨y,b⟩:=h;have⟨z,c⟩:=d;exact⟨λ j=>y j+z j,λ k a=>by show u k+v k=_;rw[b k a,c k a,<-Ek];exact cF λ i _=>ap⟩
def jQ.trans{n w:Nat}{m c:er}{v:Nat->az}(h:jQ n w c v)(b:∀j,j<n->jQ n w m (br c j)):jQ n w m v:=by have⟨y,e⟩:=h;refine⟨λ i=>bL n λ j=>y j*(if a:j<n then(b j a).choose i else 0),λ k d=>?_⟩;rw[e k d,cF (g:=λ j=>bL n λ i=>y j*(if a:j<n then(b j a).choose i else 0)*br m i k) λ j a=>by rw[(b j a).choose_spec k d,<-lf];exact cF λ i _=>by rw[dif_pos a];grind];rw[pA];exact cF λ i _=>by rw[<-uz]
def xh(top:List az)(k:Nat)(r:List az):List az:=if r.getD k 0=0 then r else Fl (λ x y=>x-y*r.getD k 0) r top
def swp(m:er)(t p:Nat):er:=(m.set t (m.getD p [])).set p (m.getD t [])
def td(r:List az)(k:Nat):List az:=r.map (·/r.getD k 0)
def mY(m:er)(t k p:Nat):er:=(aR m.length).map λ i=>if i=t then td (m.getD p []) k else xh (td (m.getD p []) k) k ((swp m t p).getD i [])
def qc(m:er)(t k:Nat):Option Nat:=((m.drop t).findIdx? λ r=>decide (r.getD k 0≠0)).map (·+t)
def elim(m:er):Nat->er×List Nat|0=>(m,[])|k+1=>match qc (elim m k).1 (elim m k).2.length k with|none=>elim m k|some p=>(mY (elim m k).1 (elim m k).2.length k p,(elim m k).2++[k])
def afL{m:er}{t k p:Nat}(h:qc m t k=some p):t<=p/\p<m.length/\br m p k≠0/\∀i,t<=i->i<p->br m i k=0:=by unfold qc at h;obtain⟨q,b,rfl⟩:=Option.map_eq_some_iff.1 h;rw[abE]at b;have⟨c,a,hb⟩:=b;rw[m8]at c;refine⟨ac,ac,?_,?_⟩;rw[BK]at a;have a:=of_decide_eq_true a;unfold br;rw[aX (ac:q+t<m.length)];have e:t+q=q+t:=Qt _ _;simp only[e]at a;exact a;intro i h1 d;have:=hb (i-t) ac;rw[BK]at this;have e:t+(i-t)=i:=ac;simp only[e]at this;unfold br;rw[aX (ac:i<m.length)];simpa using this
def afK{m:er}{t k:Nat}(h:qc m t k=none){i:Nat}(h1:t<=i)(a:i<m.length):br m i k=0:=by unfold qc at h;rw[Option.map_eq_none_iff,abF]at h;have:=h (m[i]) (by rw[fy];exact⟨i-t,by rw[m8];omega,by rw[BK];congr 1;omega⟩);unfold br;rw[aX a];simpa using this
def OL{m:er}{t k p:Nat}:(mY m t k p).length=m.length:=by simp[mY]
def YG{m:er}{t k p i:Nat}(a:i<m.length):(mY m t k p).getD i []=if i=t then td (m.getD p []) k else xh (td (m.getD p []) k) k ((swp m t p).getD i []):=by simp[mY,dE,a]
def Y5{r:List az}{k j:Nat}:(td r k).getD j 0=r.getD j 0/r.getD k 0:=by unfold td;generalize r.getD k 0=c;rw[dE,kv,dE];cases r[j]? with|none=>show(0:az)=0/c;rw[BO];grind|some x=>rfl
def aeo{top r:List az}{k j:Nat}(h:top.length=r.length):(xh top k r).getD j 0=r.getD j 0-top.getD j 0*r.getD k 0:=by unfold xh;split;rename_i b;rw[b];grind;generalize r.getD k 0=c;by_cases a:j<r.length;rw[aX (show j<(Fl (λ x y=>x-y*c) r top).length by rw[gY];omega),aX a,aX (ac:j<top.length),List.getElem_zipWith];rw[dE,dE,dE,yI (by rw[gY];omega),yI ac,yI ac];simp only[Option.getD_none];grind
def aep{top r:List az}{k:Nat}(h:top.length=r.length):(xh top k r).length=r.length:=by unfold xh;split;rfl;rw[gY];omega
def Pb{r:List az}{k:Nat}:(td r k).length=r.length:=by simp[td]
def OS{m:er}{t p i:Nat}(c:t<m.length)(b:p<m.length):(swp m t p).getD i []=m.getD (if i=p then t else if i=t then p else i) []:=by unfold swp;simp only[dE,yu,kQ];by_cases h1:p=i;subst h1;simp[b];rw[if_neg h1,if_neg (show¬i=p from λ e=>h1 e.symm)];by_cases a:t=i;subst a;simp[c];rw[if_neg a,if_neg (show¬i=t from λ e=>a e.symm)]
def n9(w:Nat)(m:er):Prop:=∀r∈m,r.length=w
def n9.at{w:Nat}{m:er}(h:n9 w m){i:Nat}(a:i<m.length):(m.getD i []).length=w:=by rw[aX a];exact h _ (bo a)
def YH{w t k p:Nat}{m:er}(h:n9 w m)(c:t<m.length)(b:p<m.length){i:Nat}(e:i<m.length)(j:Nat):br (mY m t k p) i j=if i=t then br m p j/br m p k else br m (if i=p then t else i) j-br m p j/br m p k*br m (if i=p then t else i) k:=by
 unfold br;rw[YG e];by_cases a:i=t;rw[if_pos a,if_pos a,Y5];have d:(if i=p then t else i)<m.length:=by split<;>assumption
 rw[if_neg a,if_neg a,OS c b,if_neg a,aeo (by rw[Pb,h.at b,h.at d]),Y5]
def YI{w t k p:Nat}{m:er}(h:n9 w m)(f:t<m.length)(b:p<m.length):n9 w (mY m t k p):=by
 intro r g;obtain⟨i,e,rfl⟩:=fy.1 g;rw[OL]at e;rw[<-aX (d:=[]),YG e];split;rw[Pb,h.at b];rename_i a;have c:(if i=p then t else i)<m.length:=by split<;>assumption
 rw[OS f b,if_neg a,aep (by rw[Pb,h.at b,h.at c]),h.at c]
def zB{α:Type}{l:List α}{a d:α}{i:Nat}(h:i<l.length):(l++[a]).getD i d=l.getD i d:=by rw[aX h,aX (by rw[cy];omega),List.getElem_append_left]
def zC{α:Type}{l:List α}{a d:α}:(l++[a]).getD l.length d=a:=by rw[aX am];simp
structure jm(n w k:Nat)(A m:er)(pv:List Nat):Prop where
 Od:n9 w m
 len:m.length=n
 to:∀i,i<n->jQ n w A (br m i)back:∀i,i<n->jQ n w m (br A i)rE:pv.length<=n
 sZ:∀s,s<pv.length->pv.getD s 0<k
 one:∀s,s<pv.length->∀i,i<n->br m i (pv.getD s 0)=if i=s then 1 else 0
 lead:∀s,s<pv.length->∀j,j<pv.getD s 0->br m s j=0
 low:∀i,pv.length<=i->i<n->∀j,j<k->br m i j=0
def Ss{x:az}(h:x≠0):x/x=1:=by rw[BO];exact az.rv h
def jm.step{n w k p:Nat}{A m:er}{g:List Nat}(h:jm n w k A m g)(Q:k<w)(N:qc m g.length k=some p):jm n w (k+1) A (mY m g.length k p) (g++[k]):=by
 have⟨M,v,r,P⟩:=afL N;have L:=h.len;have H:g.length<m.length:=ac;have d:=λ(i:Nat)(f:i<n)(j:Nat)=>YH (k:=k) h.Od H v (i:=i) ac j;generalize e:g.length=t at*;have E:∀i,i<n->(if i=p then t else i)<n:=λ i f=>by split<;>omega
 have z:∀j,j<k->br m p j=0:=λ j o=>h.low p ac ac j o;refine⟨YI h.Od H v,by rw[OL,L],?_,?_,by rw[cy,lT];omega,?_,?_,?_,?_⟩;intro i f;by_cases c:i=t;refine((h.to p ac).smul (1/br m p k)).congr λ j _=>?_;rw[d i f j,if_pos c];grind;refine((h.to _ (E i f)).add ((h.to p ac).smul (-(br m (if i=p then t else i) k/br m p k)))).congr λ j _=>?_;rw[d i f j,if_neg c];grind;intro i f;refine(h.back i f).trans λ a J=>?_;have I:=jQ.row (n:=n) (w:=w) (mY m t k p) (i:=t) ac;have O:∀j,br m p j=br m p k*br (mY m t k p) t j:=λ j=>by rw[d t ac j,if_pos rfl];grind
 by_cases y:a=p;subst y;exact(I.smul (br m a k)).congr λ j _=>O j
 · have hb:∃b,b<n/\b≠t/\(if b=p then t else b)=a:=by by_cases G:a=t;exact⟨p,ac,ac,by rw[if_pos rfl];omega⟩;exact⟨a,J,G,by rw[if_neg y]⟩
   have⟨b,x,D,C⟩:=hb;refine((jQ.row (n:=n) (w:=w) (mY m t k p) x).add (I.smul (br m a k))).congr λ j _=>?_;rw[d b x j,if_neg D,C,d t ac j,if_pos rfl];grind
 intro s u;rw[cy,lT,e]at u;by_cases q:s<t;rw[zB ac];have:=h.sZ s;omega;rw[show s=g.length from ac,zC];omega;intro s u i f;rw[cy,lT,e]at u;by_cases q:s<t;rw[zB ac];have h1:=h.sZ s ac;have B:=h.one s ac;rw[d i f];have K:br m p (g.getD s 0)=0:=z _ h1;rw[K];by_cases c:i=t;rw[if_pos c,if_neg ac];grind;rw[if_neg c,B _ (E i f)];by_cases l:i=s;rw[if_pos l,if_neg (ac:¬i=p),if_pos l];grind;rw[if_neg l,if_neg (show¬(if i=p then t else i)=s by split<;>omega)];grind;have:s=t:=ac;subst this;rw[show(g++[k]).getD s 0=k by rw[<-e];exact zC];rw[d i f,Ss r];by_cases c:i=s;rw[if_pos c,if_pos c];rw[if_neg c,if_neg c];grind;intro s u j o;rw[cy,lT,e]at u;by_cases q:s<t;rw[zB ac]at o;have h1:=h.sZ s;rw[d s ac,if_neg ac,if_neg ac,h.lead s ac j o,z j ac];grind;have:s=t:=ac;subst this;rw[show(g++[k]).getD s 0=k by rw[<-e];exact zC]at o;rw[d s ac,if_pos rfl,z j o];grind;intro i h1 B j o;rw[cy,lT,e]at h1;rw[d i B,if_neg ac];by_cases F:j=k;subst F;rw[Ss r];grind;rw[z j ac,h.low _ (by split<;>omega) (E i B) j ac];grind
def jm.skip{n w k:Nat}{A m:er}{a:List Nat}(h:jm n w k A m a)(d:qc m a.length k=none):jm n w (k+1) A m a:=⟨h.Od,h.len,h.to,h.back,h.rE,λ s e=>by have:=h.sZ s e;omega,h.one,h.lead,λ i h1 c j f=>by by_cases b:j=k;subst b;exact afK d h1 (by rw[h.len];exact c);exact h.low i h1 c j ac⟩
def Cv{w:Nat}{A:er}(h:n9 w A):∀k,k<=w->jm A.length w k A (elim A k).1 (elim A k).2|0,_=>⟨h,rfl,λ i b=>jQ.row A b,λ i b=>jQ.row A b,Nat.zero_le _,λ s a=>absurd a (ew _),λ s a=>absurd a (ew _),λ s a=>absurd a (ew _),λ i _ _ j e=>absurd e (ew _)⟩|k+1,f=>by have d:=Cv h k ac;unfold elim;cases c:qc (elim A k).1 (elim A k).2.length k with|none=>exact d.skip c|some p=>exact d.step ac c
def s8(m:er)(a:List Nat)(n:Nat)(k:Nat):az:=match a.findIdx? (·==k)with|some s=>br m s n|none=>0
def OD{n w c:Nat}{A m:er}{a:List Nat}(h:jm n w c A m a){s:Nat}(b:s<a.length)(q:Nat):s8 m a q (a.getD s 0)=br m s q:=by
 unfold s8;have:a.findIdx? (·==a.getD s 0)=some s:=by rw[abE];refine⟨b,by rw[aX b];exact beq_self_eq_true _,λ j g=>?_⟩;have h1:=h.one s b s (by have:=h.rE;omega);have f:=h.one j ac s (by have:=h.rE;omega);rw[if_pos rfl]at h1;rw[if_neg (ac:¬s=j)]at f;rw[beq_iff_eq,aX b];intro e;rw[aX (ac:j<a.length),e,<-aX (d:=0) b,h1]at f;grind
 rw[this]
def Ym{m:er}{a:List Nat}{q k:Nat}(h:k∉a):s8 m a q k=0:=by unfold s8;rw[abF.2 λ x b=>by rw[beq_eq_false_iff_ne];rintro rfl;exact h b]
def apN{n q:Nat}{A m:er}{b:List Nat}(h:jm n (q+1) (q+1) A m b)(x:q∉b){i:Nat}(v:i<n):bL q (λ k=>br A i k*s8 m b q k)=br A i q:=by
 have u:∀s,s<b.length->b.getD s 0<q:=λ s c=>by have h1:=h.sZ s c;have B:b.getD s 0≠q:=λ e=>x (by rw[<-e,aX c];exact bo c);omega
 have row:∀a,a<n->bL q (λ k=>br m a k*s8 m b q k)=br m a q:=by intro a f;by_cases d:a<b.length;have e:=u a d;rw[mZ e _ λ k t o=>?_];rw[OD h d,h.one a d a f,if_pos rfl];grind;by_cases p:k∈b;obtain⟨s,c,rfl⟩:=fy.1 p;have l:a≠s:=λ e=>o (by subst e;rw[aX c]);have:=h.one s c a f;rw[aX c,if_neg l]at this;rw[this];grind;rw[Ym p];grind;have z:=h.low a ac f;rw[z q ac,cF (g:=λ _=>0) λ k t=>by rw[z k ac];grind];exact nP q
 have⟨y,r⟩:=h.back i v;rw[r q ac,cF (g:=λ k=>bL n λ j=>y j*(br m j k*s8 m b q k)) λ k t=>by rw[r k ac,<-uz];exact cF λ j _=>ap];rw[pA];exact cF λ j w=>by rw[lf,row j w]
def lN(r:List ak):List az:=r.map λ x=>x.2.val
def bH(M:List (List ak)):er:=M.map lN
def Ju(r:List ak)(k:Nat):(lN r).getD k 0=(r.getD k (a3 0)).2.val:=by unfold lN;rw[dE,dE,kv];cases r[k]? with|none=>rfl|some x=>rfl
def Pq(M:List (List ak))(i:Nat):(bH M).getD i []=lN (M.getD i []):=by unfold bH;rw[dE,dE,kv];cases M[i]? with|none=>rfl|some x=>rfl
def oO(M:List (List ak)):(bH M).length=M.length:=aL _
def ZC(r:List ak):(lN r).length=r.length:=aL _
variable{K:b6}{n m w:Nat}{M:List (List ak)}
def S8(t k:Nat)(b:t<=M.length):qc (bH M) t k=if eA M t k<M.length then some (eA M t k)else none:=by
 unfold qc eA bH;rw[<-Qu,List.findIdx?_map];have e:(λ r:List az=>decide (r.getD k 0≠0))∘lN=λ r=>!(r.getD k (a3 0)).bM:=by funext r;show decide ((lN r).getD k 0≠0)=_;rw[Ju];cases e:(r.getD k (a3 0)).bM with|true=>rw[qQ.1 e];simp|false=>
     have:¬(r.getD k (a3 0)).2.val=0:=λ h=>by rw[qQ.2 h]at e;cases e
     simpa using this
 rw[e];by_cases h:t+(M.drop t).findIdx (λ r=>!(r.getD k (a3 0)).bM)<M.length;rw[if_pos h];rw[List.findIdx?_eq_some_iff_findIdx_eq.2 ⟨by rw[m8];omega,rfl⟩];show some _=some _;rw[Qt];rw[if_neg h];have a:(M.drop t).findIdx (λ r=>!(r.getD k (a3 0)).bM)<=(M.drop t).length:=List.findIdx_le_length;rw[List.findIdx?_eq_none_iff_findIdx_eq.2 (by rw[m8]at a⊢;omega)];rfl
def aqY{r:List ak}{x:ak}(d:cU K n r)(c:x.G K m):lN (jc r x)=(lN r).map (·/x.2.val):=by unfold lN jc;rw[iA,iA];refine kq λ y b=>?_;show(aC.div y.2 x.2).val=y.2.val/x.2.val;rw[aC.div_val (d y b).red c.red,BO]
def aqX{a b:List ak}{x:ak}(d:cU K n a)(hb:cU K m b){q:Nat}(f:x.G K q):lN (hQ a b x)=Fl (λ p y=>p-y*x.2.val) (lN a) (lN b):=by
 unfold lN hQ;rw[List.map_zipWith,List.zipWith_map_left,List.zipWith_map_right];have key:∀(a b:List ak),cU K n a->cU K m b->Fl (λ p q=>(p.sub (q.mul x)).2.val) a b=Fl (λ p q=>p.2.val-q.2.val*x.2.val) a b:=λ a=>by induction a with|nil=>intro b _ _;rfl|cons y a g=>intro b d hb;cases b with|nil=>rfl|cons z b=>rw[abG,abG,g b (λ c hc=>d c (cX _ hc)) (λ c hc=>hb c (cX _ hc))];have h1:=(d y cg).red;have e:=(hb z cg).red;rw[show(y.sub (z.mul x)).2.val=y.2.val-z.2.val*x.2.val from(aC.OO h1 (aC.H0 e f.red)).trans (by rw[aC.Dl e f.red])]
 exact key a b d hb
def Jg(M:List (List ak))(t p:Nat)(c:t<M.length)(b:p<M.length)(i:Nat):(iR M t p).getD i []=M.getD (if i=p then t else if i=t then p else i) []:=by unfold iR;show((M.set t (M.getD p [])).set p (M.getD t [])).getD i []=_;rw[dE,yu];by_cases h1:p=i;subst h1;rw[if_pos rfl,if_pos rfl,kQ,if_pos b];rfl;rw[if_neg h1,if_neg (λ h=>h1 h.symm),yu];by_cases a:t=i;subst a;rw[if_pos rfl,if_pos rfl,if_pos c];rfl;rw[if_neg a,if_neg (λ h=>a h.symm),<-dE]
def step_eq(z:a4 K n w M){t k:Nat}(l:t<M.length){a:List Nat}(v:a.length=t)(d:eA M t k<M.length):bH (fq (M,a) k).1=mY (bH M) t k (eA M t k):=by
 subst v;have G:(fq (M,a) k).1=((iR M a.length (eA M a.length k)).set a.length (jc ((iR M a.length (eA M a.length k)).getD a.length []) (((iR M a.length (eA M a.length k)).getD a.length []).getD k (a3 0)))).mapIdx (λ i r=>if i !=a.length&&!(r.getD k (a3 0)).bM then hQ r (jc ((iR M a.length (eA M a.length k)).getD a.length []) (((iR M a.length (eA M a.length k)).getD a.length []).getD k (a3 0))) (r.getD k (a3 0))else r):=by unfold fq;exact congrArg Prod.fst (if_pos d)
 rw[G];generalize E:eA M a.length k=p at*;generalize F:a.length=t at*;have A:t<=p:=by rw[<-E];exact Au _ _ _
 have C:=z.swap (i:=t) (j:=p) l d;have f:(iR M t p).getD t []=M.getD p []:=by rw[Jg M t p l d];by_cases h:t=p;rw[if_pos h,h];rw[if_neg h,if_pos rfl]
 rw[f];have b:=z.get d;have v1:lN (jc (M.getD p []) ((M.getD p []).getD k (a3 0)))=td ((bH M).getD p []) k:=by rw[aqY b.2 b.2.get,Pq];unfold td;rw[Ju]
 have s:(iR M t p).length=M.length:=OR _ _ _;unfold bH mY;refine jL (by rw[aL,BI,kQ,s,aL,cR,aL]) λ i h1 H=>?_;have D:i<M.length:=by rw[aL,BI,kQ,s]at h1;exact h1
 have g:i<(iR M t p).length:=by rw[s];exact D
 rw[gm,gm,kT,List.getElem_mapIdx,BJ];by_cases e:t=i;have u:(i !=t)=false:=by rw[e];exact bne_self_eq_false i
 simp only[if_pos e,u,uY];rw[if_pos e.symm];exact v1;have u:(i !=t)=true:=by rw[bne_iff_ne];exact λ h=>e h.symm
 simp only[if_neg e,u,nh];have x:(iR M t p)[i]=(iR M t p).getD i []:=by rw[dE,eu g,BN]
 have o:(swp (M.map lN) t p).getD i []=lN (iR M t p)[i]:=by rw[x,Jg M t p l d,OS (m:=M.map lN) (by rw[aL];exact l) (by rw[aL];exact d)];exact Pq M _
 rw[if_neg (c:=i=t) (λ h=>e h.symm),o];have y:=C _ (bo g);generalize(iR M t p)[i]=r at*;unfold xh;rw[Ju];cases q:(r.getD k (a3 0)).bM with|true=>rw[if_pos (qQ.1 q),if_neg al]|false=>
   have B:¬(r.getD k (a3 0)).2.val=0:=λ h=>by rw[qQ.2 h]at q;cases q
   rw[if_neg B,if_pos al,aqX y.2 (Ox b.2 b.2.get) y.2.get,v1];rfl
def fold_eq(d:a4 K n w M):∀k,k<=c8 M->elim (bH M) k=(bH ((aR k).foldl fq (M,[])).1,((aR k).foldl fq (M,[])).2)
 |0,_=>rfl|k+1,h=>by
   have f:=fold_eq d k ac;have H:=D2 d rfl k;rw[gz,wH];generalize(aR k).foldl fq (M,[])=st at*;show(match qc (elim (bH M) k).1 (elim (bH M) k).2.length k with|none=>elim (bH M) k|some p=>(mY (elim (bH M) k).1 (elim (bH M) k).2.length k p,(elim (bH M) k).2++[k]))=(bH (fq st k).1,(fq st k).2);rw[f];simp only;rw[S8 _ _ (by rw[H.len];exact H.pl)];have⟨R,a⟩:=st;by_cases b:eA R a.length k<R.length;rw[if_pos b];have e:a.length<R.length:=gN (Au _ _ _) b;have c:=step_eq H.ql e rfl b;have g:(fq (R,a) k).2=a++[k]:=by unfold fq;exact congrArg Prod.snd (if_pos b)
   rw[c,g];rw[if_neg b];have c:fq (R,a) k=(R,a):=by unfold fq;exact if_neg b
   rw[c]
def Oe(a:a4 K n w M):elim (bH M) (c8 M)=(bH (bc M).1,(bc M).2):=fold_eq a _ (a2 _)
def mb(m:er)(a:List Nat)(q k:Nat):az:=if k=q then 1 else-s8 m a q k
def HF{m:er}{a:List Nat}{q:Nat}:mb m a q q=1:=if_pos rfl
def MT{m:er}{a:List Nat}{q k:Nat}(h:k∉a)(b:k≠q):mb m a q k=0:=by unfold mb;rw[if_neg b,Ym h];grind
def MU{n w q:Nat}{A m:er}{b:List Nat}(h:jm n w w A m b)(hw:q<w)(v:q∉b){i:Nat}(B:i<n):bL w (λ k=>br A i k*mb m b q k)=0:=by
 have row:∀a,a<n->bL w (λ k=>br m a k*mb m b q k)=0:=by
   intro a p;by_cases c:a<b.length;have e:=h.sZ a c;have d:b.getD a 0≠q:=λ e=>v (by rw[<-e,aX c];exact bo c);have h1:bL w (λ k=>br m a k*mb m b q k)=bL w (λ k=>(if k=q then br m a q else 0)+(if k=b.getD a 0 then-br m a q else 0)):=cF λ k o=>by by_cases f:k=q;subst f;rw[HF,if_pos rfl,if_neg (λ e=>d e.symm)];grind;rw[if_neg f];by_cases l:k=b.getD a 0;subst l;rw[if_pos rfl,h.one a c a p,if_pos rfl];unfold mb;rw[if_neg f,OD h c];grind;rw[if_neg l];by_cases u:k∈b;obtain⟨s,r,rfl⟩:=fy.1 u;have t:a≠s:=λ e=>l (by subst e;rw[aX r]);have:=h.one s r a p;rw[aX r,if_neg t]at this;rw[this];grind;rw[MT u f];grind
   rw[h1,Ek,mZ hw _ (λ k o d=>if_neg d),mZ e _ (λ k o d=>if_neg d),if_pos rfl,if_pos rfl];grind;have z:=h.low a ac p;rw[cF (g:=λ _=>0) λ k o=>by rw[z k ac];grind];exact nP w
 have⟨y,x⟩:=h.back i B;rw[cF (g:=λ k=>bL n λ j=>y j*(br m j k*mb m b q k)) λ k o=>by rw[x k ac,<-uz];exact cF λ j _=>ap];rw[pA,cF (g:=λ _=>0) λ j C=>by rw[lf,row j C];grind];exact nP n
def ai9{n w:Nat}{A m:er}{c:List Nat}(h:jm n w w A m c){x:Nat->az}(f:∀i,i<n->bL w (λ k=>br A i k*x k)=0){a:Nat}(o:a<c.length):bL w (λ k=>br m a k*x k)=0:=by
 have b:a<n:=by have:=h.rE;omega
 have⟨y,e⟩:=h.to a b;rw[cF (g:=λ k=>bL n λ j=>y j*(br A j k*x k)) λ k l=>by rw[e k ac,<-uz];exact cF λ j _=>ap];rw[pA,cF (g:=λ _=>0) λ j d=>by rw[lf,f j d];grind];exact nP n
def gp(n w:Nat)(C:Nat->Nat->az):Prop:=∃c:Nat->az,(∃j,j<n/\c j≠0)/\∀k,k<w->bL n (λ j=>c j*C j k)=0
def xI(n w:Nat)(C:Nat->Nat->az):er:=(aR n).map λ i=>(aR w).map λ k=>C i k
def akL(n w:Nat)(C:Nat->Nat->az):(xI n w C).length=n:=by unfold xI;rw[aL,cR]
def akM(n w:Nat)(C:Nat->Nat->az):n9 w (xI n w C):=λ r a=>by obtain⟨i,_,rfl⟩:=bd.1 a;rw[aL,cR]
def akK{n w:Nat}{C:Nat->Nat->az}{i k:Nat}(b:i<n)(a:k<w):br (xI n w C) i k=C i k:=by unfold br xI;rw[aX (show i<((aR n).map λ i=>(aR w).map λ k=>C i k).length by rw[aL,cR];exact b),gm,kT];rw[aX (by rw[aL,cR];exact a),gm,kT]
def missing{n:Nat}{l:List Nat}(h:l.length<n):∃q,q<n/\q∉l:=by refine oQ λ c=>?_;have:=n6 (l:=aR n) (S:=l) pQ λ q d=>oQ λ b=>c ⟨q,cb.1 d,b⟩;rw[cR]at this;omega
def Sj{n w:Nat}(h:w<n)(C:Nat->Nat->az):gp n w C:=by have H:=Cv (akM w n λ k j=>C j k) n (a2 _);rw[akL]at H;have⟨q,b,d⟩:=missing (gN H.rE h);refine⟨mb (elim (xI w n λ k j=>C j k) n).1 (elim (xI w n λ k j=>C j k) n).2 q,⟨q,b,by rw[HF];grind⟩,λ k a=>?_⟩;have:=MU H b d a;rw[<-this];exact cF λ j c=>by rw[akK a c];grind
def aeP{n w v:Nat}(h:w<n){U:Nat->Nat->az}{V:Nat->Nat->az}(b:∀i,i<n->∃y:Nat->az,∀k,k<v->U i k=bL w λ j=>y j*V j k):gp n v U:=by have⟨c,hc,f⟩:=Sj h λ i j=>if a:i<n then(b i a).choose j else 0;refine⟨c,hc,λ k e=>?_⟩;rw[cF (g:=λ i=>bL w λ j=>c i*(if a:i<n then(b i a).choose j else 0)*V j k) λ i a=>by rw[(b i a).choose_spec k e,<-lf];exact cF λ j _=>by rw[dif_pos a];grind];rw[pA,cF (g:=λ _=>0) λ j d=>by rw[uz,f j d];grind];exact nP w
def OP{r n:Nat}{f:Nat->az}(h:r<=n)(a:∀j,r<=j->j<n->f j=0):bL n f=bL r f:=by induction n with|zero=>rw[Nat.le_zero.1 h]|succ n b=>by_cases e:r=n+1;rw[e];rw[bL,b ac (λ j h1 c=>a j h1 ac),a n ac ac];grind
def U4{n:Nat}{Y W:Nat->Nat->az}(A:∀t,t<n->∀s,s<n->bL n (λ i=>Y t i*W i s)=if t=s then 1 else 0){c:Nat->az}(hc:∀s,s<n->bL n (λ i=>c i*W i s)=0):∀i,i<n->c i=0:=by
 intro d q;refine oQ λ b=>?_;have⟨a,⟨j,B,m⟩,z⟩:=Sj (Nat.lt_succ_self n) λ s i=>if s<n then W i s else if i=d then 1 else 0;have r:∀i,i<n->bL n (λ s=>a s*W i s)+a n*(if i=d then 1 else 0)=0:=λ i l=>by have:=z i l;rw[bL]at this;simp only[if_neg (Nat.lt_irrefl n)]at this;rw[cF (f:=λ s=>a s*W i s) (g:=λ s=>a s*if s<n then W i s else if i=d then 1 else 0) λ s o=>by rw[if_pos o]];exact this
 have x:a n*c d=0:=by
   have h1:bL n (λ i=>c i*(bL n (λ s=>a s*W i s)+a n*(if i=d then 1 else 0)))=0:=by rw[cF (g:=λ _=>0) λ i l=>by rw[r i l];grind];exact nP n
   have w:bL n (λ i=>c i*(bL n (λ s=>a s*W i s)+a n*(if i=d then 1 else 0)))=bL n (λ i=>bL n (λ s=>a s*(c i*W i s))+(if i=d then a n*c d else 0)):=cF λ i l=>by
     have:c i*bL n (λ s=>a s*W i s)=bL n (λ s=>a s*(c i*W i s)):=by rw[<-lf];exact cF λ s _=>ap
     rw[<-this];by_cases e:i=d;subst e;rw[if_pos rfl,if_pos rfl];grind;rw[if_neg e,if_neg e];grind
   rw[w,Ek,pA,cF (f:=λ s=>bL n λ i=>a s*(c i*W i s)) (g:=λ _=>0) (λ s o=>by rw[lf,hc s o];grind),nP,mZ q _ (λ i _ b=>if_neg b),if_pos rfl]at h1;grind
 have u:a n=0:=(az.ry x).resolve_right b;have y:∀t,t<n->a t=0:=λ t v=>by
   have h1:bL n (λ i=>Y t i*bL n (λ s=>a s*W i s))=0:=by rw[cF (g:=λ _=>0) λ i l=>by have:=r i l;rw[u]at this;rw[show bL n (λ s=>a s*W i s)=0 from ap];grind];exact nP n
   rw[cF (g:=λ i=>bL n λ s=>a s*(Y t i*W i s)) λ i _=>by rw[<-lf];exact cF λ s _=>ap]at h1;rw[pA,cF (g:=λ s=>a s*(if t=s then 1 else 0)) (λ s o=>by rw[lf,A t v s o]),mZ v _ (λ s _ b=>by rw[if_neg (λ h=>b h.symm)];grind),if_pos rfl]at h1;grind
 by_cases p:j=n;exact m (by rw[p];exact u);exact m (y j ac)
def Xp{n w:Nat}{A m:er}{a:List Nat}(h:jm n w w A m a):a.length=n↔¬gp n w (br A):=by
 constructor;rintro v⟨c,⟨q,e,hc⟩,r⟩;have o:∀i,∃y:Nat->az,i<n->∀k,k<w->br m i k=bL n λ j=>y j*br A j k:=λ i=>by by_cases b:i<n;have⟨y,f⟩:=h.to i b;exact⟨y,λ _=>f⟩;exact⟨λ _=>0,λ h=>(b h).elim⟩
 refine hc (U4 (n:=n) (Y:=λ t i=>(o t).choose i) (W:=λ i s=>br A i (a.getD s 0)) (λ t l s u=>?_) (λ s u=>r _ (h.sZ s ac)) q e);have:=(o t).choose_spec l (a.getD s 0) (h.sZ s ac);rw[<-this,h.one s ac t l];intro hd;refine Nat.le_antisymm h.rE (Nat.le_of_not_lt λ d=>hd (aeP d (V:=br m) λ i b=>?_));have⟨y,f⟩:=h.back i b;refine⟨y,λ k g=>?_⟩;rw[f k g];exact OP h.rE λ j h1 p=>by rw[h.low j h1 p k g];grind
def Span(n w:Nat)(C:Nat->Nat->az)(v:Nat->az):Prop:=∃y:Nat->az,∀k,k<w->v k=bL n λ j=>y j*C j k
def Ys{n w:Nat}{C:Nat->Nat->az}(d:¬gp n w C)(hd:gp (n+1) w C):Span n w C (C n):=by have⟨c,⟨j,l,hc⟩,b⟩:=hd;have f:c n≠0:=λ e=>d ⟨c,⟨j,by rcases Nat.lt_succ_iff_lt_or_eq.1 l with h|h;exact h;exact absurd (by rw[h];exact e) hc,hc⟩,λ k a=>by have:=b k a;rw[bL,e]at this;grind⟩;have m:=az.rv f;refine⟨λ j=>-(c n)⁻¹*c j,λ k a=>?_⟩;have:=b k a;rw[bL]at this;rw[cF (g:=λ j=>-(c n)⁻¹*(c j*C j k)) λ j _=>ap,lf];generalize(c n)⁻¹=i at*;grind
def Span.row{n w i:Nat}{C:Nat->Nat->az}(b:i<n):Span n w C (C i):=⟨λ j=>if j=i then 1 else 0,λ k c=>by refine Eq.symm ((mZ b _ λ j d a=>?_).trans ?_);simp only[if_neg a];grind;simp only[if_true];grind⟩
def ain{n:Nat}{B m:er}{d:List Nat}(h:jm n (n+n) (n+n) B m d)(e:¬gp n n (br B))(r:∀i,i<n->∀s,s<n->br B i (n+s)=if i=s then 1 else 0):d.length=n/\∀s,s<n->d.getD s 0<n:=by have t:d.length=n:=(Xp h).2 λ⟨c,⟨j,b,hc⟩,u⟩=>hc (by have:=u (n+j);rw[cF (g:=λ i=>c i*(if i=j then 1 else 0)) λ i e=>by rw[r i e j b]]at this;rw[mZ b _ λ i _ f=>by simp only[if_neg f];grind]at this;simp only[if_true]at this;grind);refine⟨t,λ s o=>Nat.lt_of_not_le λ q=>?_⟩;have h1:=h.one s ac s o;rw[if_pos rfl]at h1;have⟨y,l⟩:=h.to s o;have v:∀j,j<n->y j=0:=λ j b=>oQ λ hc=>e ⟨y,⟨j,b,hc⟩,λ k w=>by rw[<-l k ac];exact h.lead s ac k ac⟩;have p:=l (d.getD s 0) (h.sZ s ac);rw[h1,cF (g:=λ _=>0) (λ j b=>by rw[v j b];grind),nP]at p;grind
def ail{n:Nat}{B m:er}{c:List Nat}(h:jm n (n+n) (n+n) B m c)(f:∀s,s<n->c.getD s 0=s)(t:c.length=n)(p:∀i,i<n->∀s,s<n->br B i (n+s)=if i=s then 1 else 0){i k:Nat}(d:i<n)(o:k<n):bL n (λ j=>br m i (n+j)*br B j k)=if i=k then 1 else 0:=by
 have⟨y,e⟩:=h.to i d;have r:∀j,j<n->br m i (n+j)=y j:=λ j a=>by rw[e (n+j) ac,cF (g:=λ q=>y q*(if q=j then 1 else 0)) (λ q l=>by rw[p q l j a]),mZ a _ λ q _ b=>by simp only[if_neg b];grind];simp only[if_true];grind
 have h1:=h.one k ac i d;rw[f k o,e k ac]at h1;rw[cF (g:=λ j=>y j*br B j k) (λ j a=>by rw[r j a]),h1]
end
noncomputable section
open Classical
variable{K:b6}{n w:Nat}{M:List (List ak)}
def Jt(a:a4 K n w M):n9 w (bH M):=λ r c=>by obtain⟨x,b,rfl⟩:=bd.1 c;rw[ZC];exact(a x b).1
def rG(a:a4 K n w M)(b:M≠[]):jm M.length w w (bH M) (bH (bc M).1) (bc M).2:=by have h:=Cv (Jt a) w (a2 _);have hc:=eD a b;have e:=Oe a;rw[hc]at e;rw[e,oO]at h;exact h
def aid(b:a4 K n w M)(a:M≠[]):(bc M).2.length=M.length↔¬gp M.length w (br (bH M)):=Xp (rG b a)
def gv{i k:Nat}:br (bH M) i k=((M.getD i []).getD k (a3 0)).2.val:=by unfold br;rw[Pq,Ju]
structure j8 where
 f:Nat->ak
 s:Nat->Nat
 pv:List Nat
 eh:ak
def j8.rows(w h:Nat)(x:j8):List (List ak):=(aR h).map λ i=>(aR w).map λ j=>x.f (x.s i*w+j)
def fK(s:Nat->Nat)(t p i:Nat):Nat:=s (if i=p then t else if i=t then p else i)
def mW(f:Nat->ak)(o k j:Nat)(y:ak):Nat->ak:=λ q=>if o+k<=q/\q<o+j then(f q).div y else f q
def iu(f:Nat->ak)(o b k j:Nat)(y:ak):Nat->ak:=λ q=>if o+k<=q/\q<o+j/\(f (b+(q-o))).bM=false then(f q).sub (y.mul (f (b+(q-o))))else f q
def eR(f:Nat->ak)(s:Nat->Nat)(w t k:Nat):Nat->Nat->ak|0=>f|i+1=>if i≠t/\(eR f s w t k i (s i*w+k)).bM=false then iu (eR f s w t k i) (s i*w) (s t*w) k w (eR f s w t k i (s i*w+k))else eR f s w t k i
def nD(w k:Nat)(x:j8)(t p:Nat):Nat->ak:=mW x.f (fK x.s t p t*w) k w (x.f (fK x.s t p t*w+k))
def amx(w k:Nat)(x:j8)(t p:Nat):ak:=(if t<p then x.eh.neg else x.eh).mul (x.f (fK x.s t p t*w+k))
def uq(w h k:Nat)(x:j8)(t p:Nat):j8:=⟨eR (nD w k x t p) (fK x.s t p) w t k h,fK x.s t p,x.pv++[k],amx w k x t p⟩
def Ar(w h:Nat)(x:j8)(k:Nat):j8:=if eA (x.rows w h) x.pv.length k<h then uq w h k x x.pv.length (eA (x.rows w h) x.pv.length k)else x
def rD(w h:Nat)(x:j8):Nat->j8|0=>x|k+1=>Ar w h (rD w h x k) k
def N2{w a b j:Nat}(c:j<w)(h1:b*w<=a*w+j)(h2:a*w+j<b*w+w):a=b:=by rcases Nat.lt_trichotomy a b with h|h|h;have:=cr w (show a+1<=b from h);rw[gB]at this;omega;exact h;have:=cr w (show b+1<=a from h);rw[gB]at this;omega
end
noncomputable section
open Classical
variable{w h k:Nat}{x:j8}
def la:(x.rows w h).length=h:=by unfold j8.rows;rw[aL,cR]
def amY{i:Nat}(a:i<h):(x.rows w h).getD i []=(aR w).map λ j=>x.f (x.s i*w+j):=by rw[aX (by rw[la];exact a)];simp[j8.rows]
def Om{i j:Nat}(b:i<h)(a:j<w):((x.rows w h).getD i []).getD j (a3 0)=x.f (x.s i*w+j):=by rw[amY b,aX (by simpa using a)];simp
def IV:n9 w (bH (x.rows w h)):=λ r a=>by obtain⟨y,b,rfl⟩:=bd.1 a;obtain⟨i,_,rfl⟩:=bd.1 b;rw[ZC,aL,cR]
def On{i j:Nat}(a:i<h)(b:j<w):br (bH (x.rows w h)) i j=(x.f (x.s i*w+j)).2.val:=by rw[gv,Om a b]
def V1{a b:er}(c:n9 w a)(hb:n9 w b)(f:a.length=b.length)(e:∀i,i<a.length->∀j,j<w->br a i j=br b i j):a=b:=by refine jL f λ i h1 h2=>jL (by rw[c _ (bo h1),hb _ (bo h2)]) λ j d g=>?_;have:=e i h1 j (by rw[<-c _ (bo h1)];exact d);unfold br at this;rw[aX h1,aX h2,aX d,aX g]at this;exact this
def Own(h:Nat)(s:Nat->Nat):Prop:=(∀i,i<h->s i<h)/\∀i,i<h->∀j,j<h->s i=s j->i=j
def OQ{t p i:Nat}(b:t<h)(a:p<h)(c:i<h):(if i=p then t else if i=t then p else i)<h:=by split;exact b;split;exact a;exact c
def Own.YO{s:Nat->Nat}(H:Own h s){t p:Nat}(b:t<h)(a:p<h):Own h (fK s t p):=by refine⟨λ i c=>H.1 _ (OQ b a c),λ i c j d e=>?_⟩;have:=H.2 _ (OQ b a c) _ (OQ b a d) e;split at this<;>split at this<;>(try split at this)<;>(try split at this)<;>omega
def YQ{s:Nat->Nat}(t p:Nat):fK s t p t=s p:=by unfold fK;split<;>simp_all
variable{K:b6}{n m Vn:Nat}
def Gj{f:Nat->ak}{s:Nat->Nat}{t:Nat}(H:Own h s)(p:t<h)(r:k<w):∀i,i<=h->∀a,a<h->∀j,j<w->eR f s w t k i (s a*w+j)=if a<i/\a≠t/\(f (s a*w+k)).bM=false/\k<=j/\(f (s t*w+j)).bM=false then(f (s a*w+j)).sub ((f (s a*w+k)).mul (f (s t*w+j)))else f (s a*w+j)
 |0,_,a,_,j,_=>by rw[if_neg ac];rfl|i+1,z,a,g,j,c=>by
   have d:=Gj (f:=f) H p r i ac;have e:i<h:=ac;have v:eR f s w t k i (s i*w+k)=f (s i*w+k):=by rw[d i e k r,if_neg ac]
   have y:∀j,j<w->eR f s w t k i (s t*w+j)=f (s t*w+j):=λ j c=>by rw[d t p j c,if_neg ac]
   show(if i≠t/\(eR f s w t k i (s i*w+k)).bM=false then iu (eR f s w t k i) (s i*w) (s t*w) k w (eR f s w t k i (s i*w+k))else eR f s w t k i) (s a*w+j)=_;rw[v];by_cases hc:i≠t/\(f (s i*w+k)).bM=false;rw[if_pos hc];unfold iu;by_cases l:a=i;subst l;have u:s t*w+(s a*w+j-s a*w)=s t*w+j:=ac;rw[u,y j c,d a g j c,if_neg (ac:¬(a<a/\_))];by_cases b:k<=j/\(f (s t*w+j)).bM=false;rw[if_pos ⟨ac,ac,b.2⟩,if_pos ⟨ac,hc.1,hc.2,b.1,b.2⟩];rw[if_neg (λ q=>b ⟨ac,q.2.2⟩),if_neg (λ q=>b ⟨q.2.2.2.1,q.2.2.2.2⟩)];have o:¬(s i*w+k<=s a*w+j/\s a*w+j<s i*w+w):=λ q=>l (H.2 _ g _ e (N2 c ac q.2));rw[if_neg (λ q=>o ⟨q.1,q.2.1⟩),d a g j c];by_cases b:a<i;simp only[b,show a<i+1 from ac,true_and];rw[if_neg ac,if_neg ac];rw[if_neg hc,d a g j c];by_cases l:a=i;subst l;rw[if_neg ac,if_neg (λ q=>hc ⟨q.2.1,q.2.2.1⟩)];by_cases b:a<i;simp only[b,show a<i+1 from ac,true_and];rw[if_neg ac,if_neg ac]
def R3{f:Nat->ak}{s:Nat->Nat}{t:Nat}(H:Own h s)(g:t<h)(b:k<w)(d:∀q,(f q).G K m)(l:∀a,a<h->a≠t->∀j,j<w->(f (s a*w+j)).G K n):∀i,i<=h->∀q,(eR f s w t k i q).G K (n+n+m+K.c+1)
 |0,_,q=>(d q).mono ac|i+1,u,q=>by
   have p:=R3 (f:=f) H g b d l i ac q;have o:=Gj (f:=f) H g b i ac;show((if i≠t/\(eR f s w t k i (s i*w+k)).bM=false then iu (eR f s w t k i) (s i*w) (s t*w) k w (eR f s w t k i (s i*w+k))else eR f s w t k i) q).G K _;by_cases hc:i≠t/\(eR f s w t k i (s i*w+k)).bM=false;rw[if_pos hc];unfold iu;split;.next r=>obtain⟨j,rfl⟩:∃j,q=s i*w+j:=⟨q-s i*w,ac⟩;have e:j<w:=ac;rw[show s t*w+(s i*w+j-s i*w)=s t*w+j from ac,o i ac j e,if_neg ac,o i ac k b,if_neg ac,o t g j e,if_neg ac];exact((l i ac hc.1 j e).sub ((l i ac hc.1 k b).mul (d _))).mono ac
   exact p;rw[if_neg hc];exact p
structure wY(K:b6)(n w h:Nat)(V:er)(k:Nat)(x:j8):Prop where
 own:Own h x.s
 val:bH (x.rows w h)=(elim V k).1
 pv:x.pv=(elim V k).2
 g:∀q,(x.f q).G K (grow K x.pv.length n)d:x.eh.G K (grow K x.pv.length n)
variable{V:er}
def aoE(h1:∀q,(x.f q).G K n):a4 K n w (x.rows w h):=λ r a=>by obtain⟨i,_,rfl⟩:=bd.1 a;exact⟨am,λ y b=>by obtain⟨j,_,rfl⟩:=bd.1 b;exact h1 _⟩
def wY.step(ri:n9 w V)(hl:V.length=h)(H:wY K n w h V k x)(M:k<w):wY K n w h V (k+1) (Ar w h x k):=by
 have E:=Cv ri k ac;rw[hl]at E;rw[<-H.pv]at E;rw[<-H.val]at E;have J:elim V (k+1)=match qc (bH (x.rows w h)) x.pv.length k with|none=>(bH (x.rows w h),x.pv)|some p=>(mY (bH (x.rows w h)) x.pv.length k p,x.pv++[k]):=by rw[H.val,H.pv];rfl
 have U:x.pv.length<=(x.rows w h).length:=by rw[la];exact E.rE
 rw[S8 _ _ U,la]at J;unfold Ar;by_cases u:eA (x.rows w h) x.pv.length k<h;rw[if_pos u]at J⊢;have zL:=Au (x.rows w h) x.pv.length k;have L:∀q,(x.f q).G K (grow K x.pv.length n):=H.g;have P:=NZ (R:=x.rows w h) (top:=x.pv.length) (k:=k) (by rw[la];exact u);generalize cE:eA (x.rows w h) x.pv.length k=p at*;have I:x.pv.length<h:=ac;have Q:(x.f (x.s p*w+k)).bM=false:=by rw[<-Om (h:=h) u M,aX (l:=x.rows w h) (by rw[la];exact u)];exact P
 have O:=H.own.YO I u;have r:=λ i v j o=>On (x:=x) (w:=w) (h:=h) (i:=i) (j:=j) v o;have bj:=E.low;have hd:=H.d;have ao9:=λ i v j=>YH (k:=k) (m:=bH (x.rows w h)) (w:=w) IV (t:=x.pv.length) (p:=p) (by rw[oO,la];exact I) (by rw[oO,la];exact u) (i:=i) (by rw[oO,la];exact v) j;have apa:=YI (k:=k) (m:=bH (x.rows w h)) (w:=w) IV (t:=x.pv.length) (p:=p) (by rw[oO,la];exact I) (by rw[oO,la];exact u);have ao7:(mY (bH (x.rows w h)) x.pv.length k p).length=h:=by rw[OL,oO,la]
 generalize Z:x.pv.length=t at*;have es:fK x.s t p t=x.s p:=YQ t p;have hy:=L (x.s p*w+k);have f1:∀a,a<h->∀j,j<w->nD w k x t p (fK x.s t p a*w+j)=if a=t/\k<=j then(x.f (x.s p*w+j)).div (x.f (x.s p*w+k))else x.f (fK x.s t p a*w+j):=λ a X j o=>by unfold nD mW;by_cases e:a=t;subst e;rw[es];by_cases y:k<=j;rw[if_pos ⟨ac,ac⟩,if_pos ⟨rfl,y⟩];rw[if_neg ac,if_neg ac];rw[if_neg (λ q=>e (O.2 _ X _ I (N2 o ac q.2))),if_neg (λ q=>e q.1)]
 have g1:∀q,(nD w k x t p q).G K (24*grow K t n+42*K.c):=λ q=>by unfold nD mW;rw[es];split;exact((L q).div hy).mono ac;exact(L q).mono ac
 have afX:=R3 (f:=nD w k x t p) (n:=grow K t n) O I M g1 (λ a X Y j o=>by rw[f1 a X j o,if_neg (λ q=>Y q.1)];exact L _);have Lh:=Gj (f:=nD w k x t p) O I M h (a2 _);have z:∀q,(x.f q).2.bJ:=λ q=>(L q).red;refine⟨O,?_,?_,?_,?_⟩;rw[J];refine V1 IV apa (by rw[oO,la,ao7]) λ i v j o=>?_;rw[oO,la]at v;rw[On v o,ao9 i v j];show(eR (nD w k x t p) (fK x.s t p) w t k h (fK x.s t p i*w+j)).2.val=_;rw[Lh i v j o];have N:∀a b,(x.f b).bM=false->((x.f a).div (x.f b)).2.val=(x.f a).2.val/(x.f b).2.val:=λ a b hb=>by show(aC.div _ _).val=_;rw[aC.div_val (z a) (z b),BO]
 have C:∀j,j<k->j<w->(x.f (x.s p*w+j)).2.val=0:=λ j o hw=>by rw[<-r p u j hw];exact bj p ac u j o
 have F:∀j,j<w->(nD w k x t p (fK x.s t p t*w+j)).2.val=br (bH (x.rows w h)) p j/br (bH (x.rows w h)) p k:=λ j o=>by rw[f1 t I j o,r p u j o,r p u k M];by_cases y:k<=j;rw[if_pos ⟨rfl,y⟩,N _ _ Q];rw[if_neg (λ q=>y q.2),es,C j ac o,BO];grind
 by_cases e:i=t;subst e;rw[if_neg (λ q=>q.2.1 rfl),if_pos rfl];exact F j o;rw[if_neg e];have S7:∀j,j<w->nD w k x t p (fK x.s t p i*w+j)=x.f (fK x.s t p i*w+j):=λ j o=>by rw[f1 i v j o,if_neg (λ q=>e q.1)]
 have hq:(if i=p then t else i)<h:=by split<;>assumption
 have apr:fK x.s t p i=x.s (if i=p then t else i):=by unfold fK;rw[if_neg e]
 rw[S7 j o,S7 k M,apr,r _ hq j o,r _ hq k M];have Zk:=F j o;have jd:j<k->(nD w k x t p (fK x.s t p t*w+j)).2.val=0:=λ h2=>by rw[Zk,r p u j o,C j h2 o,BO];grind
 rw[<-Zk];have rt:=(g1 (fK x.s t p t*w+j)).red;have aot:=z (x.s (if i=p then t else i)*w+j);have mV:=z (x.s (if i=p then t else i)*w+k);generalize nD w k x t p (fK x.s t p t*w+j)=T at*;generalize x.f (x.s (if i=p then t else i)*w+j)=A at*;generalize x.f (x.s (if i=p then t else i)*w+k)=B at*;by_cases hc:B.bM=false/\k<=j/\T.bM=false;rw[if_pos ⟨v,e,hc.1,hc.2.1,hc.2.2⟩];have:=(aC.OO aot (aC.H0 mV rt)).trans (by rw[aC.Dl mV rt]);refine Eq.trans this ?_;grind;rw[if_neg (λ q=>hc q.2.2)];have h0:T.2.val*B.2.val=0:=by
   by_cases h1:B.bM=false;by_cases h2:k<=j;have S:T.bM=true:=by cases h:T.bM;exact(hc ⟨h1,h2,h⟩).elim;rfl
   rw[qQ.1 S];grind;rw[jd ac];grind;have S:B.bM=true:=by cases h:B.bM;exact(h1 h).elim;rfl
   rw[qQ.1 S];grind
 rw[h0];grind;rw[J];rfl;show∀q,_;intro q;show((eR (nD w k x t p) (fK x.s t p) w t k h q)).G K (grow K (x.pv++[k]).length n);rw[cy,Z];refine(afX h (a2 _) q).mono ?_;show _<=26*grow K t n+43*K.c+1;omega;have el:(uq w h k x t p).pv.length=t+1:=by show(x.pv++[k]).length=_;rw[cy,Z];rfl
 rw[el];have d1:(if t<p then x.eh.neg else x.eh).G K (grow K t n):=by split;exact hd.neg;exact hd
 refine(d1.mul (L (fK x.s t p t*w+k))).mono ?_;show _<=26*grow K t n+43*K.c+1;omega;rw[if_neg u]at J⊢;exact⟨H.own,by rw[J],by rw[J],H.g,H.d⟩
end
end Go.aA.fE
namespace Go.aA
def a7{α:Type}(L:Nat)(f:Nat->α):List α:=(aR L).map f
section
variable{α:Type}
def iC(L:Nat)(f:Nat->α):(a7 L f).length=L:=by unfold a7;rw[aL,cR]
def QW{L i:Nat}(f:Nat->α)(h:i<L):(a7 L f)[i]?=some (f i):=by simp[a7,h]
def QU{L:Nat}{f g:Nat->α}(h:∀j,j<L->f j=g j):a7 L f=a7 L g:=kq λ j a=>h j (cb.1 a)
def acn{L i:Nat}{v:α}{f g:Nat->α}(h:∀j,j<L->g j=if j=i then v else f j):(a7 L f).set i v=a7 L g:=by refine jL (by simp[a7]) λ j h1 h2=>?_;rw[BJ];simp only[a7,gm,kT,aL,cR]at h2⊢;rw[h j h2];split<;>split<;>first|rfl|omega
def B1{β:Type}{L:Nat}{f:Nat->α}(g:α->β):(a7 L f).map g=a7 L λ i=>g (f i):=by unfold a7;rw[iA];rfl
def QV{L a w:Nat}{f:Nat->α}(h:a+w<=L):((a7 L f).drop a).take w=a7 w λ j=>f (a+j):=by refine jL (by simp[a7];omega) λ j h1 h2=>?_;simp[a7]
abbrev dB(b:Id)(w:Nat)(r:Nat):aa:=.ah b 2 (r*w) w true
variable{P:Program}{G:Nat->Option (List aa)}
def alp{c off len i:Nat}{id:Id}{t:Bool}(h:i<len):kM c (.ah id c off len t) (.int .i64 (i:Int))=some (.ref id (off+i) 0):=by show(if c=c/\(0:Int)<=(i:Int)/\(i:Int)<(len:Int)then some (aa.ref id (off+((i:Int)).toNat) 0)else none)=_;rw[if_pos ⟨rfl,ac,ac⟩,nU]
def ov(k c:Nat)(id:Id)(o len i:Nat)(t:Bool)(h:i<len:=by omega):aV P G:=ho k (alp (c:=c) (id:=id) (off:=o) (t:=t) h)
def fX(k n:Nat)(a:Bool)(id:Id)(c L:Nat)(T:α->aa)(f:Nat->α)(i:Nat)(v:aa)(h:i<L:=by omega)(hv:part a (T (f i)).cells 0 n=some v:=by rfl):aV P G:=.st k [(id,⟨(a7 L f).map T,c,false⟩)] (.load a n (.ref id i 0)) (λ _=>{val:=v,rd:=[id]}) (λ σ p b=>NJ (b _ cg) (by rw[B1,QW _ h]) hv)
def mJ(x n:Nat)(id:Id)(c L:Nat)(T:α->aa)(f g:Nat->α)(i:Nat)(r:α)(a:∀j,j<L->g j=if j=i then r else f j)(h2:(T r).cells.all j4=true)(h:i<L:=by omega)(b:(T r).cells.length=n:=by rfl)(h1:n<=(T (f i)).size:=by exact a2 _)(hu:(T (f i)).upd 0 (T r).cells=T r:=by rfl):aV P G:=.st (x+100000) [(id,⟨(a7 L f).map T,c,false⟩)] (.store n (.ref id i 0) (T r)) (λ _=>{val:=.aM [],rd:=[id],up:=[(id,some ⟨(a7 L g).map T,c,false⟩)]}) (λ σ p d=>by have e:=Wn (d _ cg) (show((a7 L f).map T)[i]?=some (T (f i))by rw[B1,QW _ h]) b h1 h2;rw[hu,<-List.map_set,acn a]at e;exact e)
def vN(x:ak):x.T.cells.all j4=true:=cT.one (k:=2)
end
section
variable{σ:aQ}
def aqV{b:Id}{L o w:Nat}{f:Nat->ak}{t fr:Bool}(g:σ b=some ⟨(a7 L f).map aP,2,fr⟩)(h:o+w<=L):View σ (.ah b 2 o w t) (aj (a7 w λ j=>f (o+j))):=by
 refine View.ah (av:=⟨_,2,fr⟩) g rfl (by simpa[iC]using h) ?_ (by simp[iC]) λ d hd=>?_;show dy σ (flat ((((a7 L f).map aP).drop o).take w)) _;rw[<-Qu,<-ET,QV h];exact jJ λ c hc=>by have⟨e,a,hc⟩:=g3.1 hc;obtain⟨y,_,rfl⟩:=bd.1 a;exact cT.cells (k:=2) c hc
 obtain⟨y,_,rfl⟩:=bd.1 hd;exact cT.size
def ZM{α:Type}{f g:α->aa}:∀(l:List α),(∀x∈l,View σ (f x) (g x))->dy σ (l.map f) (l.map g)|[],_=>eH|x::l,h=>bZ (h x cg) (ZM l λ y a=>h y (cX _ a))
def GH{α:Type}{f:α->aa}(h:∀x,(f x).cells=[f x])(l:List α):flat (l.map f)=l.map f:=by induction l with|nil=>rfl|cons x l a=>show(f x).cells++flat (l.map f)=_;rw[h,a];rfl
def ZD{b B:Id}{L w h a n:Nat}{f:Nat->ak}{s:Nat->Nat}{t fr L4:Bool}(hb:σ b=some ⟨(a7 L f).map aP,2,fr⟩)(g:σ B=some ⟨(a7 h s).map (dB b w),1,L4⟩)(c:a+n<=h)(e:∀i,i<h->s i*w+w<=L):View σ (.ah B 1 a n t) (.sl 1 ((a7 n λ i=>a7 w λ j=>f (s (a+i)*w+j)).map aj)):=by refine View.ah (av:=⟨_,1,L4⟩) g rfl (by simpa[iC]using c) ?_ (by simp[iC]) λ d hd=>?_;show dy σ (flat ((((a7 h s).map (dB b w)).drop a).take n)) _;rw[<-Qu,<-ET,QV c,B1,B1];unfold a7;rw[GH (f:=λ i=>dB b w (s (a+i))) (λ _=>rfl),GH (f:=λ i=>aj ((aR w).map λ j=>f (s (a+i)*w+j))) (λ _=>rfl)];exact ZM _ λ i k=>aqV hb (e _ (by have:=cb.1 k;omega));obtain⟨y,_,rfl⟩:=bd.1 hd;rfl
abbrev lD:aa:=.agg [.ar,.ar]
end
section
variable{P:Program}{G:Nat->Option (List aa)}
def agf(key:Nat)(id:Id)(A r:List ak)(n:Nat)(h0:r≠[])(i:A.length+r.length+n<=1000000):aV P G:=.st key [(id,⟨A.map aP++bI (r.length+n) lD,2,false⟩)] (.append 2 48 (.ah id 2 0 A.length false) (aj r)) (λ p=>{val:=.ah id 2 0 (A++r).length false,rd:=[id],up:=[(id,some ⟨(A++r).map aP++bI n lD,2,false⟩)]}) (λ σ p f=>by
   have h:=f _ cg;have j:0<r.length:=fN.2 h0;have c:(r.map aP).isEmpty=false:=by simpa using h0
   have a:A.length+r.length<=maxLen:=oD ac;have h1:((r.map aP).all λ e=>e.cells.all j4)=true:=ek.2 λ e b=>by obtain⟨y,_,rfl⟩:=bd.1 b;exact vN y
   have d:σ id=some ⟨A.map aP++bI (r.length+n) lD,2,false⟩:=h;show qD σ p 2 48 (.ah id 2 0 A.length false) (.sl 2 (r.map aP))=_;unfold qD;rw[show iM σ 2 (.sl 2 (r.map aP))=some (r.map aP,[])from by simp[iM]];simp only[c,d,aL];rw[if_neg al,if_pos ⟨trivial,trivial,trivial,am,ac,a,h1⟩,if_neg al,if_neg (λ g=>by have:=g.1;rw[cy,pP,aL]at this;omega),if_pos ⟨am,trivial⟩];simp[List.drop_append,cy])
end
end Go.aA
namespace Go.Proofs.YtpcofcmencgkbaaGreat
section
variable(G:Nat->Option (List aa))
variable{K:b6}{q e r:Nat}(F:eb K q e r)
include F
noncomputable abbrev qg(l:List aC)(i:Nat):aa:=aw (aC.of (dJ l) (l.getD i (aC.rat 0)).val)
def akZ(l:List aC)(L:l.length<=9000){n:Nat}(w:∀a∈l,aC.G K a n)(J:n+K.C<=2199023255552)(i:Nat)(g:i<l.length)(X:aa)(j:X=pB (dJ l).2.ay)(s:X=.ar\/X=aW (dJ l).2.ay):bb ab G (aT (ao 143) 0) (ao 143).aH (bj 0) .normal (λ q=>(6,bt q.a 2 ((aR i).map (qg l)))::pj l X i) (λ q=>a8 q.a 2 ((aR i).map (qg l))++[]) (λ q=>(6,bt q.a 2 ((aR (i+1)).map (qg l)))::pj l X (i+1)) (λ q=>a8 q.a 2 ((aR (i+1)).map (qg l))++[]):=by have ho:∀a∈l,K.ok a.T:=λ a c=>(w a c).1;have f:=HD ho;have I:=eb.DU F;have tT:=F.q2;have m:=bo g;have c:=w _ m;have t:=C5 ho _ m _ ⟨l[i].a,rfl⟩;have H:=c.bs f t;have b1:=K7 G (dJ l).2.ay l[i].T.2.ay (vO F f) (vO F c.1);have d:=V7 G (K.ht f) ((F.hX f).sh ac) ((dJ l).bs l[i].val) (ae.sh H ac);have h:pZ 2 48 9000 ((aR i).map (qg l)):=⟨by rw[aL,cR];omega,ek.2 λ e z=>by obtain⟨x,_,rfl⟩:=bd.1 z;exact cT.one (k:=2)⟩;rw[gz,dW,gQ,show qg l i=aw (aC.of (dJ l) l[i].val)by unfold qg;rw[aX g]];rw[<-j]at b1 d;cases h1:gr (dJ l).2.ay l[i].T.2.ay with|true=>rw[h1]at b1;have p:=Wc G (K.ht f) (K.red f) (l:=ae.flat l[i].a) (v:=l[i].val) ⟨l[i].T,l[i].a,lY.1 h1,rfl,rfl⟩;rw[<-j]at p;rcases s with rfl|rfl<;>exact qW (key:=56) (bytes:=48) (hb:=al) (A:=λ _=>pj l _ i) (B:=λ _=>pj l _ (i+1)) (bC:=λ _=>[]) (bO:=λ _=>[]) h 22 ⟨[23,0],[2],[3],[4]⟩ (λ x=>[bu 23 aw g,aU 24 2 aw g,hc b1,hc p,hc d]++x++[a5 57 i])|false=>
   rw[h1]at b1;have h0:l[i].T.1≠0:=λ e=>by have:l[i].T.2.ay=[]:=uW (by rw[aI.x3];exact e);rw[px this,lY.2 (aF.Ay (dJ l).2)]at h1;cases h1
   have es:(dJ l).ext l[i].T.2=dJ l:=aF.zv λ v hv=>C5 ho _ m v hv;have o:(dJ l).2.ay≠[]:=λ e=>by rw[px e,GC (K.red c.1)]at es;exact h0 (congrArg Sigma.fst es)
   have x:=Np G F f c.1 h0;have u:=aF.zu (K.red f) (K.red c.1);rw[es]at x u;have D:=H4 G F f c.1 (b:=false) (l:=aF.jW (dJ l) l[i].T.2) (by rw[aF.l3];have:=K.ht c.1;omega) (.refl _) u c.self ac;obtain rfl:X=aW (dJ l).2.ay:=j.trans (qA o);exact qW (key:=56) (bytes:=48) (hb:=al) (A:=λ _=>pj l _ i) (B:=λ _=>pj l _ (i+1)) (bC:=λ _=>[]) (bO:=λ _=>[]) h 34 ⟨[35,0],[2],[3],[4]⟩ (λ E=>[bu 23 aw g,aU 24 2 aw g,hc b1,hc x,CF G [] D,hc d]++E++[a5 57 i])
def ak0(l:List aC)(h0:l≠[])(k:l.length<=9000){n:Nat}(m:∀a∈l,aC.G K a n)(t:n+K.C<=2199023255552)(p:bz):cv ab G 143 [fQ l] p [] {val:=.aM [.ah (2000000::p) 2 0 l.length false,.int .i64 0],rd:=[],up:=[(2000000::p,some ⟨(jy l).map aw,2,false⟩)]}:=by
 have c:=V4 G F l k λ a v=>(m a v).1;have j:(aR l.length).map (qg l)=(jy l).map aw:=Xn (f:=aw) (g:=λ a=>aC.of (dJ l) a.val);have d:(jy l).map aw≠[]:=λ e=>by rw[<-j]at e;have:=congrArg uI e;rw[aL,cR]at this;exact h0 (uW this)
 have w:((jy l).map aw).length=l.length:=by rw[<-j,aL,cR]
 have key:∀X:aa,X=pB (dJ l).2.ay->(X=.ar\/X=aW (dJ l).2.ay)->ag ab G 196 [fQ l] (.aM [X,.int .i64 0])->cv ab G 143 [fQ l] p [] {val:=.aM [.ah (2000000::p) 2 0 l.length false,.int .i64 0],rd:=[],up:=[(2000000::p,some ⟨(jy l).map aw,2,false⟩)]}:=λ X h1 h2 c=>by
   have o:bb ab G (aT (ao 143) 0) (ao 143).aH (bj 0) (.exit 0) (λ q=>(6,bt q.a 2 ((aR l.length).map (qg l)))::pj l X l.length) (λ q=>a8 q.a 2 ((aR l.length).map (qg l))++[]) (λ q=>[(6,.ah q.a 2 0 l.length false)]) (λ q=>[(q.a,⟨(jy l).map aw,2,false⟩)]):=by
     have x:bb ab G (aT (ao 143) 0) (ao 143).aH (bj 0) (.exit 0) (λ q=>(6,bt q.a 2 ((jy l).map aw))::pj l X l.length) (λ q=>a8 q.a 2 ((jy l).map aw)++[]) (λ q=>(6,bt q.a 2 ((jy l).map aw))::[]) (λ q=>a8 q.a 2 ((jy l).map aw)++[]):=by rcases h2 with rfl|rfl<;>exact j1 (A:=λ _=>pj l _ l.length) (B:=λ _=>[]) (bC:=λ _=>[]) (bO:=λ _=>[]) aO [cS 23 aw l]
     rw[j];simp only[dP d,dK d,mn,w]at x⊢;exact x
   rcases h2 with rfl|rfl<;>exact e9 (p:=p) (up:=[(2000000::p,_)]) hN (λ _=>[]) [hc c,dz (ao 143) 0 0 0 l.length aO (λ i q=>(6,bt q.a 2 ((aR i).map (qg l)))::pj l _ i) (λ i q=>a8 q.a 2 ((aR i).map (qg l))++[]) (.exit 0) (λ q=>[(6,.ah q.a 2 0 l.length false)]) (λ q=>[(q.a,⟨(jy l).map aw,2,false⟩)]) (λ i u=>akZ G F l k m t i u _ h1 am) o] _ [] (.aM [.ah [2000000,0] 2 0 l.length false,.int .i64 0]) [([2000000,0],⟨(jy l).map aw,2,false⟩)] an (bn.fix _) rfl rfl oL am am
 refine key _ rfl ?_ c;by_cases h:(dJ l).2.ay=[];exact .inl (by rw[h];rfl);exact .inr (qA h)
end
end Go.Proofs.YtpcofcmencgkbaaGreat
namespace Go.aA
section
variable{P:Program}{G:Nat->Option (List aa)}
def apy{c off len l:Nat}{id:Id}{t:Bool}(h:l<len):gi c (.ah id c off len t) (some (.int .i64 (l:Int))) none none=some (.ah id c (off+l) (len-l) t):=by
 have e:gh len (some (.int .i64 (l:Int))) none=some (l,len):=by simp only[gh,jf];rw[if_pos ⟨ac,ac⟩,nU]
 simp only[gi,e];by_cases h0:l=0;subst h0;simp;simp[h0,show l≠len from ac]
def apx{c off len h:Nat}{id:Id}(a:h<=len):gi c (.ah id c off len false) none (some (.int .i64 (h:Int))) none=some (.ah id c off h false):=by
 have e:gh len none (some (.int .i64 (h:Int)))=some (0,h):=by simp only[gh,jf];rw[if_pos ⟨ac,ac⟩,nU]
 simp[gi,e]
def apz{c off len h:Nat}{id:Id}(a:h<=len):gi c (.ah id c off len false) none (some (.int .i64 (h:Int))) (some (.int .i64 (h:Int)))=some (.ah id c off h true):=by
 have e:gh len none (some (.int .i64 (h:Int)))=some (0,h):=by simp only[gh,jf];rw[if_pos ⟨ac,ac⟩,nU]
 simp[gi,e,yd]
def xo(k c:Nat)(id:Id)(off len l:Nat)(t:Bool)(h:l<len:=by omega):aV P G:=.st k [] (.slice c (.ah id c off len t) (some (.int .i64 (l:Int))) none none) (λ _=>{val:=.ah id c (off+l) (len-l) t}) (λ σ p _=>by simp only[ck,apy h,pF];rfl)
def agF(k c:Nat)(id:Id)(off len h:Nat)(a:h<=len:=by omega):aV P G:=.st k [] (.slice c (.ah id c off len false) none (some (.int .i64 (h:Int))) none) (λ _=>{val:=.ah id c off h false}) (λ σ p _=>by simp only[ck,apx a,pF];rfl)
def TW(k c:Nat)(id:Id)(off len h:Nat)(a:h<=len:=by omega):aV P G:=.st k [] (.slice c (.ah id c off len false) none (some (.int .i64 (h:Int))) (some (.int .i64 (h:Int)))) (λ _=>{val:=.ah id c off h true}) (λ σ p _=>by simp only[ck,apz a,pF];rfl)
def apw{c off len:Nat}{id:Id}{t:Bool}(h:0<len):gi c (.ah id c off len t) (some (.int .i64 (len:Int))) none none=some (.sl c []):=by
 have e:gh len (some (.int .i64 (len:Int))) none=some (len,len):=by simp only[gh,jf];rw[if_pos ⟨ac,ac⟩,nU]
 simp[gi,e,show len≠0 from ac]
def TU(k c:Nat)(id:Id)(off len:Nat)(h:0<len)(t:Bool:=false):aV P G:=.st k [] (.slice c (.ah id c off len t) (some (.int .i64 (len:Int))) none none) (λ _=>{val:=.sl c []}) (λ σ p _=>by simp only[ck,apw h,pF];rfl)
def agJ(k c bytes:Nat)(z:aa)(n:Nat)(h0:0<n:=by omega)(hb:n*bytes<=140737488355328:=by omega)(b:z.size=c:=by rfl)(h1:z.cells.all j4=true:=by rfl)(b1:0<bytes:=by decide):aV P G:=.st k [] (.w8 c bytes z .ar (.int .i64 (n:Int))) (λ p=>{val:=.ah p c 0 n false,up:=[(p,some ⟨bI n z,c,false⟩)]}) (λ σ p _=>by have a:n<=maxLen:=oD (bx (r0 _ b1) hb);show(if 0<(n:Int)/\(n:Int)*((bytes:Nat):Int)<=140737488355328/\(n:Int)<=((maxLen:Nat):Int)/\z.size=c/\z.cells.all j4=true then some (bR.mk (.ah p c 0 (n:Int).toNat false) [] [(p,some ⟨bI (n:Int).toNat z,c,false⟩)])else none)=_;rw[if_pos ⟨ac,by have:=KD.2 hb;rw[pI]at this;omega,KD.2 a,b,h1⟩,nU])
def vu{α:Type}(k c bytes:Nat)(z:aa)(n:Nat)(T:α->aa)(f:Nat->α)(d:∀j,j<n->T (f j)=z)(hb:n*bytes<=140737488355328:=by omega)(b:z.size=c:=by rfl)(h1:z.cells.all j4=true:=by rfl)(b1:0<bytes:=by decide):aV P G:=.st k [] (.uk c bytes z (.int .i64 (n:Int)) (.int .i64 (n:Int))) (λ p=>{val:=.ah p c 0 n false,up:=[(p,some ⟨(a7 n f).map T,c,false⟩)]}) (λ σ p _=>by
 have a:n<=maxLen:=oD (bx (r0 _ b1) hb);have e:(a7 n f).map T=bI n z:=jL (by simp[iC]) λ j h1 h2=>by simp[a7,d j (by simpa[iC]using h1)]
 show Ba p c bytes z (.int .i64 (n:Int)) (.int .i64 (n:Int))=_;rw[e];show(if(0:Int)<=(n:Int)/\(n:Int)<=(n:Int)/\(n:Int)*((bytes:Nat):Int)<=140737488355328/\(n:Int)<=((maxLen:Nat):Int)/\z.size=c/\z.cells.all j4=true then some (bR.mk (.ah p c 0 (n:Int).toNat false) [] [(p,some ⟨bI (n:Int).toNat z,c,false⟩)])else none)=_;rw[if_pos ⟨ac,ac,by have:=KD.2 hb;rw[pI]at this;omega,KD.2 a,b,h1⟩,nU])
end
end Go.aA
namespace Go.Proofs.YtpcofcmencgkbaaGreat
abbrev fo:aa:=.cE [.int .i64 0] 0
section
variable(G:Nat->Option (List aa))
def Gf(a:ak):ag ab G 206 [fo,a.T,.int .i64 0] a.T:=aN []
variable{K:b6}{q e r:Nat}(F:eb K q e r){a b:ak}{n m:Nat}
include F
def adJ(g:a.G K n)(hb:b.G K m)(f:bF K q n)(d:bF K q m):ag ab G 161 [fo,a.T,b.T] (a.add b).T:=aN [hc (V3 G F g hb f d),hc (Gf G (a.add b))]
def adR(g:a.G K n)(hb:b.G K m)(f:bF K q n)(d:bF K q m):ag ab G 208 [fo,a.T,b.T] (a.sub b).T:=aN [hc (ak5 G F g hb f d),hc (Gf G (a.sub b))]
def zj(g:a.G K n)(hb:b.G K m)(f:bF K q n)(d:bF K q m):ag ab G 155 [fo,a.T,b.T] (a.mul b).T:=aN [hc (Nr G F g hb f d),hc (Gf G (a.mul b))]
def adK(h:a.G K n)(hb:b.G K m)(h0:b.bM=false)(g:bF K q n)(f:bF K q (23*m+41*K.c)):ag ab G 156 [fo,a.T,b.T] (a.div b).T:=aN [hc (akU G F h hb (λ e=>by rw[qQ.2 e]at h0;cases h0) g f),hc (Gf G (a.div b))]
end
section
variable(G:Nat->Option (List aa))
def xH{M:List (List ak)}(h:M≠[]):ag ab G 111 [aD M] (aq (c8 M)):=by cases M with|nil=>exact absurd rfl h|cons r M=>
   have h1:((((r::M).map aj).length:Int)==0)=false:=by rw[aL,fU];exact beq_eq_false_iff_ne.2 ac
   have h2:(((r.map aP).length:Nat):Int)=(c8 (r::M):Int):=by rw[aL];rfl
   exact aN [hb 5 h1,hw 9 h2]
def akR{M:List (List ak)}(h:M≠[])(r:List ak):ag ab G 151 [aj r,.cE [aD M] 0] (.bool (!decide (r.length=c8 M))):=by cases e:decide (r.length=c8 M)with|true=>exact aN [hc (xH G h),hb 8 (show((((r.map aP).length:Nat):Int)!=(c8 M:Int))=false from by rw[aL,of_decide_eq_true e];exact bne_self_eq_false _)]|false=>exact aN [hc (xH G h),hb 8 (show((((r.map aP).length:Nat):Int)!=(c8 M:Int))=true from by rw[aL];exact bne_iff_ne.2 λ h=>of_decide_eq_false e ac)]
def Ag{M:List (List ak)}{w:Nat}(h:∀r∈M,r.length=w)(d:M.length<=9000):ag ab G 109 [aD M] (.bool true):=by
 have c:ag ab G 98 [aD M,.fn (.func 151) [] [.cE [aD M] 0]] (.bool false):=by
   by_cases h0:M=[];subst h0;exact Es G (M:=[]) (p:=λ _=>false) am (λ i b=>(ew _ b).elim) rfl;have hw:c8 M=w:=by cases M with|nil=>exact absurd rfl h0|cons r M=>exact h r cg
   exact Es G (p:=λ _=>false) d (λ i b=>by have:=akR G h0 M[i];rw[hw,h _ (bo b),decide_eq_true rfl]at this;exact this) (r7.2 λ x _=>al)
 exact aN [xu (A:=[aD M]) [0] (aD M) 1 [aD M] c]
def akF(n:Nat)(h0:0<n)(b:n<=1000000)(p:bz):cv ab G 212 [.ar,aq n] p [] {val:=.ah (18::p) 2 0 0 false,rd:=[],up:=[(18::p,some ⟨bI n lD,2,false⟩)]}:=by haveI:bn (bI n lD):=⟨λ c hc=>by rw[jl hc];exact bg.pure,λ ρ=>by rw[ga,Fm];rfl⟩;exact e9 (p:=p) (up:=[(18::p,_)]) hN (λ _=>[]) [hb 6 (show decide ((n:Int)<0)=false from decide_eq_false ac),hw 14 (show cV.wrap ((n:Int)-0)=(n:Int)by rw[c0];omega),hb 16 (show decide ((0:Int)<(n:Int))=true from decide_eq_true ac),agJ 22 2 48 lD n,agF 25 2 [18,0] 0 n 0] _ [] (.ah [18,0] 2 0 0 false) [([18,0],⟨bI n lD,2,false⟩)] an (bn.fix _) rfl rfl oL am am
def ju(M:List (List ak))(i:Nat):List ak:=(M.take i).flatten
def LW{M:List (List ak)}{i:Nat}(a:i<M.length):ju M (i+1)=ju M i++M[i]:=by unfold ju;rw[kP a,abH];simp
def Ta{M:List (List ak)}{w:Nat}(h:∀r∈M,r.length<=w):∀i,i<=M.length->(ju M i).length<=i*w|0,_=>by simp[ju]|i+1,a=>by have:=Ta h i;have:=h _ (bo (ac:i<M.length));rw[LW ac,cy,gB];omega
noncomputable abbrev ad8(M:List (List ak))(i:Nat):List (Nat×aa):=[(0,aD M),(3,aq (ju M i).length),(9,aD M),(10,.int .i64 ((M.map aj).length:Nat)),(11,aq i)]
noncomputable abbrev Lj(M:List (List ak))(i:Nat)(q:bm):List (Nat×aa):=[(6,.ah (q 0) 2 0 (ju M i).length false),(25,aD M),(26,.int .i64 ((M.map aj).length:Nat)),(27,aq i)]
noncomputable abbrev Ll(M:List (List ak))(n i:Nat)(q:bm):List (bz×aJ):=[(q 0,⟨(ju M i).map aP++bI (n-(ju M i).length) lD,2,false⟩)]
instance{n:Nat}:bn (bI n lD):=⟨λ c hc=>by rw[jl hc];exact bg.pure,λ ρ=>by rw[ga,Fm];rfl⟩
def VV{M:List (List ak)}(h0:M≠[])(g:∀r∈M,r≠[]/\r.length<=90)(t:M.length<=90):ag ab G 160 [aD M] (aj M.flatten):=by
 have o:=Ta (λ r f=>(g r f).2);have c:ju M M.length=M.flatten:=by unfold ju;rw[gl]
 have b:∀i,(ju M i).length<=M.flatten.length:=λ i=>by have:=congrArg uI (congrArg List.flatten (List.take_append_drop i M));rw[abH,cy]at this;unfold ju;omega
 have j:∀i,i<=M.length->(ju M i).length<=8100:=λ i a=>bx (o i a) (by have:=cr 90 (ac:i<=90);omega);have pos:0<M.flatten.length:=by cases M with|nil=>exact absurd rfl h0|cons r M=>rw[Qv,cy];have:=fN.2 (g r cg).1;omega
 have d:=j M.length (a2 _);rw[c]at d;refine ag.oN hN [gw (ao 160) 0 0 0 M.length (ad8 M) (.exit 0) [(0,aD M),(3,aq M.flatten.length)] (λ i a=>?_) ?_,c3 (λ p=>akF G M.flatten.length pos ac p),oF (ao 160) 1 1 M.length (dH [[18,2000001,0]]) (Lj M) (Ll M M.flatten.length) (.exit 2) (λ q=>[(6,.ah (q 0) 2 0 M.flatten.length false)]) (λ q=>[(q 0,⟨M.flatten.map aP,2,false⟩)]) (λ i a=>?_) ?_ (t0:=[(6,.ah [18,2000001,0] 2 0 0 false),(25,aD M),(26,.int .i64 ((M.map aj).length:Nat)),(27,aq 0)]) (k0:=[([18,2000001,0],⟨bI M.flatten.length lD,2,false⟩)]) rfl rfl] [([18,2000001,0],⟨M.flatten.map aP,2,false⟩)] (.ah [18,2000001,0] 2 0 M.flatten.length false) an ?_ rfl am λ σ h=>?_;have e:=LW a;have k:=j (i+1);rw[e,cy]at k;have s:cV.wrap (((ju M i).length:Int)+(((M[i].map aP).length:Nat):Int))=((ju M (i+1)).length:Int):=by rw[c0,e,cy,aL];omega
 exact rd [bu 12 aj a,aU 13 1 aj a,hw 18 s,hb 20 (show decide (((ju M (i+1)).length:Int)<0)=false from decide_eq_false ac),a5 22 i];rw[<-c];exact rd [cS 12 aj M];have e:=LW a;have k:=j (i+1);have l:=b (i+1);have n:M.flatten.length-(ju M i).length=M[i].length+(M.flatten.length-(ju M (i+1)).length):=by rw[e,cy]at l⊢;omega
 unfold Ll Lj;rw[n,e];exact gy [bu 28 aj a,aU 29 1 aj a,agf 33 [1] (ju M i) M[i] (M.flatten.length-(ju M i++M[i]).length) (g _ (bo a)).1 (by rw[<-e];rw[e,cy]at l⊢;omega),a5 34 i];unfold Ll Lj;rw[c,Nat.sub_self,show M.flatten.map aP++bI 0 lD=M.flatten.map aP from mn _];exact gy [cS 28 aj M];exact oL;exact gK (h _ cg) (by rw[aL])
end
end Go.Proofs.YtpcofcmencgkbaaGreat
namespace Go.aA.fE
section
variable{f:Nat->ak}{o b k j w:Nat}{y:ak}
def ape:iu f o b k k y=f:=by funext p;unfold iu;exact if_neg ac
def apf:iu f o b k j y (o+j)=f (o+j):=by unfold iu;exact if_neg ac
def apd{i:Nat}(hd:b+w<=o\/o+w<=b)(a:i<w)(c:j<=w):iu f o b k j y (b+i)=f (b+i):=by unfold iu;exact if_neg ac
def apg(z:(f (b+j)).bM=false)(a:k<=j)(p:Nat):iu f o b k (j+1) y p=if p=o+j then(f (o+j)).sub (y.mul (f (b+j)))else iu f o b k j y p:=by unfold iu;by_cases h:p=o+j;subst h;rw[if_pos rfl,tt,if_pos ⟨ac,ac,z⟩];rw[if_neg h];by_cases h2:o+k<=p/\p<o+j;by_cases h3:(f (b+(p-o))).bM=false;rw[if_pos ⟨h2.1,ac,h3⟩,if_pos ⟨h2.1,h2.2,h3⟩];rw[if_neg (λ q=>h3 q.2.2),if_neg (λ q=>h3 q.2.2)];rw[if_neg (λ q=>h2 ⟨q.1,ac⟩),if_neg (λ q=>h2 ⟨q.1,q.2.1⟩)]
def aph(z:(f (b+j)).bM=true):iu f o b k (j+1) y=iu f o b k j y:=by funext p;unfold iu;by_cases h:p=o+j;subst h;rw[tt,z,if_neg (λ q=>by cases q.2.2),if_neg (λ q=>by cases q.2.2)];by_cases h2:o+k<=p/\p<o+j;by_cases h3:(f (b+(p-o))).bM=false;rw[if_pos ⟨h2.1,ac,h3⟩,if_pos ⟨h2.1,h2.2,h3⟩];rw[if_neg (λ q=>h3 q.2.2),if_neg (λ q=>h3 q.2.2)];rw[if_neg (λ q=>h2 ⟨q.1,ac⟩),if_neg (λ q=>h2 ⟨q.1,q.2.1⟩)]
def X0:mW f o k k y=f:=by funext p;unfold mW;exact if_neg ac
def api:mW f o k j y (o+j)=f (o+j):=by unfold mW;exact if_neg ac
def apj(a:k<=j)(p:Nat):mW f o k (j+1) y p=if p=o+j then(f (o+j)).div y else mW f o k j y p:=by unfold mW;by_cases h:p=o+j;subst h;rw[if_pos rfl,if_pos ⟨ac,ac⟩];rw[if_neg h];by_cases h2:o+k<=p/\p<o+j;rw[if_pos ⟨h2.1,ac⟩,if_pos h2];rw[if_neg (λ q=>h2 ⟨q.1,ac⟩),if_neg h2]
def YP{s:Nat->Nat}{t p:Nat}(i:Nat):fK s t p i=if i=p then s t else(λ i=>if i=t then s p else s i) i:=by unfold fK;by_cases h:i=p;rw[if_pos h,if_pos h];rw[if_neg h,if_neg h];show _=if i=t then s p else s i;split<;>rfl
end
end Go.aA.fE
namespace Go.Proofs.YtpcofcmencgkbaaGreat
section
open Go.aA Go.aA.fE Go.Proofs Go.Lib
noncomputable def ma(M:List (List ak))(p:Nat):ak:=(true,(jy (M.flatten.map (·.2))).getD p (aC.rat 0))
def ld(b:bz)(w i j:Nat):aa:=if j<i then dB b w j else .ar
def z1(b:bz)(w h i:Nat):aa:=if i<h then .ah b 2 (i*w) ((h-i)*w) false else .top
instance{w h i k:Nat}:p2 (λ q=>z1 (q k) w h i):=⟨λ ρ q=>by unfold z1;split<;>rfl⟩
instance{w h i k:Nat}:qU (λ q=>(a7 h (ld (q k) w i)).map λ x=>x):=⟨λ ρ q=>by rw[ga,n7,n7];unfold a7;rw[iA];exact kq λ j _=>by show(ld (q k) w i j).aY ρ=_;unfold ld;split<;>rfl⟩
instance{w h k:Nat}{s:Nat->Nat}:qU (λ q=>(a7 h s).map (dB (q k) w)):=⟨λ ρ q=>by rw[ga,iA];rfl⟩
def MS{b:bz}{w h i:Nat}(a:i<h):z1 b w h i=.ah b 2 (i*w) ((h-i)*w) false:=if_pos a
def aiH{b:bz}{w h i:Nat}(a:i+1<h):z1 b w h (i+1)=.ah b 2 (i*w+w) ((h-i)*w-w) false:=by rw[MS a,gB,show(h-(i+1))*w=(h-i)*w-w from by rw[show h-i=(h-(i+1))+1 from ac,gB];omega]
def aiG{b:bz}{w h i:Nat}(a:¬i<h):z1 b w h i=.top:=if_neg a
def sB{w:Nat}:∀{M:List (List ak)},(∀r∈M,r.length=w)->M.flatten.length=M.length*w|[],_=>am|r::M,h=>by rw[Qv,cy,h r cg,sB λ r a=>h r (cX _ a),fU,gB,Qt]
def Tb{w:Nat}:∀{M:List (List ak)},(∀r∈M,r.length=w)->∀{i j:Nat},i<M.length->j<w->M.flatten.getD (i*w+j) (a3 0)=(M.getD i []).getD j (a3 0)|[],_,i,_,a,_=>(ew _ a).elim|r::M,h,i,j,a,c=>by have b:=h r cg;rw[Qv,dE];cases i with|zero=>rw[Nat.zero_mul,Nat.zero_add,List.getElem?_append_left ac];exact(dE ..).symm|succ i=>rw[gB,List.getElem?_append_right ac,show i*w+w+j-r.length=i*w+j from ac,<-dE,Tb (λ r b=>h r (cX _ b)) (by simpa using a) c];rfl
variable{K:b6}{n w:Nat}{M:List (List ak)}
def S9(c:a4 K n w M):∀a∈M.flatten.map (·.2),aC.G K a n:=λ a e=>by obtain⟨x,b,rfl⟩:=bd.1 e;have⟨r,d,b⟩:=List.mem_flatten.1 b;exact(c r d).2 x b
def aiA{p:Nat}(a:p<M.flatten.length):ma M p=(true,aC.of (dJ (M.flatten.map (·.2))) (M.flatten.getD p (a3 0)).2.val):=by unfold ma jy;rw[aX (by rw[aL,aL];exact a),gm,gm,aX a]
def UF{p:Nat}(e:a4 K n w M)(b:p<M.flatten.length):(ma M p).2.val=(M.flatten.getD p (a3 0)).2.val/\(ma M p).G K n:=by rw[aiA b,aX b];have d:M.flatten[p].2∈M.flatten.map (·.2):=bd.2 ⟨_,bo b,rfl⟩;have g:=S9 e;have hv:=C5 (K:=K) (λ a c=>(g a c).1) _ d _ ⟨M.flatten[p].2.a,rfl⟩;refine⟨aC.Ao hv,HD λ a c=>(g a c).1,?_⟩;exact(aC.Ao hv).symm▸(g _ d).2
def aiz(b:a4 K n w M)(p:Nat):(ma M p).G K n:=by by_cases a:p<M.flatten.length;exact(UF b a).2;unfold ma jy;rw[dE,yI (by rw[aL,aL];omega)];exact ak.G.zero
noncomputable def qp(M:List (List ak)):j8:=⟨ma M,λ i=>i,[],a3 1⟩
def amZ(a:a4 K n w M):wY K n w M.length (bH M) 0 (qp M):=by
 have c:=λ r c=>(a r c).1;refine⟨⟨λ i h=>h,λ i _ j _ e=>e⟩,?_,rfl,λ q=>aiz a q,ak.G.one.mono (Nat.zero_le _)⟩;show _=bH M;refine V1 (w:=w) IV (Jt a) (by rw[oO,oO,la]) λ i b j d=>?_;rw[oO,la]at b;have f:i*w+j<M.flatten.length:=by rw[sB c];have:=cr w (show i+1<=M.length from b);rw[gB]at this;omega
 rw[On b d,gv];show(ma M (i*w+j)).2.val=_;rw[(UF a f).1,Tb c b d]
end
section
open Go.aA Go.aA.fE Go.Proofs Go.Lib
variable(G:Nat->Option (List aa))
noncomputable abbrev xB(M:List (List ak))(w i:Nat)(q:bm):List (Nat×aa):=[(4,z1 (q 0) w M.length i),(0,aD M),(6,.ah (q 1) 1 0 M.length false),(21,aD M),(22,.int .i64 ((M.map aj).length:Nat)),(23,aq i)]
noncomputable abbrev vC(M:List (List ak))(w i:Nat)(q:bm):List (bz×aJ):=[(q 0,⟨(a7 (M.length*w) (ma M)).map aP,2,false⟩),(q 1,⟨(a7 M.length (ld (q 0) w i)).map λ x=>x,1,false⟩)]
def aiB{M:List (List ak)}{w:Nat}(k:∀r∈M,r.length=w)(h0:0<w)(m:M.length<=90)(i:Nat)(a:i<M.length):iK ab G (aT (ao 152) 0) (ao 152).aH 200 .normal (xB M w i) (vC M w i) (xB M w (i+1)) (vC M w (i+1)):=by
 have el:((((M[i].map aP).length:Nat)):Int)=(w:Int):=by rw[aL,k _ (bo a)]
 have g:w<=(M.length-i)*w:=Nat.le_mul_of_pos_left w ac;have c:∀b j,j<M.length->ld b w (i+1) j=if j=i then dB b w i else ld b w i j:=λ b j _=>by unfold ld;by_cases h:j=i;subst h;rw[if_pos ac,if_pos rfl];rw[if_neg h];split<;>split<;>first|rfl|omega
 unfold xB;simp only[MS a];by_cases e:i+1<M.length;simp only[aiH e];have f:w<(M.length-i)*w:=by have:=cr w (ac:2<=M.length-i);omega
 exact gy [bu 24 aj a,aU 26 1 aj a,hw 32 el,hw 34 el,TW 35 2 [1] (i*w) ((M.length-i)*w) w,hw 38 el,xo 39 2 [1] (i*w) ((M.length-i)*w) w false,cQ 40 1 [2] false M.length i,mJ 40 1 [2] 1 M.length (λ x=>x) (ld [1] w i) (ld [1] w (i+1)) i (dB [1] w i) (c [1]) rfl (h1:=by unfold ld;split<;>exact a2 _) (hu:=by unfold ld;split<;>rfl),a5 41 i];have l:(M.length-i)*w=w:=by rw[show M.length-i=1 from ac,Nat.one_mul]
 simp only[aiG e,l];exact gy [bu 24 aj a,aU 26 1 aj a,hw 32 el,hw 34 el,TW 35 2 [1] (i*w) w w,hw 38 el,TU 39 2 [1] (i*w) w h0,cQ 40 1 [2] false M.length i,mJ 40 1 [2] 1 M.length (λ x=>x) (ld [1] w i) (ld [1] w (i+1)) i (dB [1] w i) (c [1]) rfl (h1:=by unfold ld;split<;>exact a2 _) (hu:=by unfold ld;split<;>rfl),a5 41 i]
def akJ{K:b6}{q e r:Nat}(F:eb K q e r){n w:Nat}{M:List (List ak)}(o:a4 K n w M)(h0:0<w)(d:M≠[])(k:M.length<=90)(m:w<=90)(u:n+K.C<=2199023255552)(p:bz):cv ab G 152 [aD M] p [] {val:=.aM [.ah (14::p) 1 0 M.length false,.int .i64 0],rd:=[],up:=[(2000000::4::p,some ⟨(a7 (M.length*w) (ma M)).map aP,2,false⟩),(14::p,some ⟨(a7 M.length λ i=>i).map (dB (2000000::4::p) w),1,false⟩)]}:=by
 have f:=λ r f=>(o r f).1;have g:=sB f;have E:M.length*w<=8100:=by have:=Nat.mul_le_mul k m;omega
 have z:M.flatten≠[]:=λ e=>by rw[e]at g;have:=Nat.mul_pos (fN.2 d) h0;rw[gR]at g;omega
 have c:=VV G d (λ r h=>⟨λ e=>by have:=f r h;rw[e]at this;rw[gR]at this;omega,by rw[f r h];exact m⟩) k;have D:aj M.flatten=fQ (M.flatten.map (·.2)):=by unfold aj fQ;rw[iA];rfl
 rw[D]at c;have v:(jy (M.flatten.map (·.2))).map aw=(a7 (M.length*w) (ma M)).map aP:=by refine jL (by rw[aL,aL,iC];unfold jy;rw[aL,aL,g]) λ i h1 h2=>?_;rw[aL]at h1;simp only[a7,gm,kT];show _=aw ((jy _).getD i _);rw[aX h1]
 have j:=λ p=>ak0 G F (M.flatten.map (·.2)) (λ e=>z (gP.1 e)) (by rw[aL,g];omega) (S9 o) u p;rw[v,aL,g]at j;have H:∀b,(a7 M.length (ld b w 0)).map (λ x=>x)=bI M.length .ar:=λ b=>by rw[n7];exact jL (by simp[iC]) λ j h1 h2=>by simp[a7,ld]
 have s:∀b,(a7 M.length (ld b w M.length)).map (λ x=>x)=(a7 M.length λ i=>i).map (dB b w):=λ b=>by rw[n7,B1];exact QU λ j t=>if_pos t
 have x:=gy (G:=G) (P:=ab) (c:=aT (ao 152) 0) (n:=(ao 152).aH) (w:=200) (e:=.exit 0) (A:=xB M w M.length) (bC:=vC M w M.length) (B:=λ q=>[(6,.ah (q 1) 1 0 M.length false)]) (bO:=vC M w M.length) [cS 24 aj M];have y:iK ab G (aT (ao 152) 0) (ao 152).aH 200 (.exit 0) (xB M w M.length) (vC M w M.length) (λ q=>[(6,.ah (q 1) 1 0 M.length false)]) (λ q=>[(q 0,⟨(a7 (M.length*w) (ma M)).map aP,2,false⟩),(q 1,⟨(a7 M.length λ i=>i).map (dB (q 0) w),1,false⟩)]):=by unfold vC at x⊢;simp only[s]at x⊢;exact x
 have l:0<M.length:=fN.2 d;refine e9 (p:=p) (up:=[(2000000::4::p,_),(14::p,_)]) hN (λ _=>[]) [hc c,c3 j,hw 19 (show(((M.map aj).length:Nat):Int)=(M.length:Int)by rw[aL]),vu 20 1 24 .ar M.length (λ x:aa=>x) (ld [2000000,4,0] w 0) (λ j _=>if_neg (ew _)),oF (ao 152) 0 0 M.length (dH [[2000000,4,0],[14,0]]) (xB M w) (vC M w) (.exit 0) (λ q=>[(6,.ah (q 1) 1 0 M.length false)]) (λ q=>[(q 0,⟨(a7 (M.length*w) (ma M)).map aP,2,false⟩),(q 1,⟨(a7 M.length λ i=>i).map (dB (q 0) w),1,false⟩)]) (aiB G f h0 k) y (t0:=[(4,.ah [2000000,4,0] 2 0 (M.length*w) false),(0,aD M),(6,.ah [14,0] 1 0 M.length false),(21,aD M),(22,.int .i64 ((M.map aj).length:Nat)),(23,aq 0)]) (k0:=vC M w 0 (dH [[2000000,4,0],[14,0]])) (by unfold xB;rw[MS l,Nat.zero_mul,Nat.sub_zero];rfl) rfl] _ [] (.aM [.ah [14,0] 1 0 M.length false,.int .i64 0]) [([2000000,4,0],⟨(a7 (M.length*w) (ma M)).map aP,2,false⟩),([14,0],⟨(a7 M.length λ i=>i).map (dB [2000000,4,0] w),1,false⟩)] an (bn.fix _) rfl rfl ?_ am am;show [(_,aJ.mk (bD _ _) 2 false),(_,aJ.mk (bD _ _) 1 false)]=_;rw[bn.fix,ga,iA];rfl
end
section
open Go.aA Go.aA.fE Go.Proofs Go.Lib
variable(G:Nat->Option (List aa))(L o b w k:Nat)(f:Nat->ak)(x:ak)
noncomputable abbrev AV(i:Nat)(q:bm):List (Nat×aa):=[(8,.ref (q 1) 0 0),(0,fo),(1,.ah (q 0) 2 o w true),(2,.ah (q 0) 2 b w true),(10,aq (k+i))]
noncomputable abbrev vU(i:Nat)(q:bm):List (bz×aJ):=[(q 0,⟨(a7 L (iu f o b k (k+i) x)).map aP,2,false⟩),(q 1,⟨[x.T],2,false⟩)]
structure KW(K:b6)(q n m:Nat):Prop where
 ho:∀j,j<w->(f (o+j)).G K n
 hb:∀j,j<w->(f (b+j)).G K m
 hx:x.G K n
 hd:b+w<=o\/o+w<=b
 NI:o+w<=L
 ada:b+w<=L
 cw:w<=9000
 b1:bF K q n
 b2:bF K q m
 b3:bF K q (n+m+K.c)
variable{L o b w k f x}
variable{K:b6}{q e r:Nat}(F:eb K q e r){n m:Nat}
include F
def apc(H:KW L o b w f x K q n m)(i:Nat)(a:k+i<w):iK ab G (aT (ao 157) 0) (ao 157).aH 200 .normal (AV o b w k i) (vU L o b k f x i) (AV o b w k (i+1)) (vU L o b k f x (i+1)):=by have A:=H.cw;have NI:=H.NI;have B:=H.ada;have c:=apd (f:=f) (k:=k) (j:=k+i) (y:=x) H.hd a ac;have l:=apf (f:=f) (o:=o) (b:=b) (k:=k) (j:=k+i) (y:=x);have g1:=H.hb _ a;have g2:=H.ho _ a;have st:=apg (f:=f) (o:=o) (b:=b) (k:=k) (j:=k+i) (y:=x);have rN:=aph (f:=f) (o:=o) (b:=b) (k:=k) (j:=k+i) (y:=x);unfold vU AV;rw[<-Nat.add_assoc];have h:k<=k+i:=Nat.le_add_right _ _;have s:=JR (i:=k+i) ac;generalize k+i=j at*;rw[<-c]at g1;rw[<-l]at g2;have iv:=xL G F g1 H.b2;cases z:(f (b+j)).bM with|true=>rw[rN z];generalize iu f o b k j x=g at*;rw[<-c]at z;exact gy [hb 15 (dv a),ov 20 2 [1] b w j true,fX 21 2 true [1] 2 L aP g (b+j) (g (b+j)).T,hc iv,hb 23 (oM z),hw 17 s]|false=>have st:=st z h;rw[<-c,<-l]at st;rw[<-c]at z;have v:=zj G F H.hx g1 H.b1 H.b2;have u:=adR G F g2 (H.hx.mul g1) H.b1 H.b3;generalize iu f o b k (j+1) x=d at*;generalize iu f o b k j x=g at*;exact gy [hb 15 (dv a),ov 20 2 [1] b w j true,fX 21 2 true [1] 2 L aP g (b+j) (g (b+j)).T,hc iv,hb 23 (oM z),ov 29 2 [1] o w j true,fX 30 2 true [1] 2 L aP g (o+j) (g (o+j)).T,ov 35 2 [1] b w j true,fX 36 2 true [1] 2 L aP g (b+j) (g (b+j)).T,hc v,hc u,ov 39 2 [1] o w j true,mJ 39 2 [1] 2 L aP g d (o+j) ((g (o+j)).sub (x.mul (g (b+j)))) (λ p _=>st p) (vN _),hw 17 s]
def akQ(H:KW L o b w f x K q n m)(j:k<=w)(id p:bz):cv ab G 157 [fo,.ah id 2 o w true,.ah id 2 b w true,x.T,aq k] p [(id,⟨(a7 L f).map aP,2,false⟩)] {val:=.aM [],rd:=[id],up:=[(id,some ⟨(a7 L (iu f o b k w x)).map aP,2,false⟩)]}:=by have d:k+(w-k)=w:=ac;have x1:=gy (P:=ab) (G:=G) (c:=aT (ao 157) 0) (n:=(ao 157).aH) (w:=200) (e:=.exit 0) (A:=AV o b w k (w-k)) (bC:=vU L o b k f x (w-k)) (B:=λ _=>[]) (bO:=λ q=>[(q 0,⟨(a7 L (iu f o b k (k+(w-k)) x)).map aP,2,false⟩)]) [hb 15 (iW (ac:w<=k+(w-k)))];unfold vU at x1;rw[d]at x1;exact cv.Zc hN [oF (ao 157) 0 0 (w-k) (dH [[1],[0,0]]) (AV o b w k) (vU L o b k f x) (.exit 0) (λ _=>[]) (λ q=>[(q 0,⟨(a7 L (iu f o b k w x)).map aP,2,false⟩)]) (λ i h=>apc G F H i ac) (by unfold vU;rw[d];exact x1) (t0:=AV o b w k 0 (dH [[1],[0,0]])) (k0:=[([1],⟨(a7 L f).map aP,2,false⟩),([0,0],⟨[x.T],2,false⟩)]) rfl (by unfold vU;rw[Nat.add_zero,ape];rfl) (hN:=by have:=H.cw;omega)] (λ q=>[fo,.ah (q 0) 2 o w true,.ah (q 0) 2 b w true,x.T,aq k]) (λ _=>.aM []) (λ q=>[(q 0,⟨(a7 L f).map aP,2,false⟩)]) (λ q=>[(q 0,⟨(a7 L (iu f o b k w x)).map aP,2,false⟩)]) an (dH [id]) p am am
end
end Go.Proofs.YtpcofcmencgkbaaGreat
