/- For the claim of VerifierKernel: parts XVG, XVH, MXF, XU8, XU9, XUA, XUC, XUD, XUF, XUG, XUH, MXH, XUJ, XVI, MP3, MP4, MP5, XVK, MP6, XVL, XUK, XUL, XUM, MP7, XW1. -/
import Derived.Test.YtpcofcmencgkbaaGreatC11
import Derived.Test.YtpcofcmencgkbaaGreatC10
import Derived.Test.YtpcofcmencgkbaaGreatC05
set_option linter.defProp false
set_option linter.unusedSectionVars false
set_option linter.unusedSimpArgs false
set_option linter.unusedVariables false
set_option maxRecDepth 100000
open Bool renaming and_eq_true->gU,and_false->Pz,eq_false_iff->Es,false_and->tV,false_ne_true->A0,false_or->pS,or_eq_false_iff->pR,or_eq_true->xX,true_and->mA
open Classical renaming byContradiction->nO
open Go.IntKind renaming i64->cO,wrap_i64->cU
open Go.Proofs.Tryz renaming prog->ab
open Go.ay renaming Id->bt,hb->cW
open Go.ay.aD renaming s->a3
open Go.ay.az renaming rat->dM
open Go.ay.az.G renaming red->vA
open Go.ay.aj renaming T->aO,rat->aS
open Go.ay.aj.G renaming zero->AZ
open Go.ay.ax renaming ofRat->dG,ofRat_mul->oG
open Go.ay.aC renaming pe->yf
open Go.ay.View renaming agg->ya,aH->ga,pure->fk,aJ->lN
open Go.ay.dc renaming cons->bZ,nil->eT
open Go.ay.gZ renaming same->JQ
open Go.ay.fm renaming same->lM
open Int renaming natCast_nonneg->vn,ofNat->k6,toNat->mB
open List renaming all_eq_true->dY,contains_iff_mem->vz,eq_of_mem_replicate->lR,eq_replicate_iff->aaq,filter_append->lL,filter_cons->Ey,filter_cons_of_neg->aan,filter_cons_of_pos->aao,filter_eq_self->Py,getD_eq_getElem?_getD->dt,getElem?_eq_none->pP,getElem_map->iz,getElem_mem->bf,getElem_range->nh,isEmpty_iff->aau,length_append->cP,length_map->aQ,length_nil->iM,length_pos_iff->iy,length_range->dx,length_replicate->aap,length_set->kf,length_zip->aas,length_zipWith->ke,map_append->gI,map_congr_left->jR,map_eq_nil_iff->nY,map_replicate->AX,map_singleton->nX,mem_cons->ct,mem_cons_self->cp,mem_filter->qN,mem_flatMap->kD,mem_iff_getElem->gJ,mem_map->bp,mem_range->c8,mem_singleton->cq,nil_append->qU,nodup_cons->hZ,nodup_nil->gW,nodup_range->Ez,not_mem_nil->cS,pairwise_iff_getElem->D8,range->a8,range_succ->ix,replicate->bM,singleton_append->AG,take_length->kB,take_of_length_le->kc,take_succ_eq_append_getElem->nT,zip->vt
open List.Pairwise renaming nil->aat
open Nat renaming div_le_self->h6,div_mul_le_self->aar,le_refl->a2,le_trans->bx,min_self->tW,mul_le_mul->jd,mul_le_mul_right->ck,not_lt_zero->fv,succ_mul->fU,zero_le->dL
open Ne renaming symm->fE
set_option maxHeartbeats 4000000
open Go.ay Go.Proofs Go.Lib
namespace Go.Proofs.YtpcofcmencgkbaaGreat
section
open Go.ay Go.ay.eU Go.Proofs Go.Lib
variable(G:Nat->Option (List aa)){K:bY}{q e r:Nat}{n w j:Nat}{M:List (List aj)}
noncomputable abbrev mH(b:List (List aj))(a:List Nat)(M:List (List aj))(P:List Nat)(i:Nat):List (List aj):=((a8 i).filter λ i=>!P.contains i).map λ i=>lX b (cH a (M.getD i []))
def acz{b:List (List aj)}{a:List Nat}{P:List Nat}{i:Nat}(h:P.contains i=true):mH b a M P (i+1)=mH b a M P i:=by unfold mH;rw[ix,lL,aan (by rw[h];decide)];simp
def acy{a:List (List aj)}{b:List Nat}{P:List Nat}{i:Nat}(h:P.contains i=false):mH a b M P (i+1)=mH a b M P i++[lX a (cH b (M.getD i []))]:=by unfold mH;rw[ix,lL,aao (by rw[h];decide),gI];simp
def QK(b:List (List aj))(a:List Nat)(M:List (List aj))(P:List Nat)(i:Nat):(mH b a M P i).length<=i:=by unfold mH;rw[aQ];have:=List.length_filter_le (λ i=>!P.contains i) (a8 i);rwa[dx]at this
noncomputable def rv(M:List (List aj)):iB:=let P:=ey M (a8 M.length);let ch:=bO M P;let a:=(bl ch).2;let b:=lz (ch.map (cH a));⟨P.map k6,a.map k6,b,mH (eR b) a M P M.length,oq M⟩
noncomputable abbrev uz(M ch:List (List aj))(P:List Nat)(i:Nat)(q:aD):List (Nat×aa):=[(8,.ref q.b 0 0),(4,.ref q.c 0 0),(0,aN M),(6,bW P),(78,aN ch),(79,.int .i64 ((ch.map ar).length:Nat)),(80,aA i)]
def ad5{P b:List Nat}{aP ch:List (List aj)}(hc:∀x∈ch,∀k∈b,k<x.length)(g:b.length<=4000)(m:ch.length<=4000)(i:Nat)(c:i<ch.length):bF ab G (aZ (ak 21) 0) (ak 21).aK (bK 0) .normal (λ q=>(10,bX q.a 1 (((ch.take i).map (cH b)).map ar))::uz M ch P i q) (λ q=>bu q.a 1 (((ch.take i).map (cH b)).map ar)++pk P (bW b) aP q) (λ q=>(10,bX q.a 1 (((ch.take (i+1)).map (cH b)).map ar))::uz M ch P (i+1) q) (λ q=>bu q.a 1 (((ch.take (i+1)).map (cH b)).map ar)++pk P (bW b) aP q):=by have ov:=RX G (r:=ch[i]) (l:=b) (hc _ (bf c)) ac;rw[nT c,gI,gI,nX,nX];have f:q9 1 24 9000 (((ch.take i).map (cH b)).map ar):=⟨by rw[aQ,aQ,List.length_take];omega,qp (k:=1)⟩;exact sI (key:=90) (hb:=al) (A:=uz M ch P i) (B:=uz M ch P (i+1)) (bJ:=pk P (bW b) aP) (bS:=pk P (bW b) aP) f 9 ⟨[10,0],[2],[3],[4]⟩ (λ x=>[bB 81 ar c,aV 82 1 ar c,Go.ay.hc ov]++x++[bh 91 i]) (by intros;kernel_rfl) (by intros;kernel_rfl)
def ad4{P:List Nat}{ru:aa}[bg ru]{L:List (List aj)}{aP ch:List (List aj)}:bF ab G (aZ (ak 21) 0) (ak 21).aK (bK 0) (.exit 0) (λ q=>(10,bX q.a 1 (L.map ar))::uz M ch P ch.length q) (λ q=>bu q.a 1 (L.map ar)++pk P ru aP q) (λ q=>(10,aN L)::[(8,.ref q.b 0 0),(4,.ref q.c 0 0),(0,aN M),(6,bW P)]) (pk P ru aP):=(nK (A:=uz M ch P ch.length) (B:=λ q=>[(8,.ref q.b 0 0),(4,.ref q.c 0 0),(0,aN M),(6,bW P)]) (bJ:=pk P ru aP) (bS:=pk P ru aP) a3 [dH 81 ar ch]).BI (λ e f=>by obtain⟨x,_,rfl⟩:=bp.1 f;infer_instance) (Qq (λ _=>Fl) (λ _=>Fl))
noncomputable abbrev sV(M a:List (List aj))(P:List Nat)(i:Nat)(q:aD):List (Nat×aa):=[(13,aN a),(6,bW P),(8,.ref q.b 0 0),(4,.ref q.c 0 0),(105,aN M),(106,.int .i64 ((M.map ar).length:Nat)),(107,aA i)]
noncomputable abbrev nw(P a:List Nat)(b aP:List (List aj))(l:List aa)(q:aD):List (bt×aG):=Br P (bW a) b aP l q
variable{P bz:List Nat}{inv aP back:List (List aj)}{i:Nat}{x:List aj}
def adV(c:i<M.length)(h:M.length<=4000)(k:P.length<=4000)(f:P.contains i=false)(ov:ag ab G 67 [ar M[i],bW bz] (ar (cH bz M[i])))(so:ag ab G 71 [aN back,ar (cH bz M[i])] (.aJ [ar x,.int .i64 0])):bF ab G (aZ (ak 21) 1) (ak 21).aK (bK 0) .normal (sV M back P i) (nw P bz inv aP []) (sV M back P (i+1)) (nw P bz inv aP ([]++[(ar x)])):=by have b:=oA G (l:=P) (n:=i) ac;rw[f]at b;have d:∀p,bX p 1 ([]:List aa)=.aH:=λ p=>rfl;have g:∀p,bu p 1 ([]:List aa)=[]:=λ p=>rfl;unfold nw Br;simp only[d,g,qU];exact bn ⟨[26,0],[2],[3],[4]⟩ [bB 108 ar c,aV 110 1 ar c,hc b,hc ov,hc so,bh 134 i]
def adW{l:List aa}[bq l][dw 1 l](d:l≠[])(s:l.length<=4000)(b:i<M.length)(t:M.length<=4000)(u:P.length<=4000)(m:P.contains i=false)(ov:ag ab G 67 [ar M[i],bW bz] (ar (cH bz M[i])))(so:ag ab G 71 [aN back,ar (cH bz M[i])] (.aJ [ar x,.int .i64 0])):bF ab G (aZ (ak 21) 1) (ak 21).aK (bK 0) .normal (sV M back P i) (nw P bz inv aP l) (sV M back P (i+1)) (nw P bz inv aP (l++[(ar x)])):=by
 have c:=oA G (l:=P) (n:=i) ac;rw[m]at c;have o:∀p,bX p 1 (l++[(ar x)])=.ai p 1 0 (l.length+1) false:=λ p=>by rw[gQ am,cP];rfl
 have h:∀p,bu p 1 (l++[(ar x)])=[(p,⟨l++[(ar x)],1,false⟩)]:=λ p=>gn am;have f:∀p,bX p 1 l=.ai p 1 0 l.length false:=λ p=>gQ d;have g:∀p,bu p 1 l=[(p,⟨l,1,false⟩)]:=λ p=>gn d;unfold nw Br;simp only[f,g,o,h,AG];exact bn ⟨[26,0],[2],[3],[4]⟩ [bB 108 ar b,aV 110 1 ar b,hc c,hc ov,hc so,Gc 132 1 24 [1] 25 l (ar x) ac (qp (k:=1)),bh 134 i]
def adX{l:List aa}[bq l](a:i<M.length)(k:M.length<=4000)(m:P.length<=4000)(h:P.contains i=true):bF ab G (aZ (ak 21) 1) (ak 21).aK (bK 0) .normal (sV M back P i) (nw P bz inv aP l) (sV M back P (i+1)) (nw P bz inv aP l):=by have d:=oA G (l:=P) (n:=i) ac;rw[h]at d;unfold nw Br;by_cases b:l=[];subst b;have f:∀p,bX p 1 ([]:List aa)=.aH:=λ p=>rfl;have c:∀p,bu p 1 ([]:List aa)=[]:=λ p=>rfl;simp only[f,c,qU];exact bn a3 [bB 108 ar a,aV 110 1 ar a,hc d,bh 134 i];have f:∀p,bX p 1 l=.ai p 1 0 l.length false:=λ p=>gQ b;have c:∀p,bu p 1 l=[(p,⟨l,1,false⟩)]:=λ p=>gn b;simp only[f,c,AG];exact bn a3 [bB 108 ar a,aV 110 1 ar a,hc d,bh 134 i]
def adU{l:List aa}[bq l](a:∀e∈l,e.size=1)(t:∀c∈flat l,cb c)(o:∀σ:aL,dc σ (flat l) (flat l)):bF ab G (aZ (ak 21) 1) (ak 21).aK (bK 0) (.exit 2) (sV M back P M.length) (nw P bz inv aP l) (λ q=>[(8,.ref q.b 0 0),(4,.ref q.c 0 0)]) (λ q=>[(q.b,nn (bW P) (bW bz) (aN inv) (.sl 1 l) (aN aP)),(q.c,Ja)]):=by
 have H:bF ab G (aZ (ak 21) 1) (ak 21).aK (bK 0) (.exit 2) (sV M back P M.length) (nw P bz inv aP l) (λ q=>[(8,.ref q.b 0 0),(4,.ref q.c 0 0)]) (nw P bz inv aP l):=by unfold nw Br;by_cases k:l=[];subst k;have f:∀p,bX p 1 ([]:List aa)=.aH:=λ p=>rfl;have h:∀p,bu p 1 ([]:List aa)=[]:=λ p=>rfl;simp only[f,h,qU];exact bn a3 [dH 108 ar M];have f:∀p,bX p 1 l=.ai p 1 0 l.length false:=λ p=>gQ k;have h:∀p,bu p 1 l=[(p,⟨l,1,false⟩)]:=λ p=>gn k;simp only[f,h,AG];exact bn a3 [dH 108 ar M]
 exact H.j9 λ q m g=>bP.aea g rfl a a (λ F=>lM F _) t (λ F=>JQ F _) (λ F=>JQ F _) (λ F=>JQ F _) (λ F=>JQ F _) Fl o
def LU{A:List (List aj)}{t:Nat}(m:bj K n t A)(b:A.length=t)(h0:0<t):(lz A).length=t/\bj K (grow K t n) t (lz A):=by
 have k:=yv m (qg (K:=K) (n:=n) A.length);have h:(eV A (ei A.length)).length=A.length:=by unfold eV;rw[ke,o8,tW]
 have bne:eV A (ei A.length)≠[]:=λ e=>by rw[e,iM]at h;omega
 have d:=CK (j:=t) k bne ac;rw[h,b]at d;refine⟨by unfold lz;rw[aQ,dx,b],λ r c=>?_⟩;unfold lz at c;rw[b]at c;obtain⟨i,a,rfl⟩:=bp.1 c;have a:=c8.1 a;have f:((c7 (eV A (ei t))).rows (t+t) t).length=t:=kv;have g:=d _ (bf (show i<_ by rw[f];exact a));rw[a4 (by rw[f];exact a)];exact⟨by rw[List.length_drop,g.1];omega,λ x l=>g.2 x (List.mem_of_mem_drop l)⟩
end
section
open Go.ay Go.ay.eU Go.Proofs Go.Lib
variable(G:Nat->Option (List aa)){K:bY}{q e r:Nat}{n w j:Nat}{M:List (List aj)}
variable(F:dN K q e r)
include F
def aiS(s:bj K n w M)(p:M≠[])(w0:0<w)(gN:M.length<=90)(cx:w<16)(hj:M.length<=j\/w<=j)(hB:bm K q (grow K j n))(aeC:(ey M (a8 M.length)).length<M.length->bm K q ((ey M (a8 M.length)).length*(grow K (ey M (a8 M.length)).length n+n+K.c+1)))(hp:ey M (a8 M.length)≠[]):ag ab G 21 [aN M,aA w] (.aJ [nH (rv M),.int .i64 0]):=by
 have V2:=K0 G (M:=M) (w:=(w:Int)) ac;have adK:u0 M (w:Int)=true:=by unfold u0;rw[gU];exact⟨decide_eq_true (vn w),dY.2 λ r hr=>decide_eq_true (by rw[(s r hr).1])⟩
 rw[adK]at V2;have O:=UC G F s p w0 gN ac hj hB;have ky:(eR M).length=w:=by rw[ve,gj s p]
 rw[xg (sc s) (λ e=>by rw[e]at ky;simp at ky;omega),M6 s p w0]at O;have bQ:=UB G F s p w0 gN cx hj hB;have Y:=xi s (ord:=a8 M.length) λ k X=>c8.1 X;have I:=HD M (Ez (n:=M.length));have V:=M3 M (a8 M.length) hp;have qn:(ey M (a8 M.length)).length<=M.length:=by have:=yf (S:=a8 M.length) I λ x u=>c8.2 (Y.1 x u);rwa[dx]at this
 have ah6:=λ{i:Nat}(g:i<M.length)(h:i∉ey M (a8 M.length))=>T6 I Y.1 g h;unfold rv nH;simp only[GM];generalize oq M=aP at*;generalize ey M (a8 M.length)=P at*;have p0:0<P.length:=iy.2 hp;have pr:=RY G Y.1 ac;have N:bO M P≠[]:=λ h=>hp (nY.1 h);have C:bj K n w (bO M P):=s.sub Y.1;have L8:(bO M P).length=P.length:=aQ ..;have R:=ai2 G F C N w0 ac ac (j:=j) ac hB;rw[xg C N]at R;have B:=(lE C).lt;rw[gj C N]at B;have Ut:=Uq C N (by rw[V,L8]);have Z:=Cm C (bl (bO M P)).2;have T:((bO M P).map (cH (bl (bO M P)).2)).length=P.length:=by rw[aQ,L8]
 have z:(bl (bO M P)).2.length=P.length:=V;generalize(bl (bO M P)).2=d at*;have hw:∀x∈bO M P,∀k∈d,k<x.length:=λ x u k X=>by rw[(C x u).1];exact B k X
 have af8:∀i(g:i<M.length),∀k∈d,k<(M[i]).length:=λ i g k X=>by rw[(s _ (bf g)).1];exact B k X
 rw[z]at Z;have afB:P.length<=j:=by rcases hj with h|h<;>omega
 have nm:(bO M P).map (cH d)≠[]:=λ h=>N (nY.1 h);have E:bm K q (grow K P.length n):=by have:=n9 (K:=K) (n:=n) afB;unfold bm at*;omega
 have abl:=yv Z (qg (K:=K) (n:=n) P.length);have ju:=aiX G F (M:=(bO M P).map (cH d)) (m:=n) (j:=P.length) (by rw[T];exact Z) nm (by rw[T];omega) ac (by rw[T];rw[L8]at Ut;rw[xg abl (λ e=>by have:=congrArg List.length e;unfold eV at this;rw[ke,o8,T,tW,iM]at this;omega),Ut]) E;have D:=LU Z T p0;generalize lz ((bO M P).map (cH d))=o at*;have U:o≠[]:=λ e=>by rw[e]at D;simp at D;omega
 have kV:=UD G (λ x u=>(D.2 x u).1) U ac (ac:P.length<=9000);have tm:=sc D.2;rw[D.1]at tm;have Q:(eR o).length=P.length:=by rw[ve,gj D.2 U]
 have ug:=λ i(g:i<M.length)(t:i∉P)=>aiN G F (A:=eR o) (v:=cH d M[i]) (m:=n) tm (Fx (s _ (bf g)).2 d).2 (by unfold cH;rw[aQ,z]) (λ e=>by rw[e]at Q;simp at Q;omega) ac ac E (by have:=n9 (K:=K) (n:=n) (dL j);unfold grow bm at*;omega) (aeC (by have:=ah6 g t;omega));generalize eR o=f at*;have jv:=ad4 G (M:=M) (P:=P) (ru:=bW d) (L:=(bO M P).map (cH d)) (aP:=aP) (ch:=bO M P);have ahB:bF ab G (aZ (ak 21) 0) (ak 21).aK (bK 0) (.exit 0) (λ q=>(10,bX q.a 1 ((((bO M P).take (bO M P).length).map (cH d)).map ar))::uz M (bO M P) P (bO M P).length q) (λ q=>bu q.a 1 ((((bO M P).take (bO M P).length).map (cH d)).map ar)++pk P (bW d) aP q) (λ q=>(10,aN ((bO M P).map (cH d)))::[(8,.ref q.b 0 0),(4,.ref q.c 0 0),(0,aN M),(6,bW P)]) (pk P (bW d) aP):=by rw[kB];exact jv
 exact bL [hc V2,cW 24 (show((w:Int)==0)=false by rw[beq_eq_false_iff_ne];omega),cW 31 (show((((M.map ar).length:Nat):Int)==0)=false by rw[aQ,beq_eq_false_iff_ne];have:=iy.2 p;omega),hc O,hc pr,hc bQ,cW 61 (show((((P.map aA).length:Nat):Int)==0)=false by rw[aQ,beq_eq_false_iff_ne];omega),hc R,fQ (ak 21) 0 0 0 (bO M P).length ⟨[1],[22,0],[0,0],[4]⟩ (λ i q=>(10,bX q.a 1 ((((bO M P).take i).map (cH d)).map ar))::uz M (bO M P) P i q) (λ i q=>bu q.a 1 ((((bO M P).take i).map (cH d)).map ar)++pk P (bW d) aP q) (.exit 0) (λ q=>(10,aN ((bO M P).map (cH d)))::[(8,.ref q.b 0 0),(4,.ref q.c 0 0),(0,aN M),(6,bW P)]) (pk P (bW d) aP) (λ i g=>ad5 G hw ac ac i g) ahB,hc ju,hc kV,fQ (ak 21) 1 0 1 M.length ⟨[1],[2000001,0],[2000002,0],[4]⟩ (λ i q=>sV M f P i q) (λ i q=>nw P d o aP ((mH f d M P i).map ar) q) (.exit 2) (λ q=>[(8,.ref q.b 0 0),(4,.ref q.c 0 0)]) (λ q=>[(q.b,nn (bW P) (bW d) (aN o) (.sl 1 ((mH f d M P M.length).map ar)) (aN aP)),(q.c,Ja)]) (λ i g=>by cases t:P.contains i with|true=>rw[acz t];exact adX G g ac ac t|false=>
         have afF:i∉P:=λ h=>by rw[vz.2 h]at t;cases t
         have H:=ug i g afF;have ov:=RX G (af8 i g) ac;rw[acy t,gI,nX,a4 g];have L6:=QK f d M P i;by_cases hl:mH f d M P i=[];rw[hl];exact adV G g ac ac t ov H;exact adW G (l:=(mH f d M P i).map ar) (λ h=>hl (nY.1 h)) (by rw[aQ];omega) g ac ac t ov H) (adU G (λ e he=>by obtain⟨x,_,rfl⟩:=bp.1 he;rfl) (λ c hc=>by have⟨x,u,h⟩:=kD.1 hc;obtain⟨y,_,rfl⟩:=bp.1 u;rw[cq.1 h];exact bg.pure) (λ σ=>dc.pure λ c hc=>by have⟨x,u,h⟩:=kD.1 hc;obtain⟨y,_,rfl⟩:=bp.1 u;rw[cq.1 h];exact bg.pure))]
end
section
open Go.ay Go.ay.eU Go.Proofs Go.Lib
def aoo{σ:aL}{p:bt}{n:Nat}{b:Bool}(h:σ p=some ⟨bM n aa.aH,1,b⟩):View σ (.ai p 1 0 n false) (.sl 1 (bM n (aa.sl 2 []))):=by
 refine View.ai (aq:=⟨bM n aa.aH,1,b⟩) h rfl am ?_ am λ d hd=>by rw[lR hd];rfl
 show dc σ (flat (((bM n aa.aH).drop 0).take n)) _;rw[List.drop_zero,kc (by rw[aap];exact a2 _)];exact Yq σ n
def PW{α:Type}(n:Nat)(x:α):(aY n λ _=>x).map (λ y=>y)=bM n x:=by refine aaq.2 ⟨by rw[aQ,gg],λ b hb=>?_⟩;obtain⟨y,a,rfl⟩:=bp.1 hb;obtain⟨j,_,rfl⟩:=bp.1 a;rfl
variable(G:Nat->Option (List aa)){K:bY}{q e r:Nat}{n w j:Nat}{M:List (List aj)}
def QQ(h:ey M (a8 M.length)=[]):rv M=⟨[],[],[],bM M.length [],oq M⟩:=by
 unfold rv;rw[h];have e:mH (eR (lz ((bO M []).map (cH (bl (bO M [])).2)))) (bl (bO M [])).2 M [] M.length=bM M.length []:=by refine aaq.2 ⟨?_,λ b hb=>?_⟩;unfold mH;rw[aQ,show(a8 M.length).filter (λ i=>!([]:List Nat).contains i)=a8 M.length from Py.2 λ _ _=>rfl,dx];obtain⟨k,_,rfl⟩:=bp.1 hb;rfl
 simp only[e];rfl
def alO(a:bj K n w M):u0 M (w:Int)=true:=by unfold u0;rw[gU];exact⟨decide_eq_true (vn w),dY.2 λ r b=>decide_eq_true (by rw[(a r b).1])⟩
def aiR(w0:0<w)(f:w<16):ag ab G 21 [aN [],aA w] (.aJ [nH ⟨[],[],[],[],ei w⟩,.int .i64 0]):=by have b:=K0 G (M:=[]) (w:=(w:Int)) am;rw[show u0 [] (w:Int)=true by unfold u0;simp]at b;have a:=aiW G w0 f;refine ag.pF hN [hc b,cW 24 (show((w:Int)==0)=false by rw[beq_eq_false_iff_ne];omega),hc a] [] (.aJ [.agg [.aH,.aH,.aH,.aH,aN (ei w)],.int .i64 0]) an rfl (by show aa.aJ [.agg [_,_,_,_,aa.aU _ (aN _)],_]=_;rw[bg.fix (c:=aN (ei w))];rfl) am λ σ h=>?_;exact lN (bZ (ya (bZ (ga 1) (bZ (ga 1) (bZ (ga 1) (bZ (ga 1) (bZ (fk bg.pure) eT)))))) (bZ (fk (cb.int _ _)) eT))
variable(F:dN K q e r)
include F
def aiQ(b:bj K n w M)(a:M≠[])(w0:0<w)(f:M.length<=90)(v:w<16)(p:M.length<=j\/w<=j)(g:bm K q (grow K j n))(s:ey M (a8 M.length)=[]):ag ab G 21 [aN M,aA w] (.aJ [nH (rv M),.int .i64 0]):=by
 have m:=K0 G (M:=M) (w:=(w:Int)) ac;rw[alO b]at m;have d:=UC G F b a w0 f ac p g;have ky:(eR M).length=w:=by rw[ve,gj b a]
 rw[xg (sc b) (λ e=>by rw[e]at ky;simp at ky;omega),M6 b a w0,s]at d;have u:=UB G F b a w0 f v p g;have t:=RY G (M:=M) (l:=[]) (λ k y=>(cS y).elim) am;rw[QQ s];generalize oq M=aP at*;refine ag.pF hN [hc m,cW 24 (show((w:Int)==0)=false by rw[beq_eq_false_iff_ne];omega),cW 31 (show((((M.map ar).length:Nat):Int)==0)=false by rw[aQ,beq_eq_false_iff_ne];have:=iy.2 a;omega),hc d,hc t,hc u,Go.ay.hw 63 (show(((M.map ar).length:Nat):Int)=(M.length:Int)by rw[aQ]),uD 64 1 24 .aH M.length (λ x:aa=>x) (λ _=>aa.aH) (λ j _=>rfl)] [([43,0],⟨(aY M.length λ _=>aa.aH).map λ x=>x,1,false⟩)] (.aJ [.agg [bW [],.aH,.aH,.ai [43,0] 1 0 M.length false,aN aP],.int .i64 0]) an (by rw[PW];exact nI) (by show aa.aJ [.agg [_,_,_,_,aa.aU _ (aN _)],_]=_;rw[bg.fix (c:=aN aP)];rfl) am λ σ h=>?_;have h1:=h _ cp;simp only[PW]at h1;exact lN (bZ (ya (bZ (fk bg.pure) (bZ (ga 1) (bZ (ga 1) (bZ (by have:=aoo h1;rw[show aN (bM M.length [])=.sl 1 (bM M.length (aa.sl 2 []))from by unfold aN;rw[AX];rfl];exact this) (bZ (fk bg.pure) eT)))))) (bZ (fk (cb.int _ _)) eT))
end
end Go.Proofs.YtpcofcmencgkbaaGreat
namespace Go.ay
def bI(l:List Nat)(i:Nat):List Nat:=(a8 i).filter λ i=>!l.contains i
def MV{l:List Nat}{i:Nat}(h:l.contains i=true):bI l (i+1)=bI l i:=by unfold bI;rw[ix,lL,aan (by rw[h];decide)];simp
def Hy{l:List Nat}{i:Nat}(h:l.contains i=false):bI l (i+1)=bI l i++[i]:=by unfold bI;rw[ix,lL,aao (by rw[h];decide)];simp
def aj2(l:List Nat){i N:Nat}(h:i<=N):∃t,bI l N=bI l i++t:=by induction h with|refl=>exact⟨[],am⟩|@step N _ a=>have⟨t,e⟩:=a;cases h:l.contains N with|true=>exact⟨t,by rw[MV h,e]⟩|false=>exact⟨t++[N],by rw[Hy h,e,List.append_assoc]⟩
def MU{l:List Nat}{i N:Nat}(h:l.contains i=false)(b:i<N):∃h:(bI l i).length<(bI l N).length,(bI l N)[(bI l i).length]=i:=by
 have⟨t,e⟩:=aj2 l (show i+1<=N from b);rw[Hy h]at e;have a:(bI l i).length<(bI l N).length:=by rw[e];simp
 refine⟨a,?_⟩;simp only[e];rw[List.getElem_append_left am,List.getElem_append_right (a2 _)];simp
def Hx{l:List Nat}{N k:Nat}:k∈bI l N↔k<N/\k∉l:=by unfold bI;rw[qN,c8];simp
def aj1(l:List Nat)(N:Nat):(bI l N).Nodup:=Ez.filter _
def xf{l:List Nat}{N:Nat}(g:l.Nodup)(f:∀k∈l,k<N):(bI l N).length+l.length=N:=by
 have h1:(bI l N++l).Nodup:=List.nodup_append.2 ⟨aj1 l N,g,λ a j b hb e=>(Hx.1 j).2 (e▸hb)⟩;have d:=yf (S:=a8 N) h1 λ x c=>c8.2 ((List.mem_append.1 c).elim (λ h=>(Hx.1 h).1) (f x));have i:=yf (S:=bI l N++l) (Ez (n:=N)) λ x c=>by by_cases e:x∈l;exact List.mem_append_right _ e;exact List.mem_append_left _ (Hx.2 ⟨c8.1 c,e⟩)
 rw[cP,dx]at d i;omega
end Go.ay
namespace Go.Proofs.YtpcofcmencgkbaaGreat
structure c0 where
 M:List (List aj)w:Nat
 R:List Nat
 C:List Nat
 inv:List (List aj)df:List (List aj)aP:List (List aj)
structure c0.Bc(K:bY)(q nm ib:Nat)(c:c0):Prop where
 kt:c.M.length<=4000
 cx:c.w<=4000
 hm:bj K nm c.w c.M
 dE:∀i∈c.R,i<c.M.length
 hC:∀k∈c.C,k<c.w
 lc:c.C.length=c.R.length
 ajl:c.R.Nodup
 aja:c.C.Nodup
 hi:bj K ib c.R.length c.inv
 li:c.inv.length=c.R.length
 sZ:bj K ib c.R.length c.df
 lcm:c.df.length+c.R.length=c.M.length
 hk:bj K ib c.w c.aP
 lk:c.aP.length+c.R.length=c.w
 yu:bm K q nm
 g3:bm K q ib
 rn:bm K q (c.R.length*(ib+nm+K.c+1))oZ:bm K q (c.w*(nm+ib+K.c+1))
abbrev c0.blk(c:c0):aG:=nn (bW c.R) (bW c.C) (aN c.inv) (aN c.df) (aN c.aP)
noncomputable def lp(i k:Nat):aj:=if i=k then aS 1 else aS 0
noncomputable def c0.wk(c:c0)(i k:Nat):Bool:=e6 (dR (c.inv.getD i []) (jW c.M c.R (c.C.getD k 0))) (lp i k)
noncomputable def c0.rn(c:c0)(i:Nat):Bool:=(a8 c.C.length).all λ k=>c.wk i k
noncomputable def c0.qD(c:c0):Bool:=(a8 c.inv.length).all λ i=>c.rn i
noncomputable def c0.fM(c:c0)(i j k:Nat):Bool:=e6 (dR (c.df.getD j []) (jW c.M c.R k)) ((c.M.getD i []).getD k (aS 0))
noncomputable def c0.g3(c:c0)(i j:Nat):Bool:=(a8 c.w).all λ k=>c.fM i j k
noncomputable def c0.tx(c:c0):Bool:=(a8 c.M.length).all λ i=>c.R.contains i||c.g3 i (bI c.R i).length
noncomputable def c0.sR(c:c0)(k n j:Nat):Bool:=c.C.contains j||e6 ((c.aP.getD n []).getD j (aS 0)) (lp j k)
noncomputable def c0.oZ(c:c0)(k n:Nat):Bool:=(a8 c.w).all λ j=>c.sR k n j
noncomputable def c0.xh(c:c0)(n:Nat):Bool:=(a8 c.M.length).all λ i=>e6 (dR (c.M.getD i []) (c.aP.getD n [])) (aS 0)
noncomputable def c0.pH(c:c0):Bool:=(a8 c.w).all λ k=>c.C.contains k||(c.oZ k (bI c.C k).length&&c.xh (bI c.C k).length)
def c0.Bc.eM{K:bY}{q nm ib:Nat}{c:c0}(H:c.Bc K q nm ib):c.R.length<=4000:=by have:=H.lcm;have:=H.kt;omega
def Rg{K:bY}{n i k:Nat}:(lp i k).G K n:=by unfold lp;split;exact aj.G.one;exact AZ
section
variable(G:Nat->Option (List aa)){K:bY}{q e r:Nat}(F:dN K q e r){nm ib:Nat}{c:c0}(H:c.Bc K q nm ib)
include F H
def Tk{i k:Nat}(j:i<c.inv.length)(g:k<c.C.length){b:Bool}(h:c.wk i k=b):ag ab G 102 [aN c.M,bW c.R,aA c.C[k]] (ar (jW c.M c.R c.C[k]))/\ag ab G 101 [ar c.inv[i],ar (jW c.M c.R c.C[k]),(lp i k).T] (.bool b):=by have d:=H.hi _ (bf j);have f:=H.hC _ (bf g);have m:=H.eM;have l:(jW c.M c.R c.C[k]).length=c.R.length:=aQ ..;refine⟨Yc G H.dE (λ x d=>by rw[(H.hm x d).1];exact f) ac,?_⟩;rw[<-h];unfold c0.wk;rw[a4 j,a4 g];exact Oo G F (by rw[l];exact d.1) ac d.2 (Fw H.hm c.R _) Rg H.g3 H.yu (by unfold p4;rw[d.1];exact H.rn) H.g3
def Tj{i j k:Nat}(g:i<c.M.length)(l:j<c.df.length)(o:k<c.w){b:Bool}(h:c.fM i j k=b)(d:k<(c.M[i]).length):ag ab G 102 [aN c.M,bW c.R,aA k] (ar (jW c.M c.R k))/\ag ab G 101 [ar c.df[j],ar (jW c.M c.R k),((c.M[i])[k]).T] (.bool b):=by have a:=H.sZ _ (bf l);have m:=H.hm _ (bf g);have p:=H.eM;have n:(jW c.M c.R k).length=c.R.length:=aQ ..;refine⟨Yc G H.dE (λ x a=>by rw[(H.hm x a).1];exact o) ac,?_⟩;rw[<-h];unfold c0.fM;rw[a4 g,a4 l,a4 d];exact Oo G F (by rw[n];exact a.1) ac a.2 (Fw H.hm c.R _) (m.2 _ (bf d)) H.g3 H.yu (by unfold p4;rw[a.1];exact H.rn) H.yu
def RM{k n j:Nat}(f:n<c.aP.length)(d:j<(c.aP[n]).length){b:Bool}(h:e6 ((c.aP.getD n []).getD j (aS 0)) (lp j k)=b):ag ab G 103 [((c.aP[n])[j]).T,(lp j k).T] (.bool b):=by have g:=H.hk _ (bf f);rw[<-h,a4 f,a4 d];exact UO G F (g.2 _ (bf d)) (Rg (n:=ib)) H.g3 H.g3 o6
def VE{n:Nat}(f:n<c.aP.length){b:Bool}(h:c.xh n=b):ag ab G 104 [aN c.M,ar c.aP[n]] (.bool b):=by have d:=H.hk _ (bf f);rw[<-h];unfold c0.xh;rw[a4 f];have g:=H.kt;have i:=H.cx;exact aoq G F H.hm d.2 d.1 ac ac H.yu H.g3 H.oZ
omit F H
noncomputable abbrev Ad(c:c0)(i:Nat)(q:aD):List (Nat×aa):=[(0,aN c.M),(3,.ref q.b 0 0),(4,.bool false),(11,aN c.inv),(12,.int .i64 ((c.inv.map ar).length:Nat)),(13,aA i)]
noncomputable abbrev Dv(c:c0)(i:Nat)(x:List aj)(k:Nat)(q:aD):List (Nat×aa):=[(0,aN c.M),(3,.ref q.b 0 0),(4,.bool false),(11,aN c.inv),(12,.int .i64 ((c.inv.map ar).length:Nat)),(13,aA i),(5,aA i),(6,ar x),(19,bW c.C),(20,.int .i64 ((c.C.map aA).length:Nat)),(21,aA k)]
include F H in theorem Yn{i k:Nat}(hi:i<c.inv.length)(hk:k<c.C.length)(h:c.wk i k=true):bF ab G (aZ (ak 51) 1) (ak 51).aK (bK 0) .normal (Dv c i c.inv[i] k) (fun q=>[(q.b,c.blk)]) (Dv c i c.inv[i] (k+1)) (fun q=>[(q.b,c.blk)]):=by
 obtain⟨x1,bE⟩:=Tk G F H hi hk h;have eM:=H.eM;have jv:=H.lc;have oC:=uV G;have oD:=w4 G;by_cases e:i=k;.rw[show lp i k=aS 1 from if_pos e]at bE;exact bn a3 [bB 22 aA hk,aV 24 1 aA hk,hc oC,hb 29 (n7 (a:=i) (b:=k) (decide_eq_true e)),hc oD,hc x1,hc bE,bh 40 k]
 .rw[show lp i k=aS 0 from if_neg e]at bE;exact bn a3 [bB 22 aA hk,aV 24 1 aA hk,hc oC,hb 29 (n7 (a:=i) (b:=k) (decide_eq_false e)),hc x1,hc bE,bh 40 k]
include F H in theorem aoI{i k:Nat}(hi:i<c.inv.length)(hk:k<c.C.length)(h:c.wk i k=false):bF ab G (aZ (ak 51) 1) (ak 51).aK (bK 0) .ret (Dv c i c.inv[i] k) (fun q=>[(q.b,c.blk)]) (fun _=>[(4,.bool false)]) (fun _=>[]):=by
 obtain⟨x1,bE⟩:=Tk G F H hi hk h;have eM:=H.eM;have jv:=H.lc;have oC:=uV G;have oD:=w4 G;by_cases e:i=k;.rw[show lp i k=aS 1 from if_pos e]at bE;exact bn a3 [bB 22 aA hk,aV 24 1 aA hk,hc oC,hb 29 (n7 (a:=i) (b:=k) (decide_eq_true e)),hc oD,hc x1,hc bE]
 .rw[show lp i k=aS 0 from if_neg e]at bE;exact bn a3 [bB 22 aA hk,aV 24 1 aA hk,hc oC,hb 29 (n7 (a:=i) (b:=k) (decide_eq_false e)),hc x1,hc bE]
include F H in theorem Yo{i:Nat}(hi:i<c.inv.length)(h:c.rn i=true):bF ab G (aZ (ak 51) 0) (ak 51).aK (bK 2) .normal (Ad c i) (fun q=>[(q.b,c.blk)]) (Ad c (i+1)) (fun q=>[(q.b,c.blk)]):=by have h':∀k,k<c.C.length->c.wk i k=true:=fun k hk=>dY.1 h k (c8.2 hk);have eM:=H.eM;have jv:=H.lc;have ta:=H.li;exact bn ⟨[1],[2000001,0],[3],[4]⟩ [bB 14 ar hi,aV 16 1 ar hi,fQ (ak 51) 1 0 0 c.C.length a3 (Dv c i c.inv[i]) (fun _=>(fun q=>[(q.b,c.blk)])) (.exit 2) (Ad c i) (fun q=>[(q.b,c.blk)]) (fun k hk=>Yn G F H hi hk (h' k hk)) (bn a3 [dH 22 aA c.C]),bh 41 i]
include F H in theorem aoJ{i:Nat}(hi:i<c.inv.length)(h:c.rn i=false):bF ab G (aZ (ak 51) 0) (ak 51).aK (bK 2) .ret (Ad c i) (fun q=>[(q.b,c.blk)]) (fun _=>[(4,.bool false)]) (fun _=>[]):=by
 rcases uy (fun k=>c.wk i k) c.C.length with⟨e,_⟩|⟨_,k,hk,hp,hn⟩;.rw[show c.rn i=true from e]at h;cases h
 .have eM:=H.eM;have jv:=H.lc;have ta:=H.li;exact bn a3 [bB 14 ar hi,aV 16 1 ar hi,fQ (ak 51) 1 0 0 k a3 (Dv c i c.inv[i]) (fun _=>(fun q=>[(q.b,c.blk)])) .ret (fun _=>[(4,.bool false)]) (fun _=>[]) (fun j hj=>Yn G F H hi ac (hn j hj)) (aoI G F H hi hk hp)]
include F H in theorem aoj:ag ab G 51 [aN c.M,.agg [bW c.R,bW c.C,aN c.inv,aN c.df,aN c.aP]] (.bool c.qD):=by
 have eM:=H.eM;have ta:=H.li;rcases uy (fun i=>c.rn i) c.inv.length with⟨e,h⟩|⟨e,i,hi,hp,hn⟩;.rw[show c.qD=true from e];exact bL [fQ (ak 51) 0 2 0 c.inv.length ⟨[1],[0,0],[3],[4]⟩ (Ad c) (fun _=>(fun q=>[(q.b,c.blk)])) (.exit 0) (fun _=>[]) (fun _=>[]) (fun i hi=>Yo G F H hi (h i hi)) (bn a3 [dH 14 ar c.inv])] an
 .rw[show c.qD=false from e];exact bL [fQ (ak 51) 0 2 0 i ⟨[1],[0,0],[3],[4]⟩ (Ad c) (fun _=>(fun q=>[(q.b,c.blk)])) .ret (fun _=>[(4,.bool false)]) (fun _=>[]) (fun j hj=>Yo G F H ac (hn j hj)) (aoJ G F H hi hp)] an
noncomputable abbrev pJ(c:c0)(i:Nat)(q:aD):List (Nat×aa):=[(0,aN c.M),(1,aA c.w),(5,.ref q.b 0 0),(6,.bool false),(7,aA (bI c.R i).length),(11,aN c.M),(12,.int .i64 ((c.M.map ar).length:Nat)),(13,aA i)]
noncomputable abbrev Ds(c:c0)(i j:Nat)(x:List aj)(k:Nat)(q:aD):List (Nat×aa):=[(0,aN c.M),(1,aA c.w),(5,.ref q.b 0 0),(6,.bool false),(7,aA j),(11,aN c.M),(12,.int .i64 ((c.M.map ar).length:Nat)),(13,aA i),(8,aA i),(9,ar x),(22,aA c.w),(23,aA k)]
include F H in theorem Yj{i j k:Nat}(hi:i<c.M.length)(hj:j<c.df.length)(hk:k<c.w)(h:c.fM i j k=true):bF ab G (aZ (ak 52) 1) (ak 52).aK (bK 0) .normal (Ds c i j c.M[i] k) (fun q=>[(q.b,c.blk)]) (Ds c i j c.M[i] (k+1)) (fun q=>[(q.b,c.blk)]):=by
 have ir:k<(c.M[i]).length:=by rw[(H.hm _ (bf hi)).1];exact hk
 obtain⟨x1,bE⟩:=Tj G F H hi hj hk h ir;have cx:=H.cx;exact bn a3 [hb 24 (dv hk),aV 29 1 ar hj,hc x1,aV 38 2 aO ir,hc bE,bh 42 k]
include F H in theorem aoC{i j k:Nat}(hi:i<c.M.length)(hj:j<c.df.length)(hk:k<c.w)(h:c.fM i j k=false):bF ab G (aZ (ak 52) 1) (ak 52).aK (bK 0) .ret (Ds c i j c.M[i] k) (fun q=>[(q.b,c.blk)]) (fun _=>[(6,.bool false)]) (fun _=>[]):=by
 have ir:k<(c.M[i]).length:=by rw[(H.hm _ (bf hi)).1];exact hk
 obtain⟨x1,bE⟩:=Tj G F H hi hj hk h ir;have cx:=H.cx;exact bn a3 [hb 24 (dv hk),aV 29 1 ar hj,hc x1,aV 38 2 aO ir,hc bE]
include H in theorem aoH{i:Nat}(hi:i<c.M.length)(h:c.R.contains i=true):bF ab G (aZ (ak 52) 0) (ak 52).aK (bK 2) .normal (pJ c i) (fun q=>[(q.b,c.blk)]) (pJ c (i+1)) (fun q=>[(q.b,c.blk)]):=by have kt:=H.kt;have eM:=H.eM;have gl:=oA G (l:=c.R) (n:=i) ac;rw[h]at gl;unfold pJ;rw[MV h];exact bn a3 [bB 14 ar hi,aV 16 1 ar hi,hc gl,bh 45 i]
include F H in theorem aoE{i:Nat}(hi:i<c.M.length)(h0:c.R.contains i=false)(hj:(bI c.R i).length<c.df.length)(h:c.g3 i (bI c.R i).length=true):bF ab G (aZ (ak 52) 0) (ak 52).aK (bK 2) .normal (pJ c i) (fun q=>[(q.b,c.blk)]) (pJ c (i+1)) (fun q=>[(q.b,c.blk)]):=by
 have h':∀k,k<c.w->c.fM i (bI c.R i).length k=true:=fun k hk=>dY.1 h k (c8.2 hk);have kt:=H.kt;have cx:=H.cx;have eM:=H.eM;have arw:=H.lcm;have gl:=oA G (l:=c.R) (n:=i) ac;rw[h0]at gl;have e1:(bI c.R (i+1)).length=(bI c.R i).length+1:=by rw[Hy h0,cP];rfl
 unfold pJ;rw[e1];generalize(bI c.R i).length=j at*;exact bn ⟨[1],[2000001,0],[3],[4]⟩ [bB 14 ar hi,aV 16 1 ar hi,hc gl,fQ (ak 52) 1 0 0 c.w a3 (Ds c i j c.M[i]) (fun _=>(fun q=>[(q.b,c.blk)])) (.exit 2) (fun q=>[(0,aN c.M),(1,aA c.w),(5,.ref q.b 0 0),(6,.bool false),(7,aA j),(11,aN c.M),(12,.int .i64 ((c.M.map ar).length:Nat)),(13,aA i)]) (fun q=>[(q.b,c.blk)]) (fun k hk=>Yj G F H hi hj hk (h' k hk)) (bn a3 [hb 24 (h7 (a2 c.w))]),bh 44 j,bh 45 i]
include F H in theorem aoD{i:Nat}(hi:i<c.M.length)(h0:c.R.contains i=false)(hj:(bI c.R i).length<c.df.length)(h:c.g3 i (bI c.R i).length=false):bF ab G (aZ (ak 52) 0) (ak 52).aK (bK 2) .ret (pJ c i) (fun q=>[(q.b,c.blk)]) (fun _=>[(6,.bool false)]) (fun _=>[]):=by
 rcases uy (fun k=>c.fM i (bI c.R i).length k) c.w with⟨e,_⟩|⟨_,k,hk,hp,hn⟩;.rw[show c.g3 i (bI c.R i).length=true from e]at h;cases h
 .have kt:=H.kt;have cx:=H.cx;have eM:=H.eM;have gl:=oA G (l:=c.R) (n:=i) ac;rw[h0]at gl;unfold pJ;generalize(bI c.R i).length=j at*;exact bn a3 [bB 14 ar hi,aV 16 1 ar hi,hc gl,fQ (ak 52) 1 0 0 k a3 (Ds c i j c.M[i]) (fun _=>(fun q=>[(q.b,c.blk)])) .ret (fun _=>[(6,.bool false)]) (fun _=>[]) (fun l hl=>Yj G F H hi hj ac (hn l hl)) (aoC G F H hi hj hk hp)]
omit F in include H in theorem U5{i:Nat}(hi:i<c.M.length)(h0:c.R.contains i=false):(bI c.R i).length<c.df.length:=by obtain⟨h,_⟩:=MU h0 hi;have:=xf H.ajl H.dE;have:=H.lcm;omega
include F H in theorem aod:ag ab G 52 [aN c.M,aA c.w,.agg [bW c.R,bW c.C,aN c.inv,aN c.df,aN c.aP]] (.bool c.tx):=by
 have kt:=H.kt;have C2:∀i,i<c.M.length->(c.R.contains i||c.g3 i (bI c.R i).length)=true->bF ab G (aZ (ak 52) 0) (ak 52).aK (bK 2) .normal (pJ c i) (fun q=>[(q.b,c.blk)]) (pJ c (i+1)) (fun q=>[(q.b,c.blk)]):=fun i hi h=>by cases h0:c.R.contains i with|true=>exact aoH G H hi h0|false=>rw[h0,pS]at h;exact aoE G F H hi h0 (U5 H hi h0) h
 rcases uy (fun i=>c.R.contains i||c.g3 i (bI c.R i).length) c.M.length with⟨e,h⟩|⟨e,i,hi,hp,hn⟩;.rw[show c.tx=true from e];exact bL [fQ (ak 52) 0 2 0 c.M.length ⟨[1],[0,0],[3],[4]⟩ (pJ c) (fun _=>(fun q=>[(q.b,c.blk)])) (.exit 0) (fun _=>[]) (fun _=>[]) (fun i hi=>C2 i hi (h i hi)) (bn a3 [dH 14 ar c.M])] an
 .rw[show c.tx=false from e];obtain⟨h0,h1⟩:=pR.1 hp;exact bL [fQ (ak 52) 0 2 0 i ⟨[1],[0,0],[3],[4]⟩ (pJ c) (fun _=>(fun q=>[(q.b,c.blk)])) .ret (fun _=>[(6,.bool false)]) (fun _=>[]) (fun j hj=>C2 j ac (hn j hj)) (aoD G F H hi h0 (U5 H hi h0) h1)] an
noncomputable abbrev qH(c:c0)(k n:Nat)(q:aD):List (Nat×aa):=[(0,aN c.M),(1,aA c.w),(5,.ref q.b 0 0),(6,.bool false),(7,aA n),(12,aA c.w),(13,aA k)]
noncomputable abbrev Ae(c:c0)(k n:Nat)(v:List aj)(j:Nat)(q:aD):List (Nat×aa):=[(0,aN c.M),(1,aA c.w),(5,.ref q.b 0 0),(6,.bool false),(7,aA n),(12,aA c.w),(13,aA k),(8,aA k),(9,ar v),(25,aA c.w),(26,aA j)]
noncomputable abbrev Yt(c:c0)(k n:Nat)(v:List aj)(q:aD):List (Nat×aa):=[(0,aN c.M),(1,aA c.w),(5,.ref q.b 0 0),(6,.bool false),(7,aA n),(12,aA c.w),(13,aA k),(8,aA k),(9,ar v)]
include F H in theorem OG{k n j:Nat}(hn:n<c.aP.length)(hj:j<c.w)(h:c.sR k n j=true):bF ab G (aZ (ak 53) 1) (ak 53).aK (bK 0) .normal (Ae c k n c.aP[n] j) (fun q=>[(q.b,c.blk)]) (Ae c k n c.aP[n] (j+1)) (fun q=>[(q.b,c.blk)]):=by
 have cx:=H.cx;have eM:=H.eM;have jv:=H.lc;have gl:=oA G (l:=c.C) (n:=j) ac;have qe:j<(c.aP[n]).length:=by rw[(H.hk _ (bf hn)).1];exact hj
 have oC:=uV G;have oD:=w4 G;unfold c0.sR at h;cases h0:c.C.contains j with|true=>
     rw[h0]at gl;by_cases e:j=k;.exact bn a3 [hb 27 (dv hj),hc oC,hb 32 (n7 (a:=j) (b:=k) (decide_eq_true e)),hc oD,hc gl,bh 48 j]
     .exact bn a3 [hb 27 (dv hj),hc oC,hb 32 (n7 (a:=j) (b:=k) (decide_eq_false e)),hc gl,bh 48 j]|false=>
     rw[h0,pS]at h;rw[h0]at gl;have bE:=RM G F H hn qe h;by_cases e:j=k;.rw[show lp j k=aS 1 from if_pos e]at bE;exact bn a3 [hb 27 (dv hj),hc oC,hb 32 (n7 (a:=j) (b:=k) (decide_eq_true e)),hc oD,hc gl,aV 42 2 aO qe,hc bE,bh 48 j]
     .rw[show lp j k=aS 0 from if_neg e]at bE;exact bn a3 [hb 27 (dv hj),hc oC,hb 32 (n7 (a:=j) (b:=k) (decide_eq_false e)),hc gl,aV 42 2 aO qe,hc bE,bh 48 j]
include F H in theorem aoP{k n j:Nat}(hn:n<c.aP.length)(hj:j<c.w)(h:c.sR k n j=false):bF ab G (aZ (ak 53) 1) (ak 53).aK (bK 0) .ret (Ae c k n c.aP[n] j) (fun q=>[(q.b,c.blk)]) (fun _=>[(6,.bool false)]) (fun _=>[]):=by
 have cx:=H.cx;have eM:=H.eM;have jv:=H.lc;have gl:=oA G (l:=c.C) (n:=j) ac;have qe:j<(c.aP[n]).length:=by rw[(H.hk _ (bf hn)).1];exact hj
 have oC:=uV G;have oD:=w4 G;unfold c0.sR at h;cases h0:c.C.contains j with|true=>rw[h0,Bool.true_or]at h;cases h|false=>
     rw[h0,pS]at h;rw[h0]at gl;have bE:=RM G F H hn qe h;by_cases e:j=k;.rw[show lp j k=aS 1 from if_pos e]at bE;exact bn a3 [hb 27 (dv hj),hc oC,hb 32 (n7 (a:=j) (b:=k) (decide_eq_true e)),hc oD,hc gl,aV 42 2 aO qe,hc bE]
     .rw[show lp j k=aS 0 from if_neg e]at bE;exact bn a3 [hb 27 (dv hj),hc oC,hb 32 (n7 (a:=j) (b:=k) (decide_eq_false e)),hc gl,aV 42 2 aO qe,hc bE]
include H in theorem aoT{k n:Nat}(hk:k<c.w)(h0:c.C.contains k=true):bF ab G (aZ (ak 53) 0) (ak 53).aK (bK 2) .normal (qH c k n) (fun q=>[(q.b,c.blk)]) (qH c (k+1) n) (fun q=>[(q.b,c.blk)]):=by have cx:=H.cx;have eM:=H.eM;have jv:=H.lc;have L5:=H.lk;have gl:=oA G (l:=c.C) (n:=k) ac;rw[h0]at gl;exact bn a3 [hb 14 (dv hk),hc gl,bh 55 k]
include F H in theorem aoS{k n:Nat}(hk:k<c.w)(hn:n<c.aP.length)(h0:c.C.contains k=false)(h:c.oZ k n=true)(hp:c.xh n=true):bF ab G (aZ (ak 53) 0) (ak 53).aK (bK 2) .normal (qH c k n) (fun q=>[(q.b,c.blk)]) (qH c (k+1) (n+1)) (fun q=>[(q.b,c.blk)]):=by have cx:=H.cx;have eM:=H.eM;have jv:=H.lc;have L5:=H.lk;have gl:=oA G (l:=c.C) (n:=k) ac;rw[h0]at gl;have h':∀j,j<c.w->c.sR k n j=true:=fun j hj=>dY.1 h j (c8.2 hj);have pv:=VE G F H hn hp;exact bn ⟨[1],[2000001,0],[3],[4]⟩ [hb 14 (dv hk),hc gl,aV 23 1 ar hn,fQ (ak 53) 1 0 0 c.w a3 (Ae c k n c.aP[n]) (fun _=>(fun q=>[(q.b,c.blk)])) (.exit 2) (Yt c k n c.aP[n]) (fun q=>[(q.b,c.blk)]) (fun j hj=>OG G F H hn hj (h' j hj)) (bn a3 [hb 27 (h7 (a2 c.w))]),hc pv,bh 54 n,bh 55 k]
include F H in theorem aoR{k n:Nat}(hk:k<c.w)(hn:n<c.aP.length)(h0:c.C.contains k=false)(h:c.oZ k n=true)(hp:c.xh n=false):bF ab G (aZ (ak 53) 0) (ak 53).aK (bK 2) .ret (qH c k n) (fun q=>[(q.b,c.blk)]) (fun _=>[(6,.bool false)]) (fun _=>[]):=by have cx:=H.cx;have eM:=H.eM;have jv:=H.lc;have L5:=H.lk;have gl:=oA G (l:=c.C) (n:=k) ac;rw[h0]at gl;have h':∀j,j<c.w->c.sR k n j=true:=fun j hj=>dY.1 h j (c8.2 hj);have pv:=VE G F H hn hp;exact bn a3 [hb 14 (dv hk),hc gl,aV 23 1 ar hn,fQ (ak 53) 1 0 0 c.w a3 (Ae c k n c.aP[n]) (fun _=>(fun q=>[(q.b,c.blk)])) (.exit 2) (Yt c k n c.aP[n]) (fun q=>[(q.b,c.blk)]) (fun j hj=>OG G F H hn hj (h' j hj)) (bn a3 [hb 27 (h7 (a2 c.w))]),hc pv]
include F H in theorem aoQ{k n:Nat}(hk:k<c.w)(hn:n<c.aP.length)(h0:c.C.contains k=false)(h:c.oZ k n=false):bF ab G (aZ (ak 53) 0) (ak 53).aK (bK 2) .ret (qH c k n) (fun q=>[(q.b,c.blk)]) (fun _=>[(6,.bool false)]) (fun _=>[]):=by
 rcases uy (fun j=>c.sR k n j) c.w with⟨e,_⟩|⟨_,j,hj,hp,afJ⟩;.rw[show c.oZ k n=true from e]at h;cases h
 .have cx:=H.cx;have eM:=H.eM;have jv:=H.lc;have L5:=H.lk;have gl:=oA G (l:=c.C) (n:=k) ac;rw[h0]at gl;exact bn a3 [hb 14 (dv hk),hc gl,aV 23 1 ar hn,fQ (ak 53) 1 0 0 j a3 (Ae c k n c.aP[n]) (fun _=>(fun q=>[(q.b,c.blk)])) .ret (fun _=>[(6,.bool false)]) (fun _=>[]) (fun l hl=>OG G F H hn ac (afJ l hl)) (aoP G F H hn hj hp)]
omit F in include H in theorem MJ{k:Nat}(hk:k<c.w)(h0:c.C.contains k=false):(bI c.C k).length<c.aP.length:=by obtain⟨h,_⟩:=MU h0 hk;have:=xf H.aja H.hC;have:=H.lk;have:=H.lc;omega
include F H in theorem aon:ag ab G 53 [aN c.M,aA c.w,.agg [bW c.R,bW c.C,aN c.inv,aN c.df,aN c.aP]] (.bool c.pH):=by
 have cx:=H.cx;have C2:∀k,k<c.w->(c.C.contains k||(c.oZ k (bI c.C k).length&&c.xh (bI c.C k).length))=true->bF ab G (aZ (ak 53) 0) (ak 53).aK (bK 2) .normal (qH c k (bI c.C k).length) (fun q=>[(q.b,c.blk)]) (qH c (k+1) (bI c.C (k+1)).length) (fun q=>[(q.b,c.blk)]):=fun k hk h=>by cases h0:c.C.contains k with|true=>rw[MV h0];exact aoT G H hk h0|false=>rw[h0,pS,gU]at h;rw[show(bI c.C (k+1)).length=(bI c.C k).length+1 by rw[Hy h0,cP];rfl];exact aoS G F H hk (MJ H hk h0) h0 h.1 h.2
 rcases uy (fun k=>c.C.contains k||(c.oZ k (bI c.C k).length&&c.xh (bI c.C k).length)) c.w with⟨e,h⟩|⟨e,k,hk,hp,hn⟩;.rw[show c.pH=true from e];exact bL [fQ (ak 53) 0 2 0 c.w ⟨[1],[0,0],[3],[4]⟩ (fun k=>qH c k (bI c.C k).length) (fun _=>(fun q=>[(q.b,c.blk)])) (.exit 0) (fun _=>[]) (fun _=>[]) (fun k hk=>C2 k hk (h k hk)) (bn a3 [hb 14 (h7 (a2 c.w))])] an
 . rw[show c.pH=false from e];obtain⟨h0,h1⟩:=pR.1 hp;have iR:bF ab G (aZ (ak 53) 0) (ak 53).aK (bK 2) .ret (qH c k (bI c.C k).length) (fun q=>[(q.b,c.blk)]) (fun _=>[(6,.bool false)]) (fun _=>[]):=by cases h2:c.oZ k (bI c.C k).length with|false=>exact aoQ G F H hk (MJ H hk h0) h0 h2|true=>rw[h2,mA]at h1;exact aoR G F H hk (MJ H hk h0) h0 h2 h1
   exact bL [fQ (ak 53) 0 2 0 k ⟨[1],[0,0],[3],[4]⟩ (fun k=>qH c k (bI c.C k).length) (fun _=>(fun q=>[(q.b,c.blk)])) .ret (fun _=>[(6,.bool false)]) (fun _=>[]) (fun j hj=>C2 j ac (hn j hj)) iR] an
end
def CB(M:List (List aj))(w:Nat):Bool:=lF M (M.length:Int) (w:Int)
def CC(c:iB):Bool:=decide ((c.bz.length:Int)=(c.rows.length:Int))
def CD(c:iB):Bool:=lF c.inv (c.rows.length:Int) (c.rows.length:Int)
def CE(M:List (List aj))(c:iB):Bool:=lF c.df ((M.length:Int)-(c.rows.length:Int)) (c.rows.length:Int)
def Hs(w:Nat)(c:iB):Bool:=lF c.aP ((w:Int)-(c.rows.length:Int)) (w:Int)
def po(M:List (List aj))(w:Nat)(c:iB):Bool:=CB M w&&(rh c.rows M.length&&(rh c.bz w&&(CC c&&(CD c&&(CE M c&&Hs w c)))))
def iP(M:List (List aj))(w:Nat)(c:iB):c0:=⟨M,w,c.rows.map mB,c.bz.map mB,c.inv,c.df,c.aP⟩
def Qj{l:List Int}{n:Nat}(h:rh l n=true):l=(l.map mB).map k6/\(∀k∈l.map mB,k<n)/\(l.map mB).Pairwise (·<·):=by
 have c:∀i(a:i<l.length),0<=l[i]/\l[i]<(n:Int)/\(∀m:0<i,l[i-1]<l[i]):=λ i a=>by have:=dY.1 h i (c8.2 a);unfold uh at this;rw[a4 a]at this;simp only[Bool.not_or,gU,Bool.not_eq_true',decide_eq_false_iff_not,Bool.and_eq_false_iff]at this;have⟨h1,g,h3⟩:=this;refine⟨ac,ac,λ m=>?_⟩;have c:i-1<l.length:=ac;rw[a4 c]at h3;rcases h3 with h3|h3<;>omega
 have e:∀x∈l,0<=x:=λ x f=>by obtain⟨i,a,rfl⟩:=gJ.1 f;exact(c i a).1
 refine⟨?_,λ k o=>?_,?_⟩;rw[List.map_map];refine((jR λ x f=>?_).trans (List.map_id l)).symm;exact Int.toNat_of_nonneg (e x f);obtain⟨x,f,rfl⟩:=bp.1 o;obtain⟨i,a,rfl⟩:=gJ.1 f;have:=c i a;omega;have step:∀i j(b:i<j)(d:j<l.length),l[i]<l[j]:=λ i j b=>by induction b with|refl=>intro d;have:=(c (i+1) d).2.2 ac;exact this|@step j _ p=>
     intro d;have h1:=p ac;have g:l[j]<l[j+1]:=by have:=(c (j+1) d).2.2 ac;simpa using this
     exact Int.lt_trans h1 g
 rw[List.pairwise_map,D8];intro i j a d b;have h1:=step i j b d;have g:=(c i a).1;omega
def Qk{l:List Nat}(h:l.Pairwise (·<·)):l.Nodup:=h.imp λ h=>Nat.ne_of_lt h
def Ig{K:bY}{n:Nat}{M:List (List aj)}{rows w:Int}(h:k8 K n M)(a:lF M rows w=true){w':Nat}(e:w=(w':Int)):bj K n w' M/\(M.length:Int)=rows:=by unfold lF at a;rw[gU]at a;refine⟨λ r b=>⟨?_,h r b⟩,of_decide_eq_true a.2⟩;have:=of_decide_eq_true (dY.1 a.1 r b);omega
structure J9(K:bY)(q nm ib:Nat)(M:List (List aj))(w:Nat)(c:iB):Prop where
 kt:M.length<=4000
 cx:w<=4000
 hm:k8 K nm M
 hc:c.G K ib
 eM:c.rows.length<=4000
 rq:c.bz.length<=4000
 i9:c.inv.length<=4000
 U6:c.df.length<=4000
 Tp:c.aP.length<=4000
 yu:bm K q nm
 g3:bm K q ib
 rn:(c.rows.length<=M.length->c.rows.length<=w->(∀r∈M,r.length=w)->bm K q (c.rows.length*(ib+nm+K.c+1)))oZ:(∀r∈M,r.length=w)->bm K q (w*(nm+ib+K.c+1))
def ac2{K:bY}{q nm ib:Nat}{M:List (List aj)}{w:Nat}{c:iB}(S:J9 K q nm ib M w c)(h:po M w c=true):(iP M w c).Bc K q nm ib/\c.rows=(iP M w c).R.map k6/\c.bz=(iP M w c).C.map k6:=by unfold po CB CC CD CE Hs at h;simp only[gU]at h;have⟨h1,y,h3,h4,p,l,f⟩:=h;have⟨j,b2,g⟩:=Qj y;have⟨k,b3,v⟩:=Qj h3;have A:=of_decide_eq_true h4;have⟨d,B⟩:=Ig S.hm h1 rfl;have⟨s,D⟩:=Ig S.hc.inv p rfl;have⟨n,z⟩:=Ig S.hc.df l rfl;have⟨u,E⟩:=Ig S.hc.aP f rfl;have a:(c.rows.map mB).length=c.rows.length:=aQ ..;have m:(c.bz.map mB).length=c.bz.length:=aQ ..;have e:=Qk g;have iW:=Qk v;have o:=yf (S:=a8 M.length) e λ x b=>c8.2 (b2 x b);have t:=yf (S:=a8 w) iW λ x b=>c8.2 (b3 x b);rw[dx]at o t;have hw:∀r∈M,r.length=w:=λ r i=>(d r i).1;refine⟨⟨S.kt,S.cx,d,b2,b3,?_,e,iW,?_,?_,?_,?_,u,?_,S.yu,S.g3,?_,S.oZ hw⟩,j,k⟩;show(c.bz.map mB).length=(c.rows.map mB).length;rw[a,m];omega;show bj K ib (c.rows.map mB).length c.inv;rw[a];exact s;show c.inv.length=(c.rows.map mB).length;rw[a];omega;show bj K ib (c.rows.map mB).length c.df;rw[a];exact n;show c.df.length+(c.rows.map mB).length=M.length;rw[a];omega;show c.aP.length+(c.rows.map mB).length=w;rw[a];omega;show bm K q ((c.rows.map mB).length*_);rw[a];exact S.rn ac ac hw
noncomputable def mS(M:List (List aj))(w:Nat)(c:iB):Bool:=po M w c&&((iP M w c).qD&&((iP M w c).tx&&(iP M w c).pH))
section
variable(G:Nat->Option (List aa)){K:bY}{q e r:Nat}(F:dN K q e r){nm ib:Nat}{M:List (List aj)}{w:Nat}{c:iB}
def lC{l:List Int}:(((l.map c6).length:Nat):Int)=(l.length:Int):=by rw[aQ]
def iD:(((M.map ar).length:Nat):Int)=(M.length:Int):=by rw[aQ]
def tv{a b:Nat}(d:a<=4000)(hb:b<=4000):cO.wrap ((a:Int)-(b:Int))=(a:Int)-(b:Int):=by rw[cU];omega
def MB{a b:Nat}{z:Bool}(h:decide ((a:Int)=(b:Int))=z):((a:Int)!=(b:Int))=!z:=by rw[<-h];by_cases e:(a:Int)=(b:Int);rw[decide_eq_true e,e];exact bne_self_eq_false _;rw[decide_eq_false e];exact bne_iff_ne.2 e
include F in theorem Ye(S:J9 K q nm ib M w c):ag ab G 16 [aN M,aA w,nH c] (.bool (mS M w c)):=by
 have kt:=S.kt;have eM:=S.eM;have cx:=S.cx;have rq:=S.rq;have i9:=S.i9;have U6:=S.U6;have Tp:=S.Tp;have x1:=IG G (M:=M) (rows:=(M.length:Int)) (w:=(w:Int)) ac;have bE:=Yb G (l:=c.rows) (n:=M.length) ac;have cB:=Yb G (l:=c.bz) (n:=w) ac;have tF:=IG G (M:=c.inv) (rows:=(c.rows.length:Int)) (w:=(c.rows.length:Int)) ac;have vi:=IG G (M:=c.df) (rows:=(M.length:Int)-(c.rows.length:Int)) (w:=(c.rows.length:Int)) ac;have Aj:=IG G (M:=c.aP) (rows:=(w:Int)-(c.rows.length:Int)) (w:=(w:Int)) ac;have w0:decide ((w:Int)<0)=false:=decide_eq_false ac;have ac1:=fun h=>ac2 S h;unfold mS;by_cases mL:po M w c=true
 . obtain⟨H,e2,e3⟩:=ac1 mL;have Av:=aoj G F H;have I9:=aod G F H;have Y3:=aon G F H;rw[mL,mA];have og:=mL;unfold po CB CC CD CE Hs at og;simp only[gU]at og;obtain⟨s1,s2,C6,C7,C8,C9,amO⟩:=og;rw[s1]at x1;rw[s2]at bE;rw[C6]at cB;rw[C8]at tF;rw[C9]at vi;rw[amO]at Aj;have Bz:nH c=.agg [bW (iP M w c).R,bW (iP M w c).C,aN (iP M w c).inv,aN (iP M w c).df,aN (iP M w c).aP]:=by
     unfold nH;conv=>lhs;rw[e2,e3]
     rw[GM,GM];rfl
   have w3:=MB C7;cases b1:(iP M w c).qD with|false=>rw[b1,<-Bz]at Av;rw[tV];exact aI [hw 10 (lC (l:=c.rows)),hb 12 w0,hw 16 (iD (M:=M)),hc x1,hw 25 (iD (M:=M)),hc bE,hc cB,hw 39 (lC (l:=c.bz)),hb 41 w3,hc tF,hw 53 (iD (M:=M)),hw 55 (tv kt eM),hc vi,hw 65 (tv cx eM),hc Aj,hc Av] an|true=>rw[b1,<-Bz]at Av;rw[mA];cases b2:(iP M w c).tx with|false=>rw[b2,<-Bz]at I9;rw[tV];exact aI [hw 10 (lC (l:=c.rows)),hb 12 w0,hw 16 (iD (M:=M)),hc x1,hw 25 (iD (M:=M)),hc bE,hc cB,hw 39 (lC (l:=c.bz)),hb 41 w3,hc tF,hw 53 (iD (M:=M)),hw 55 (tv kt eM),hc vi,hw 65 (tv cx eM),hc Aj,hc Av,hc I9] an|true=>rw[b2,<-Bz]at I9;rw[mA];rw[<-Bz]at Y3;generalize(iP M w c).pH=b3 at*;exact aI [hw 10 (lC (l:=c.rows)),hb 12 w0,hw 16 (iD (M:=M)),hc x1,hw 25 (iD (M:=M)),hc bE,hc cB,hw 39 (lC (l:=c.bz)),hb 41 w3,hc tF,hw 53 (iD (M:=M)),hw 55 (tv kt eM),hc vi,hw 65 (tv cx eM),hc Aj,hc Av,hc I9,hc Y3] an
 . have og:po M w c=false:=by simpa using mL
   rw[og,tV];unfold po at og;cases s1:CB M w with|false=>have Nx:lF M (M.length:Int) (w:Int)=false:=s1;rw[Nx]at x1;exact aI [hw 10 (lC (l:=c.rows)),hb 12 w0,hw 16 (iD (M:=M)),hc x1] an|true=>have Nx:lF M (M.length:Int) (w:Int)=true:=s1;rw[Nx]at x1;rw[s1,mA]at og;cases s2:rh c.rows M.length with|false=>rw[s2]at bE;exact aI [hw 10 (lC (l:=c.rows)),hb 12 w0,hw 16 (iD (M:=M)),hc x1,hw 25 (iD (M:=M)),hc bE] an|true=>rw[s2]at bE;rw[s2,mA]at og;cases C6:rh c.bz w with|false=>rw[C6]at cB;exact aI [hw 10 (lC (l:=c.rows)),hb 12 w0,hw 16 (iD (M:=M)),hc x1,hw 25 (iD (M:=M)),hc bE,hc cB] an|true=>rw[C6]at cB;rw[C6,mA]at og;cases C7:CC c with|false=>exact aI [hw 10 (lC (l:=c.rows)),hb 12 w0,hw 16 (iD (M:=M)),hc x1,hw 25 (iD (M:=M)),hc bE,hc cB,hw 39 (lC (l:=c.bz)),hb 41 (MB (z:=false) C7)] an|true=>rw[C7,mA]at og;have w3:=MB (z:=true) C7;cases C8:CD c with|false=>have H4:lF c.inv (c.rows.length:Int) (c.rows.length:Int)=false:=C8;rw[H4]at tF;exact aI [hw 10 (lC (l:=c.rows)),hb 12 w0,hw 16 (iD (M:=M)),hc x1,hw 25 (iD (M:=M)),hc bE,hc cB,hw 39 (lC (l:=c.bz)),hb 41 w3,hc tF] an|true=>have H4:lF c.inv (c.rows.length:Int) (c.rows.length:Int)=true:=C8;rw[H4]at tF;rw[C8,mA]at og;cases C9:CE M c with|false=>have Ny:lF c.df ((M.length:Int)-(c.rows.length:Int)) (c.rows.length:Int)=false:=C9;rw[Ny]at vi;exact aI [hw 10 (lC (l:=c.rows)),hb 12 w0,hw 16 (iD (M:=M)),hc x1,hw 25 (iD (M:=M)),hc bE,hc cB,hw 39 (lC (l:=c.bz)),hb 41 w3,hc tF,hw 53 (iD (M:=M)),hw 55 (tv kt eM),hc vi] an|true=>have Ny:lF c.df ((M.length:Int)-(c.rows.length:Int)) (c.rows.length:Int)=true:=C9;rw[Ny]at vi;rw[C9,mA]at og;have amP:lF c.aP ((w:Int)-(c.rows.length:Int)) (w:Int)=false:=og;rw[amP]at Aj;exact aI [hw 10 (lC (l:=c.rows)),hb 12 w0,hw 16 (iD (M:=M)),hc x1,hw 25 (iD (M:=M)),hc bE,hc cB,hw 39 (lC (l:=c.bz)),hb 41 w3,hc tF,hw 53 (iD (M:=M)),hw 55 (tv kt eM),hc vi,hw 65 (tv cx eM),hc Aj] an
noncomputable abbrev c0.ch(c:c0):List (List aj):=bO c.M c.R
noncomputable abbrev c0.zr(c:c0):List (List aj):=c.ch.map (cH c.C)
noncomputable def c0.ac5(c:c0)(i k:Nat):Bool:=e6 ((c.M.getD ((bI c.R c.M.length).getD i 0) []).getD k (aS 0)) (adj (c.df.getD i []) (p3 c.ch k))
noncomputable def c0.adv(c:c0)(i:Nat):Bool:=(a8 c.w).all λ k=>c.ac5 i k
noncomputable def c0.HQ(c:c0):Bool:=(a8 (bI c.R c.M.length).length).all λ i=>c.adv i
end
section
variable(G:Nat->Option (List aa)){K:bY}{q e r:Nat}(F:dN K q e r){nm ib:Nat}{c:c0}(H:c.Bc K q nm ib)
include H in include H in noncomputable def Fp(c:c0)(i:Nat):List aa:=(bO c.M (c.R.take i)).map ar
noncomputable def Hb(c:c0)(i:Nat):List aa:=((bO c.M (c.R.take i)).map (cH c.C)).map ar
instance{c:c0}{i:Nat}:bq (Fp c i):=by unfold Fp;infer_instance
instance{c:c0}{i:Nat}:dw 1 (Fp c i):=by unfold Fp;infer_instance
instance{c:c0}{i:Nat}:bq (Hb c i):=by unfold Hb;infer_instance
instance{c:c0}{i:Nat}:dw 1 (Hb c i):=by unfold Hb;infer_instance
include H in include H in include H in include H in include H in include F H in include F H in include F H in include F H in include F H in include F H in include F H in include F H in include F H in include F H in include F H in include F H in def kO(l:List az):Nat:=l.foldl (λ m a=>if a.T.1>m then a.T.1 else m) 0
def aiV{l:List az}{i:Nat}(a:i<l.length):kO (l.take (i+1))=if l[i].T.1>kO (l.take i)then l[i].T.1 else kO (l.take i):=by unfold kO;rw[nT a,List.foldl_append];rfl
abbrev u8(n:Nat):aa:=.int .u8 (n:Int)
def p7(ops:List fA)(at_:List Nat)(a:Nat):aa:=.agg [.sl 5 (ops.map ku),.sl 1 (at_.map u8),u8 a]
instance{ops:List fA}{at_:List Nat}{a:Nat}:bg (p7 ops at_ a):=by haveI:bg (.sl 5 (ops.map ku)):=cT.map (m:=5) (λ x=>inferInstance) ops;haveI:bg (.sl 1 (at_.map u8)):=cT.map (m:=1) (λ x=>inferInstance) at_;unfold p7;infer_instance
def g4(l:List az)(at_:List Nat)(n j m:Nat):List aj:=(a8 m).map λ k=>((true,l.getD (at_.getD (j*n+k) 0%l.length) (dM 0)):aj)
def gM(l:List az)(at_:List Nat)(n m:Nat):List (List aj):=(a8 m).map λ j=>g4 l at_ n j n
def Sr(l:List az)(at_:List Nat)(n j m:Nat):g4 l at_ n j (m+1)=g4 l at_ n j m++[(true,l.getD (at_.getD (j*n+m) 0%l.length) (dM 0))]:=by unfold g4;rw[ix,gI,nX]
def Sq(l:List az)(at_:List Nat)(n m:Nat):gM l at_ n (m+1)=gM l at_ n m++[g4 l at_ n m n]:=by unfold gM;rw[ix,gI,nX]
end
section
variable(G:Nat->Option (List aa))
noncomputable abbrev TT(l:List az)(i:Nat):List (Nat×aa):=[(0,fI l),(3,aA (kO (l.take i))),(4,aA i)]
def aih{l:List az}(d:l.length<=9000):ag ab G 93 [fI l] (aA (kO l)):=by
 have e:kO l=kO (l.take l.length):=by rw[kB]
 rw[e];refine bL [gm (ak 93) 0 0 0 l.length (TT l) (.exit 0) [(3,aA (kO (l.take l.length)))] (λ i a=>?_) (rd [dH 8 au l])];have b:((((l[i].T.2.aw).map ba).length:Nat):Int)=(l[i].T.1:Int):=by rw[aQ,aE.xl]
 unfold TT;rw[aiV a];by_cases h:l[i].T.1>kO (l.take i);rw[if_pos h];exact rd [bB 8 au a,aV 13 2 au a,hw 16 b,hb 18 (show decide ((l[i].T.1:Int)>(kO (l.take i):Int))=true from decide_eq_true ac),aV 21 2 au a,hw 24 b,bh 10 i];rw[if_neg h];exact rd [bB 8 au a,aV 13 2 au a,hw 16 b,hb 18 (show decide ((l[i].T.1:Int)>(kO (l.take i):Int))=false from decide_eq_false ac),bh 10 i]
def Uc(l:List az)(i:Nat)(b:i<256)(c:l.length<=9000):ag ab G 92 [fI l,aA i] (aO (true,l.getD (i%l.length) (dM 0))):=by by_cases h:l=[];subst h;exact apH G i;exact apG G l i b h c
variable{ops:List fA}{at_:List Nat}{bz n:Nat}{l:List az}
noncomputable abbrev fg(ops:List fA)(at_:List Nat)(bz:Nat):aG:=⟨[p7 ops at_ bz],3,false⟩
noncomputable abbrev ny(l:List az)(n j k:Nat)(q:aD):List (Nat×aa):=[(2,.ref q.b 0 0),(4,.aH),(5,.bool false),(6,fI l),(7,aA n),(9,aA (j*n)),(11,aA k)]
noncomputable abbrev jr(l:List az)(n j:Nat)(q:aD):List (Nat×aa):=[(2,.ref q.b 0 0),(4,.aH),(5,.bool false),(6,fI l),(7,aA n),(9,aA (j*n))]
def aen(f:l.length<=9000)(e:∀a∈at_,a<256)(o:n<=12){j k:Nat}(g:k<n)(c:j*n+k<at_.length)(m:at_.length<=9000):bF ab G (aZ (ak 44) 1) (ak 44).aK (bK 0) .normal (λ q=>(10,bX q.a 2 ((g4 l at_ n j k).map aO))::(8,.aH)::ny l n j k q) (λ q=>bu q.a 2 ((g4 l at_ n j k).map aO)++[(q.b,fg ops at_ bz)]) (λ q=>(10,bX q.a 2 ((g4 l at_ n j (k+1)).map aO))::(8,.aH)::ny l n j (k+1) q) (λ q=>bu q.a 2 ((g4 l at_ n j (k+1)).map aO)++[(q.b,fg ops at_ bz)]):=by
 have h:=e _ (bf c);have x:=Uc G l (at_[j*n+k]) h f;rw[Sr,gI,nX,a4 c];have i:((g4 l at_ n j k).map aO).length<=9000:=by rw[aQ];unfold g4;rw[aQ,dx];omega
 exact sI (key:=57) (bytes:=48) (N:=9000) (hb:=al) (A:=λ q=>(8,.aH)::ny l n j k q) (B:=λ q=>(8,.aH)::ny l n j (k+1) q) (bJ:=λ q=>[(q.b,fg ops at_ bz)]) (bS:=λ q=>[(q.b,fg ops at_ bz)]) (Ht i) 14 ⟨[15,0],[2],[3],[4]⟩ (λ y=>[hb 42 (dv g),hw 51 (show cO.wrap (((j*n:Nat):Int)+(k:Int))=((j*n+k:Nat):Int)by rw[cU];omega),aV 52 1 u8 c,hw 54 (qM ((at_[j*n+k]:Nat):Int) ac ac),hc x]++y++[bh 44 k])
def aep{L:List aa}[bq L][dw 1 L](g:l.length<=9000)(f:∀a∈at_,a<256)(p:n<=12){j k:Nat}(h:k<n)(d:j*n+k<at_.length)(o:at_.length<=9000):bF ab G (aZ (ak 44) 1) (ak 44).aK (bK 0) .normal (λ q=>(10,bX q.a 2 ((g4 l at_ n j k).map aO))::(8,.ai q.c 1 0 L.length false)::ny l n j k q) (λ q=>bu q.a 2 ((g4 l at_ n j k).map aO)++[(q.b,fg ops at_ bz),(q.c,⟨L,1,false⟩)]) (λ q=>(10,bX q.a 2 ((g4 l at_ n j (k+1)).map aO))::(8,.ai q.c 1 0 L.length false)::ny l n j (k+1) q) (λ q=>bu q.a 2 ((g4 l at_ n j (k+1)).map aO)++[(q.b,fg ops at_ bz),(q.c,⟨L,1,false⟩)]):=by
 have i:=f _ (bf d);have x:=Uc G l (at_[j*n+k]) i g;rw[Sr,gI,nX,a4 d];have m:((g4 l at_ n j k).map aO).length<=9000:=by rw[aQ];unfold g4;rw[aQ,dx];omega
 exact sI (key:=57) (bytes:=48) (N:=9000) (hb:=al) (A:=λ q=>(8,.ai q.c 1 0 L.length false)::ny l n j k q) (B:=λ q=>(8,.ai q.c 1 0 L.length false)::ny l n j (k+1) q) (bJ:=λ q=>[(q.b,fg ops at_ bz),(q.c,⟨L,1,false⟩)]) (bS:=λ q=>[(q.b,fg ops at_ bz),(q.c,⟨L,1,false⟩)]) (Ht m) 14 ⟨[15,0],[2],[3],[4]⟩ (λ y=>[hb 42 (dv h),hw 51 (show cO.wrap (((j*n:Nat):Int)+(k:Int))=((j*n+k:Nat):Int)by rw[cU];omega),aV 52 1 u8 d,hw 54 (qM ((at_[j*n+k]:Nat):Int) ac ac),hc x]++y++[bh 44 k])
def Sl:∀e∈(fg ops at_ bz).els,e.size=(fg ops at_ bz).k:=λ e a=>by rw[cq.1 a];rfl
def aeo{R:List aa}[bq R]{j:Nat}(d:∀e∈R,cT 2 e):bF ab G (aZ (ak 44) 1) (ak 44).aK (bK 0) (.exit 2) (λ q=>(10,bX q.a 2 R)::(8,.aH)::ny l n j n q) (λ q=>bu q.a 2 R++[(q.b,fg ops at_ bz)]) (λ q=>(10,.sl 2 R)::(8,.aH)::jr l n j q) (λ q=>[(q.b,fg ops at_ bz)]):=(nK (A:=λ q=>(8,.aH)::ny l n j n q) (B:=λ q=>(8,.aH)::jr l n j q) (bJ:=λ q=>[(q.b,fg ops at_ bz)]) (bS:=λ q=>[(q.b,fg ops at_ bz)]) a3 [hb 42 (h7 (a2 n))]).BI d (λ m q g x f=>by rw[cq.1 f];exact⟨fE g.ne.1,Sl⟩)
def aeq{L R:List aa}[bq L][dw 1 L][bq R]{j:Nat}(f:∀e∈R,cT 2 e):bF ab G (aZ (ak 44) 1) (ak 44).aK (bK 0) (.exit 2) (λ q=>(10,bX q.a 2 R)::(8,.ai q.c 1 0 L.length false)::ny l n j n q) (λ q=>bu q.a 2 R++[(q.b,fg ops at_ bz),(q.c,⟨L,1,false⟩)]) (λ q=>(10,.sl 2 R)::(8,.ai q.c 1 0 L.length false)::jr l n j q) (λ q=>[(q.b,fg ops at_ bz),(q.c,⟨L,1,false⟩)]):=(nK (A:=λ q=>(8,.ai q.c 1 0 L.length false)::ny l n j n q) (B:=λ q=>(8,.ai q.c 1 0 L.length false)::jr l n j q) (bJ:=λ q=>[(q.b,fg ops at_ bz),(q.c,⟨L,1,false⟩)]) (bS:=λ q=>[(q.b,fg ops at_ bz),(q.c,⟨L,1,false⟩)]) a3 [hb 42 (h7 (a2 n))]).BI f (Qq (λ _=>Sl) (λ _ e g=>(dw.all (k:=1) e g).size))
def ael(g:l.length<=9000)(o:∀a∈at_,a<256)(p:n<=12){j:Nat}(u:j*n+n<=at_.length)(t:at_.length<=8000):bF ab G (aZ (ak 44) 0) (ak 44).aK (bK 2) .normal (λ q=>(8,.aH)::jr l n j q) (λ q=>[(q.b,fg ops at_ bz)]) (λ q=>(8,.ai q.c 1 0 1 false)::jr l n (j+1) q) (λ q=>[(q.b,fg ops at_ bz),(q.c,⟨[ar (g4 l at_ n j n)],1,false⟩)]):=by
 have f:cO.wrap (((j*n:Nat):Int)+(n:Int))=((j*n+n:Nat):Int):=by rw[cU];omega
 have i:(j+1)*n=j*n+n:=fU j n;have h:(((at_.map u8).length:Nat):Int)=(at_.length:Int):=by rw[aQ]
 unfold jr;rw[i];exact bn ⟨[1],[2000001,0],[2000007,0],[4]⟩ [hw 32 f,hw 35 h,hb 36 (show decide (((j*n+n:Nat):Int)<=(at_.length:Int))=true from decide_eq_true ac),fQ (ak 44) 1 0 0 n a3 (λ k q=>(10,bX q.a 2 ((g4 l at_ n j k).map aO))::(8,.aH)::ny l n j k q) (λ k q=>bu q.a 2 ((g4 l at_ n j k).map aO)++[(q.b,fg ops at_ bz)]) (.exit 2) (λ q=>(10,ar (g4 l at_ n j n))::(8,.aH)::jr l n j q) (λ q=>[(q.b,fg ops at_ bz)]) (λ k m=>aen G g o p m ac ac) (aeo G λ e r=>by obtain⟨x,_,rfl⟩:=bp.1 r;infer_instance),hw 39 f]
def aem{L:List aa}[bq L][dw 1 L](u:L.length<=9000)(g:l.length<=9000)(m:∀a∈at_,a<256)(r:n<=12){j:Nat}(t:j*n+n<=at_.length)(v:at_.length<=8000):bF ab G (aZ (ak 44) 0) (ak 44).aK (bK 2) .normal (λ q=>(8,.ai q.c 1 0 L.length false)::jr l n j q) (λ q=>[(q.b,fg ops at_ bz),(q.c,⟨L,1,false⟩)]) (λ q=>(8,.ai q.c 1 0 (L.length+1) false)::jr l n (j+1) q) (λ q=>[(q.b,fg ops at_ bz),(q.c,⟨L++[ar (g4 l at_ n j n)],1,false⟩)]):=by
 have f:cO.wrap (((j*n:Nat):Int)+(n:Int))=((j*n+n:Nat):Int):=by rw[cU];omega
 have i:(j+1)*n=j*n+n:=fU j n;have h:(((at_.map u8).length:Nat):Int)=(at_.length:Int):=by rw[aQ]
 unfold jr;rw[i];exact bn ⟨[1],[2000001,0],[2000007,0],[4]⟩ [hw 32 f,hw 35 h,hb 36 (show decide (((j*n+n:Nat):Int)<=(at_.length:Int))=true from decide_eq_true ac),fQ (ak 44) 1 0 0 n a3 (λ k q=>(10,bX q.a 2 ((g4 l at_ n j k).map aO))::(8,.ai q.c 1 0 L.length false)::ny l n j k q) (λ k q=>bu q.a 2 ((g4 l at_ n j k).map aO)++[(q.b,fg ops at_ bz),(q.c,⟨L,1,false⟩)]) (.exit 2) (λ q=>(10,ar (g4 l at_ n j n))::(8,.ai q.c 1 0 L.length false)::jr l n j q) (λ q=>[(q.b,fg ops at_ bz),(q.c,⟨L,1,false⟩)]) (λ k o=>aep G g m r o ac ac) (aeq G λ e p=>by obtain⟨x,_,rfl⟩:=bp.1 p;infer_instance),Gc 61 1 24 [2000002,0] 2000006 L (ar (g4 l at_ n j n)) ac (qp (k:=1)),hw 39 f]
end
section
variable(G:Nat->Option (List aa)){ops:List fA}{at_:List Nat}{bz n:Nat}{l:List az}
noncomputable def qi(l:List az)(at_:List Nat)(n j:Nat)(q:aD):List (Nat×aa):=if j=0 then(8,.aH)::jr l n j q else(8,.ai q.c 1 0 ((gM l at_ n j).map ar).length false)::jr l n j q
noncomputable def qh(ops:List fA)(bz:Nat)(l:List az)(at_:List Nat)(n j:Nat)(q:aD):List (bt×aG):=if j=0 then [(q.b,fg ops at_ bz)]else [(q.b,fg ops at_ bz),(q.c,⟨(gM l at_ n j).map ar,1,false⟩)]
def Sp(l:List az)(at_:List Nat)(n j:Nat):(gM l at_ n j).length=j:=by unfold gM;rw[aQ,dx]
def aiE(g:l.length<=9000)(h:∀a∈at_,a<256)(k:n<=12)(n0:0<n){j:Nat}(r:j<at_.length/n)(t:at_.length<=24):bF ab G (aZ (ak 44) 0) (ak 44).aK (bK 2) .normal (qi l at_ n j) (qh ops bz l at_ n j) (qi l at_ n (j+1)) (qh ops bz l at_ n (j+1)):=by
 have hb:j*n+n<=at_.length:=by have h1:=ck n (show j+1<=at_.length/n from r);have s:=aar at_.length n;rw[fU]at h1;omega
 have m:=h6 at_.length n;have p:qi l at_ n (j+1)=λ q=>(8,.ai q.c 1 0 (((gM l at_ n j).map ar).length+1) false)::jr l n (j+1) q:=by funext q;unfold qi;rw[if_neg ac,Sq,gI,cP];rfl
 have o:qh ops bz l at_ n (j+1)=λ q=>[(q.b,fg ops at_ bz),(q.c,⟨(gM l at_ n j).map ar++[ar (g4 l at_ n j n)],1,false⟩)]:=by funext q;unfold qh;rw[if_neg ac,Sq,gI];rfl
 rw[p,o];by_cases d:j=0;subst d;have f:qi l at_ n 0=λ q=>(8,.aH)::jr l n 0 q:=funext λ q=>if_pos rfl;have e:qh ops bz l at_ n 0=λ q=>[(q.b,fg ops at_ bz)]:=funext λ q=>if_pos rfl;rw[f,e];exact ael G g h k hb ac;have f:qi l at_ n j=λ q=>(8,.ai q.c 1 0 ((gM l at_ n j).map ar).length false)::jr l n j q:=funext λ q=>if_neg d;have e:qh ops bz l at_ n j=λ q=>[(q.b,fg ops at_ bz),(q.c,⟨(gM l at_ n j).map ar,1,false⟩)]:=funext λ q=>if_neg d;rw[f,e];exact aem G (L:=(gM l at_ n j).map ar) (by rw[aQ,Sp];omega) g h k hb ac
def aiD(n0:0<n)(v:n<=12)(w:at_.length<=24):bF ab G (aZ (ak 44) 0) (ak 44).aK (bK 2) (.exit 0) (qi l at_ n (at_.length/n)) (qh ops bz l at_ n (at_.length/n)) (λ _=>[(8,aN (gM l at_ n (at_.length/n))),(6,fI l)]) (λ _=>[]):=by
 have t:at_.length<at_.length/n*n+n:=by have:=Nat.lt_div_mul_add (a:=at_.length) n0;exact this
 have p:=aar at_.length n;have k:cO.wrap (((at_.length/n*n:Nat):Int)+(n:Int))=((at_.length/n*n+n:Nat):Int):=by rw[cU];omega
 have o:(((at_.map u8).length:Nat):Int)=(at_.length:Int):=by rw[aQ]
 have h:decide (((at_.length/n*n+n:Nat):Int)<=(at_.length:Int))=false:=decide_eq_false ac;by_cases f:at_.length/n=0;have j:qi l at_ n (at_.length/n)=λ q=>(8,.aH)::jr l n (at_.length/n) q:=funext λ q=>if_pos f;have i:qh ops bz l at_ n (at_.length/n)=λ q=>[(q.b,fg ops at_ bz)]:=funext λ q=>if_pos f;have H:bF ab G (aZ (ak 44) 0) (ak 44).aK (bK 2) (.exit 0) (λ q=>(8,.aH)::jr l n (at_.length/n) q) (λ q=>[(q.b,fg ops at_ bz)]) (λ _=>[(8,.aH),(6,fI l)]) (λ q=>[(q.b,fg ops at_ bz)]):=bn a3 [hw 32 k,hw 35 o,hb 36 h];rw[j,i];have lq:aN (gM l at_ n (at_.length/n))=.sl 1 []:=by rw[f];rfl
 rw[lq];exact H.j9 λ q m g=>bP.F2 am (vg [(6,fI l)] (qG 8 (lM _ _) (gZ.view (ga 1))));have j:qi l at_ n (at_.length/n)=λ q=>(8,.ai q.c 1 0 ((gM l at_ n (at_.length/n)).map ar).length false)::jr l n (at_.length/n) q:=funext λ q=>if_neg f;have i:qh ops bz l at_ n (at_.length/n)=λ q=>[(q.b,fg ops at_ bz),(q.c,⟨(gM l at_ n (at_.length/n)).map ar,1,false⟩)]:=funext λ q=>if_neg f;rw[j,i];have r:∀e∈(gM l at_ n (at_.length/n)).map ar,cT 1 e:=λ e u=>by obtain⟨x,_,rfl⟩:=bp.1 u;infer_instance
 have lq:aN (gM l at_ n (at_.length/n))=.sl 1 ((gM l at_ n (at_.length/n)).map ar):=rfl;rw[lq];haveI:bq ((gM l at_ n (at_.length/n)).map ar):=inferInstance;have H:bF ab G (aZ (ak 44) 0) (ak 44).aK (bK 2) (.exit 0) (λ q=>(8,.ai q.c 1 0 ((gM l at_ n (at_.length/n)).map ar).length false)::jr l n (at_.length/n) q) (λ q=>[(q.b,fg ops at_ bz),(q.c,⟨(gM l at_ n (at_.length/n)).map ar,1,false⟩)]) (λ q=>[(8,.ai q.c 1 0 ((gM l at_ n (at_.length/n)).map ar).length false),(6,fI l)]) (λ q=>[(q.b,fg ops at_ bz),(q.c,⟨(gM l at_ n (at_.length/n)).map ar,1,false⟩)]):=bn a3 [hw 32 k,hw 35 o,hb 36 h];exact H.j9 λ q m g=>bP.F2 (by simp[g.ne.2.2.2.1]) (vg [(6,fI l)] (qG 8 (lM _ _) (Dw (by simp[aL.of,List.lookup,lg (fE g.ne.2.2.2.1)]) r)))
def yT(ops:List fA)(at_:List Nat)(l:List az):Bool:=l.all uP&&!decide (at_.length>24)
def aij(ho:∀o∈ops,lV o)(x:∀a∈at_,a<256)(v:bz<256)(g:wh ops=l)(y:1+bz%12=n):ag ab G 44 [p7 ops at_ bz,aA 24] (if yT ops at_ l=true then .aJ [aN (gM l at_ n (at_.length/n)),.bool (decide (kO l<=2))]else .aJ [aN [],.bool false]):=by
 have f:=apI G ops ho;rw[g]at f;have⟨Q,q⟩:=Qx (r:=ops) λ o h=>(ho o h).abs;rw[g]at q;have z:l.length<=24:=by rw[<-g,Qw];have:=(Kg ho (min ops.length 24) (Nat.min_le_left _ _)).2;rw[this];exact Nat.min_le_right _ _
 have e:=apF G l ac λ a h=>Src.xe (q.2 a h).1;have n0:0<n:=ac;have m:n<=12:=ac;have d:=qM (bz:Int) ac ac;have c:cO.wrap (1+((bz%12:Nat):Int))=(n:Int):=by rw[<-y,cU];omega
 have b:decide ((((at_.map u8).length:Nat):Int)>24)=decide (at_.length>24):=by rw[aQ];by_cases h:at_.length>24;rw[decide_eq_true h,decide_eq_true ac];rw[decide_eq_false h,decide_eq_false ac]
 unfold yT;cases p:l.all uP with|false=>rw[p]at e;rw[tV,if_neg A0];exact ag.pF hN [hc f,hw 17 d,qa 18 .i64 bz 12,hw 19 c,hc e] [] (.aJ [.aH,.bool false]) an rfl rfl gW (λ σ _=>lN (bZ (ga 1) (bZ (fk bg.pure) eT)))|true=>rw[p]at e;rw[mA];cases i:decide (at_.length>24)with|true=>rw[i]at b;rw[Bool.not_true,if_neg A0];exact ag.pF hN [hc f,hw 17 d,qa 18 .i64 bz 12,hw 19 c,hc e,hb 28 b] [] (.aJ [.aH,.bool false]) an rfl rfl gW (λ σ _=>lN (bZ (ga 1) (bZ (fk bg.pure) eT)))|false=>
     rw[i]at b;rw[Bool.not_false,if_pos rfl];have t:at_.length<=24:=by have:=of_decide_eq_false i;omega
     have u:=aih G (l:=l) ac;have k:decide ((kO l:Int)<=2)=decide (kO l<=2):=by by_cases h:kO l<=2;rw[decide_eq_true h,decide_eq_true ac];rw[decide_eq_false h,decide_eq_false ac]
     exact bL [hc f,hw 17 d,qa 18 .i64 bz 12,hw 19 c,hc e,hb 28 b,ah1 (ak 44) 0 2 0 (at_.length/n) ⟨[1],[0,0],[3],[4]⟩ [(8,.aH),(2,.ref [0,0] 0 0),(4,.aH),(5,.bool false),(6,fI l),(7,aA n),(9,aA 0)] [([0,0],fg ops at_ bz)] (qi l at_ n) (qh ops bz l at_ n) (.exit 0) (λ _=>[(8,aN (gM l at_ n (at_.length/n))),(6,fI l)]) (λ _=>[]) (by unfold qi jr;rw[if_pos rfl,Nat.zero_mul]) (by unfold qh;rw[if_pos rfl]) (λ j w=>aiE G ac x m n0 w t) (aiD G n0 m t) an (by have:=h6 at_.length n;omega),hc u,hb 65 k]
def aif(ho:∀o∈ops,lV o)(i:∀a∈at_,a<256)(d:bz<256)(g:wh ops=l)(f:1+bz%12=n):ag ab G 12 [p7 ops at_ bz] (if yT ops at_ l=true then .aJ [aN (gM l at_ n (at_.length/n)),aA n,.bool (decide (kO l<=2))]else .aJ [aN [],aA n,.bool false]):=by
 have m:=aij G ho i d g f;have c:=qM (bz:Int) ac ac;have b:cO.wrap (1+((bz%12:Nat):Int))=(n:Int):=by rw[<-f,cU];omega
 cases h:yT ops at_ l with|true=>rw[h,if_pos rfl]at m;rw[if_pos rfl];exact aI [hc m,hw 15 c,qa 16 .i64 bz 12,hw 17 b]|false=>rw[h,if_neg A0]at m;rw[if_neg A0];exact aI [hc m,hw 15 c,qa 16 .i64 bz 12,hw 17 b]
abbrev i8(z:Int):aa:=.int .i8 z
instance:bg (aa.e9 2 []):=⟨cb.e9 (by simp[flat]),λ _=>rfl⟩
instance:cT 1 (aa.e9 2 []):=⟨inferInstance,rfl,λ d hd=>by rw[cq.1 hd];exact bg.pure,rfl⟩
end
section
variable(G:Nat->Option (List aa)){K:bY}{q e r:Nat}(F:dN K q e r){n:Nat}{A B:List (List aj)}{x:List aj}{wd W at_:Nat}{Qz:Int}
include F in instance{i:Nat}:bq (bM i (aa.e9 2 [])):=⟨λ c hc=>by rw[lR hc];exact bg.pure,λ ρ=>by rw[fS,AX];rfl⟩
instance{i:Nat}:dw 1 (bM i (aa.e9 2 [])):=⟨λ c hc=>by rw[lR hc];infer_instance⟩
def WX(x:J8):aa:=.agg [.int .u8 (x.which:Int),.int .u8 (x.at_:Int),.int .i8 x.Qz]
instance{x:J8}:bg (WX x):=by unfold WX;infer_instance
end
section
variable(G:Nat->Option (List aa))
noncomputable def acZ(i:bt):List Int->aa|[]=>.e9 1 []|a::t=>.ai i 1 0 ((a::t).map c6).length false
noncomputable def ac0(i:bt):List Int->List (bt×aG)|[]=>[]|a::t=>[(i,⟨(a::t).map c6,1,false⟩)]
noncomputable def anP(i:bt):List Int->aa|[]=>.aH|[_]=>.sl 1 []|a::b::t=>.ai i 1 1 (t.length+1) false
structure re(K:List (bt×aG))(A a:aa):Prop where
 fix:A.aU (bN 0 [0] fun _=>[])=A
 view:∀σ:aL,(∀x∈K,σ x.1=some x.2)->View σ A a
def re.p{K:List (bt×aG)}{a:aa}[bg a]:re K a a:=⟨bg.fix _,λ _ _=>fk bg.pure⟩
def re.o{K:List (bt×aG)}{i:bt}{l:List Int}{n:Nat}(h:(i,(⟨l.map c6,1,false⟩:aG))∈K)(a:bN 0 [0] (λ _=>[]) i=i)(c:n=l.length):re K (.ai i 1 0 n false) (l7 l):=⟨by show aa.ai _ _ _ _ _=_;rw[a],λ σ d=>gr (d _ h) (by rw[aQ];exact c.symm)⟩
def re.c{K:List (bt×aG)}{i:bt}:∀{l:List Int},(∀x∈ac0 i l,x∈K)->bN 0 [0] (λ _=>[]) i=i->re K (acZ i l) (l7 l)|[],_,_=>⟨rfl,λ _ _=>View.Oe 1⟩|_::_,h,a=>re.o (h _ cp) a (aQ ..)
def re.t{K:List (bt×aG)}{i:bt}{l:List Int}(h:(i,(⟨l.map c6,1,false⟩:aG))∈K)(g:bN 0 [0] (λ _=>[]) i=i)(e:l≠[]):re K (anP i l) (l7 (l.drop 1)):=by rcases l with _|⟨a,_|⟨b,t⟩⟩;exact(e rfl).elim;exact re.p (K:=K) (a:=.sl 1 []);refine⟨by show aa.ai _ _ _ _ _=_;rw[g];rfl,λ σ f=>View.ai (aq:=⟨(a::b::t).map c6,1,false⟩) (f _ h) rfl (by simp;omega) ?_ am λ d hd=>by obtain⟨y,_,rfl⟩:=bp.1 hd;rfl⟩;rw[<-List.map_drop,kc am];refine dc.pure λ c hc=>?_;have⟨x,j,hc⟩:=kD.1 hc;obtain⟨y,_,rfl⟩:=bp.1 j;rw[cq.1 hc];exact bg.pure
variable{K:bY}{q e r:Nat}(F:dN K q e r){n:Nat}{c:iB}{x:J8}
include F in end
end Go.Proofs.YtpcofcmencgkbaaGreat
namespace Go.ay
section
variable{K:bY}{n m w:Nat}{M:List (List aj)}
def akr(M:List (List aj)):(ey M (a8 M.length)).length<=M.length:=by have h:=M1 M (a8 M.length) [];rw[dx]at h;have:([]:List Nat).length=0:=rfl;unfold ey;omega
end
end Go.ay
namespace Go.Proofs.YtpcofcmencgkbaaGreat
def aeg{Q:Src}{l:List az}(H:ni Q l)(at_:List Nat)(n m:Nat):bj Q.ctx 512 n (gM l at_ n m):=λ r c=>by obtain⟨j,f,rfl⟩:=bp.1 c;refine⟨by unfold g4;rw[aQ,dx],λ x b=>?_⟩;obtain⟨k,d,rfl⟩:=bp.1 b;by_cases e:l=[];subst e;exact AZ;have a:=Nat.mod_lt (at_.getD (j*n+k) 0) (iy.2 e);rw[a4 a];exact H.G (bf a) true
def u7{Q:Src}(h:Q.n=256):grow Q.ctx 4 512=1653500573:=by unfold grow;unfold grow;unfold grow;unfold grow;unfold grow;rw[r6 h]
def Ff{Q:Src}(h:Q.n=256){n:Nat}(a:n<=19842034812):bm Q.ctx Q.cc n:=by show 30*(n+Q.ctx.C)+100*Q.cc<=_;rw[Df h,tr h];omega
section
open Go.ay Go.ay.eU Go.Proofs Go.Lib
variable{K:bY}{n w j:Nat}{M:List (List aj)}
noncomputable def iC(M:List (List aj))(w:Nat):iB:=if M=[]then⟨[],[],[],[],ei w⟩else rv M
def TC(c:bj K n w M)(a:M≠[])(d:M.length<=j\/w<=j):k8 K (grow K j n) (oq M):=λ r b=>by have e:=CK c a d;unfold oq at b;rw[gj c a]at b;obtain⟨k,_,rfl⟩:=bp.1 b;exact(HM (K:=K) (n:=grow K j n) (λ s=>(e.at (i:=s) (k:=k)).neg) _ 0 (IA w (some k))).2
def ahr(b:bj K n w M)(a:M≠[]):(oq M).length<=w:=by unfold oq;rw[gj b a];exact Tz ..
structure PJ(K:bY)(n j:Nat)(M:List (List aj))(w:Nat)(c:iB):Prop where
 g:c.G K (j*(grow K j n+n+K.c+1))r:c.rows.length<=M.length
 cl:c.bz.length<=M.length
 i:c.inv.length<=M.length
 o:c.df.length<=M.length
 k:c.aP.length<=w
def acD(m:bj K n w M)(e:M≠[])(w0:0<w)(B:M.length<=j\/w<=j):PJ K n j M w (rv M):=by
 have L:1<=j:=by have:=iy.2 e;omega
 have up:grow K j n<=j*(grow K j n+n+K.c+1):=by have:=ck (grow K j n+n+K.c+1) L;omega
 have s:=TC m e B;have D:=ahr m e;have A:=xi m (ord:=a8 M.length) λ k s=>c8.1 s;have v:=HD M (Ez (n:=M.length));have u:(ey M (a8 M.length)).length<=M.length:=by have:=yf (S:=a8 M.length) v λ x f=>c8.2 (A.1 x f);rwa[dx]at this
 by_cases q:ey M (a8 M.length)=[];rw[QQ q];exact⟨⟨λ r o=>(cS o).elim,λ r o=>by rw[lR o];exact λ x f=>(cS f).elim,s.mono up⟩,dL _,dL _,dL _,by show(bM _ _).length<=_;rw[aap];exact a2 _,D⟩;have t:=M3 M (a8 M.length) q;unfold rv;simp only;generalize oq M=aP at*;generalize ey M (a8 M.length)=P at*;have J:0<P.length:=iy.2 q;have Q:bO M P≠[]:=λ h=>q (nY.1 h);have F:bj K n w (bO M P):=m.sub A.1;have G:(bO M P).length=P.length:=aQ ..;have E:=Cm F (bl (bO M P)).2;have H:((bO M P).map (cH (bl (bO M P)).2)).length=P.length:=by rw[aQ,G]
 have d:(bl (bO M P)).2.length=P.length:=t;generalize(bl (bO M P)).2=b at*;rw[d]at E;have p:=LU E H J;generalize lz ((bO M P).map (cH b))=y at*;have l:P.length<=j:=by rcases B with h|h<;>omega
 have N:=n9 (K:=K) (n:=n) l;have C:=sc p.2;rw[p.1]at C;refine⟨⟨(p.2.pX.mono N).mono up,λ r o=>?_,s.mono up⟩,by show(P.map _).length<=_;rw[aQ];exact u,by show(b.map _).length<=_;rw[aQ,d];exact u,by show y.length<=_;rw[p.1];exact u,QK ..,D⟩;obtain⟨i,I,rfl⟩:=bp.1 o;have z:=c8.1 (qN.1 I).1;intro x f;unfold lX at f;obtain⟨a,O,rfl⟩:=bp.1 f;have g:=C a O;have:=CP g.2 (Fx (m.get z).2 b).2;rw[g.1]at this;exact this.mono (jd l ac)
def acG(b:bj K n w M)(w0:0<w)(c:M.length<=j\/w<=j):PJ K n j M w (iC M w):=by unfold iC;split;exact⟨⟨λ r a=>(cS a).elim,λ r a=>(cS a).elim,(qg (K:=K) (n:=_) w).pX⟩,dL _,dL _,dL _,dL _,by show(ei w).length<=w;rw[o8];exact a2 _⟩;exact acD b ‹_› w0 c
variable(G:Nat->Option (List aa)){q e r:Nat}(F:dN K q e r)
include F
def aiP(b:bj K n w M)(w0:0<w)(l:M.length<=90)(d:w<16)(f:M.length<=j\/w<=j)(o:bm K q (grow K j n))(t:bm K q (j*(grow K j n+n+K.c+1))):ag ab G 21 [aN M,aA w] (.aJ [nH (iC M w),.int .i64 0]):=by
 unfold iC;split;next h=>subst h;exact aiR G w0 d
 next h=>
 by_cases i:ey M (a8 M.length)=[];exact aiQ G F b h w0 l d f o i;refine aiS G F b h w0 l d f o (λ _=>?_) i;have s:=xi b (ord:=a8 M.length) λ k p=>c8.1 p;have g:=HD M (Ez (n:=M.length));have y:(ey M (a8 M.length)).length<=M.length:=by have:=yf (S:=a8 M.length) g λ x u=>c8.2 (s.1 x u);rwa[dx]at this
 have a:(ey M (a8 M.length)).length<=j:=by rcases f with h|h<;>omega
 have v:=n9 (K:=K) (n:=n) a;have:=jd a (ac:grow K (ey M (a8 M.length)).length n+n+K.c+1<=grow K j n+n+K.c+1);unfold bm at*;omega
end
section
open Go.ay Go.ay.eU Go.Proofs Go.Lib
def ui{Q:Src}(h:Q.n=256){n:Nat}(a:n<=131225906293):bm Q.ctx Q.cc n:=by show 30*(n+Q.ctx.C)+100*Q.cc<=_;rw[Df h,tr h];omega
def acE{Q:Src}{M:List (List aj)}{w:Nat}(h:Q.n=256)(d:bj Q.ctx 512 w M)(w0:0<w)(f:M.length<=4\/w<=4)(j:M.length<=24)(e:w<=12)(h4:(iC M w).rows.length<=4):J9 Q.ctx Q.cc 512 6614011568 M w (iC M w):=by have S:=acG d w0 f;have c:=S.g;rw[u7 h,r6 h]at c;have:=S.r;have:=S.cl;have:=S.i;have:=S.o;have:=S.k;refine⟨ac,ac,d.pX,⟨c.inv,c.df,c.aP⟩,ac,ac,ac,ac,ac,ui h al,ui h al,λ a b _=>ui h ?_,λ _=>ui h ?_⟩;rw[r6 h];exact bx (ck _ h4) al;rw[r6 h];exact bx (ck _ e) al
end
end Go.Proofs.YtpcofcmencgkbaaGreat
namespace Go.ay.eU
noncomputable section
open Classical
def Xm(f:Nat->ax):∀n,bC (n+1) f=f 0+bC n λ i=>f (i+1)|0=>by simp only[bC];grind|n+1=>by have:=Xm f n;rw[bC,this];simp only[bC];grind
def Sd:∀(l:List (aj×aj))(s:ax),l.foldl (λ s p=>s+p.1.2.val*p.2.2.val) s=s+bC l.length λ j=>((l.getD j (aS 0,aS 0)).1.2.val*(l.getD j (aS 0,aS 0)).2.2.val)|[],s=>by show s=s+0;grind|p::l,s=>by rw[List.foldl_cons,Sd l,List.length_cons,Xm];show s+p.1.2.val*p.2.2.val+_=s+(p.1.2.val*p.2.2.val+bC l.length λ i=>(l.getD i _).1.2.val*(l.getD i _).2.2.val);generalize bC l.length _=t;generalize p.1.2.val*p.2.2.val=u;grind
variable{K:bY}{n m w:Nat}{M:List (List aj)}
def CQ{a b:List aj}(d:dn K n a)(hb:dn K m b){t:Nat}(c:a.length=t)(lb:b.length=t):(dR a b).2.val=bC t λ j=>(a.getD j (aS 0)).2.val*(b.getD j (aS 0)).2.val:=by rw[akF d hb];unfold Wl;rw[Sd,aas,c,lb,tW];rw[show∀x:ax,(0:ax)+x=x from λ x=>ap];refine cQ λ j e=>?_;rw[a4 (l:=vt a b) (by rw[aas];omega),List.getElem_zip,a4 (l:=a),a4 (l:=b)]
def VI{d:aj}(f:Nat->aj):∀(l:List Nat)(i:Nat)(x:List aj){k:Nat},k<x.length->l.Nodup->(jO f l i x).getD k d=match l.findIdx? (·==k)with|some s=>f (i+s)|none=>x.getD k d
 |[],i,x,k,_,_=>rfl|p::l,i,x,k,a,c=>by
   have⟨h1,h2⟩:=hZ.1 c;show(jO f l (i+1) (x.set p (f i))).getD k d=_;rw[VI f l (i+1) (x.set p (f i)) (by rw[kf];exact a) h2,List.findIdx?_cons];by_cases e:p=k;subst e;have:l.findIdx? (·==p)=none:=List.findIdx?_eq_none_iff.2 λ x b=>by rw[beq_eq_false_iff_ne];rintro rfl;exact h1 b
   rw[this,if_pos (beq_self_eq_true _)];simp only;rw[a4 (by rw[kf];exact a),List.getElem_set_self];rfl;rw[if_neg (by rw[beq_iff_eq];exact e)];cases h:l.findIdx? (·==k)with|none=>simp only[Option.map_none];rw[a4 (by rw[kf];exact a),List.getElem_set_ne e,a4 a]|some s=>simp only[Option.map_some];rw[show i+1+s=i+(s+1)from ac]
def X1{i k:Nat}(a:k<w):((dA w (some i)).getD k (aS 0)).2.val=if k=i then 1 else 0:=by rw[a4 (by rw[mi];exact a)];unfold dA;rw[iz,nh];by_cases e:k=i;subst e;rw[if_pos rfl,if_pos rfl];rfl;rw[if_neg (λ h=>e (Option.some.inj h)),if_neg e];rfl
def L4{R:List (List aj)}{pv:List Nat}{q k:Nat}(c:pv.Nodup)(b:q∉pv)(a:k<w)(f:bj K n w R):((jO (λ s=>((R.getD s []).getD q (aS 0)).neg) pv 0 (dA w (some q))).getD k (aS 0)).2.val=lB (bR R) pv q k:=by rw[VI _ _ _ _ (by rw[mi];exact a) c];unfold lB z4;cases h:pv.findIdx? (·==k)with|none=>simp only;rw[X1 a];split;rfl;grind|some s=>simp only;have d:=List.findIdx?_eq_some_iff_getElem.1 h;have⟨h1,h2,_⟩:=d;rw[if_neg (λ e=>b (by subst e;rw[<-beq_iff_eq.1 h2];exact bf h1)),Nat.zero_add,jH];exact az.Cs
def Vy(c:bj K n w M){k:Nat}(b:k<w):k∈(bl M).2↔¬Span k M.length (λ j i=>bs (bR M) i j) (λ i=>bs (bR M) i k):=by by_cases e:M=[];subst e;exact⟨λ h=>(cS h).elim,λ h=>(h ⟨λ _=>0,λ i f=>(fv _ f).elim⟩).elim⟩;have E:=r0 c e;refine⟨λ h=>Vz E b h λ _ _ _ _=>rfl,λ h=>nO λ d=>h (Sf E b d λ _ _ _ _=>rfl)⟩
def CM(b:bj K n w M):∀p∈(bl M).2,p<w:=λ p a=>by by_cases e:M=[];subst e;exact(cS a).elim;have:=(lE b).lt p a;rwa[gj b e]at this
def acU(c:bj K n w M){R:List Nat}(f:∀k∈R,k<M.length)(r:∀i,i<M.length->Span R.length w (di M R) (bs (bR M) i)):(bl M).2=(bl (bO M R)).2:=by
 have d:bj K n w (bO M R):=c.sub f;have l:(bO M R).length=R.length:=aQ ..;refine Fc (lE c).oY (lE d).oY λ k=>?_;have key:k<w->(Span k M.length (λ j i=>bs (bR M) i j) (λ i=>bs (bR M) i k)↔Span k (bO M R).length (λ j i=>bs (bR (bO M R)) i j) (λ i=>bs (bR (bO M R)) i k)):=λ b=>by
   rw[l];constructor;rintro⟨y,e⟩;refine⟨y,λ s a=>?_⟩;have q:R.getD s 0<M.length:=by rw[a4 a];exact f _ (bf a)
   have:=e _ q;simp only[uZ M a];exact this;rintro⟨y,e⟩;refine⟨y,λ i p=>?_⟩;have⟨z,g⟩:=r i p;show bs (bR M) i k=bC k λ j=>y j*bs (bR M) i j;have o:bC k (λ j=>y j*bs (bR M) i j)=bC k λ j=>bC R.length λ s=>z s*(y j*di M R s j):=cQ λ j t=>by rw[g j ac,<-kU];exact cQ λ s _=>ap
   rw[g k b,o,pA];refine cQ λ s a=>?_;have h1:=e s a;simp only[uZ M a]at h1;rw[kU,<-h1]
 by_cases b:k<w;rw[Vy c b,Vy d b,key b];exact⟨λ h=>(b (CM c k h)).elim,λ h=>(b (CM d k h)).elim⟩
structure E0(M:List (List aj))(w:Nat)(R C:List Nat)(inv df aP:List (List aj)):Prop where
 Ng:R.Pairwise (·<·)lf:∀k∈R,k<M.length
 HQ:C.Pairwise (·<·)g3:∀k∈C,k<w
 rO:C.length=R.length
 li:inv.length=R.length
 apj:∀r∈inv,r.length=R.length
 lo:df.length+R.length=M.length
 apt:∀r∈df,r.length=R.length
 lk:aP.length+R.length=w
 j9:∀r∈aP,r.length=w
 qD:∀i,i<R.length->∀k,k<R.length->(dR (inv.getD i []) (jW M R (C.getD k 0))).2.val=if i=k then 1 else 0
 tx:∀i,i<M.length->i∉R->∀k,k<w->(dR (df.getD (bI R i).length []) (jW M R k)).2.val=bs (bR M) i k
 pH:∀k,k<w->k∉C->(∀j,j<w->j∉C->((aP.getD (bI C k).length []).getD j (aS 0)).2.val=if j=k then 1 else 0)/\∀i,i<M.length->(dR (M.getD i []) (aP.getD (bI C k).length [])).2.val=0
end
noncomputable section
open Classical
variable{K:bY}{n n' m w:Nat}{M:List (List aj)}
def aiu(t:bj K n w M)(c:M≠[])(p:(bl M).2.length=M.length){i k:Nat}(f:i<M.length)(q:k<M.length):bC M.length (λ j=>bs (bR (bl (eV (M.map (cH (bl M).2)) (ei M.length))).1) i (M.length+j)*bs (bR M) j ((bl M).2.getD k 0))=if i=k then 1 else 0:=by
 have d:=Uq t c p;have g:=Cm t (bl M).2;rw[p]at g;have l:(M.map (cH (bl M).2)).length=M.length:=aQ ..;have v:=λ i(f:i<M.length)s(a:s<(bl M).2.length)=>Uo (M:=M) (bl M).2 f a;rw[p]at v;generalize(bl M).2=b at*;generalize M.map (cH b)=A at*;have x:=yv g (qg (K:=K) (n:=n) M.length);have o:(eV A (ei M.length)).length=M.length:=by unfold eV;rw[ke,o8,l,tW]
 have h0:=iy.2 c;have h:eV A (ei M.length)≠[]:=λ e=>by rw[e]at o;simp at o;omega
 have u:=r0 x h;rw[o]at u;have:=agD u (λ s a=>by rw[d,a4 (by rw[dx];exact a),nh]) (by rw[d,dx]) (λ i f s a=>(Fg g l f).2 a) f q;rw[<-this];exact cQ λ j r=>by rw[(Fg g l r).1 q,v j r k q]
def Q5(M:List (List aj))(R:List Nat)(k:Nat){s:Nat}(a:s<R.length):((jW M R k).getD s (aS 0)).2.val=di M R s k:=by rw[a4 (by unfold jW;rw[aQ];exact a)];unfold jW di;rw[iz,jH,a4 a]
def acT(a:List Nat)(r:List aj){t:Nat}(b:t<a.length):(cH a r).getD t (aS 0)=r.getD (a.getD t 0) (aS 0):=by rw[a4 (by unfold cH;rw[aQ];exact b),a4 b];simp[cH]
def Q6(M:List (List aj))(R:List Nat)(k:Nat):(jW M R k).length=R.length:=aQ ..
variable{R:List Nat}{inv:List (List aj)}
structure yl(K:bY)(n':Nat)(M:List (List aj))(R C:List Nat)(inv:List (List aj)):Prop where
 li:inv.length=R.length
 zr:bj K n' R.length inv
 Ac:∀i,i<R.length->∀k,k<R.length->bC R.length (fun j=>bs (bR inv) i j*di M R j (C.getD k 0))=if i=k then 1 else 0
def yl.qD(c:bj K n w M){C:List Nat}(H:yl K n' M R C inv){i k:Nat}(b:i<R.length)(e:k<R.length):(dR (inv.getD i []) (jW M R (C.getD k 0))).2.val=if i=k then 1 else 0:=by
 have a:i<inv.length:=by rw[H.li];exact b
 have g:=H.zr _ (bf a);rw[a4 a,CQ g.2 (Fw c R (C.getD k 0)) g.1 (Q6 ..),<-H.Ac i b k e];exact cQ λ j d=>by rw[Q5 M R _ d,jH,a4 a]
def yl.df(B:bj K n w M){C:List Nat}(A:C.length=R.length)(d:∀p∈C,p<w)(H:yl K n' M R C inv)(hd:¬ik R.length R.length λ s t=>di M R s (C.getD t 0)){x:Nat->ax}{z:Nat->ax}(v:Span R.length w (di M R) x)(r:∀s,s<R.length->z s=bC R.length λ t=>bs (bR inv) t s*x (C.getD t 0)){k:Nat}(o:k<w):bC R.length (λ s=>z s*di M R s k)=x k:=by
 have⟨y,l⟩:=v;have e:∀s,s<R.length->z s=y s:=by
   intro s f;refine nO λ b=>hd ⟨λ s=>z s-y s,⟨s,f,λ h=>b ap⟩,λ t i=>?_⟩;have c:C.getD t 0<w:=d _ (by rw[a4 ac];exact bf _);have h1:bC R.length (λ j=>z j*di M R j (C.getD t 0))=x (C.getD t 0):=by rw[cQ (g:=λ j=>bC R.length λ u=>x (C.getD u 0)*(bs (bR inv) u j*di M R j (C.getD t 0))) λ j q=>by rw[r j q,<-tw];exact cQ λ u _=>ap];rw[pA,cQ (g:=λ u=>if u=t then x (C.getD t 0)else 0) λ u hu=>by rw[kU,H.Ac u hu t i];by_cases e:u=t;subst e;rw[if_pos rfl,if_pos rfl];grind;rw[if_neg e,if_neg e];grind];rw[pz i _ λ u hu b=>if_neg b,if_pos rfl]
   have h2:=l _ c;rw[cQ (g:=λ j=>z j*di M R j (C.getD t 0)-y j*di M R j (C.getD t 0)) λ j _=>ap,Xn,h1,<-h2];grind
 rw[l k o];exact cQ λ s f=>by rw[e s f]
def ahq(t:bj K n w M){S Q:List (List aj)}{pv:List Nat}(E:jA S.length w w (bR S) (bR Q) pv)(h:bj K n' w Q)(o:pv.Nodup)(u:∀i,i<M.length->Span S.length w (bs (bR S)) (bs (bR M) i)){q:Nat}(v:q<w)(b:q∉pv):(∀j,j<w->j∉pv->((jO (λ s=>((Q.getD s []).getD q (aS 0)).neg) pv 0 (dA w (some q))).getD j (aS 0)).2.val=if j=q then 1 else 0)/\∀i,i<M.length->(dR (M.getD i []) (jO (λ s=>((Q.getD s []).getD q (aS 0)).neg) pv 0 (dA w (some q)))).2.val=0:=by refine⟨λ j a l=>?_,λ i p=>?_⟩;rw[L4 o b a h];by_cases e:j=q;subst e;rw[if_pos rfl];exact GY;rw[if_neg e];exact L3 l e;have c:=HM (K:=K) (n:=n') (f:=λ s=>((Q.getD s []).getD q (aS 0)).neg) (λ s=>(h.at (i:=s) (k:=q)).neg) pv 0 (IA w (some q));rw[mi]at c;have g:=t.get p;rw[CQ g.2 c.2 g.1 c.1];have⟨y,r⟩:=u i p;rw[cQ (g:=λ j=>bC S.length λ s=>y s*(bs (bR S) s j*lB (bR Q) pv q j)) λ j a=>by rw[L4 o b a h,<-jH,r j a,<-tw];exact cQ λ s _=>ap];rw[pA,cQ (g:=λ _=>0) λ s d=>by rw[kU,GZ E v b d];grind];exact nL _
def Vf(l:List Nat){k N:Nat}{α:Type}{d:α}(f:Nat->α)(h:k∉l)(a:k<N):((bI l N).map f).getD (bI l k).length d=f k:=by have⟨h1,h2⟩:=MU (l:=l) (i:=k) (N:=N) (by rw[List.contains_eq_mem,decide_eq_false_iff_not];exact h) a;rw[a4 (by rw[aQ];exact h1),iz,h2]
end
end Go.ay.eU
namespace Go.Proofs.YtpcofcmencgkbaaGreat
section
open Go.ay Go.ay.eU Go.Proofs Go.Lib
def Qi{l:List Nat}{n:Nat}(h:l.Pairwise (·<·))(c:∀p∈l,p<n):rh (l.map k6) n=true:=by
 unfold rh;rw[dY];intro i a;have a:=c8.1 a;rw[aQ]at a;have e:∀j,j<l.length->(l.map k6).getD j 0=((l.getD j 0:Nat):Int):=λ j b=>by rw[a4 (by rw[aQ];exact b),iz,a4 b];rfl
 unfold uh;rw[e i a];have h1:=c _ (bf a);rw[<-a4 (d:=0) a]at h1;have h2:0<i->l.getD (i-1) 0<l.getD i 0:=λ h0=>by rw[a4 (ac:i-1<l.length),a4 a];exact D8.1 h _ _ _ _ ac
 by_cases h0:0<i;have:=h2 h0;rw[e (i-1) ac];generalize l.getD (i-1) 0=v at*;generalize l.getD i 0=u at*;simp;omega;generalize l.getD i 0=u at*;simp;omega
def Ie{M:List (List aj)}{a b:Nat}{x y:Int}(h1:M.length=a)(h2:∀r∈M,r.length=b)(c:x=(a:Int))(e:y=(b:Int)):lF M x y=true:=by unfold lF;rw[gU];exact⟨dY.2 λ r d=>decide_eq_true (by rw[h2 r d,e]),decide_eq_true (by rw[h1,c])⟩
def agz(l:List Nat):(l.map k6).map mB=l:=by rw[List.map_map];exact(jR λ x _=>rfl).trans (List.map_id l)
variable{K:bY}{n w:Nat}{M:List (List aj)}
def ame{R C:List Nat}{b c aP:List (List aj)}(o:bj K n w M)(H:E0 M w R C b c aP):mS M w ⟨R.map k6,C.map k6,b,c,aP⟩=true:=by
 have lo:=H.lo;have p:=H.lk;have ok:po M w ⟨R.map k6,C.map k6,b,c,aP⟩=true:=by unfold po CB CC CD CE Hs;simp only[aQ,gU];exact⟨Ie rfl (λ r g=>(o r g).1) rfl rfl,Qi H.Ng H.lf,Qi H.HQ H.g3,decide_eq_true (by rw[H.rO]),Ie H.li H.apj rfl rfl,Ie (a:=M.length-R.length) ac H.apt ac rfl,Ie (a:=w-R.length) ac H.j9 ac rfl⟩
 have m:iP M w ⟨R.map k6,C.map k6,b,c,aP⟩=⟨M,w,R,C,b,c,aP⟩:=by unfold iP;simp only[agz]
 unfold mS;rw[ok,m,mA,gU,gU];have l:∀i k,(lp i k).2.val=if i=k then 1 else 0:=λ i k=>by unfold lp;split<;>rfl
 refine⟨dY.2 λ i d=>dY.2 λ k e=>?_,dY.2 λ i d=>?_,dY.2 λ k e=>?_⟩;have d:i<b.length:=c8.1 d;have e:k<C.length:=c8.1 e;exact o6.2 (by rw[l];exact H.qD i (by have:=H.li;omega) k (by have:=H.rO;omega));have d:i<M.length:=c8.1 d;by_cases g:i∈R;rw[show(c0.R ⟨M,w,R,C,b,c,aP⟩).contains i=true from vz.2 g];rfl;rw[xX];refine .inr (dY.2 λ k e=>o6.2 ?_);have:=H.tx i d g k (c8.1 e);rwa[jH]at this;have e:k<w:=c8.1 e;by_cases hc:k∈C;rw[show(c0.C ⟨M,w,R,C,b,c,aP⟩).contains k=true from vz.2 hc];rfl;have⟨v1,v2⟩:=H.pH k e hc;rw[xX,gU];refine .inr ⟨dY.2 λ j h=>?_,dY.2 λ i d=>o6.2 (v2 i (c8.1 d))⟩;have h:j<w:=c8.1 h;unfold c0.sR;by_cases f:j∈C;rw[show(c0.C ⟨M,w,R,C,b,c,aP⟩).contains j=true from vz.2 f];rfl;rw[xX];exact .inr (o6.2 (by rw[l];exact v1 j h f))
end
end Go.Proofs.YtpcofcmencgkbaaGreat
namespace Go.ay.eU
noncomputable section
open Classical
variable{K:bY}{n n' m w:Nat}{M:List (List aj)}
def vZ{l:List Nat}(h:l.Pairwise (·<·)):l.Nodup:=h.imp λ h=>Nat.ne_of_lt h
def HR(b:bj K n w M){R:List Nat}(c:∀k∈R,k<M.length)(a:¬ik R.length w (di M R)):(bl (bO M R)).2.length=R.length:=by by_cases e:R=[];subst e;rfl;exact(HS b c e).2 a
def amd{R:List Nat}{g h aP:List (List aj)}(j:bj K n w M)(v:R.Pairwise (·<·))(l:∀k∈R,k<M.length)(d:¬ik R.length w (di M R))(I:yl K n' M R (bl (bO M R)).2 g)(f:Nat->List aj)(b:h=(bI R M.length).map f)(x:∀i,i<M.length->(f i).length=R.length/\∀k,k<w->(dR (f i) (jW M R k)).2.val=bs (bR M) i k){S Q:List (List aj)}(E:jA S.length w w (bR S) (bR Q) (bl (bO M R)).2)(A:bj K m w Q)(p:∀i,i<M.length->Span S.length w (bs (bR S)) (bs (bR M) i))(a:aP=(bI (bl (bO M R)).2 w).map λ q=>jO (λ s=>((Q.getD s []).getD q (aS 0)).neg) (bl (bO M R)).2 0 (dA w (some q))):E0 M w R (bl (bO M R)).2 g h aP:=by have z:bj K n w (bO M R):=j.sub l;have u:=HR j l d;have o:=(lE z).oY;have y:=CM z;generalize(bl (bO M R)).2=C at*;refine⟨v,l,o,y,u,I.li,λ r c=>(I.zr r c).1,?_,λ r c=>?_,?_,λ r c=>?_,λ i d k e=>I.qD j d e,λ i d c k e=>?_,λ k e hc=>?_⟩;rw[b,aQ];exact xf (vZ v) l;rw[b]at c;obtain⟨i,t,rfl⟩:=bp.1 c;exact(x i (Hx.1 t).1).1;rw[a,aQ,<-u];exact xf (vZ o) y;rw[a]at c;obtain⟨q,B,rfl⟩:=bp.1 c;rw[HL,mi];rw[b,Vf R f c d];exact(x i d).2 k e;rw[a,Vf C _ hc e];exact ahq j E A (vZ o) p e hc
end
end Go.ay.eU
namespace Go.Proofs.YtpcofcmencgkbaaGreat
section
open Go.ay Go.ay.eU Go.Proofs Go.Lib
theorem aei{α:Type}(l:List α)(r j:Nat)(d:α):(l.drop r).getD j d=l.getD (r+j) d:=by rw[dt,dt,List.getElem?_drop]
variable{K:bY}{n w:Nat}{M:List (List aj)}{R:List Nat}
theorem aiv(aX:bj K n w M)(lf:∀k∈R,k<M.length)(hi:¬ik R.length w (di M R)):bj K n R.length ((bO M R).map (cH (bl (bO M R)).2))/\((bO M R).map (cH (bl (bO M R)).2)).length=R.length:=by have rT:=Cm (aX.sub lf) (bl (bO M R)).2;have h:=HR aX lf hi;unfold bO at h rT⊢;rw[h]at rT;exact⟨rT,by rw[aQ,aQ]⟩
theorem aiw(aX:bj K n w M)(lf:∀k∈R,k<M.length)(hi:¬ik R.length w (di M R))(h0:R≠[]){i k:Nat}(fy:i<R.length)(hk:k<R.length):bC R.length (fun j=>bs (bR (bl (eV ((bO M R).map (cH (bl (bO M R)).2)) (ei R.length))).1) i (R.length+j)*di M R j ((bl (bO M R)).2.getD k 0))=if i=k then 1 else 0:=by have hS:bj K n w (bO M R):=aX.sub lf;have wS:(bO M R).length=R.length:=aQ ..;have:=aiu hS (fun h=>h0 (nY.1 h)) (by rw[HR aX lf hi,wS]) (i:=i) (k:=k) ac ac;rw[wS]at this;rw[<-this];exact cQ fun j hj=>by rw[uZ M hj]
theorem agC(aX:bj K n w M)(lf:∀k∈R,k<M.length)(hi:¬ik R.length w (di M R)):yl K (grow K R.length n) M R (bl (bO M R)).2 (lz ((bO M R).map (cH (bl (bO M R)).2))):=by
 by_cases h0:R=[];.subst h0;exact⟨rfl,fun r hr=>(cS hr).elim,fun i hi=>(fv _ hi).elim⟩
 obtain⟨rT,lm⟩:=aiv aX lf hi;have p0:0<R.length:=iy.2 h0;have g:=LU rT lm p0;refine⟨g.1,g.2,fun i fy k hk=>?_⟩;have v:=aiw aX lf hi h0 fy hk;have hB:=yv rT (qg (K:=K) (n:=n) R.length);have Qt:(eV ((bO M R).map (cH (bl (bO M R)).2)) (ei R.length)).length=R.length:=by unfold eV;rw[ke,o8,lm,tW]
 have bne:eV ((bO M R).map (cH (bl (bO M R)).2)) (ei R.length)≠[]:=fun e=>by rw[e,iM]at Qt;omega
 have pv:=Vo hB bne;rw[Qt]at pv;rw[<-pv]at v;rw[<-v];refine cQ fun j hj=>?_;have e:bs (bR (lz ((bO M R).map (cH (bl (bO M R)).2)))) i j=bs (bR ((c7 (eV ((bO M R).map (cH (bl (bO M R)).2)) (ei R.length))).rows (R.length+R.length) R.length)) i (R.length+j):=by rw[jH,jH];unfold lz;rw[lm,a4 (l:=List.map _ _) (by rw[aQ,dx];exact fy),iz,nh,aei]
 rw[e]
theorem acI(aX:bj K n w M)(hne:M≠[])(w0:0<w):∃R inv df aP,rv M=⟨R.map k6,(bl M).2.map k6,inv,df,aP⟩/\E0 M w R (bl M).2 inv df aP:=by
 have ho:∀k∈a8 M.length,k<M.length:=fun k hk=>c8.1 hk;have hi:=Vu aX ho;have lf:=(xi aX ho).1;have Ng:(ey M (a8 M.length)).Pairwise (·<·):=by rw[<-M6 aX hne w0];exact(lE (sc aX)).oY
 have sp:∀i,i<M.length->Span (ey M (a8 M.length)).length w (di M (ey M (a8 M.length))) (bs (bR M) i):=fun i hi=>HE aX (a8 M.length) [] ho (fun _ h=>(cS h).elim) FB i (c8.2 hi);have FH:oq M=(bI (bl M).2 w).map fun q=>jO (fun s=>((((c7 M).rows w M.length).getD s []).getD q (aS 0)).neg) (bl M).2 0 (dA w (some q)):=by unfold oq jK kr;rw[gj aX hne,xg aX hne];simp only[kB];rfl
 have E:=r0 aX hne;rw[<-Vo aX hne]at E;have Gg:=CK (j:=w) aX hne (.inr (a2 _));unfold rv;dsimp only;generalize ey M (a8 M.length)=R at*;have cs:=acU aX lf sp;rw[cs]at FH E;have I:=agC aX lf hi;have rO:=HR aX lf hi;have g3:=CM (aX.sub lf);have hd:¬ik R.length R.length fun s t=>di M R s ((bl (bO M R)).2.getD t 0):=by
   by_cases h0:R=[];.subst h0;exact FB
   .have hS:bj K n w (bO M R):=aX.sub lf;have wS:(bO M R).length=R.length:=aQ ..;have:=Up (r0 hS fun h=>h0 (nY.1 h)) (by rw[rO,wS]);rw[wS]at this;exact fun d=>this (d.congr fun j hj=>by funext t;rw[uZ M hj])
 rw[cs];refine⟨R,_,_,_,rfl,amd aX Ng lf hi I (fun i=>lX (eR (lz ((bO M R).map (cH (bl (bO M R)).2)))) (cH (bl (bO M R)).2 (M.getD i []))) rfl (fun i fy=>?_) E Gg (fun i hi=>Span.row hi) FH⟩;change(bl (bO M R)).2.length=R.length at rO;change∀p∈(bl (bO M R)).2,p<w at g3;generalize lz ((bO M R).map (cH (bl (bO M R)).2))=inv at*;generalize(bl (bO M R)).2=C at*;have ky:(eR inv).length=R.length:=by
   by_cases h0:inv=[];.have:=I.li;subst h0;rw[<-this];rfl
   .rw[ve,gj I.zr h0]
 have fY:=sc I.zr;rw[I.li]at fY;have g:=aX.get fy;have KA:=Fx g.2 C;have G0:(lX (eR inv) (cH C (M.getD i []))).length=R.length:=by unfold lX;rw[aQ,ky]
 have pX:dn K (R.length*(grow K R.length n+n+K.c+1)) (lX (eR inv) (cH C (M.getD i []))):=fun x hx=>by unfold lX at hx;obtain⟨a,ha,rfl⟩:=bp.1 hx;have t:=fY a ha;have:=CP t.2 KA.2;rwa[t.1]at this
 refine⟨G0,fun k hk=>?_⟩;rw[CQ pX (Fw aX R k) G0 (Q6 ..)];have:=I.df aX rO g3 hd (sp i fy) (z:=fun s=>((lX (eR inv) (cH C (M.getD i []))).getD s (aS 0)).2.val) (fun s hs=>?_) hk;.rw[<-this];exact cQ fun s hs=>by rw[Q5 M R k hs]
 . have uH:s<(eR inv).length:=ac;have afl:inv≠[]:=fun e=>by have:=I.li;rw[e]at this;simp at this;omega
   have t:=fY _ (bf uH);show((lX (eR inv) (cH C (M.getD i []))).getD s (aS 0)).2.val=_;rw[a4 (by rw[G0];exact hs)];have e:(lX (eR inv) (cH C (M.getD i [])))[s]'(by rw[G0];exact hs)=dR (eR inv)[s] (cH C (M.getD i [])):=by simp[lX]
   rw[e,CQ t.2 KA.2 t.1 (by rw[KA.1,rO])];refine cQ fun q hq=>?_;have XE:=XP I.zr afl (i:=s) (k:=q) hs (by rw[I.li];exact hq);rw[jH,a4 uH]at XE;rw[XE,acT C _ (by rw[rO];exact hq),<-jH]
theorem QR(aX:bj K n w M)(w0:0<w):∃R inv df aP,iC M w=⟨R.map k6,(bl M).2.map k6,inv,df,aP⟩/\E0 M w R (bl M).2 inv df aP:=by
 unfold iC;split;.next h=>
   subst h;have e:∀l:List Nat,bI [] l.length=bI [] l.length:=fun _=>rfl;refine⟨[],_,_,_,rfl,aat,fun k hk=>(cS hk).elim,aat,fun k hk=>(cS hk).elim,rfl,rfl,fun r hr=>(cS hr).elim,rfl,fun r hr=>(cS hr).elim,by rw[o8];rfl,fun r hr=>((qg (K:=K) (n:=0) w) r hr).1,fun i hi=>(fv _ hi).elim,fun i hi=>(fv _ hi).elim,fun k hk hc=>⟨fun j hj _=>?_,fun i hi=>(fv _ hi).elim⟩⟩;have e:(ei w).getD (bI [] k).length []=dA w (some k):=by have:bI [] k=a8 k:=Py.2 fun _ _=>rfl;rw[this,dx,a4 (by rw[o8];exact hk)];unfold ei;rw[iz,nh]
   rw[show(bl ([]:List (List aj))).2=[]from rfl,e,X1 hj]
 .next h=>exact acI aX h w0
theorem alC(aX:bj K n w M)(w0:0<w):mS M w (iC M w)=true:=by obtain⟨R,inv,df,aP,e,H⟩:=QR aX w0;rw[e];exact ame aX H
end
def MK(q:Rat):aj:=(true,dM q)
section
variable(G:Nat->Option (List aa))
def nC(a:Int)(b:Nat)(q:Rat)(e:(a:Rat)/((b:Int):Rat)=q:=by decide+kernel)(h1:b≠0:=by decide)(f:b<=1000:=by decide)(h3:-1000<=a:=by decide)(h4:a<=1000:=by decide):ag ab G 95 [.int .i64 a,.int .i64 (b:Int)] (aW q):=by subst e;exact Nf G a b h1 f h3 h4
def nD(q:Rat)(h:af q.num.natAbs<=5/\af q.den<=5:=by decide+kernel):ag ab G 94 [aW q] (au (dM q)):=UQ G q (cE.mono ⟨h.1,h.2⟩ al)
def I6{a:Int}{b:Nat}{p:Rat}(f:ag ab G 95 [.int .i64 a,.int .i64 (b:Int)] (aW p))(r:ag ab G 94 [aW p] (au (dM p))):ag ab G 45 [.int .i64 (b:Int),.sl 1 [.int .i64 a]] (ar [MK p]):=ag.xz hN [hc f,hc r] [([15],⟨[au (dM p)],2,false⟩)] (.ai [15] 2 0 1 false) an (λ σ h=>gr (one h))
def DM{a a':Int}{b:Nat}{p d:Rat}(f:ag ab G 95 [.int .i64 a,.int .i64 (b:Int)] (aW p))(r:ag ab G 94 [aW p] (au (dM p)))(e:ag ab G 95 [.int .i64 a',.int .i64 (b:Int)] (aW d))(g:ag ab G 94 [aW d] (au (dM d))):ag ab G 45 [.int .i64 (b:Int),.sl 1 [.int .i64 a,.int .i64 a']] (ar [MK p,MK d]):=ag.xz hN [hc f,hc r,hc e,hc g] [([29],⟨[au (dM p),au (dM d)],2,false⟩)] (.ai [29] 2 0 2 false) an (λ σ h=>gr (one h))
def qj(M:List (List Rat)):List (List aj):=M.map λ r=>r.map aS
def CF(M:List (List Rat)):Bool:=M.all λ r=>r.all λ q=>decide (q.num.natAbs<=256)&&decide (q.den<=256)
def E7{K:bY}{M:List (List Rat)}(h:CF M=true):k8 K 8 (qj M):=λ r d x b=>by obtain⟨s,a,rfl⟩:=bp.1 d;obtain⟨q,c,rfl⟩:=bp.1 b;have:=dY.1 (dY.1 h s a) q c;rw[gU]at this;exact az.G.rat (q:=q) (of_decide_eq_true this.1) (of_decide_eq_true this.2)
def Bs(R C:List Int)(I O a:List (List Rat)):iB:=⟨R,C,qj I,qj O,qj a⟩
def zK{a b c:Rat}(h:a*b=c:=by decide+kernel):e6 (dR [aS a] [aS b]) (aS c)=true:=by have e:=CR (vt [aS a] [aS b]) (λ p f=>by rw[cq.1 f];exact⟨trivial,trivial⟩) (s:=aS 0) Ni;refine o6.2 (Eq.trans e ?_);show(0:ax)+dG a*dG b=dG c;rw[oG,h];grind
def HI{a b a' f c:Rat}(h:a*b+a'*f=c:=by decide+kernel):e6 (dR [aS a,aS a'] [aS b,aS f]) (aS c)=true:=by have e:=CR (vt [aS a,aS a'] [aS b,aS f]) (λ p g=>by rcases ct.1 g with rfl|g;exact⟨trivial,trivial⟩;rw[cq.1 g];exact⟨trivial,trivial⟩) (s:=aS 0) Ni;refine o6.2 (Eq.trans e ?_);show(0:ax)+dG a*dG b+dG a'*dG f=dG c;rw[oG,oG,<-h,<-ax.ofRat_add];grind
def RE(a:Rat):e6 (aS a) (aS a)=true:=o6.2 rfl
def kG:List (List aj):=qj [[1,2],[2,4]]
def sH:iB:=Bs [0] [0] [[1]] [[2]] [[-2,1]]
def yr:iB:=Bs [1] [1] [[1/4]] [[1/2]] [[1,-1/2]]
def Kc:iB:=Bs [0] [0] [[1]] [[2]] [[2,-1]]
def aoh:(iP kG 2 sH).qD=true:=by show(e6 (dR [aS 1] [aS 1]) (aS 1)&&true&&true)=true;rw[zK];rfl
def aob:(iP kG 2 sH).tx=true:=by show(true&&((false||(e6 (dR [aS 2] [aS 1]) (aS 2)&&(e6 (dR [aS 2] [aS 2]) (aS 4)&&true)))&&true))=true;rw[zK,zK];rfl
def aok:(iP kG 2 sH).pH=true:=by show(true&&((false||((true&&((false||e6 (aS 1) (aS 1))&&true))&&(e6 (dR [aS 1,aS 2] [aS (-2),aS 1]) (aS 0)&&(e6 (dR [aS 2,aS 4] [aS (-2),aS 1]) (aS 0)&&true))))&&true))=true;rw[RE,HI,HI];rfl
def amL:mS kG 2 sH=true:=by unfold mS;rw[aoh,aob,aok,show po kG 2 sH=true from an];rfl
def aoi:(iP kG 2 yr).qD=true:=by show(e6 (dR [aS (1/4)] [aS 4]) (aS 1)&&true&&true)=true;rw[zK];rfl
def aoc:(iP kG 2 yr).tx=true:=by show((false||(e6 (dR [aS (1/2)] [aS 2]) (aS 1)&&(e6 (dR [aS (1/2)] [aS 4]) (aS 2)&&true)))&&(true&&true))=true;rw[zK,zK];rfl
def aol:(iP kG 2 yr).pH=true:=by show((false||(((false||e6 (aS 1) (aS 1))&&(true&&true))&&(e6 (dR [aS 1,aS 2] [aS 1,aS (-1/2)]) (aS 0)&&(e6 (dR [aS 2,aS 4] [aS 1,aS (-1/2)]) (aS 0)&&true))))&&(true&&true))=true;rw[RE,HI,HI];rfl
def amM:mS kG 2 yr=true:=by unfold mS;rw[aoi,aoc,aol,show po kG 2 yr=true from an];rfl
def aom:(iP kG 2 Kc).pH=false:=by
 have h:e6 (aS (-1)) (aS 1)=false:=by cases e:e6 (aS (-1)) (aS 1)with|false=>rfl|true=>exact absurd (ax.Hq (show dG (-1)=dG 1 from o6.1 e)) (by decide+kernel)
 show(true&&((false||((true&&((false||e6 (aS (-1)) (aS 1))&&true))&&_))&&true))=false;rw[h];rfl
def amN:mS kG 2 Kc=false:=by unfold mS;rw[aom,Pz,Pz,Pz]
def amK:mS kG 3 sH=false:=by unfold mS;rw[show po kG 3 sH=false from an,tV]
def aou{σ:aL}{e a d b g f:bt}{b1 b2 b3 b4 sL sM:Bool}{M:List (List aj)}{c:iB}{w:Nat}(h1:σ e=some ⟨M.map ar,1,b1⟩)(j:σ a=some ⟨c.rows.map c6,1,b2⟩)(h3:σ d=some ⟨c.bz.map c6,1,b3⟩)(h4:σ b=some ⟨c.inv.map ar,1,b4⟩)(i:σ g=some ⟨c.df.map ar,1,sL⟩)(h:σ f=some ⟨c.aP.map ar,1,sM⟩):dc σ [.ai e 1 0 M.length false,aA w,.agg [.ai a 1 0 c.rows.length false,.ai d 1 0 c.bz.length false,.ai b 1 0 c.inv.length false,.ai g 1 0 c.df.length false,.ai f 1 0 c.aP.length false]] [aN M,aA w,nH c]:=bZ (gr h1 (aQ ..)) (bZ (fk bg.pure) (bZ (ya (bZ (gr j (aQ ..)) (bZ (gr h3 (aQ ..)) (bZ (gr h4 (aQ ..)) (bZ (gr i (aQ ..)) (bZ (gr h (aQ ..)) eT)))))) eT))
def Gi{G:Nat->Option (List aa)}{f:FuncId}{r:aa}(i b j k g d:bt)(b1 b2 b3 b4 sL sM:Bool)(M:List (List aj))(c:iB)(w:Nat)(h:ag ab G f [aN M,aA w,nH c] r)(e:[i,b,j,k,g,d].Nodup:=by decide):aR ab G:=uI [(i,⟨M.map ar,1,b1⟩),(b,⟨c.rows.map c6,1,b2⟩),(j,⟨c.bz.map c6,1,b3⟩),(k,⟨c.inv.map ar,1,b4⟩),(g,⟨c.df.map ar,1,sL⟩),(d,⟨c.aP.map ar,1,sM⟩)] (args:=[.ai i 1 0 M.length false,aA w,.agg [.ai b 1 0 c.rows.length false,.ai j 1 0 c.bz.length false,.ai k 1 0 c.inv.length false,.ai g 1 0 c.df.length false,.ai d 1 0 c.aP.length false]]) h (by simp only[hZ,ct,cS,or_false,not_or,gW,and_true,not_false_eq_true]at e;have⟨⟨B,y,o,q,m⟩,⟨l,z,s,v⟩,⟨A,p,u⟩,⟨t,x⟩,n⟩:=e;refine aou (b1:=b1) (b2:=b2) (b3:=b3) (b4:=b4) (sL:=sL) (sM:=sM) ?_ ?_ ?_ ?_ ?_ ?_<;>simp[aL.of,List.lookup,lg (fE B),lg (fE y),lg (fE o),lg (fE q),lg (fE m),lg (fE l),lg (fE z),lg (fE s),lg (fE v),lg (fE A),lg (fE p),lg (fE u),lg (fE t),lg (fE x),lg (fE n)])
def Fe{M:List (List Rat)}{R C:List Int}{I O b:List (List Rat)}{w:Nat}(z:Bool)(f:mS (qj M) w (Bs R C I O b)=z)(h1:CF M=true:=by decide+kernel)(e:CF I=true:=by decide+kernel)(h3:CF O=true:=by decide+kernel)(h4:CF b=true:=by decide+kernel)(j:M.length=2:=by rfl)(g:R.length=1:=by rfl)(i:C.length=1:=by rfl)(l:I.length=1:=by rfl)(h:O.length=1:=by rfl)(k:b.length=1:=by rfl)(hw:w<=3:=by decide):ag ab G 16 [aN (qj M),aA w,nH (Bs R C I O b)] (.bool z):=by subst f;have F:=Src.BF (Q:=Src.none 256) rfl;have c:∀A:List (List Rat),(qj A).length=A.length:=λ A=>aQ ..;refine Ye G F (nm:=8) (ib:=8) ⟨by rw[c];omega,ac,E7 h1,⟨E7 e,E7 h3,E7 h4⟩,by show R.length<=_;omega,by show C.length<=_;omega,by show(qj I).length<=_;rw[c];omega,by show(qj O).length<=_;rw[c];omega,by show(qj b).length<=_;rw[c];omega,Ff rfl al,Ff rfl al,λ _ _ _=>Ff rfl ?_,λ _=>Ff rfl ?_⟩;show R.length*_<=_;rw[g,r6 rfl];decide;rw[r6 rfl];exact bx (ck _ hw) al
def abk:ag ab G 13 [] (.bool true):=by have l:=DM G (nC G 1 1 1) (nD G 1) (nC G 2 1 2) (nD G 2);have k:=DM G (nC G 2 1 2) (nD G 2) (nC G 4 1 4) (nD G 4);have g:=I6 G (nC G 1 1 1) (nD G 1);have d:=I6 G (nC G 2 1 2) (nD G 2);have e:=DM G (nC G (-2) 1 (-2)) (nD G (-2)) (nC G 1 1 1) (nD G 1);have h:=I6 G (nC G 1 4 (1/4)) (nD G (1/4));have f:=I6 G (nC G 1 2 (1/2)) (nD G (1/2));have c:=DM G (nC G 2 2 1 (by decide+kernel)) (nD G 1) (nC G (-1) 2 (-1/2)) (nD G (-1/2));have b:=DM G (nC G 2 1 2) (nD G 2) (nC G (-1) 1 (-1)) (nD G (-1));have m:=Fe G true amL;have j:=Fe G true amM;have o:=Fe G false amN;have n:=Fe G false amK;exact aI [jt [1] 1 [.int .i64 1,.int .i64 2] (A:=[.int .i64 1]) l,jt [3] 1 [.int .i64 2,.int .i64 4] (A:=[.int .i64 1]) k,jt [9] 1 [.int .i64 1] (A:=[.int .i64 1]) g,jt [12] 1 [.int .i64 2] (A:=[.int .i64 1]) d,jt [15] 1 [.int .i64 (-2),.int .i64 1] (A:=[.int .i64 1]) e,jt [23] 1 [.int .i64 1] (A:=[.int .i64 4]) h,jt [26] 1 [.int .i64 1] (A:=[.int .i64 2]) f,jt [29] 1 [.int .i64 2,.int .i64 (-1)] (A:=[.int .i64 2]) c,jt [38] 1 [.int .i64 2,.int .i64 (-1)] (A:=[.int .i64 1]) b,Gi [5] [7] [8] [11] [14] [17] false false false false false false kG sH 2 m,Gi [5] [21] [22] [25] [28] [31] true false false false false false kG yr 2 j,Gi [5] [7] [8] [11] [14] [40] true true true true true false kG Kc 2 o,Gi [5] [7] [8] [11] [14] [17] true true true true true true kG sH 3 n]
end
end Go.Proofs.YtpcofcmencgkbaaGreat
namespace Go.ay.eU
noncomputable section
open Classical
variable{K:bY}{n n' m w:Nat}{M:List (List aj)}
theorem ad6{A m:ee}{pv:List Nat}(h:jA n w w A m pv){z:Nat->ax}(hz:∀i,i<n->bC w (fun k=>bs A i k*z k)=0)(hf:∀k,k<w->k∉pv->z k=0){k:Nat}(hk:k<w):z k=0:=by
 by_cases hp:k∈pv
 . obtain⟨a,ha,rfl⟩:=gJ.1 hp;have s:=TB h hz ha;have hn:=h.qq;rw[pz hk _ fun i hi hne=>?_]at s;.have o:=h.one a ha a ac;rw[if_pos rfl,a4 ha]at o;rw[o]at s;grind
   . by_cases SV:i∈pv;.obtain⟨b,hb,rfl⟩:=gJ.1 SV;have o:=h.one b hb a ac;rw[if_neg (fun e=>hne (by subst e;rfl)),a4 hb]at o;rw[o];grind
     .rw[hf i hi SV];grind
 .exact hf k hk hp
structure PU(K:bY)(n':Nat)(M:List (List aj))(w:Nat)(pv:List Nat)(aP:List (List aj)):Prop where
 g:bj K n' w aP
 l:aP.length=(bI pv w).length
 e:∀k,k<w->k∉pv->∀j,j<w->j∉pv->((aP.getD (bI pv k).length []).getD j (aS 0)).2.val=if j=k then 1 else 0
 z:∀k,k<w->k∉pv->∀i,i<M.length->bC w (fun j=>bs (bR M) i j*((aP.getD (bI pv k).length []).getD j (aS 0)).2.val)=0
theorem Vh{pv:List Nat}{k:Nat}(hk:k<=w):(bI pv k).length<=(bI pv w).length:=by obtain⟨d,rfl⟩:=Nat.exists_eq_add_of_le hk;unfold bI;rw[show a8 (k+d)=a8 k++(a8 d).map (k+·)from List.range_add,lL,cP];exact Nat.le_add_right _ _
theorem Vi{pv:List Nat}{k:Nat}(hp:k∈pv):bI pv (k+1)=bI pv k:=by unfold bI;rw[ix,lL,Ey,if_neg (by simpa using hp)];exact List.append_nil _
theorem MW{pv:List Nat}{k:Nat}(hp:k∉pv):(bI pv (k+1)).length=(bI pv k).length+1:=by unfold bI;rw[ix,lL,Ey,if_pos (by simpa using hp),cP];rfl
theorem Vg{pv:List Nat}{k:Nat}(hk:k<w)(hp:k∉pv):(bI pv k).length<(bI pv w).length:=by have:=Vh (pv:=pv) (show k+1<=w from hk);rwa[MW hp]at this
def dP(aP:List (List aj))(pv:List Nat)(x:Nat->aj):Nat->Nat->aj|0,_=>aS 0|k+1,j=>if k∈pv then dP aP pv x k j else(dP aP pv x k j).add (((aP.getD (bI pv k).length []).getD j (aS 0)).mul (x k))
def cV(aP:List (List aj))(b:Nat->Int):Nat->Nat->aj|0,_=>aS 0|i+1,j=>(cV aP b i j).add (((aP.getD i []).getD j (aS 0)).mul (aS (b i)))
theorem aej{r:List aj}(h:dn K n r)(j:Nat):aj.G K n (r.getD j (aS 0)):=by
 by_cases e:j<r.length;.rw[a4 e];exact h _ (bf e)
 .rw[dt,pP ac];exact AZ
theorem getM{M:List (List aj)}(h:k8 K n M)(i j:Nat):aj.G K n ((M.getD i []).getD j (aS 0)):=by
 by_cases e:i<M.length;.rw[a4 e];exact aej (h _ (bf e)) j
 . have:M.getD i []=[]:=by rw[dt,pP ac];rfl
   rw[this];exact AZ
theorem Ko{b:Int}(h:b.natAbs<=8):aj.G K 3 (aS (b:Rat)):=az.G.rat (by rw[Rat.num_intCast];exact h) (by rw[Rat.den_intCast];decide)
theorem Fy{aP:List (List aj)}(hk:k8 K n aP){b:Nat->Int}(hb:∀i,(b i).natAbs<=8):∀i j,aj.G K (i*(n+3+K.c+1)) (cV aP b i j)|0,_=>AZ|i+1,j=>((Fy hk hb i j).add ((getM hk i j).mul (Ko (hb i)))).mono (by rw[fU];omega)
theorem Fz{aP:List (List aj)}(hk:k8 K n aP){pv:List Nat}{x:Nat->aj}(hx:∀k,aj.G K m (x k)):∀k j,aj.G K ((bI pv k).length*(n+m+K.c+1)) (dP aP pv x k j)
 |0,_=>AZ|k+1,j=>by
   unfold dP;by_cases h:k∈pv;.rw[if_pos h,Vi h];exact Fz hk hx k j
   .rw[if_neg h,MW h];exact((Fz hk hx k j).add ((getM hk _ j).mul (hx k))).mono (by rw[fU];omega)
theorem Y6:(aS 0).2.val=0:=(az.alE 0).trans rfl
theorem Q7{aP:List (List aj)}(hk:k8 K n aP){b:Nat->Int}(hb:∀i,(b i).natAbs<=8):∀i j,(cV aP b i j).2.val=bC i fun s=>((aP.getD s []).getD j (aS 0)).2.val*(aS (b s)).2.val|0,_=>Y6|i+1,j=>by have g:=Fy hk hb i j;have a:=getM hk i j;have c:=Ko (K:=K) (hb i);refine(az.Bf (vA g) (vA (a.mul c))).trans ?_;rw[Q7 hk hb i j];exact congrArg _ (az.wX (vA a) (vA c))
theorem Q8{aP:List (List aj)}(hk:k8 K n aP){pv:List Nat}{x:Nat->aj}(hx:∀k,aj.G K m (x k)):∀k j,(dP aP pv x k j).2.val=bC k fun s=>if s∈pv then 0 else((aP.getD (bI pv s).length []).getD j (aS 0)).2.val*(x s).2.val
 |0,_=>Y6|k+1,j=>by
   have ih:=Q8 hk hx k j (pv:=pv);unfold dP;show _=bC k _+if k∈pv then 0 else((aP.getD (bI pv k).length []).getD j (aS 0)).2.val*(x k).2.val;by_cases h:k∈pv;.rw[if_pos h,if_pos h,ih];grind
   .rw[if_neg h,if_neg h];have g:=Fz hk hx k j (pv:=pv);have a:=getM hk (bI pv k).length j;refine(az.Bf (vA g) (vA (a.mul (hx k)))).trans ?_;rw[ih];exact congrArg _ (az.wX (vA a) (vA (hx k)))
def eo(M:List (List aj))(w:Nat):List (List aj):=if M.isEmpty then IB w else uO M
theorem Ty(aX:bj K n w M):bj K (grow K (bl M).2.length n) w (eo M w)/\∀s,s<(eo M w).length->∀i,i<M.length->bC w (fun j=>bs (bR M) i j*(((eo M w).getD s []).getD j (aS 0)).2.val)=0:=by
 unfold eo;by_cases e:M=[];.subst e;exact⟨qg w,fun s _ i hi=>(fv _ hi).elim⟩
 . have LQ:M.isEmpty=false:=by rw[Es];exact fun h=>e (aau.1 h)
   rw[LQ,if_neg A0];have g:=ahs aX (a2 _);rw[gj aX e]at g;refine⟨g,fun s hs i hi=>?_⟩;have hn:=vZ (lE aX).oY;have E:=r0 aX e;have dE:=(lE aX).wV;unfold uO at hs⊢;rw[gj aX e]at hs⊢;rw[a4 hs,iz];have hq:=bf (by rw[aQ]at hs;exact hs:s<(List.filter (fun i=>!(bl M).2.contains i) (a8 w)).length);generalize(List.filter (fun i=>!(bl M).2.contains i) (a8 w))[s]'_=q at*;have afO:=c8.1 (qN.1 hq).1;have SY:q∉(bl M).2:=by simpa using(qN.1 hq).2
   rw[<-GZ E afO SY hi];exact cQ fun k hk=>by rw[L4 hn SY hk dE]
theorem ahn(aX:bj K n w M):(eo M w).length=(bI (bl M).2 w).length:=by
 unfold eo;by_cases e:M=[];.subst e;have e:bI (bl ([]:List (List aj))).2 w=a8 w:=Py.2 fun _ _=>rfl;rw[e,dx];exact o8 w
 . have LQ:M.isEmpty=false:=by rw[Es];exact fun h=>e (aau.1 h)
   rw[LQ,if_neg A0];unfold uO;rw[gj aX e,aQ];rfl
theorem acW(aX:bj K n w M){aP:List (List aj)}(H:PU K n' M w (bl M).2 aP){b:Nat->Int}(hb:∀i,(b i).natAbs<=8){L j:Nat}(bk:L=(eo M w).length)(hj:j<w):(cV (eo M w) b L j).2.val=(dP aP (bl M).2 (cV (eo M w) b L) w j).2.val:=by
 subst bk;obtain⟨g,z⟩:=Ty aX;have gx:=Fy g.pX hb (eo M w).length;have X:=fun j=>Q7 g.pX hb (eo M w).length j;have Y:=fun j=>Q8 H.g.pX gx (pv:=(bl M).2) w j;suffices h:(cV (eo M w) b (eo M w).length j).2.val-(dP aP (bl M).2 (cV (eo M w) b (eo M w).length) w j).2.val=0 by grind
 have mx:∀i,i<M.length->bC w (fun k=>bs (bR M) i k*(cV (eo M w) b (eo M w).length k).2.val)=0:=fun i hi=>by rw[<-nL (eo M w).length];simp only[X,<-kU];rw[pA];refine cQ fun s hs=>?_;rw[show(fun j=>bs (bR M) i j*((((eo M w).getD s []).getD j (aS 0)).2.val*(aS (b s)).2.val))=fun j=>bs (bR M) i j*(((eo M w).getD s []).getD j (aS 0)).2.val*(aS (b s)).2.val from funext fun j=>ap,tw,z s hs i hi];grind
 have ai8:∀i,i<M.length->bC w (fun k=>bs (bR M) i k*(dP aP (bl M).2 (cV (eo M w) b (eo M w).length) w k).2.val)=0:=fun i hi=>by
   rw[<-nL w];simp only[Y,<-kU];rw[pA];refine cQ fun s hs=>?_;by_cases h:s∈(bl M).2;.simp only[if_pos h];refine(cQ (g:=fun _=>0) fun j _=>?_).trans (nL w);generalize bs (bR M) i j=u;grind
   .simp only[if_neg h];generalize(cV (eo M w) b (eo M w).length s).2.val=v;rw[show(fun j=>bs (bR M) i j*(((aP.getD (bI (bl M).2 s).length []).getD j (aS 0)).2.val*v))=fun j=>bs (bR M) i j*((aP.getD (bI (bl M).2 s).length []).getD j (aS 0)).2.val*v from funext fun j=>ap,tw,H.z s hs h i hi];grind
 have fr:∀k,k<w->k∉(bl M).2->(cV (eo M w) b (eo M w).length k).2.val-(dP aP (bl M).2 (cV (eo M w) b (eo M w).length) w k).2.val=0:=fun k hk hp=>by
   rw[Y k,pz hk _ fun i hi hne=>?_,if_neg hp,H.e k hk hp k hk hp,if_pos rfl];.grind
   . split;.rfl
     .next h=>rw[H.e i hi h k hk hp,if_neg (fun e=>hne e.symm)];grind
 by_cases e:M=[];.subst e;exact fr j hj fun h=>(cS h).elim
 .refine ad6 (z:=fun j=>(cV (eo M w) b (eo M w).length j).2.val-(dP aP (bl M).2 (cV (eo M w) b (eo M w).length) w j).2.val) (r0 aX e) (fun i hi=>?_) fr hj;have:=mx i hi;have:=ai8 i hi;rw[show(fun k=>bs (bR M) i k*((cV (eo M w) b (eo M w).length k).2.val-(dP aP (bl M).2 (cV (eo M w) b (eo M w).length) w k).2.val))=fun k=>bs (bR M) i k*(cV (eo M w) b (eo M w).length k).2.val-bs (bR M) i k*(dP aP (bl M).2 (cV (eo M w) b (eo M w).length) w k).2.val from funext fun k=>ap,Xn];grind
end
end Go.ay.eU
namespace Go.Proofs.YtpcofcmencgkbaaGreat
section
open Go.ay Go.ay.eU Go.Proofs Go.Lib
noncomputable def T4{G:Nat->Option (List aa)}(aB:dO)(k N n0 E:Nat)(q0:a7)(T:Nat->a7->List (Nat×aa))(K:Nat->a7->List (bt×aG))(e:cf)(c5:a7->List (Nat×aa))(cm:a7->List (bt×aG)){b:Nat}[gh 0 b cm](hr:∀i,i<N->fe ab G (aZ aB k) aB.aK (b6 9) .normal (T i) (K i) (T (i+1)) (K (i+1)))(he:fe ab G (aZ aB k) aB.aK (b6 9) e (T N) (K N) c5 cm){t0:List (Nat×aa)}{k0:List (bt×aG)}(e0:T 0 q0=t0:=by rfl)(e1:K 0 q0=k0:=by rfl)(h0:pn ((List.range' 0 8).map q0)=true:=by kernel_rfl)(hN:n0+b6 9*N+b6 9<=E:=by unfold b6;omega)(hne:e≠.normal:=by simp)(hb:b<=8:=by decide):aR ab G:=.h9 [0] (aZ aB k) (fr aB.aK t0) k0 n0 e (fr aB.aK (c5 q0)) (b5 (cm q0)) E (by rw[<-e0,<-e1];exact Ci (tk h0) hb hr he hne hN)
def dB(v:List Nat)(i:Nat):Int:=if i<v.length then((v.getD i 0%7:Nat):Int)-3 else 1
theorem TG(v:List Nat)(i:Nat):(dB v i).natAbs<=8:=by unfold dB;split<;>omega
variable(G:Nat->Option (List aa)){K:bY}{q e r:Nat}(F:dN K q e r){n m w i k:Nat}{x0 x1 bE cB gy:aa}{bQ aP:List (List aj)}{v C:List Nat}
abbrev TD(x0 x1 bE cB gy:aa):aG:=⟨[.agg [x0,x1,bE,cB,gy]],5,false⟩
noncomputable abbrev wQ(v:List Nat)(bQ:List (List aj))(w i:Nat)(q:a7):List (Nat×aa):=[(1,.sl 1 (v.map u8)),(6,aA w),(8,.ref (q 1) 0 0),(10,.ai (q 0) 2 0 w false),(74,aN bQ),(75,.int .i64 ((bQ.map ar).length:Nat)),(76,aA i)]
noncomputable abbrev Ca(v:List Nat)(bQ:List (List aj))(w i:Nat)(row:List aj)(b:Int)(j:Nat)(q:a7):List (Nat×aa):=[(1,.sl 1 (v.map u8)),(6,aA w),(8,.ref (q 1) 0 0),(10,.ai (q 0) 2 0 w false),(74,aN bQ),(75,.int .i64 ((bQ.map ar).length:Nat)),(76,aA i),(12,ar row),(13,.int .i64 b),(93,aA w),(94,aA j)]
noncomputable abbrev ks(x0 x1 bE cB gy:aa)(w:Nat)(f:Nat->aj)(q:a7):List (bt×aG):=[(q 0,⟨(aY w f).map aO,2,false⟩),(q 1,TD x0 x1 bE cB gy)]
variable [bg x0][bg x1][bg bE][bg cB][bg gy]
include F
theorem ahv{row:List aj}{b:Int}{f g:Nat->aj}(oh:row.length=w)(cx:w<=9000)(hb:b.natAbs<=8)(hr:dn K n row)(hf:∀j,(f j).G K m)(h1:bm K q n)(h2:bm K q m)(h3:bm K q (n+3+K.c)){j:Nat}(hj:j<w)(hg:∀t,t<w->g t=if t=j then(f j).add ((row.getD j (aS 0)).mul (aS b))else f t):fe ab G (aZ (ak 11) 1) (ak 11).aK 200 .normal (Ca v bQ w i row b j) (ks x0 x1 bE cB gy w f) (Ca v bQ w i row b (j+1)) (ks x0 x1 bE cB gy w g):=by have wE:j<row.length:=ac;have fo:=hr _ (bf wE);rw[a4 wE]at hg;have Ql:=Ko (K:=K) hb;have zq:=Al G F fo Ql h1 (show bm K q 3 by unfold bm at*;omega);have a1:=DL G F (hf j) (fo.mul Ql) h2 h3;exact en [cW 95 (dv hj),aV 100 2 aO wE,hc (Mg G b ac ac),hc zq,cy 112 2 [1] false w j,fx 113 2 true [1] 2 w aO f j (f j).T,hc a1,cy 118 2 [1] false w j,kM 118 2 [1] 2 w aO f g j _ hg (rV _),bh 119 j] an
theorem ahu(hk:bj K n w bQ)(cx:w<=9000)(hl:bQ.length<=8000)(hf:∀j,(cV bQ (dB v) i j).G K m)(Lu:∀j,(cV bQ (dB v) (i+1) j).G K m)(h1:bm K q n)(h2:bm K q m)(h3:bm K q (n+3+K.c))(hi:i<bQ.length):fe ab G (aZ (ak 11) 0) (ak 11).aK (b6 9) .normal (wQ v bQ w i) (ks x0 x1 bE cB gy w (cV bQ (dB v) i)) (wQ v bQ w (i+1)) (ks x0 x1 bE cB gy w (cV bQ (dB v) (i+1))):=by
 obtain⟨oh,hr⟩:=hk _ (bf hi);have hs:=TG v i;have e0:aY w (fun t=>if t<0 then cV bQ (dB v) (i+1) t else cV bQ (dB v) i t)=aY w (cV bQ (dB v) i):=ym fun j _=>if_neg (fv _);have e1:aY w (fun t=>if t<w then cV bQ (dB v) (i+1) t else cV bQ (dB v) i t)=aY w (cV bQ (dB v) (i+1)):=ym fun j hj=>if_pos hj;have rd:=fun j(hj:j<w)=>ahv G F (v:=v) (bQ:=bQ) (i:=i) (x0:=x0) (x1:=x1) (bE:=bE) (cB:=cB) (gy:=gy) (b:=dB v i) (f:=fun t=>if t<j then cV bQ (dB v) (i+1) t else cV bQ (dB v) i t) (g:=fun t=>if t<j+1 then cV bQ (dB v) (i+1) t else cV bQ (dB v) i t) oh cx hs hr (fun t=>by split;exact Lu t;exact hf t) h1 h2 h3 hj (fun t ht=>by
   by_cases e:t=j;.subst e;rw[if_pos (Nat.lt_succ_self _),if_pos rfl,if_neg (Nat.lt_irrefl _)];show aj.add _ (aj.mul ((bQ.getD i []).getD t _) _)=_;rw[a4 hi]
   . rw[if_neg e];by_cases h:t<j;.rw[if_pos h,if_pos ac]
     .rw[if_neg h,if_neg ac]);have ex:fe ab G (aZ (ak 11) 1) (ak 11).aK 200 (.exit 2) (Ca v bQ w i bQ[i] (dB v i) w) (ks x0 x1 bE cB gy w (fun t=>if t<w then cV bQ (dB v) (i+1) t else cV bQ (dB v) i t)) (wQ v bQ w i) (ks x0 x1 bE cB gy w (cV bQ (dB v) (i+1))):=by unfold ks;rw[e1];exact en [cW 95 (h7 (a2 w))] an
 by_cases hv:i<v.length
 . have es:dB v i=((v[i]%7:Nat):Int)-3:=by unfold dB;rw[if_pos hv,a4 hv]
   rw[es]at rd ex;have apf:=qM ((v[i]%7:Nat):Int) ac ac;have apg:=qM (((v[i]%7:Nat):Int)-3) ac ac;exact en [bB 77 ar hi,aV 79 1 ar hi,bB 84 u8 hv,aV 87 1 u8 hv,qa 89 .u8 v[i] 7,hw 90 apf,hw 91 apg,kN (ak 11) 1 0 w (a7.of [[1],[2]]) (Ca v bQ w i bQ[i] _) (fun j=>ks x0 x1 bE cB gy w (fun t=>if t<j then cV bQ (dB v) (i+1) t else cV bQ (dB v) i t)) (.exit 2) (wQ v bQ w i) (ks x0 x1 bE cB gy w (cV bQ (dB v) (i+1))) rd ex (k0:=ks x0 x1 bE cB gy w (cV bQ (dB v) i) (a7.of [[1],[2]])) rfl (by unfold ks;rw[e0]),bh 120 i] an
 . have es:dB v i=1:=by unfold dB;rw[if_neg hv]
   rw[es]at rd ex;exact en [bB 77 ar hi,aV 79 1 ar hi,cW 84 (show decide ((i:Int)<(((v.map u8).length:Nat):Int))=false from decide_eq_false (by rw[aQ];omega)),kN (ak 11) 1 0 w (a7.of [[1],[2]]) (Ca v bQ w i bQ[i] _) (fun j=>ks x0 x1 bE cB gy w (fun t=>if t<j then cV bQ (dB v) (i+1) t else cV bQ (dB v) i t)) (.exit 2) (wQ v bQ w i) (ks x0 x1 bE cB gy w (cV bQ (dB v) (i+1))) rd ex (k0:=ks x0 x1 bE cB gy w (cV bQ (dB v) i) (a7.of [[1],[2]])) rfl (by unfold ks;rw[e0]),bh 120 i] an
omit F in theorem ahx{f:Nat->aj}:fe ab G (aZ (ak 11) 0) (ak 11).aK (b6 9) (.exit 0) (wQ v bQ w bQ.length) (ks x0 x1 bE cB gy w f) (fun q=>[(6,aA w),(8,.ref (q 1) 0 0),(10,.ai (q 0) 2 0 w false)]) (ks x0 x1 bE cB gy w f):=en [dH 77 ar bQ] an
end
end Go.Proofs.YtpcofcmencgkbaaGreat
