/- For the claim of VerifierAccepts: parts XV5, LQ5, XV6, XV7, XV8, XV9, XVA, XVB, XVC, XVD, XVE, XVF, MXG, LRA, MP2, XVG. -/
import Derived.Test.YtpcofcmencgkbaaGreatC11
import Derived.Test.YtpcofcmencgkbaaGreatC07
import Derived.Test.YtpcofcmencgkbaaGreatC10
set_option linter.defProp false
set_option linter.unusedSectionVars false
set_option linter.unusedSimpArgs false
set_option linter.unusedVariables false
set_option maxRecDepth 100000
open Bool renaming and_eq_true->gj,false_eq_true->iz
open Classical renaming byContradiction->oQ
open Go.IntKind renaming i64->cV,wrap_i64->c0
open Go.Proofs.Tryz renaming prog->ab
open Go.aA renaming Id->bz,hb->eB
open Go.aA.cv renaming jC->e9
open Go.aA.aB renaming s->aO
open Go.aA.bm renaming of->dH,s->pR
open Go.aA.ak renaming T->aP,rat->a3
open Go.aA.cd renaming int->KE
open Go.aA.fE renaming Own->yX,mW->r8
open Go.aA.aF renaming po->n6
open Go.aA.aQ renaming of->bB
open Go.aA.ag renaming oN->yY
open Go.aA.View renaming pure->fx,aM->mq
open Go.aA.dy renaming cons->bZ,nil->eH,pure->jJ
open Go.aA.gD renaming same->n5
open Go.aA.e6 renaming same->ji
open Int renaming ofNat->jj
open List renaming all_eq_true->ek,append_nil->mn,contains_iff_mem->jN,filter_append->ks,filter_cons->abI,filter_cons_of_neg->BL,filter_cons_of_pos->BM,getD_eq_getElem?_getD->dE,getElem?_eq_getElem->eu,getElem_map->gm,getElem_mem->bo,getElem_range->kT,getElem_zipWith->uO,isEmpty_iff->oU,length_append->cy,length_filter_le->qR,length_map->aL,length_nil->gR,length_pos_iff->fN,length_range->cR,length_singleton->lT,length_take->eZ,length_zipWith->gY,lookup->dC,lookup_cons->jh,map_append->dW,map_congr_left->kq,map_eq_nil_iff->gP,map_id'->n7,map_map->iA,map_singleton->gQ,mem_append->hJ,mem_cons->cp,mem_cons_of_mem->cX,mem_cons_self->cg,mem_filter->iU,mem_flatMap->g3,mem_iff_getElem->fy,mem_map->bd,mem_of_mem_take->gZ,mem_range->cb,mem_singleton->bU,nil_append->jK,nodup_range->pQ,not_mem_nil->ct,pairwise_cons->abJ,pairwise_lt_range->abK,range->aR,range'->uS,range_succ->gz,singleton_append->mo,take_length->gl
open Nat renaming le_add_right->pH,le_of_lt->h9,le_refl->a2,lt_irrefl->pM,lt_trichotomy->wm,min_self->n4,mod_eq_of_lt->dL,mul_le_mul_right->cr,not_lt_zero->ew,succ_mul->gB,zero_add->cI,zero_le->dF
open Option renaming getD_some->BN
set_option maxHeartbeats 4000000
namespace Go.Proofs.YtpcofcmencgkbaaGreat
section
open Go.aA Go.aA.fE Go.Proofs Go.Lib
variable(G:Nat->Option (List aa))
variable{M:List (List ak)}{g:Nat}{c:aa}[bg c]{p:Nat->Bool}(fe:M.length<=9000)(h:∀i(hi:i<M.length),ag ab G g [aj M[i],c] (.bool (p i)))
include fe h
def aiw(b:∀i,i<M.length->p i=false):ag ab G 138 [aD M,.fn (.func g) [] [c]] (.int .i64 (-1)):=by refine bK [gw (ao 138) 0 0 0 M.length (Hs M (.fn (.func g) [] [c])) (.exit 0) [] (λ i hi=>?_) (rd [cS 9 aj M])];have k:=h i hi;rw[b i hi]at k;exact rd [bu 9 aj hi,aU 14 1 aj hi,hc k,a5 18 i]
def aix{i:Nat}(hi:i<M.length)(d:p i=true)(f:∀j,j<i->p j=false):ag ab G 138 [aD M,.fn (.func g) [] [c]] (aq i):=by refine bK [gw (ao 138) 0 0 0 i (Hs M (.fn (.func g) [] [c])) .ret [(4,aq i)] (λ j e=>?_) ?_];have a:j<M.length:=ac;have k:=h j a;rw[f j e]at k;exact rd [bu 9 aj a,aU 14 1 aj a,hc k,a5 18 j];have k:=h i hi;rw[d]at k;exact rd [bu 9 aj hi,aU 14 1 aj hi,hc k]
end
section
open Go.aA Go.aA.fE Go.Proofs Go.Lib
variable(G:Nat->Option (List aa))
variable{K:b6}{q e r:Nat}(F:eb K q e r){n m:Nat}
include F
def afe{a:List ak}(d:cU K n a){k:Nat}(b:k<a.length)(f:bF K q n):ag ab G 153 [aj a,.cE [aq k] 0] (.bool (!(a.getD k (a3 0)).bM)):=by rw[aX b];have s:=xL G F (d _ (bo b)) f;exact aN [aU 6 2 aP b,hc s,hb 9 (oM (a:=a[k]) rfl)]
end
section
open Go.aA Go.aA.fE Go.Proofs Go.Lib
variable(G:Nat->Option (List aa))
structure qS where
 M:List (List ak)w:Nat
 h:Nat
 k:Nat
 t:Nat
 s:Nat->Nat
variable(S:qS)
abbrev IY:aJ:=⟨[.agg [.ar,.ar,.ar,.ar]],4,false⟩
noncomputable abbrev kA(q:bm):List (Nat×aa):=[(0,aD S.M),(2,.ref (q 5) 0 0),(4,.ah (q 1) 1 0 S.h false),(6,fo),(7,.ref (q 4) 0 0),(8,.ref (q 2) 0 0),(9,aq S.t),(31,aq S.w),(32,aq S.k)]
noncomputable abbrev SZ(d:ak)(z:aa)(q:bm):aJ:=⟨[.agg [.ah (q 1) 1 0 S.h false,z,aW d.2.T.2.ay,aK d.2.a]],4,false⟩
noncomputable abbrev oh(f:Nat->ak)(y d:ak)(q:bm):List (bz×aJ):=[(q 0,⟨(a7 (S.h*S.w) f).map aP,2,false⟩),(q 1,⟨(a7 S.h S.s).map (dB (q 0) S.w),1,false⟩),(q 2,⟨[aq S.k],1,false⟩),(q 3,⟨[y.T],2,false⟩),(q 4,SZ S d .ar q),(q 5,IY)]
noncomputable abbrev oi(f:Nat->ak)(y d:ak)(l:List aa)(q:bm):List (bz×aJ):=[(q 0,⟨(a7 (S.h*S.w) f).map aP,2,false⟩),(q 1,⟨(a7 S.h S.s).map (dB (q 0) S.w),1,false⟩),(q 2,⟨[aq S.k],1,false⟩),(q 3,⟨[y.T],2,false⟩),(q 4,SZ S d (.ah (q 6) 1 0 S.t false) q),(q 5,IY),(q 6,⟨l,1,false⟩)]
variable{S}
variable{K:b6}{q e r:Nat}(F:eb K q e r){n m:Nat}{f:Nat->ak}{y d:ak}(l:List aa)[bn l]
include F
def XZ(I:∀p,(f p).G K n)(v:y.G K n)(z:y.bM=false)(A:bF K q n)(u:bF K q (23*n+41*K.c))(J:S.t<S.h)(B:S.s S.t<S.h)(L:S.w<=9000)(i:Nat)(E:S.k+i<S.w)(o:Bool):iK ab G (aT (ao 110) 1) (ao 110).aH 200 .normal (λ q=>(12,aq (S.k+i))::(11,.ref (q 3) 0 0)::kA S q) (λ q=>if o then oi S (r8 f (S.s S.t*S.w) S.k (S.k+i) y) y d l q else oh S (r8 f (S.s S.t*S.w) S.k (S.k+i) y) y d q) (λ q=>(12,aq (S.k+(i+1)))::(11,.ref (q 3) 0 0)::kA S q) (λ q=>if o then oi S (r8 f (S.s S.t*S.w) S.k (S.k+(i+1)) y) y d l q else oh S (r8 f (S.s S.t*S.w) S.k (S.k+(i+1)) y) y d q):=by
 have bw:S.s S.t*S.w+S.w<=S.h*S.w:=by have:=cr S.w (show S.s S.t+1<=S.h from B);rw[gB]at this;exact this
 have C:=api (f:=f) (o:=S.s S.t*S.w) (k:=S.k) (j:=S.k+i) (y:=y);have g1:=I (S.s S.t*S.w+(S.k+i));have st:=apj (f:=f) (o:=S.s S.t*S.w) (y:=y) (pH S.k i);have x:=JR (i:=S.k+i) ac;rw[<-Nat.add_assoc];generalize S.k+i=j at*;rw[<-C]at g1 st;have D:=adK G F g1 v z A u;generalize r8 f (S.s S.t*S.w) S.k (j+1) y=H at*;generalize r8 f (S.s S.t*S.w) S.k j y=g at*;cases o<;>simp only[iz,if_true,if_false]<;>exact gy [cQ 86 1 [2] false S.h S.t,fX 87 1 false [2] 1 S.h (dB [1] S.w) S.s S.t (dB [1] S.w (S.s S.t)),hb 89 (dv E),cQ 94 1 [2] false S.h S.t,fX 95 1 false [2] 1 S.h (dB [1] S.w) S.s S.t (dB [1] S.w (S.s S.t)),cQ 100 1 [2] false S.h S.t,fX 101 1 false [2] 1 S.h (dB [1] S.w) S.s S.t (dB [1] S.w (S.s S.t)),ov 103 2 [1] (S.s S.t*S.w) S.w j true,fX 104 2 true [1] 2 (S.h*S.w) aP g (S.s S.t*S.w+j) (g (S.s S.t*S.w+j)).T,hc D,ov 107 2 [1] (S.s S.t*S.w) S.w j true,mJ 107 2 [1] 2 (S.h*S.w) aP g H (S.s S.t*S.w+j) ((g (S.s S.t*S.w+j)).div y) (λ p _=>st p) (vN _),hw 91 x]
def R1(O:yX S.h S.s)(x:S.t<S.h)(A:S.k<S.w)(J:S.w<=9000)(U:S.h<=9000)(ho:∀a,a<S.h->a≠S.t->∀j,j<S.w->(f (S.s a*S.w+j)).G K n)(B:∀j,j<S.w->(f (S.s S.t*S.w+j)).G K m)(b1:bF K q n)(b2:bF K q m)(b3:bF K q (n+m+K.c))(i:Nat)(v:i<S.h)(o:Bool):iK ab G (aT (ao 110) 2) (ao 110).aH 200 .normal (λ q=>(110,aq i)::(108,.ah (q 1) 1 0 S.h false)::(109,aq S.h)::kA S q) (λ q=>if o then oi S (eR f S.s S.w S.t S.k i) y d l q else oh S (eR f S.s S.w S.t S.k i) y d q) (λ q=>(110,aq (i+1))::(108,.ah (q 1) 1 0 S.h false)::(109,aq S.h)::kA S q) (λ q=>if o then oi S (eR f S.s S.w S.t S.k (i+1)) y d l q else oh S (eR f S.s S.w S.t S.k (i+1)) y d q):=by
 have D:∀a,a<S.h->S.s a*S.w+S.w<=S.h*S.w:=λ a L=>by have:=cr S.w (show S.s a+1<=S.h from O.1 a L);rw[gB]at this;exact this
 have I:=Gj (f:=f) O x A i ac;have M:=D i v;have E:∀j,j<S.w->eR f S.s S.w S.t S.k i (S.s i*S.w+j)=f (S.s i*S.w+j):=λ j b=>by rw[I i v j b,if_neg ac]
 have P:∀j,j<S.w->eR f S.s S.w S.t S.k i (S.s S.t*S.w+j)=f (S.s S.t*S.w+j):=λ j b=>by rw[I S.t x j b,if_neg (λ q=>q.2.1 rfl)]
 by_cases e:i=S.t;have es:eR f S.s S.w S.t S.k (i+1)=eR f S.s S.w S.t S.k i:=if_neg (λ q=>q.1 e);have u:((i:Int)!=(S.t:Int))=false:=by rw[e];exact bne_self_eq_false _
 rw[es];generalize eR f S.s S.w S.t S.k i=g at*;cases o<;>simp only[iz,if_true,if_false]<;>exact gy [hb 111 (dv v),cQ 113 1 [2] false S.h i,fX 114 1 false [2] 1 S.h (dB [1] S.w) S.s i (dB [1] S.w (S.s i)),ov 117 2 [1] (S.s i*S.w) S.w S.k true,fX 118 2 true [1] 2 (S.h*S.w) aP g (S.s i*S.w+S.k) (g (S.s i*S.w+S.k)).T,hb 121 u,a5 136 i];have u:((i:Int)!=(S.t:Int))=true:=bne_iff_ne.2 ac;have g1:=ho i v e S.k A;rw[<-E S.k A]at g1;have iv:=xL G F g1 b1;cases z:(eR f S.s S.w S.t S.k i (S.s i*S.w+S.k)).bM with|true=>have es:eR f S.s S.w S.t S.k (i+1)=eR f S.s S.w S.t S.k i:=if_neg (λ q=>by rw[z]at q;cases q.2);rw[es];generalize eR f S.s S.w S.t S.k i=g at*;cases o<;>simp only[iz,if_true,if_false]<;>exact gy [hb 111 (dv v),cQ 113 1 [2] false S.h i,fX 114 1 false [2] 1 S.h (dB [1] S.w) S.s i (dB [1] S.w (S.s i)),ov 117 2 [1] (S.s i*S.w) S.w S.k true,fX 118 2 true [1] 2 (S.h*S.w) aP g (S.s i*S.w+S.k) (g (S.s i*S.w+S.k)).T,hb 121 u,hc iv,hb 125 (oM z),a5 136 i]|false=>
   have es:eR f S.s S.w S.t S.k (i+1)=iu (eR f S.s S.w S.t S.k i) (S.s i*S.w) (S.s S.t*S.w) S.k S.w (eR f S.s S.w S.t S.k i (S.s i*S.w+S.k)):=if_pos ⟨e,z⟩;have N:S.s S.t*S.w+S.w<=S.s i*S.w\/S.s i*S.w+S.w<=S.s S.t*S.w:=by rcases wm (S.s S.t) (S.s i)with h|h|h;left;have:=cr S.w (show S.s S.t+1<=S.s i from h);rw[gB]at this;exact this;exact(e (O.2 _ v _ x h.symm)).elim;right;have:=cr S.w (show S.s i+1<=S.s S.t from h);rw[gB]at this;exact this
   rw[es];have H:KW (S.h*S.w) (S.s i*S.w) (S.s S.t*S.w) S.w (eR f S.s S.w S.t S.k i) (eR f S.s S.w S.t S.k i (S.s i*S.w+S.k)) K q n m:=⟨λ j b=>by rw[E j b];exact ho i v e j b,λ j b=>by rw[P j b];exact B j b,g1,N,M,D _ x,J,b1,b2,b3⟩;have c:=λ p=>akQ G F H (h9 A) [1] p;generalize eR f S.s S.w S.t S.k i=g at*;generalize iu g (S.s i*S.w) (S.s S.t*S.w) S.k S.w (g (S.s i*S.w+S.k))=Q at*;cases o<;>simp only[iz,if_true,if_false]<;>exact gy [hb 111 (dv v),cQ 113 1 [2] false S.h i,fX 114 1 false [2] 1 S.h (dB [1] S.w) S.s i (dB [1] S.w (S.s i)),ov 117 2 [1] (S.s i*S.w) S.w S.k true,fX 118 2 true [1] 2 (S.h*S.w) aP g (S.s i*S.w+S.k) (g (S.s i*S.w+S.k)).T,hb 121 u,hc iv,hb 125 (oM z),cQ 131 1 [2] false S.h S.t,fX 132 1 false [2] 1 S.h (dB [1] S.w) S.s S.t (dB [1] S.w (S.s S.t)),G7 c,a5 136 i]
omit F in theorem S0{i:Nat}(h:S.k+i=S.w)(ht:S.t<S.h)(o:Bool):iK ab G (aT (ao 110) 1) (ao 110).aH 200 (.exit 2) (fun q=>(12,aq (S.k+i))::(11,.ref (q 3) 0 0)::kA S q) (fun q=>if o then oi S f y d l q else oh S f y d q) (kA S) (fun q=>if o then oi S f y d l q else oh S f y d q):=by cases o<;>simp only[iz,if_true,if_false]<;>exact gy [cQ 86 1 [2] false S.h S.t,fX 87 1 false [2] 1 S.h (dB [1] S.w) S.s S.t (dB [1] S.w (S.s S.t)),hb 89 (iW (Nat.le_of_eq h.symm))] an
omit F in theorem RY(o:Bool):iK ab G (aT (ao 110) 2) (ao 110).aH 200 (.exit 4) (fun q=>(110,aq S.h)::(108,.ah (q 1) 1 0 S.h false)::(109,aq S.h)::kA S q) (fun q=>if o then oi S f y d l q else oh S f y d q) (kA S) (fun q=>if o then oi S f y d l q else oh S f y d q):=by cases o<;>simp only[iz,if_true,if_false]<;>exact gy [hb 111 (iW (a2 S.h))] an
end
end Go.Proofs.YtpcofcmencgkbaaGreat
namespace Go.aA
def eX(q:bm)(d:Nat)(y:Id):bm:=λ k=>if k=d then y else q k
def Zu{q:bm}{d:Nat}{y z:Id}:eX (eX q d y) d z=eX q d z:=by funext k;unfold eX;split<;>rfl
def Pk{q:bm}{d:Nat}:eX q d (q d)=q:=by funext k;unfold eX;split<;>simp_all
def Wd{q:bm}:wX q↔∀i,i<8->∀j,j<8->q i=q j->i=j:=by unfold wX List.Nodup;rw[List.pairwise_map,List.pairwise_iff_getElem];constructor;intro h i a j b e;rcases wm i j with h1|h1|h1;exact(h i j (by simpa using a) (by simpa using b) h1 (by simpa using e)).elim;exact h1;exact(h j i (by simpa using b) (by simpa using a) h1 (by simpa using e.symm)).elim;intro h i j a b c e;simp only[List.length_range',List.getElem_range',Nat.one_mul,cI]at a b e;have:=h i a j b e;omega
structure jS(m:Nat)(q:bm):Prop where
 inj:∀i j,q i=q j->i=j
 old:∀k,∀j,m<=j->¬[j,0]<:+q k
def jS.nd{m:Nat}{q:bm}(g:jS m q):wX q:=Wd.2 λ i _ j _ e=>g.inj i j e
def jS.mono{m a:Nat}{q:bm}(g:jS m q)(h:m<=a):jS a q:=⟨g.inj,λ k j b=>g.old k j ac⟩
def jS.up{m w a d:Nat}{q:bm}(g:jS m q)(h:a<w)(l:List Nat):jS (m+w) (eX q d (l++[m+a,0])):=by have c:∀k,l++[m+a,0]≠q k:=λ k e=>g.old k (m+a) (pH _ _) (e▸List.suffix_append _ _);refine⟨λ i j e=>?_,λ k j f b=>?_⟩;unfold eX at e;split at e<;>split at e;omega;exact(c j e).elim;exact(c i e.symm).elim;exact g.inj i j e;unfold eX at b;split at b;have:=I3 b;omega;exact g.old k j ac b
def O5(w d:Nat)(y:Id):Bool:=mN y [d+1]||zW w y
def jS.next{m w d:Nat}{q:bm}{y:Id}(g:jS m q)(h:O5 w d y=true):jS (m+w) (eX q d (bT m [0] q.κ y)):=by unfold O5 at h;rw[Bool.or_eq_true]at h;rcases h with h|h;rw[sM.1 h];show jS (m+w) (eX q d (q d));rw[Pk];exact g.mono (pH _ _);obtain⟨l,a,b,rfl⟩:=ub h;rw[jb];exact g.up b l
def Ny(m:Nat):Id->Bool|[_]=>true|[0,0,_]=>false|i=>zW m i
def alh{m:Nat}{i:Id}(h:Ny m i=true):(∃a,i=[a])\/(zW m i=true/\∀k,i≠[0,0,k]):=by unfold Ny at h;split at h;exact .inl ⟨_,rfl⟩;cases h;next h1 h2=>exact .inr ⟨h,λ k e=>h2 k e⟩
def H6{l:List Id}{k:Nat}(h:k<l.length):dH l k=l[k]:=by unfold dH;rw[dE,eu h,BN]
def Dq{l:List Id}{k:Nat}(h:¬k<l.length):dH l k=[0,0,k]:=by unfold dH;rw[dE,List.getElem?_eq_none ac,Option.getD_none]
def jS.start{m:Nat}{l:List Id}(h:(rB l&&l.all (Ny m))=true)(h0:0<l.length):jS m (dH l):=by
 rw[gj]at h;have nd:=vM h.1;have g:=λ k(f:k<l.length)=>alh (ek.1 h.2 l[k] (bo f));have n:∀i j,i<l.length->dH l i≠[0,0,j]:=λ i j b e=>by rw[H6 b]at e;rcases g i b with⟨a,h⟩|⟨_,h⟩;rw[h]at e;simp at e;exact h j e
 refine⟨λ i j e=>?_,λ k j c d=>?_⟩;by_cases b:i<l.length;by_cases c:j<l.length;rw[H6 b,H6 c]at e;exact(List.getElem_inj nd).1 e;rw[Dq c]at e;exact(n i j b e).elim;by_cases c:j<l.length;rw[Dq b]at e;exact(n j i c e.symm).elim;rw[Dq b,Dq c]at e;simpa using e;by_cases f:k<l.length;rw[H6 f]at d;rcases g k f with⟨a,e⟩|⟨e,_⟩;rw[e]at d;exact X3 d;have⟨l',a,p,e⟩:=ub e;rw[e]at d;have:j=0+a:=I3 (m:=0) (by rwa[cI]);omega;rw[Dq f]at d;have⟨t,e⟩:=d;have o:=congrArg List.reverse e;simp at o;omega
section
variable{P:Program}{G:Nat->Option (List aa)}
def lW(P:Program)(G:Nat->Option (List aa))(c:cD)(n w d:Nat)(e:cn)(A:bm->List (Nat×aa))(bC:bm->List (Id×aJ))(B:bm->List (Nat×aa))(bO:bm->List (Id×aJ)):Prop:=∀(q:bm)(m:Nat),jS m q->bA P G [0] c (λ a s'=>a=e/\∃y,jS (m+w) (eX q d y)/\bN G [0] s' ⟨fr n (B (eX q d y)),bB (bO (eX q d y)),m+w⟩) ⟨fr n (A q),bB (bC q),m⟩
def Zt{q:bm}{d m:Nat}{y:Id}:(λ k=>bT m [0] q.κ (eX pR d y k))=eX q d (bT m [0] q.κ y):=by funext k;unfold eX;split<;>rfl
def qq{c:cD}{n w d a b:Nat}{e:cn}{A B:bm->List (Nat×aa)}{bC bO:bm->List (Id×aJ)}[nn A][nn B][gS 0 a bC][gS 0 b bO](y:Id)(j:List (aV P G))(h:hE (bO (eX pR d y)) (fr n (B (eX pR d y))) w (bY true 1000 c [0] j ⟨fr n (A pR),b8 (bC pR),0⟩)=hh e (bO (eX pR d y)) (fr n (B (eX pR d y))) (bY true 1000 c [0] j ⟨fr n (A pR),b8 (bC pR),0⟩):=by kernel_rfl)(l:O5 w d y=true:=by kernel_rfl)(k:a<=8:=by decide):lW P G c n w d e A bC B bO:=λ q m g=>bA.jC q.κ j (fr n (A pR)) (bC pR) e (fr n (B (eX pR d y))) (bO (eX pR d y)) w h (by rw[o7,nn.nat,bm.sT]) (by rw[gS.nat (i:=0) (f:=bC),bm.sT]) (by rw[o7,nn.nat,Zt]) (by rw[gS.nat (i:=0) (f:=bO),Zt]) (gS.nd (n:=a) g.nd k) λ s hw=>⟨rfl,_,g.next l,hw⟩
def ak7{m E d:Nat}{q:bm}(h0:jS m q)(b:m<=E):wX (eX q d [E,0]):=Wd.2 λ i _ j _ e=>by unfold eX at e;have a:∀k,[E,0]≠q k:=λ k e=>h0.old k E b (e▸List.suffix_refl _);split at e<;>split at e;omega;exact(a _ e).elim;exact(a _ e.symm).elim;exact h0.inj i j e
def Vh{c:cD}{n N w n0 E d b:Nat}{e:cn}{q:bm}{T:Nat->bm->List (Nat×aa)}{K:Nat->bm->List (Id×aJ)}{dx:bm->List (Nat×aa)}{cC:bm->List (Id×aJ)}[nn dx][gS 0 b cC](hb:b<=8)(h0:jS n0 q)(x:∀i,i<N->lW P G c n w d .normal (T i) (K i) (T (i+1)) (K (i+1)))(v:lW P G c n w d e (T N) (K N) dx cC)(o:e≠.normal)(r:n0+w*N+w<=E):bA P G [0] (.loop c) (λ h s'=>h=e/\bN G [0] s' ⟨fr n (dx (eX q d [E,0])),bB (cC (eX q d [E,0])),E+1⟩) ⟨fr n (T 0 q),bB (K 0 q),n0⟩:=by
 refine bA.z7 (α:=Nat×Id) (λ z=>⟨fr n (T z.1 (eX q d z.2)),bB (K z.1 (eX q d z.2)),n0+w*z.1⟩) (λ z=>z.1<=N/\jS (n0+w*z.1) (eX q d z.2)) (λ z=>N-z.1) (0,q d) (by rw[Nat.mul_zero];simp only[Pk];exact bN.refl _ _ _) ⟨dF _,by rw[Nat.mul_zero];simp only[Pk];exact h0⟩ ?_;rintro⟨i,z⟩⟨u,g⟩;simp only[]at u g⊢;by_cases l:i<N;refine(x i l _ _ g).mono λ h s'⟨h1,y,h2,h3⟩=>?_;subst h1;rw[show n0+w*i+w=n0+w*(i+1)by rw[Nat.mul_add,Nat.mul_one];omega]at h2 h3;rw[Zu]at h2 h3;exact⟨(i+1,y),⟨l,h2⟩,by simp only[];omega,h3⟩;obtain rfl:i=N:=ac;refine(v _ _ g).mono λ h s'⟨h1,y,h2,h3⟩=>?_;subst h1;rw[Zu]at h2 h3;have a:=bN.VN (G:=G) (π:=[0]) (q:=eX q d y d) (t:=fr n (dx (eX q d y))) (K:=cC (eX q d y)) r (gS.nd (n:=b) h2.nd hb);have l2:(λ k=>mv (eX q d y d) [E,0] (eX q d y k))=eX q d [E,0]:=by funext k;by_cases e:k=d;subst e;rw[Af];unfold eX;rw[if_pos rfl];rw[oH λ h=>e (h2.inj k d h)];unfold eX;rw[if_neg e,if_neg e]
 rw[o7,nn.nat,gS.nat (i:=0) (f:=cC),l2]at a;cases h with|normal=>exact(o rfl).elim|exit j=>exact⟨rfl,h3.trans a⟩|ret=>exact⟨rfl,h3.trans a⟩
def ajH{c:cD}{n N w n0 E d b:Nat}{e:cn}{q:bm}{T:Nat->bm->List (Nat×aa)}{K:Nat->bm->List (Id×aJ)}{dx:bm->List (Nat×aa)}{cC:bm->List (Id×aJ)}[nn dx][gS 0 b cC](hb:b<=8)(h0:jS n0 q)(o:∀i,i<N->lW P G c n w d .normal (T i) (K i) (T (i+1)) (K (i+1)))(m:lW P G c n w d e (T N) (K N) dx cC)(a:e≠.normal)(l:n0+w*N+w<=E):bA P G [0] (.loop c) (λ g s'=>g=e/\bN G [0] s' ⟨fr n (dx (eX q d [E,0])),e5.to (b8 (cC (eX q d [E,0]))),E+1⟩) ⟨fr n (T 0 q),bB (K 0 q),n0⟩:=by refine(Vh hb h0 o m a l).mono λ g s'⟨h1,h3⟩=>?_;subst h1;have h:(((cC (eX q d [E,0]))).map (·.1)).Nodup:=gS.nd (n:=b) (ak7 h0 ac) hb;have h4:=bN.toT h h3;cases g with|normal=>exact(a rfl).elim|exit j=>exact⟨rfl,h4⟩|ret=>exact⟨rfl,h4⟩
end
end Go.aA
namespace Go.Proofs.YtpcofcmencgkbaaGreat
section
open Go.aA Go.aA.fE Go.Proofs Go.Lib
variable(G:Nat->Option (List aa))
noncomputable def vt{w h t o k:Nat}{f:Nat->ak}{s:Nat->Nat}{z:Int}(O:yX h s)(l:t<=h)(e:o=t)(d:ag ab G 138 [aD (a7 (h-t) λ i=>a7 w λ j=>f (s (t+i)*w+j)),.fn (.func 153) [] [.cE [aq k] 0]] (.int .i64 z)):aV ab G:=TN (args:=[.ah [2] 1 o (h-t) false,.fn (.func 153) [] [.ref [2,0] 0 0]]) [([1],⟨(a7 (h*w) f).map aP,2,false⟩),([2],⟨(a7 h s).map (dB [1] w),1,false⟩),([2,0],⟨[aq k],1,false⟩)] d (by subst e;refine bZ (ZD (b:=[1]) (L:=h*w) (h:=h) (fr:=false) (L4:=false) (by simp[bB]) (by simp[bB,dC]) ac λ i g=>?_) (bZ (View.fn eH (bZ (View.ref (av:=⟨[aq k],1,false⟩) (by simp[bB,dC]) rfl (jJ λ c hc=>by rw[bU.1 hc];exact KE _ _)) eH)) eH);have:=cr w (show s i+1<=h from O.1 i g);rw[gB]at this;exact this) (sf.int _ _)
def TJ(key:Nat)(id a:bz)(l:List aa)(n:Nat)(x:aa)(e:l.length=n)(f:n<=9000)[h:b9 1 l](d:x.cells.all aa.one=true:=by rfl):aV ab G:=.st key [(a,⟨[x],1,false⟩),(id,⟨l,1,false⟩)] (.append 1 8 (.ah id 1 0 n false) (.ah a 1 0 1 false)) (λ p=>{val:=.ah p 1 0 (n+1) false,rd:=[id,a],up:=[(id,none),(p,some ⟨l++[x],1,false⟩)]}) (λ σ p c=>by subst e;have h1:=c (a,⟨[x],1,false⟩) am;have h2:=c (id,⟨l,1,false⟩) am;exact yl (σ:=σ) (p:=p) (id:=id) (k:=1) (bytes:=8) (len:=l.length) (x:=.ah a 1 0 1 false) (els:=l) (ys:=[x]) (rd:=[a]) (by rw[zr h1 rfl am];rfl) am h2 rfl (by simp;omega) (oD (by simp;omega)) (by simpa using d) (g9 (k:=1)))
noncomputable abbrev kn(M:List (List ak))(h w k:Nat)(q:bm):List (Nat×aa):=[(0,aD M),(2,.ref (q 3) 0 0),(4,.ah (q 1) 1 0 h false),(6,fo),(7,.ref (q 2) 0 0),(31,aq w),(32,aq k)]
noncomputable abbrev qo(h w:Nat)(f:Nat->ak)(s:Nat->Nat)(d:ak)(q:bm):List (bz×aJ):=[(q 0,⟨(a7 (h*w) f).map aP,2,false⟩),(q 1,⟨(a7 h s).map (dB (q 0) w),1,false⟩),(q 2,⟨[.agg [.ah (q 1) 1 0 h false,.ar,aW d.2.T.2.ay,aK d.2.a]],4,false⟩),(q 3,IY)]
noncomputable abbrev pt(h w:Nat)(f:Nat->ak)(s:Nat->Nat)(d:ak)(t:Nat)(l:List aa)(q:bm):List (bz×aJ):=[(q 0,⟨(a7 (h*w) f).map aP,2,false⟩),(q 1,⟨(a7 h s).map (dB (q 0) w),1,false⟩),(q 2,⟨[.agg [.ah (q 1) 1 0 h false,.ah (q 4) 1 0 t false,aW d.2.T.2.ay,aK d.2.a]],4,false⟩),(q 3,IY),(q 4,⟨l,1,false⟩)]
noncomputable abbrev oJ:cD:=aT (ao 110) 0
noncomputable abbrev lH:Nat:=(ao 110).aH
variable{M:List (List ak)}{h w k t:Nat}{f:Nat->ak}{s:Nat->Nat}{d:ak}{l:List aa}[b9 1 l][bn l]
theorem amm(O:yX h s)(c:k<w)(m:h<=9000)(n:w<=9000)(g:t<=h)(h0:0<h)(b:ag ab G 138 [aD (a7 (h-t) λ i=>a7 w λ j=>f (s (t+i)*w+j)),.fn (.func 153) [] [.cE [aq k] 0]] (.int .i64 (-1))):lW ab G oJ lH (cx 9) 4 .normal (kn M h w k) (pt h w f s d t l) (kn M h w (k+1)) (pt h w f s d t l):=by by_cases e:t<h;exact qq [5] [hb 33 (dv c),xo 40 1 [2] 0 h t false,vt G O g (cI t) b,a5 143 k];obtain rfl:t=h:=ac;rw[Nat.sub_self]at b;exact qq [5] [hb 33 (dv c),TU 40 1 [2] 0 t h0,xu (A:=[aD []]) [2,0] (aq k) 1 [aq k] b,a5 143 k]
def amn(O:yX h s)(c:k<w)(g:h<=9000)(e:w<=9000)(h0:0<h)(b:ag ab G 138 [aD (a7 (h-0) λ i=>a7 w λ j=>f (s (0+i)*w+j)),.fn (.func 153) [] [.cE [aq k] 0]] (.int .i64 (-1))):lW ab G oJ lH (cx 9) 4 .normal (kn M h w k) (qo h w f s d) (kn M h w (k+1)) (qo h w f s d):=qq [5] [hb 33 (dv c),xo 40 1 [2] 0 h 0 false,vt G O (dF _) rfl b,a5 143 k]
end
section
open Go.aA Go.aA.fE Go.Proofs Go.Lib
structure QZ(K:b6)(q n:Nat)(S:qS)(f:Nat->ak):Prop where
 O:yX S.h S.s
 hf:∀p,(f p).G K n
 hk:S.k<S.w
 ht:S.t<S.h
 cw:S.w<=9000
 fe:S.h<=9000
 hz:(f (S.s S.t*S.w+S.k)).bM=false
 b1:bF K q n
 b2:bF K q (24*n+42*K.c)b3:bF K q (n+(24*n+42*K.c)+K.c)
noncomputable abbrev qS.y(S:qS)(f:Nat->ak):ak:=f (S.s S.t*S.w+S.k)
noncomputable abbrev qS.f1(S:qS)(f:Nat->ak):Nat->ak:=r8 f (S.s S.t*S.w) S.k S.w (S.y f)
noncomputable abbrev qS.f2(S:qS)(f:Nat->ak):Nat->ak:=eR (S.f1 f) S.s S.w S.t S.k S.h
variable(G:Nat->Option (List aa)){K:b6}{q e r:Nat}(F:eb K q e r){n:Nat}{S:qS}{f:Nat->ak}(H:QZ K q n S f)(d:ak)(l:List aa)[bn l]
include H
omit [bn l]in theorem S2(a:Nat)(ha:a<S.h)(j:Nat)(hj:j<S.w):S.f1 f (S.s a*S.w+j)=if a=S.t/\S.k<=j then(f (S.s S.t*S.w+j)).div (S.y f)else f (S.s a*S.w+j):=by
 unfold qS.f1 r8;by_cases e:a=S.t
 . subst e;by_cases vv:S.k<=j;.rw[if_pos ⟨ac,ac⟩,if_pos ⟨rfl,vv⟩]
   .rw[if_neg ac,if_neg ac]
 .rw[if_neg (fun q=>e (H.O.2 _ ha _ H.ht (N2 hj ac q.2))),if_neg (fun q=>e q.1)]
omit [bn l]in theorem S1(p:Nat):(S.f1 f p).G K (24*n+42*K.c):=by
 unfold qS.f1 r8;split;.exact((H.hf p).div (H.hf _)).mono ac
 .exact(H.hf p).mono ac
include F
noncomputable def XX(a:Nat)(h0:rB ((uS 0 8).map (dH [[1],[2],[2,0],[a,0],[3],[4],[5]]))=true:=by kernel_rfl):aV ab G:=have b:S.k+(S.w-S.k)=S.w:=by have:=H.hk;omega
 oF (ao 110) 1 0 (S.w-S.k) (dH [[1],[2],[2,0],[a,0],[3],[4],[5]]) (λ i q=>(12,aq (S.k+i))::(11,.ref (q 3) 0 0)::kA S q) (λ i q=>oi S (r8 f (S.s S.t*S.w) S.k (S.k+i) (S.y f)) (S.y f) d l q) (.exit 2) (kA S) (λ q=>oi S (S.f1 f) (S.y f) d l q) (λ i g=>XZ G F l H.hf (H.hf _) H.hz H.b1 (by have:=H.b2;omega) H.ht (H.O.1 _ H.ht) H.cw i ac true) (by have x:=S0 G l (f:=S.f1 f) (y:=S.y f) (d:=d) b H.ht true;rw[b]at x⊢;exact x) (t0:=(12,aq S.k)::(11,.ref [a,0] 0 0)::kA S (dH [[1],[2],[2,0],[a,0],[3],[4],[5]])) (k0:=oi S f (S.y f) d l (dH [[1],[2],[2,0],[a,0],[3],[4],[5]])) rfl (by simp only[Nat.add_zero,X0]) (h0:=h0) (hN:=by have:=H.cw;omega)
noncomputable def RZ(b:Nat)(h0:rB ((uS 0 8).map (dH [[1],[2],[2,0],[b,0],[3],[4],[5]]))=true:=by kernel_rfl):aV ab G:=oF (ao 110) 2 1 S.h (dH [[1],[2],[2,0],[b,0],[3],[4],[5]]) (λ i q=>(110,aq i)::(108,.ah (q 1) 1 0 S.h false)::(109,aq S.h)::kA S q) (λ i q=>oi S (eR (S.f1 f) S.s S.w S.t S.k i) (S.y f) d l q) (.exit 4) (kA S) (λ q=>oi S (S.f2 f) (S.y f) d l q) (λ i o=>R1 G F l H.O H.ht H.hk H.cw H.fe (λ a p c j m=>by rw[S2 H a p j m,if_neg (λ q=>c q.1)];exact H.hf _) (λ j _=>S1 H _) H.b1 H.b2 H.b3 i o true) (RY G l true) (t0:=(110,aq 0)::(108,.ah [2] 1 0 S.h false)::(109,aq S.h)::kA S (dH [[1],[2],[2,0],[b,0],[3],[4],[5]])) (k0:=oi S (S.f1 f) (S.y f) d l (dH [[1],[2],[2,0],[b,0],[3],[4],[5]])) rfl rfl (h0:=h0) (hN:=by have:=H.fe;omega)
noncomputable def XY(a:Nat)(h0:rB ((uS 0 8).map (dH [[1],[2],[2,0],[a,0],[3],[4],[5]]))=true:=by kernel_rfl):aV ab G:=have b:S.k+(S.w-S.k)=S.w:=by have:=H.hk;omega
 oF (ao 110) 1 0 (S.w-S.k) (dH [[1],[2],[2,0],[a,0],[3],[4],[5]]) (λ i q=>(12,aq (S.k+i))::(11,.ref (q 3) 0 0)::kA S q) (λ i q=>oh S (r8 f (S.s S.t*S.w) S.k (S.k+i) (S.y f)) (S.y f) d q) (.exit 2) (kA S) (λ q=>oh S (S.f1 f) (S.y f) d q) (λ i g=>XZ G F l H.hf (H.hf _) H.hz H.b1 (by have:=H.b2;omega) H.ht (H.O.1 _ H.ht) H.cw i ac false) (by have x:=S0 G l (f:=S.f1 f) (y:=S.y f) (d:=d) b H.ht false;rw[b]at x⊢;exact x) (t0:=(12,aq S.k)::(11,.ref [a,0] 0 0)::kA S (dH [[1],[2],[2,0],[a,0],[3],[4],[5]])) (k0:=oh S f (S.y f) d (dH [[1],[2],[2,0],[a,0],[3],[4],[5]])) rfl (by simp only[Nat.add_zero,X0]) (h0:=h0) (hN:=by have:=H.cw;omega)
noncomputable def R0(b:Nat)(h0:rB ((uS 0 8).map (dH [[1],[2],[2,0],[b,0],[3],[4],[5]]))=true:=by kernel_rfl):aV ab G:=oF (ao 110) 2 1 S.h (dH [[1],[2],[2,0],[b,0],[3],[4],[5]]) (λ i q=>(110,aq i)::(108,.ah (q 1) 1 0 S.h false)::(109,aq S.h)::kA S q) (λ i q=>oh S (eR (S.f1 f) S.s S.w S.t S.k i) (S.y f) d q) (.exit 4) (kA S) (λ q=>oh S (S.f2 f) (S.y f) d q) (λ i o=>R1 G F l H.O H.ht H.hk H.cw H.fe (λ a p c j m=>by rw[S2 H a p j m,if_neg (λ q=>c q.1)];exact H.hf _) (λ j _=>S1 H _) H.b1 H.b2 H.b3 i o false) (RY G l false) (t0:=(110,aq 0)::(108,.ah [2] 1 0 S.h false)::(109,aq S.h)::kA S (dH [[1],[2],[2,0],[b,0],[3],[4],[5]])) (k0:=oh S (S.f1 f) (S.y f) d (dH [[1],[2],[2,0],[b,0],[3],[4],[5]])) rfl rfl (h0:=h0) (hN:=by have:=H.fe;omega)
omit [bn l]in theorem amh{M:List (List ak)}{nd p:Nat}(bp:S.M=M)(hd:d.G K nd)(tJ:bF K q nd)(s:Nat->Nat)(O:yX S.h s)(ahD:S.t<p)(hp:p<S.h)(es:S.s=fK s S.t p)[b9 1 l][bn l](hl:l.length=S.t)(hz:ag ab G 138 [aD (a7 (S.h-S.t) fun i=>a7 S.w fun j=>f (s (S.t+i)*S.w+j)),.fn (.func 153) [] [.cE [aq S.k] 0]] (.int .i64 ((p-S.t:Nat):Int))):lW ab G oJ lH (cx 9) 4 .normal (kn M S.h S.w S.k) (pt S.h S.w f s d S.t l) (kn M S.h S.w (S.k+1)) (pt S.h S.w (S.f2 f) S.s (d.neg.mul (S.y f)) (S.t+1) (l++[aq S.k])):=by
 have fe:=H.fe;have cw:=H.cw;have Nx:=Ns G F hd tJ;have c1:=zj G F hd.neg (H.hf (S.s S.t*S.w+S.k)) tJ H.b1;have EB:cV.wrap ((S.t:Int)+((p-S.t:Nat):Int))=(p:Int):=by rw[c0];omega
 have pl:S.s S.t*S.w+S.w<=S.h*S.w:=by have:=cr S.w (show S.s S.t+1<=S.h from H.O.1 _ H.ht);rw[gB]at this;exact this
 have hk:=H.hk;have ht:=H.ht;subst bp;exact qq [2000000000000000000000004,0] [hb 33 (dv hk),xo 40 1 [2] 0 S.h S.t false,vt G O (h9 ht) (cI S.t) hz,hb 44 (show decide (((p-S.t:Nat):Int)<0)=false from decide_eq_false ac),hb 46 (show decide ((0:Int)<((p-S.t:Nat):Int))=true from decide_eq_true ac),hw 52 EB,hw 56 EB,cQ 57 1 [2] false S.h p,fX 58 1 false [2] 1 S.h (dB [1] S.w) s p (dB [1] S.w (s p)),cQ 61 1 [2] false S.h S.t,fX 62 1 false [2] 1 S.h (dB [1] S.w) s S.t (dB [1] S.w (s S.t)),cQ 63 1 [2] false S.h S.t,mJ 63 1 [2] 1 S.h (dB [1] S.w) s (fun i=>if i=S.t then s p else s i) S.t (s p) (fun _ _=>rfl) rfl,cQ 64 1 [2] false S.h p,mJ 64 1 [2] 1 S.h (dB [1] S.w) (fun i=>if i=S.t then s p else s i) S.s p (s S.t) (fun i _=>by rw[es];exact YP i) rfl,hc Nx,cQ 71 1 [2] false S.h S.t,fX 72 1 false [2] 1 S.h (dB [1] S.w) S.s S.t (dB [1] S.w (S.s S.t)),ov 74 2 [1] (S.s S.t*S.w) S.w S.k true,fX 75 2 true [1] 2 (S.h*S.w) aP f (S.s S.t*S.w+S.k) (S.y f).T,hc c1,XX G F H (d.neg.mul (S.y f)) l 50,RZ G F H (d.neg.mul (S.y f)) l 50,TJ G 141 [5] [2000000000000000000000003,0] l S.t (aq S.k) hl ac,a5 143 S.k] an
omit [bn l]in theorem amj{M:List (List ak)}{nd:Nat}(bp:S.M=M)(hd:d.G K nd)(tJ:bF K q nd)[b9 1 l][bn l](hl:l.length=S.t)(hz:ag ab G 138 [aD (a7 (S.h-S.t) fun i=>a7 S.w fun j=>f (S.s (S.t+i)*S.w+j)),.fn (.func 153) [] [.cE [aq S.k] 0]] (aq 0)):lW ab G oJ lH (cx 9) 4 .normal (kn M S.h S.w S.k) (pt S.h S.w f S.s d S.t l) (kn M S.h S.w (S.k+1)) (pt S.h S.w (S.f2 f) S.s (d.mul (S.y f)) (S.t+1) (l++[aq S.k])):=by
 have fe:=H.fe;have cw:=H.cw;have c1:=zj G F hd (H.hf (S.s S.t*S.w+S.k)) tJ H.b1;have pl:S.s S.t*S.w+S.w<=S.h*S.w:=by have:=cr S.w (show S.s S.t+1<=S.h from H.O.1 _ H.ht);rw[gB]at this;exact this
 have hk:=H.hk;have ht:=H.ht;subst bp;exact qq [2000000000000000000000004,0] [hb 33 (dv hk),xo 40 1 [2] 0 S.h S.t false,vt G H.O (h9 ht) (cI S.t) hz,cQ 71 1 [2] false S.h S.t,fX 72 1 false [2] 1 S.h (dB [1] S.w) S.s S.t (dB [1] S.w (S.s S.t)),ov 74 2 [1] (S.s S.t*S.w) S.w S.k true,fX 75 2 true [1] 2 (S.h*S.w) aP f (S.s S.t*S.w+S.k) (S.y f).T,hc c1,XX G F H (d.mul (S.y f)) l 25,RZ G F H (d.mul (S.y f)) l 25,TJ G 141 [5] [2000000000000000000000003,0] l S.t (aq S.k) hl ac,a5 143 S.k] an
omit [bn l]in theorem ami{M:List (List ak)}{nd p:Nat}(bp:S.M=M)(hd:d.G K nd)(tJ:bF K q nd)(s:Nat->Nat)(O:yX S.h s)(ahD:S.t<p)(hp:p<S.h)(es:S.s=fK s S.t p)(h0:S.t=0)(hz:ag ab G 138 [aD (a7 (S.h-S.t) fun i=>a7 S.w fun j=>f (s (S.t+i)*S.w+j)),.fn (.func 153) [] [.cE [aq S.k] 0]] (.int .i64 ((p-S.t:Nat):Int))):lW ab G oJ lH (cx 9) 4 .normal (kn M S.h S.w S.k) (qo S.h S.w f s d) (kn M S.h S.w (S.k+1)) (pt S.h S.w (S.f2 f) S.s (d.neg.mul (S.y f)) 1 [aq S.k]):=by
 have fe:=H.fe;have cw:=H.cw;have Nx:=Ns G F hd tJ;have c1:=zj G F hd.neg (H.hf (S.s S.t*S.w+S.k)) tJ H.b1;have EB:cV.wrap ((S.t:Int)+((p-S.t:Nat):Int))=(p:Int):=by rw[c0];omega
 have pl:S.s S.t*S.w+S.w<=S.h*S.w:=by have:=cr S.w (show S.s S.t+1<=S.h from H.O.1 _ H.ht);rw[gB]at this;exact this
 have hk:=H.hk;have ht:=H.ht;subst bp;exact qq [2000000000000000000000004,0] [hb 33 (dv hk),hw 37 (show(0:Int)=(S.t:Int)by rw[h0];rfl),xo 40 1 [2] 0 S.h S.t false,vt G O (h9 ht) (cI S.t) hz,hb 44 (show decide (((p-S.t:Nat):Int)<0)=false from decide_eq_false ac),hb 46 (show decide ((0:Int)<((p-S.t:Nat):Int))=true from decide_eq_true ac),hw 52 EB,hw 56 EB,cQ 57 1 [2] false S.h p,fX 58 1 false [2] 1 S.h (dB [1] S.w) s p (dB [1] S.w (s p)),cQ 61 1 [2] false S.h S.t,fX 62 1 false [2] 1 S.h (dB [1] S.w) s S.t (dB [1] S.w (s S.t)),cQ 63 1 [2] false S.h S.t,mJ 63 1 [2] 1 S.h (dB [1] S.w) s (fun i=>if i=S.t then s p else s i) S.t (s p) (fun _ _=>rfl) rfl,cQ 64 1 [2] false S.h p,mJ 64 1 [2] 1 S.h (dB [1] S.w) (fun i=>if i=S.t then s p else s i) S.s p (s S.t) (fun i _=>by rw[es];exact YP i) rfl,hc Nx,cQ 71 1 [2] false S.h S.t,fX 72 1 false [2] 1 S.h (dB [1] S.w) S.s S.t (dB [1] S.w (S.s S.t)),ov 74 2 [1] (S.s S.t*S.w) S.w S.k true,fX 75 2 true [1] 2 (S.h*S.w) aP f (S.s S.t*S.w+S.k) (S.y f).T,hc c1,XY G F H (d.neg.mul (S.y f)) [] 50,R0 G F H (d.neg.mul (S.y f)) [] 50,a5 143 S.k] an
omit [bn l]in theorem amk{M:List (List ak)}{nd:Nat}(bp:S.M=M)(hd:d.G K nd)(tJ:bF K q nd)(h0:S.t=0)(hz:ag ab G 138 [aD (a7 (S.h-S.t) fun i=>a7 S.w fun j=>f (S.s (S.t+i)*S.w+j)),.fn (.func 153) [] [.cE [aq S.k] 0]] (aq 0)):lW ab G oJ lH (cx 9) 4 .normal (kn M S.h S.w S.k) (qo S.h S.w f S.s d) (kn M S.h S.w (S.k+1)) (pt S.h S.w (S.f2 f) S.s (d.mul (S.y f)) 1 [aq S.k]):=by
 have fe:=H.fe;have cw:=H.cw;have c1:=zj G F hd (H.hf (S.s S.t*S.w+S.k)) tJ H.b1;have pl:S.s S.t*S.w+S.w<=S.h*S.w:=by have:=cr S.w (show S.s S.t+1<=S.h from H.O.1 _ H.ht);rw[gB]at this;exact this
 have hk:=H.hk;have ht:=H.ht;subst bp;exact qq [2000000000000000000000004,0] [hb 33 (dv hk),hw 37 (show(0:Int)=(S.t:Int)by rw[h0];rfl),xo 40 1 [2] 0 S.h S.t false,vt G H.O (h9 ht) (cI S.t) hz,cQ 71 1 [2] false S.h S.t,fX 72 1 false [2] 1 S.h (dB [1] S.w) S.s S.t (dB [1] S.w (S.s S.t)),ov 74 2 [1] (S.s S.t*S.w) S.w S.k true,fX 75 2 true [1] 2 (S.h*S.w) aP f (S.s S.t*S.w+S.k) (S.y f).T,hc c1,XY G F H (d.mul (S.y f)) [] 25,R0 G F H (d.mul (S.y f)) [] 25,a5 143 S.k] an
end
section
open Go.aA Go.aA.fE Go.Proofs Go.Lib
def ap7(s:Nat->Nat)(t:Nat):fK s t t=s:=by funext i;unfold fK;split<;>simp_all
noncomputable def sX(h w:Nat)(x:j8)(q:bm):List (bz×aJ):=if x.pv=[]then qo h w x.f x.s x.eh q else pt h w x.f x.s x.eh x.pv.length (x.pv.map aq) q
def DG{h w:Nat}{x:j8}(e:x.pv=[]):sX h w x=qo h w x.f x.s x.eh:=by funext q;exact if_pos e
def DF{h w:Nat}{x:j8}(e:x.pv≠[]):sX h w x=pt h w x.f x.s x.eh x.pv.length (x.pv.map aq):=by funext q;exact if_neg e
instance{l:List Nat}:b9 1 (l.map aq):=⟨λ c hc=>by obtain⟨x,_,rfl⟩:=bd.1 hc;infer_instance⟩
variable(G:Nat->Option (List aa)){K:b6}{q e r:Nat}(F:eb K q e r){n w h j:Nat}{V:er}(M:List (List ak))
include F
def aml(ri:n9 w V)(hl:V.length=h)(fe:h<=90)(cw:w<=90)(h0:0<h)(Y:h<=j\/w<=j)(B:bF K q (grow K j n)){x:j8}{k:Nat}(I:wY K n w h V k x)(u:k<w)(atP:x.pv.length<=k):lW ab G oJ lH (cx 9) 4 .normal (kn M h w k) (sX h w x) (kn M h w (k+1)) (sX h w (Ar w h x k)):=by
 have E:=Cv ri k ac;rw[hl,<-I.pv]at E;have ht:=E.rE;have O:=I.own;have X:=I.g;have U:∀i,i<=j->grow K i n<=grow K j n:=λ i m=>ot m;have el:=λ i m=>Om (x:=x) (w:=w) (h:=h) (i:=i) (j:=k) m u;have C:(x.rows w h).length=h:=la;have ge:=Au (x.rows w h) x.pv.length k;have rg:∀i(m:i<(a7 (h-x.pv.length) λ i=>a7 w λ j=>x.f (x.s (x.pv.length+i)*w+j)).length),(a7 (h-x.pv.length) λ i=>a7 w λ j=>x.f (x.s (x.pv.length+i)*w+j))[i]=a7 w λ j=>x.f (x.s (x.pv.length+i)*w+j):=λ i m=>by simp[a7]
 have Z:∀i,(a7 w λ j=>x.f (x.s (x.pv.length+i)*w+j)).getD k (a3 0)=x.f (x.s (x.pv.length+i)*w+k):=λ i=>by rw[aX (by rw[iC];exact u)];simp[a7]
 have look:bF K q (grow K x.pv.length n)->∀i(m:i<(a7 (h-x.pv.length) λ i=>a7 w λ j=>x.f (x.s (x.pv.length+i)*w+j)).length),ag ab G 153 [aj (a7 (h-x.pv.length) λ i=>a7 w λ j=>x.f (x.s (x.pv.length+i)*w+j))[i],.cE [aq k] 0] (.bool (!(x.f (x.s (x.pv.length+i)*w+k)).bM)):=λ kY i m=>by have:=afe G F (a:=a7 w λ j=>x.f (x.s (x.pv.length+i)*w+j)) (n:=grow K x.pv.length n) (λ y hy=>by obtain⟨j,_,rfl⟩:=bd.1 hy;exact X _) (k:=k) (by rw[iC];exact u) kY;rw[Z]at this;rw[rg i m];exact this
 have aqd:x.pv.length<=j:=by rcases Y with h|h<;>omega
 have D:bF K q (grow K x.pv.length n):=by have:=U _ aqd;omega
 by_cases t:eA (x.rows w h) x.pv.length k<h;have P:(x.f (x.s (eA (x.rows w h) x.pv.length k)*w+k)).bM=false:=by rw[<-el _ t,aX (l:=x.rows w h) (by rw[C];exact t)];exact NZ (by rw[C];exact t)
 have N:∀i,x.pv.length<=i->i<eA (x.rows w h) x.pv.length k->(x.f (x.s i*w+k)).bM=true:=λ i h1 h2=>by rw[<-el i ac,aX (l:=x.rows w h) (by rw[C];omega)];exact N0 h1 h2 (by rw[C];omega)
 rw[show Ar w h x k=uq w h k x x.pv.length (eA (x.rows w h) x.pv.length k)from if_pos t];generalize eA (x.rows w h) x.pv.length k=p at*;have z:x.pv.length<h:=ac;have S:x.pv.length+1<=j:=by rcases Y with h|h<;>omega
 have g1:=U _ S;have g2:grow K (x.pv.length+1) n=26*grow K x.pv.length n+43*K.c+1:=rfl;have L:=D;have T:=P;have st:fK x.s x.pv.length p x.pv.length=x.s p:=YQ _ _;have H:QZ K q (grow K x.pv.length n) ⟨M,w,h,k,x.pv.length,fK x.s x.pv.length p⟩ x.f:=⟨O.YO z t,X,u,z,by show w<=9000;omega,by show h<=9000;omega,by show(x.f (fK x.s x.pv.length p x.pv.length*w+k)).bM=false;rw[st];exact T,D,ac,ac⟩;have o:=aix G (p:=λ i=>!(x.f (x.s (x.pv.length+i)*w+k)).bM) (by rw[iC];omega) (look D) (i:=p-x.pv.length) (by rw[iC];omega) (by simp only[show x.pv.length+(p-x.pv.length)=p from ac,T];rfl) λ i m=>by simp only[N (x.pv.length+i) ac ac];rfl
 have ne:(uq w h k x x.pv.length p).pv≠[]:=by show x.pv++[k]≠[];simp
 rw[DF ne,show(uq w h k x x.pv.length p).pv.length=x.pv.length+1 by show(x.pv++[k]).length=_;simp,show(uq w h k x x.pv.length p).pv.map aq=x.pv.map aq++[aq k]by show(x.pv++[k]).map aq=_;simp];have ed:(uq w h k x x.pv.length p).eh=(if x.pv.length<p then x.eh.neg else x.eh).mul (x.f (fK x.s x.pv.length p x.pv.length*w+k)):=rfl;rw[ed];by_cases J:x.pv.length<p;rw[if_pos J];by_cases e:x.pv=[];rw[DG e];have:=ami G F H x.eh (nd:=grow K x.pv.length n) rfl I.d L x.s O J t rfl (by show x.pv.length=0;rw[e];rfl) o;have A:x.pv.length+1=1:=by rw[e];rfl
 have Q:x.pv.map aq++[aq k]=[aq k]:=by rw[e];rfl
 rw[A,Q];exact this;rw[DF e];exact amh G F H x.eh (x.pv.map aq) (nd:=grow K x.pv.length n) rfl I.d L x.s O J t rfl (by rw[aL]) o;obtain rfl:p=x.pv.length:=ac;rw[if_neg J];have b:=ap7 x.s x.pv.length;simp only[Nat.sub_self]at o;by_cases e:x.pv=[];rw[DG e];have:=amk G F H x.eh (nd:=grow K x.pv.length n) rfl I.d L (by show x.pv.length=0;rw[e];rfl) (by show ag _ _ _ [aD (a7 _ λ i=>a7 _ λ j=>x.f (fK x.s _ _ _*w+j)),_] _;rw[b];exact o);have A:x.pv.length+1=1:=by rw[e];rfl
 have Q:x.pv.map aq++[aq k]=[aq k]:=by rw[e];rfl
 rw[A,Q];simp only[b]at this⊢;unfold uq nD;simp only[b];exact this;rw[DF e];have:=amj G F H x.eh (x.pv.map aq) (nd:=grow K x.pv.length n) rfl I.d L (by rw[aL]) (by show ag _ _ _ [aD (a7 _ λ i=>a7 _ λ j=>x.f (fK x.s _ _ _*w+j)),_] _;rw[b];exact o);simp only[b]at this⊢;unfold uq nD;simp only[b];exact this;rw[show Ar w h x k=x from if_neg t];have o:=aiw G (p:=λ i=>!(x.f (x.s (x.pv.length+i)*w+k)).bM) (by rw[iC];omega) (look D) λ i m=>by rw[iC]at m;have:=N0 (R:=x.rows w h) (top:=x.pv.length) (k:=k) (j:=x.pv.length+i) ac ac (by rw[C];omega);rw[<-aX (d:=[]),el _ ac]at this;simp only[this];rfl
 by_cases e:x.pv=[];rw[DG e];have A:x.pv.length=0:=by rw[e];rfl
 simp only[A]at o;exact amn G O u ac ac h0 o;rw[DF e];exact amm G O u ac ac ht h0 o
end
section
open Go.aA Go.aA.fE Go.Proofs Go.Lib
abbrev qb:Nat:=1000000000000000000000000000000000000000000000000
def Tn{G:Nat->Option (List aa)}{c:cD}{n n0 so kk:Nat}{i:bz}{el:aa}{cs:List aa}{T:List (Nat×aa)}{K:List (bz×aJ)}{Q:cn->dD->Prop}[f:bn cs](hc:el.cells=cs)(g:∀x∈K,x.1≠i/\∀e∈x.2.els,e.size=x.2.k)(h:bA ab G [0] (.loop c) Q ⟨fr n ((so,.cE cs 0)::T),bB K,n0⟩):bA ab G [0] (.loop c) Q ⟨fr n ((so,.ref i 0 0)::T),bB ((i,⟨[el],kk,false⟩)::K),n0⟩:=by subst hc;refine bA.hZ (bN.nw [(i,⟨[el],kk,false⟩)] (λ y d=>by rw[bU.1 d];simp[bB]) (pE T (lO so (ji _ _) (gD.view (View.ref (av:=⟨[el],kk,false⟩) (by simp[bB]) rfl (jJ f.pure))))) (λ j=>?_) (a2 _)) h;cases e:bB K j with|none=>exact .inl rfl|some b=>have⟨h1,h2⟩:=g _ (qj e);refine .inr ⟨b,b,?_,rfl,y0.same (λ y d=>by rw[bU.1 d];exact Ne.symm h1) h2⟩;show dC _ _=_;rw[jh,gE h1];exact e
variable(G:Nat->Option (List aa)){K:b6}{q e r:Nat}(F:eb K q e r){n w j:Nat}(M:List (List ak))
noncomputable def dk(M:List (List ak)):j8:=rD (c8 M) M.length (qp M) (c8 M)
def DJ(a:a4 K n w M):∀k,k<=w->wY K n w M.length (bH M) k (rD w M.length (qp M) k)|0,_=>amZ a|k+1,b=>(DJ a k ac).step (Jt a) (oO M) ac
def am1(a:a4 K n w M){k:Nat}(c:k<=w)(b:M≠[]):(rD w M.length (qp M) k).pv.length<=k:=by rw[(DJ M a k c).pv,fold_eq a k (by rw[eD a b];exact c)];exact(D2 a rfl k).le
abbrev AB:bm:=dH [[2000000,4,3,0],[14,3,0],[17,0],[0,0],[4]]
abbrev Xc:bm:=eX AB 4 [qb,0]
include F
def amo(g:a4 K n w M)(f:M≠[])(h0:0<w)(o:M.length<=90)(k:w<=90)(l:M.length<=j\/w<=j)(B:bF K q (grow K j n))(cC:bm->List (bz×aJ)){b:Nat}[gS 0 b cC](u:b<=8)(t:sX M.length w (rD w M.length (qp M) w)=cC)(v:lW ab G oJ lH (cx 9) 4 (.exit 0) (kn M M.length w w) cC (λ q=>[(2,.ref (q 3) 0 0),(6,fo),(7,.ref (q 2) 0 0)]) cC):bA ab G [0] (.loop oJ) (λ h s'=>h=.exit 0/\bN G [0] s' ⟨fr lH [(2,.ref [0,0] 0 0),(6,fo),(7,.ref [17,0] 0 0)],e5.to (b8 (cC Xc)),qb+1⟩) ⟨fr lH (kn M M.length w 0 AB),bB (qo M.length w (ma M) (λ i=>i) (a3 1) AB),eF 0⟩:=by have s:0<M.length:=fN.2 f;have:=ajH (P:=ab) (G:=G) (c:=oJ) (n:=lH) (N:=w) (w:=cx 9) (n0:=eF 0) (E:=qb) (d:=4) (e:=.exit 0) (q:=AB) (T:=λ i=>kn M M.length w i) (K:=λ i=>sX M.length w (rD w M.length (qp M) i)) (dx:=λ q=>[(2,.ref (q 3) 0 0),(6,fo),(7,.ref (q 2) 0 0)]) (cC:=cC) u (jS.start an al) (λ i p=>aml G F M (Jt g) (oO M) o k s l B (DJ M g i ac) p (am1 M g ac f)) (by rw[t];exact v) am (by unfold eF cx qb;omega);have m:sX M.length w (rD w M.length (qp M) 0)=qo M.length w (ma M) (λ i=>i) (a3 1):=DG (x:=qp M) rfl;simp only[m]at this;exact this
noncomputable def TM(l:a4 K n w M)(f:M≠[])(h0:0<w)(k:M.length<=90)(g:w<=90)(h:M.length<=j\/w<=j)(B:bF K q (grow K j n))(cC:bm->List (bz×aJ)){b:Nat}[gS 0 b cC](m:b<=8)(o:sX M.length w (rD w M.length (qp M) w)=cC)(a:lW ab G oJ lH (cx 9) 4 (.exit 0) (kn M M.length w w) cC (λ q=>[(2,.ref (q 3) 0 0),(6,fo),(7,.ref (q 2) 0 0)]) cC):aV ab G:=.iQ [0] oJ (fr lH ((6,.ref [12,0] 0 0)::[(0,aD M),(2,.ref [0,0] 0 0),(4,.ah [14,3,0] 1 0 M.length false),(7,.ref [17,0] 0 0),(31,aq w),(32,aq 0)])) (([12,0],⟨[.agg [.int .i64 0]],1,false⟩)::qo M.length w (ma M) (λ i=>i) (a3 1) AB) (eF 0) (.exit 0) (fr lH [(2,.ref [0,0] 0 0),(6,fo),(7,.ref [17,0] 0 0)]) (b8 (cC Xc)) (qb+1) (by refine Tn (cs:=[.int .i64 0]) rfl (λ x c=>?_) (by have:=amo G F M l f h0 k g h B cC m o a;rw[show fr lH ((6,.cE [.int .i64 0] 0)::[(0,aD M),(2,.ref [0,0] 0 0),(4,.ah [14,3,0] 1 0 M.length false),(7,.ref [17,0] 0 0),(31,aq w),(32,aq 0)])=fr lH (kn M M.length w 0 AB)from an];exact this);rcases cp.1 c with rfl|c;exact⟨by show([2000000,4,3,0]:List Nat)≠[12,0];decide,λ e a=>by obtain⟨y,_,rfl⟩:=bd.1 a;exact cT.size⟩;rcases cp.1 c with rfl|c;exact⟨by show([14,3,0]:List Nat)≠[12,0];decide,λ e a=>by obtain⟨y,_,rfl⟩:=bd.1 a;rfl⟩;rcases cp.1 c with rfl|c;exact⟨by show([17,0]:List Nat)≠[12,0];decide,λ e a=>by rw[bU.1 a];rfl⟩;obtain rfl:=bU.1 c;exact⟨by show([0,0]:List Nat)≠[12,0];decide,λ e a=>by rw[bU.1 a];rfl⟩)
def H2(k:a4 K n w M)(b:M≠[])(h0:0<w)(o:M.length<=90)(m:w<=90)(z:M.length<=j\/w<=j)(B:bF K q (grow K j n)):ag ab G 110 [aD M] (.aM [.agg [aD ((dk M).rows w M.length),bP (dk M).pv,aW (dk M).eh.2.T.2.ay,aK (dk M).eh.2.a],.int .i64 0]):=by
 have g:=eD k b;have br:grow K 0 n<=grow K j n:=ot (dF _);have C:grow K 0 n=n:=rfl;have y:=λ p=>akJ G F k h0 b o m ac p;have cs:=xH G b;rw[g]at cs;have u:dk M=rD w M.length (qp M) w:=by unfold dk;rw[g]
 have I:=DJ M k w (a2 _);rw[<-u]at I;have hw:=λ i(H:i<M.length)=>(by have:=cr w (show(dk M).s i+1<=M.length from I.own.1 i H);rw[gB]at this;exact this:(dk M).s i*w+w<=M.length*w);have hv:∀(σ:aQ)(x:j8),(∀i,i<M.length->x.s i*w+w<=M.length*w)->σ [2000000,4,3,0]=some ⟨(a7 (M.length*w) x.f).map aP,2,false⟩->σ [14,3,0]=some ⟨(a7 M.length x.s).map (dB [2000000,4,3,0] w),1,false⟩->∀p,View σ p (bP x.pv)->View σ (.aM [.agg [.ah [14,3,0] 1 0 M.length false,p,aW x.eh.2.T.2.ay,aK x.eh.2.a],.int .i64 0]) (.aM [.agg [aD (x.rows w M.length),bP x.pv,aW x.eh.2.T.2.ay,aK x.eh.2.a],.int .i64 0]):=λ σ x A h1 h2 p D=>by have:=ZD (a:=0) (n:=M.length) (t:=false) h1 h2 ac A;simp only[cI]at this;exact mq (bZ (View.agg (bZ this (bZ D (jJ λ c hc=>by rcases cp.1 hc with rfl|hc;exact bg.pure;rw[bU.1 hc];exact bg.pure)))) (bZ (fx (KE _ _)) eH))
 by_cases e:(dk M).pv=[];have v:sX M.length w (rD w M.length (qp M) w)=qo M.length w (dk M).f (dk M).s (dk M).eh:=by rw[<-u];exact DG e
 have l:lW ab G oJ lH (cx 9) 4 (.exit 0) (kn M M.length w w) (qo M.length w (dk M).f (dk M).s (dk M).eh) (λ q=>[(2,.ref (q 3) 0 0),(6,fo),(7,.ref (q 2) 0 0)]) (qo M.length w (dk M).f (dk M).s (dk M).eh):=qq [5] [hb 33 (iW (a2 w))];generalize E:dk M=x at*;exact yY hN [c3 y,hc (xK G),hc cs,TM G F M k b h0 o m z B _ al v l] [([2000000,4,3,0],⟨(a7 (M.length*w) x.f).map aP,2,false⟩),([14,3,0],⟨(a7 M.length x.s).map (dB [2000000,4,3,0] w),1,false⟩)] (.aM [.agg [.ah [14,3,0] 1 0 M.length false,.ar,aW x.eh.2.T.2.ay,aK x.eh.2.a],.int .i64 0]) an (by show [(_,aJ.mk (bD _ _) 2 false),(_,aJ.mk (bD _ _) 1 false)]=_;rw[bn.fix,ga,iA];rfl) (by show aa.aM [.agg [_,_,aa.aY _ (aW _),aa.aY _ (aK _)],_]=_;rw[bg.fix (c:=aW x.eh.2.T.2.ay),bg.fix (c:=aK x.eh.2.a)];rfl) am (λ σ h=>hv σ x hw (h _ cg) (h _ (cX _ cg)) .ar (by rw[e];exact View.ar 1));have v:sX M.length w (rD w M.length (qp M) w)=pt M.length w (dk M).f (dk M).s (dk M).eh (dk M).pv.length ((dk M).pv.map aq):=by rw[<-u];exact DF e
 have l:lW ab G oJ lH (cx 9) 4 (.exit 0) (kn M M.length w w) (pt M.length w (dk M).f (dk M).s (dk M).eh (dk M).pv.length ((dk M).pv.map aq)) (λ q=>[(2,.ref (q 3) 0 0),(6,fo),(7,.ref (q 2) 0 0)]) (pt M.length w (dk M).f (dk M).s (dk M).eh (dk M).pv.length ((dk M).pv.map aq)):=qq [5] [hb 33 (iW (a2 w))];generalize E:dk M=x at*;exact yY hN [c3 y,hc (xK G),hc cs,TM G F M k b h0 o m z B _ al v l] [([2000000,4,3,0],⟨(a7 (M.length*w) x.f).map aP,2,false⟩),([14,3,0],⟨(a7 M.length x.s).map (dB [2000000,4,3,0] w),1,false⟩),([qb,0],⟨x.pv.map aq,1,false⟩)] (.aM [.agg [.ah [14,3,0] 1 0 M.length false,.ah [qb,0] 1 0 x.pv.length false,aW x.eh.2.T.2.ay,aK x.eh.2.a],.int .i64 0]) an (by show [(_,aJ.mk (bD _ _) 2 false),(_,aJ.mk (bD _ _) 1 false),(_,aJ.mk (bD _ _) 1 false)]=_;rw[bn.fix,ga,iA,bn.fix];rfl) (by show aa.aM [.agg [_,_,aa.aY _ (aW _),aa.aY _ (aK _)],_]=_;rw[bg.fix (c:=aW x.eh.2.T.2.ay),bg.fix (c:=aK x.eh.2.a)];rfl) am (λ σ h=>hv σ x hw (h _ cg) (h _ (cX _ cg)) _ (gK (h _ (cX _ (cX _ cg))) (by rw[aL])))
end
section
open Go.aA Go.aA.fE Go.Proofs Go.Lib
def agy{G:Nat->Option (List aa)}{f:FuncId}{args:List aa}{id:bz}{a:aJ}{r:bz->bR}(h:∀p,cv ab G f args p [(id,a)] (r p))(hr:∀p,id∈(r p).rd):aV ab G:=.rel f args [(id,a)] r (fun p _=>h p) (fun p x hx=>by rw[bU.1 hx];exact hr p)
def dA(z:aa)(R:Nat->aa)(i j:Nat):aa:=if j<i then R j else z
instance{z:aa}{R:Nat->aa}{i n:Nat}[hz:bg z][h:∀j,bg (R j)]:bn ((a7 n (dA z R i)).map fun x=>x):=⟨fun c hc=>by
 rw[n7]at hc;obtain⟨j,_,rfl⟩:=bd.1 hc;unfold dA;split;.exact(h j).pure
 .exact hz.pure,fun ρ=>by
 rw[ga,n7];refine(kq fun c hc=>?_).trans (n7 _);obtain⟨j,_,rfl⟩:=bd.1 hc;unfold dA;split;.exact(h j).fix ρ
 .exact hz.fix ρ⟩
theorem D7{z:aa}{R:Nat->aa}{i:Nat}(j:Nat):dA z R (i+1) j=if j=i then R i else dA z R i j:=by
 unfold dA;by_cases h:j=i;.subst h;rw[if_pos ac,if_pos rfl]
 .rw[if_neg h];split<;>split<;>first|rfl|omega
theorem AQ{z:aa}{R:Nat->aa}{n:Nat}:(a7 n (dA z R n)).map (fun x=>x)=a7 n R:=by rw[n7];exact QU fun j hj=>if_pos hj
variable(G:Nat->Option (List aa))
theorem aks(n:Nat)(hn:n<16):ag ab G 278 [.int .u64 1,.int .u64 (n:Int)] (.aM [.int .u64 0,.int .u64 (n:Int)]):=by rcases(ac:n=0\/n=1\/n=2\/n=3\/n=4\/n=5\/n=6\/n=7\/n=8\/n=9\/n=10\/n=11\/n=12\/n=13\/n=14\/n=15)with rfl|rfl|rfl|rfl|rfl|rfl|rfl|rfl|rfl|rfl|rfl|rfl|rfl|rfl|rfl|rfl<;>exact aN [] an
theorem akO(z:ak)(n:Nat)(hn:n<16)(id p:bz):cv ab G 204 [.ah id 2 0 1 false,aq n] p [(id,⟨[z.T],2,false⟩)] {val:=.ah (22::p) 2 0 n false,rd:=[id],up:=[(22::p,some ⟨(a7 n fun _=>z).map aP,2,false⟩)]}:=by have m:ag ab G 243 [.int .u64 1,.int .u64 (n:Int)] (.aM [.int .u64 0,.int .u64 (n:Int)]):=aN [hc (aks G n hn)] an;rcases(ac:n=0\/n=1\/n=2\/n=3\/n=4\/n=5\/n=6\/n=7\/n=8\/n=9\/n=10\/n=11\/n=12\/n=13\/n=14\/n=15)with rfl|rfl|rfl|rfl|rfl|rfl|rfl|rfl|rfl|rfl|rfl|rfl|rfl|rfl|rfl|rfl<;>exact e9 (p:=p) (up:=[(22::p,_)]) hN (dH [id]).κ [hc m] [.ah [1] 2 0 1 false,aq _] [([1],⟨[z.T],2,false⟩)] (.ah [22,0] 2 0 _ false) [([22,0],⟨(a7 _ fun _=>z).map aP,2,false⟩)] an rfl oL rfl oL am am
theorem akS(n:Nat)(hn:n<16)(p:bz):cv ab G 150 [aq n] p [] {val:=.ah (22::4::p) 2 0 n false,rd:=[],up:=[(22::4::p,some ⟨(a7 n fun _=>a3 0).map aP,2,false⟩)]}:=e9 (p:=p) (up:=[(22::4::p,_)]) hN (fun _=>[]) [hc (vL G),agy (fun p=>akO G (a3 0) n hn [2,0] p) (fun p=>cg)] _ [] (.ah [22,4,0] 2 0 n false) [([22,4,0],⟨(a7 n fun _=>a3 0).map aP,2,false⟩)] an (bn.fix _) rfl rfl oL am am
theorem aqs(n i:Nat):(a7 n fun j=>if j=i then a3 1 else a3 0).map aP=(c4 n (some i)).map aP:=by unfold c4 a7;congr 1;exact kq fun j _=>by simp only[Option.some.injEq]
theorem V0{n i:Nat}(hi:i<n)(hn:n<16):FL ab G 108 [aq n,aq i] [22,4,2] 2 ((c4 n (some i)).map aP):=fun p=>by rw[aL,jE,<-aqs];exact e9 (p:=p) (up:=[(22::4::2::p,_)]) hN (fun _=>[]) [c3 (fun p=>akS G n hn p),hc (xK G),cQ 11 2 [22,4,2,0] false n i,mJ 11 2 [22,4,2,0] 2 n aP (fun _=>a3 0) (fun j=>if j=i then a3 1 else a3 0) i (a3 1) (fun _ _=>rfl) (vN _)] _ [] (.ah [22,4,2,0] 2 0 n false) [([22,4,2,0],⟨(a7 n fun j=>if j=i then a3 1 else a3 0).map aP,2,false⟩)] an (bn.fix _) rfl rfl oL am am
theorem VZ{n i:Nat}(hi:i<n)(hn:n<16):ag ab G 108 [aq n,aq i] (aj (c4 n (some i))):=(V0 G hi hn).fL
def IX{R:Nat->aa}(a:∀j,(R j).size=1)(i k:Nat):1<=(dA .ar R i k).size:=by unfold dA;split;rw[a];exact a2 _;exact a2 _
noncomputable abbrev CV(n i:Nat)(q:bm):List (Nat×aa):=[(0,aq n),(3,.ah (q 0) 1 0 n false),(14,aq n),(15,aq i)]
noncomputable abbrev xw(n i:Nat)(q:bm):List (bz×aJ):=[(q 0,⟨(a7 n (dA .ar (λ j=>aj (c4 n (some j))) i)).map λ x=>x,1,false⟩)]
def akH{n:Nat}(h0:0<n)(f:n<16):ag ab G 62 [aq n] (aD (dt n)):=by
 have d:aD (dt n)=.sl 1 (a7 n λ j=>aj (c4 n (some j))):=by show aa.sl 1 ((dt n).map aj)=_;unfold dt a7;rw[iA];rfl
 have rd:∀i,i<n->iK ab G (aT (ao 62) 0) (ao 62).aH 200 .normal (CV n i) (xw n i) (CV n (i+1)) (xw n (i+1)):=λ i b=>gy [hb 16 (dv b),hc (VZ G b f),cQ 23 1 [1] false n i,mJ 23 1 [1] 1 n (λ x=>x) (dA .ar (λ j=>aj (c4 n (some j))) i) (dA .ar (λ j=>aj (c4 n (some j))) (i+1)) i (aj (c4 n (some i))) (λ j _=>D7 j) rfl (h1:=IX (λ _=>rfl) i i) (hu:=by unfold dA;split<;>rfl),a5 24 i];have x:=gy (P:=ab) (G:=G) (c:=aT (ao 62) 0) (n:=(ao 62).aH) (w:=200) (e:=.exit 0) (A:=CV n n) (bC:=xw n n) (B:=λ q=>[(3,.ah (q 0) 1 0 n false)]) (bO:=xw n n) [hb 16 (iW (a2 n))];rw[d];refine yY hN [hb 6 (show decide ((n:Int)<1)=false from decide_eq_false ac),hb 9 (show decide ((100:Int)<(n:Int))=false from decide_eq_false ac),vu 12 1 24 .ar n (λ x:aa=>x) (dA .ar (λ j=>aj (c4 n (some j))) 0) (λ j _=>if_neg (ew _)),oF (ao 62) 0 0 n (dH [[8,0]]) (CV n) (xw n) (.exit 0) (λ q=>[(3,.ah (q 0) 1 0 n false)]) (xw n n) rd x (t0:=CV n 0 (dH [[8,0]])) (k0:=xw n 0 (dH [[8,0]])) rfl rfl] [([8,0],⟨(a7 n (dA .ar (λ j=>aj (c4 n (some j))) n)).map λ x=>x,1,false⟩)] (.ah [8,0] 1 0 n false) an oL rfl am λ σ h=>?_;have h1:=h _ cg;simp only[AQ]at h1;haveI:b9 1 (a7 n λ j=>aj (c4 n (some j))):=⟨λ c hc=>by obtain⟨j,_,rfl⟩:=bd.1 hc;infer_instance⟩;exact gK h1 (iC _ _)
variable(A B:List (List ak))
noncomputable abbrev q7(j:Nat):aa:=aj (A.getD j []++B.getD j [])
noncomputable abbrev Cc(i:Nat)(q:bm):List (Nat×aa):=[(0,aD A),(1,aD B),(5,.ah (q 0) 1 0 A.length false),(10,aD A),(11,.int .i64 ((A.map aj).length:Nat)),(12,aq i)]
noncomputable abbrev xa(i:Nat)(q:bm):List (bz×aJ):=[(q 0,⟨(a7 A.length (dA .ar (q7 A B) i)).map λ x=>x,1,false⟩)]
def akz(p:A.length=B.length)(o:A.length<=90)(g:∀r∈A,r≠[]/\r.length<=90)(m:∀r∈B,r≠[]/\r.length<=90):ag ab G 114 [aD A,aD B] (aD (bX A B)):=by
 have l:aD (bX A B)=.sl 1 (a7 A.length (q7 A B)):=by show aa.sl 1 ((bX A B).map aj)=_;congr 1;refine List.ext_getElem (by unfold bX;rw[aL,gY,iC];omega) λ i h1 h2=>?_;rw[iC]at h2;simp only[bX,a7,gm,uO,kT,q7];rw[aX h2,aX]
 have rd:∀i,i<A.length->iK ab G (aT (ao 114) 0) (ao 114).aH 200 .normal (Cc A B i) (xa A B i) (Cc A B (i+1)) (xa A B (i+1)):=λ i d=>by
   have b:i<B.length:=ac;have c:=VV G (M:=[A[i],B[i]]) am (λ r f=>by rcases cp.1 f with rfl|f;exact g _ (bo d);rw[bU.1 f];exact m _ (bo b)) am;have k:aj [A[i],B[i]].flatten=q7 A B i:=by show _=aj (_++_);rw[aX d,aX b];simp
   rw[k]at c;haveI:∀j,bg (q7 A B j):=λ j=>inferInstance;exact gy [bu 13 aj d,aU 19 1 aj d,aU 23 1 aj b,j0 [13,0] 1 [aj A[i],aj B[i]] (A:=[]) c,cQ 27 1 [1] false A.length i,mJ 27 1 [1] 1 A.length (λ x=>x) (dA .ar (q7 A B) i) (dA .ar (q7 A B) (i+1)) i (q7 A B i) (λ j _=>D7 j) rfl (h1:=IX (λ _=>rfl) i i) (hu:=by unfold dA;split<;>rfl),a5 28 i]
 have x:=gy (P:=ab) (G:=G) (c:=aT (ao 114) 0) (n:=(ao 114).aH) (w:=200) (e:=.exit 0) (A:=Cc A B A.length) (bC:=xa A B A.length) (B:=λ q=>[(5,.ah (q 0) 1 0 A.length false)]) (bO:=xa A B A.length) [cS 13 aj A];rw[l];refine yY hN [hw 8 (show(((A.map aj).length:Nat):Int)=(A.length:Int)by rw[aL]),vu 9 1 24 .ar A.length (λ x:aa=>x) (dA .ar (q7 A B) 0) (λ j _=>if_neg (ew _)),oF (ao 114) 0 0 A.length (dH [[3,0]]) (Cc A B) (xa A B) (.exit 0) (λ q=>[(5,.ah (q 0) 1 0 A.length false)]) (xa A B A.length) rd x (t0:=Cc A B 0 (dH [[3,0]])) (k0:=xa A B 0 (dH [[3,0]])) rfl rfl] [([3,0],⟨(a7 A.length (dA .ar (q7 A B) A.length)).map λ x=>x,1,false⟩)] (.ah [3,0] 1 0 A.length false) an oL rfl am λ σ h=>?_;have h1:=h _ cg;simp only[AQ]at h1;haveI:b9 1 (a7 A.length (q7 A B)):=⟨λ c hc=>by obtain⟨j,_,rfl⟩:=bd.1 hc;infer_instance⟩;exact gK h1 (iC _ _)
def iS(X:aa)(R:Nat->aa)(k j:Nat):aa:=if j<k then R j else if j=k then X else .ar
def Pd{X:aa}{R:Nat->aa}{k:Nat}:iS X R k k=X:=by unfold iS;rw[if_neg (pM _),if_pos rfl]
def Ze{X Y:aa}{R:Nat->aa}{k:Nat}(j:Nat):iS Y R k j=if j=k then Y else iS X R k j:=by unfold iS;by_cases h:j=k;subst h;rw[if_neg (pM _),if_pos rfl,if_pos rfl];rw[if_neg h,if_neg h,if_neg h]
def aqn{R:Nat->aa}{k:Nat}:iS .ar R k=dA .ar R k:=by funext j;unfold iS dA;split<;>(try rfl);split<;>rfl
def Ot{R:Nat->aa}{k:Nat}:dA .ar R k k=.ar:=if_neg (pM _)
def aqo{R:Nat->aa}{k:Nat}:iS (R k) R k=dA .ar R (k+1):=by funext j;unfold iS dA;by_cases h:j<k;rw[if_pos h,if_pos ac];by_cases h2:j=k;subst h2;rw[if_neg h,if_pos rfl,if_pos ac];rw[if_neg h,if_neg h2,if_neg ac]
instance{R:Nat->aa}{k w i o n l:Nat}{t:Bool}[h:∀j,bg (R j)]:qU (λ q=>(a7 w (iS (.ah (q i) n o l t) R k)).map λ x=>x):=⟨λ ρ q=>by rw[ga,n7,n7];unfold a7;rw[iA];refine kq λ j _=>?_;show(iS _ R k j).aY ρ=_;unfold iS;split;exact(h j).fix ρ;split<;>rfl⟩
def agh{G:Nat->Option (List aa)}(key:Nat)(id a:bz)(i:Nat)(c:Nat->ak)(x:ak)(g:c i=x)(l:i<=9000):aV ab G:=.st key [(a,⟨[x.T],2,false⟩),(id,⟨(a7 i c).map aP,2,false⟩)] (.append 2 48 (.ah id 2 0 i false) (.ah a 2 0 1 false)) (λ p=>{val:=.ah p 2 0 (i+1) false,rd:=[id,a],up:=[(id,none),(p,some ⟨(a7 (i+1) c).map aP,2,false⟩)]}) (λ σ p b=>by
     subst g;have h1:=b (a,⟨[(c i).T],2,false⟩) am;have h2:=b (id,⟨(a7 i c).map aP,2,false⟩) am;have el:((a7 i c).map aP).length=i:=by rw[aL,iC]
     have h:(a7 (i+1) c).map aP=(a7 i c).map aP++[(c i).T]:=by unfold a7;rw[gz,dW,dW];rfl
     rw[h];have:=yl (σ:=σ) (p:=p) (id:=id) (k:=2) (bytes:=48) (len:=((a7 i c).map aP).length) (x:=.ah a 2 0 1 false) (els:=(a7 i c).map aP) (ys:=[(c i).T]) (rd:=[a]) (by rw[zr h1 rfl am];rfl) am h2 rfl (by rw[el];simp;omega) (oD (by rw[el];simp;omega)) (by simpa using vN (c i)) (ek.2 λ e f=>by obtain⟨y,_,rfl⟩:=bd.1 f;exact vN y);rw[el]at this;exact this)
end
section
open Go.aA Go.aA.fE Go.Proofs Go.Lib
variable(G:Nat->Option (List aa))(M:List (List ak))(w:Nat)
noncomputable abbrev te(k i:Nat):ak:=(M.getD i []).getD k (a3 0)
noncomputable abbrev iT(k:Nat):aa:=aj (jr M k)
noncomputable abbrev Er(k i:Nat)(q:bm):List (Nat×aa):=[(0,aD M),(3,.ah (q 0) 1 0 w false),(4,aq k),(14,aq w),(15,aq k),(18,aD M),(19,.int .i64 ((M.map aj).length:Nat)),(20,aq i)]
noncomputable abbrev qw(k:Nat)(q:bm):List (bz×aJ):=[(q 0,⟨(a7 w (dA .ar (iT M) k)).map λ x=>x,1,false⟩)]
noncomputable abbrev wb(k i:Nat)(q:bm):List (bz×aJ):=[(q 0,⟨(a7 w (iS (.ah (q 1) 2 0 i false) (iT M) k)).map λ x=>x,1,false⟩),(q 1,⟨(a7 i (te M k)).map aP,2,false⟩)]
noncomputable def wa(k i:Nat):bm->List (bz×aJ):=if i=0 then qw M w k else wb M w k i
variable{M w}
def aql(f:∀r∈M,r.length=w)(h:M.length<=9000){k:Nat}(c:k<w)(i:Nat)(b:i<M.length):lW ab G (aT (ao 69) 1) (ao 69).aH 200 1 .normal (Er M w k i) (wa M w k i) (Er M w k (i+1)) (wa M w k (i+1)):=by
 have a:k<M[i].length:=by rw[f _ (bo b)];exact c
 have e:te M k i=(M[i])[k]:=by show(M.getD i []).getD k _=_;rw[aX b,aX a]
 rw[show wa M w k (i+1)=wb M w k (i+1)from if_neg (Nat.succ_ne_zero i)];by_cases h0:i=0;subst h0;rw[show wa M w k 0=qw M w k from if_pos rfl];unfold wb qw;have g:(a7 (0+1) (te M k)).map aP=[((M[0])[k]).T]:=by show [(te M k 0).T]=_;rw[e]
 rw[g];exact qq [15,0] [bu 21 aj b,aU 22 1 aj b,cQ 28 1 [1] false w k,fX 29 1 false [1] 1 w (λ x=>x) (dA .ar (iT M) k) k .ar c (by rw[Ot];rfl),aU 32 2 aP a,cQ 36 1 [1] false w k,mJ 36 1 [1] 1 w (λ x=>x) (dA .ar (iT M) k) (iS (.ah [15,0] 2 0 1 false) (iT M) k) k (.ah [15,0] 2 0 1 false) (λ j _=>by rw[<-aqn];exact Ze j) rfl (h1:=by rw[Ot];exact a2 _) (hu:=by rw[Ot];rfl),a5 37 0];rw[show wa M w k i=wb M w k i from if_neg h0];exact qq [15,0] [bu 21 aj b,aU 22 1 aj b,cQ 28 1 [1] false w k,fX 29 1 false [1] 1 w (λ x=>x) (iS (.ah [2] 2 0 i false) (iT M) k) k (.ah [2] 2 0 i false) c (by rw[Pd];rfl),aU 32 2 aP a,agh 35 [2] [14,0] i (te M k) (M[i])[k] e ac,cQ 36 1 [1] false w k,mJ 36 1 [1] 1 w (λ x=>x) (iS (.ah [2] 2 0 i false) (iT M) k) (iS (.ah [15,0] 2 0 (i+1) false) (iT M) k) k (.ah [15,0] 2 0 (i+1) false) (λ j _=>Ze j) rfl (h1:=by rw[Pd];exact a2 _) (hu:=by rw[Pd];rfl),a5 37 i]
def aey(k:Nat):aj (jr M k)=.sl 2 ((a7 M.length (te M k)).map aP):=by show aa.sl 2 _=_;unfold jr a7;rw[iA,iA,<-x6 (f:=aP∘λ r=>r.getD k (a3 0)) (d:=[])];rfl
def ZN{F:List (bz×aJ)}{α:Type}{f g:α->aa}:∀(l:List α),(∀x∈l,gD F (f x) (g x))->e6 F (l.map f) (l.map g)|[],_=>trivial|x::l,h=>⟨h x cg,ZN l λ y a=>h y (cX _ a)⟩
def aqk{n m k:Nat}{T:List (Nat×aa)}{a y:bz}(b:a≠y):bN G [0] ⟨fr n T,bB [(a,⟨(a7 w (iS (.ah y 2 0 M.length false) (iT M) k)).map λ x=>x,1,false⟩),(y,⟨(a7 M.length (te M k)).map aP,2,false⟩)],m⟩ ⟨fr n T,bB [(a,⟨(a7 w (dA .ar (iT M) (k+1))).map λ x=>x,1,false⟩)],m⟩:=by
 have g:(y==a)=false:=by simpa using Ne.symm b
 have o:∀(X:aa),X.cells=[X]->∀j,(iS X (iT M) k j).cells=[iS X (iT M) k j]:=λ X p j=>by unfold iS;split;rfl;split;exact p;rfl
 refine bN.nw [(y,⟨(a7 M.length (te M k)).map aP,2,false⟩)] (λ x d=>by rw[bU.1 d];simp[bB,dC,g]) (ji _ _) (λ i=>?_) (a2 _);by_cases h:i=a;subst h;refine .inr ⟨⟨(a7 w (iS (.ah y 2 0 M.length false) (iT M) k)).map λ x=>x,1,false⟩,⟨(a7 w (dA .ar (iT M) (k+1))).map λ x=>x,1,false⟩,by simp[bB],by simp[bB],rfl,.inl rfl,λ _ x d=>by rw[bU.1 d];exact Ne.symm b,by simp[iC],λ e c=>?_,?_⟩;rw[n7]at c;obtain⟨j,_,rfl⟩:=bd.1 c;unfold dA;split<;>rfl;show e6 _ (flat ((a7 w _).map λ x=>x)) (flat ((a7 w _).map λ x=>x));rw[n7,n7,<-aqo];unfold a7;rw[GH (f:=iS (.ah y 2 0 M.length false) (iT M) k) (o _ rfl),GH (f:=iS (iT M k) (iT M) k) (o _ rfl)];refine ZN _ λ j _=>?_;unfold iS;split;exact n5 _ _;split;show gD _ _ (aj (jr M k));rw[aey];have:=wh (F:=[(y,⟨(a7 M.length (te M k)).map aP,2,false⟩)]) (q:=y) (l:=(a7 M.length (te M k)).map aP) (k:=2) (t:=false) (by simp[bB]) (λ e c=>by obtain⟨z,_,rfl⟩:=bd.1 c;infer_instance);rw[aL,iC]at this;exact this;exact n5 _ _;refine .inl ?_;have:(i==a)=false:=by simpa using h
 show dC _ _=_;rw[jh,this];rfl
noncomputable def ajI{P:Program}{G:Nat->Option (List aa)}(aG:ee)(k N:Nat)(q0:bm)(T:Nat->bm->List (Nat×aa))(K:Nat->bm->List (bz×aJ))(e:cn)(dx:bm->List (Nat×aa))(cC:bm->List (bz×aJ)){b:Nat}[gS 0 b cC](h:∀i,i<N->iK P G (aT aG k) aG.aH (cx 9) .normal (T i) (K i) (T (i+1)) (K (i+1)))(d:iK P G (aT aG k) aG.aH (cx 9) e (T N) (K N) dx cC){t0:List (Nat×aa)}{k0:List (bz×aJ)}(f:T 0 q0=t0:=by rfl)(g:K 0 q0=k0:=by rfl)(h0:rB ((uS 0 8).map q0)=true:=by kernel_rfl)(hN:N<=10000000000000000000:=by omega)(a:e≠.normal:=by simp)(hb:b<=8:=by decide):aV P G:=.iQ [0] (aT aG k) (fr aG.aH t0) k0 (eF 0) e (fr aG.aH (dx q0)) (b8 (cC q0)) qb (by rw[<-f,<-g];exact HO (vM h0) hb h d a (by unfold eF cx qb;omega))
noncomputable def agC(j:∀r∈M,r.length=w)(b:M≠[])(f:M.length<=9000){k:Nat}(l:k<w):aV ab G:=.iQ [0] (aT (ao 69) 1) (fr (ao 69).aH (Er M w k 0 (dH [[1],[2]]))) (qw M w k (dH [[1],[2]])) (eF 0) (.exit 2) (fr (ao 69).aH [(0,aD M),(3,.ah [1] 1 0 w false),(14,aq w),(15,aq k)]) (b8 [([1],⟨(a7 w (dA .ar (iT M) (k+1))).map λ x=>x,1,false⟩)]) (cx 0+1) (by have g:wa M w k M.length=wb M w k M.length:=if_neg λ e=>b (List.eq_nil_of_length_eq_zero e);have x:=qq (P:=ab) (G:=G) (c:=aT (ao 69) 1) (n:=(ao 69).aH) (w:=200) (d:=1) (e:=.exit 2) (A:=Er M w k M.length) (bC:=wb M w k M.length) (B:=λ q=>[(0,aD M),(3,.ah (q 0) 1 0 w false),(14,aq w),(15,aq k)]) (bO:=wb M w k M.length) [2] [cS 21 aj M];have:=Vh (P:=ab) (G:=G) (c:=aT (ao 69) 1) (n:=(ao 69).aH) (N:=M.length) (w:=200) (n0:=eF 0) (E:=cx 0) (d:=1) (e:=.exit 2) (q:=dH [[1],[2]]) (T:=λ i=>Er M w k i) (K:=λ i=>wa M w k i) (dx:=λ q=>[(0,aD M),(3,.ah (q 0) 1 0 w false),(14,aq w),(15,aq k)]) (cC:=wb M w k M.length) al (jS.start an al) (λ i h=>aql G j f l i h) (by rw[g];exact x) am (by unfold eF cx;omega);rw[show wa M w k 0=qw M w k from if_pos rfl]at this;refine this.mono λ m s'⟨h1,h2⟩=>?_;subst h1;exact⟨rfl,bN.toT am (h2.trans (aqk G al))⟩)
def VY(d:∀r∈M,r.length=w)(b:M≠[])(g:M.length<=9000)(m:w<=9000):ag ab G 69 [aD M] (aD (cB M)):=by
 have cs:=xH G b;have k:c8 M=w:=by cases M with|nil=>exact absurd rfl b|cons r M=>exact d r cg
 rw[k]at cs;have l:aD (cB M)=.sl 1 (a7 w (iT M)):=by show aa.sl 1 ((cB M).map aj)=_;unfold cB a7;rw[k,iA];rfl
 have rd:∀i,i<w->iK ab G (aT (ao 69) 0) (ao 69).aH (cx 9) .normal (λ q=>[(0,aD M),(3,.ah (q 0) 1 0 w false),(14,aq w),(15,aq i)]) (qw M w i) (λ q=>[(0,aD M),(3,.ah (q 0) 1 0 w false),(14,aq w),(15,aq (i+1))]) (qw M w (i+1)):=λ i f=>gy [hb 16 (dv f),agC G d b g f,a5 38 i];have x:=gy (P:=ab) (G:=G) (c:=aT (ao 69) 0) (n:=(ao 69).aH) (w:=cx 9) (e:=.exit 0) (A:=λ q=>[(0,aD M),(3,.ah (q 0) 1 0 w false),(14,aq w),(15,aq w)]) (bC:=qw M w w) (B:=λ q=>[(3,.ah (q 0) 1 0 w false)]) (bO:=qw M w w) [hb 16 (iW (a2 w))];rw[l];refine yY hN [hc (Ag G d g),hc cs,vu 12 1 24 .ar w (λ x:aa=>x) (dA .ar (iT M) 0) (λ j _=>if_neg (ew _)),ajI (ao 69) 0 w (dH [[6,0]]) (λ i q=>[(0,aD M),(3,.ah (q 0) 1 0 w false),(14,aq w),(15,aq i)]) (qw M w) (.exit 0) (λ q=>[(3,.ah (q 0) 1 0 w false)]) (qw M w w) rd x (t0:=[(0,aD M),(3,.ah [6,0] 1 0 w false),(14,aq w),(15,aq 0)]) (k0:=qw M w 0 (dH [[6,0]])) rfl rfl] [([6,0],⟨(a7 w (dA .ar (iT M) w)).map λ x=>x,1,false⟩)] (.ah [6,0] 1 0 w false) an oL rfl am λ σ h=>?_;have h1:=h _ cg;simp only[AQ]at h1;haveI:b9 1 (a7 w (iT M)):=⟨λ c hc=>by obtain⟨j,_,rfl⟩:=bd.1 hc;infer_instance⟩;exact gK h1 (iC _ _)
end
section
open Go.aA Go.aA.fE Go.Proofs Go.Lib
variable(G:Nat->Option (List aa)){K:b6}{q e r:Nat}(F:eb K q e r){n m:Nat}
noncomputable abbrev aeZ(a b:List ak)(i:Nat)(q:aB):List (Nat×aa):=[(7,.ref q.a 0 0),(6,.ref q.b 0 0),(0,fo),(1,aj a),(2,aj b),(11,aj a),(12,.int .i64 ((a.map aP).length:Nat)),(13,aq i)]
include F
def akE{a b:List ak}(h:a.length=b.length)(B:a.length<=9000)(w:cU K n a)(hb:cU K m b)(h1:bF K q n)(h2:bF K q m)(h3:bF K q (q9 K a n m)):ag ab G 116 [fo,aj a,aj b] (dV a b).T:=by
 have g:∀i,i<=a.length->(dV (a.take i) (b.take i)).G K (q9 K a n m):=λ i f=>by have:=DN (K:=K) (n:=n) (m:=m) (a:=a.take i) (b:=b.take i) (λ x p=>w x (gZ p)) (λ x p=>hb x (gZ p));exact this.mono (cr _ (by rw[eZ];omega))
 have o:dV a b=dV (a.take a.length) (b.take a.length):=by rw[gl,h,gl]
 rw[o];refine bK [hc (vL G),dz (ao 116) 0 0 0 a.length ⟨[2,0],[0,0],[3],[4]⟩ (aeZ a b) (vP a b) (.exit 0) (λ q=>[(7,.ref q.a 0 0),(6,.ref q.b 0 0)]) (vP a b a.length) (λ i f=>?_) (a9 aO [cS 14 aP a])];have d:i<b.length:=ac;have k:=w _ (bo f);have t:=hb _ (bo d);have A:1*(n+m+K.c+1)<=q9 K a n m:=cr _ ac;have u:=xL G F k h1;have v:=xL G F t h2;have o:=W4 f d;unfold vP;rw[o];cases l:(a[i]).bM with|true=>rw[Bool.true_or,if_pos rfl];exact a9 aO [bu 14 aP f,aU 16 2 aP f,hc u,eB 20 (oM l),a5 39 i]|false=>cases y:(b[i]).bM with|true=>rw[Bool.or_true,if_pos rfl];exact a9 aO [bu 14 aP f,aU 16 2 aP f,hc u,eB 20 (oM l),aU 24 2 aP d,hc v,eB 27 (oM y),a5 39 i]|false=>rw[Bool.or_false,if_neg Bool.false_ne_true];have x1:=zj G F k t h1 h2;have cu:=adJ G F (g i ac) (k.mul t) h3 (show bF K q (n+m+K.c)by unfold bF at*;omega);exact a9 aO [bu 14 aP f,aU 16 2 aP f,hc u,eB 20 (oM l),aU 24 2 aP d,hc v,eB 27 (oM y),aU 35 2 aP d,hc x1,hc cu,a5 39 i]
noncomputable def mD(A:List (List ak))(v:List ak):List ak:=A.map λ a=>dV a v
omit F in noncomputable abbrev sk(A:List (List ak))(v:List ak)(j:Nat):aa:=(dV (A.getD j []) v).T
noncomputable abbrev B7(A:List (List ak))(v:List ak)(i:Nat)(q:bm):List (Nat×aa):=[(1,aj v),(7,.ah (q 0) 2 0 A.length false),(25,aD A),(26,.int .i64 ((A.map aj).length:Nat)),(27,aq i)]
noncomputable abbrev w7(A:List (List ak))(v:List ak)(i:Nat)(q:bm):List (bz×aJ):=[(q 0,⟨(a7 A.length (dA lD (sk A v) i)).map λ x=>x,2,false⟩)]
def aky{A:List (List ak)}{v:List ak}{w:Nat}(s:a4 K n w A)(hv:cU K m v)(hw:v.length=w)(k:A≠[])(t:A.length<=9000)(u:w<=9000)(h1:bF K q n)(h2:bF K q m)(h3:bF K q (w*(n+m+K.c+1))):ag ab G 71 [aD A,aj v] (.aM [aj (mD A v),.int .i64 0]):=by
 have cs:=xH G k;rw[eD s k]at cs;have z:aj (mD A v)=.sl 2 (a7 A.length (sk A v)):=by show aa.sl 2 ((mD A v).map aP)=_;unfold mD a7;rw[iA,<-x6 (f:=aP∘λ a=>dV a v) (d:=[])];rfl
 have rd:∀i,i<A.length->iK ab G (aT (ao 71) 0) (ao 71).aH 200 .normal (λ q=>(6,fo)::B7 A v i q) (w7 A v i) (λ q=>(6,fo)::B7 A v (i+1) q) (w7 A v (i+1)):=λ i o=>by
   have p:=s _ (bo o);have d:=akE G F (a:=A[i]) (b:=v) (by rw[p.1,hw]) (by rw[p.1];exact u) p.2 hv h1 h2 (by unfold q9;rw[p.1];exact h3);have ed:(dV A[i] v).T=sk A v i:=by show _=(dV (A.getD i []) v).T;rw[aX o]
   rw[ed]at d;exact gy [bu 28 aj o,aU 30 1 aj o,hc d,cQ 38 2 [1] false A.length i,mJ 38 2 [1] 2 A.length (λ x=>x) (dA lD (sk A v) i) (dA lD (sk A v) (i+1)) i (sk A v i) (λ j _=>D7 j) (vN _) (h1:=by unfold dA;split<;>exact a2 _) (hu:=by unfold dA;split<;>rfl),a5 39 i]
 have x:=gy (P:=ab) (G:=G) (c:=aT (ao 71) 0) (n:=(ao 71).aH) (w:=200) (e:=.exit 0) (A:=λ q=>(6,fo)::B7 A v A.length q) (bC:=w7 A v A.length) (B:=λ q=>[(6,fo),(7,.ah (q 0) 2 0 A.length false)]) (bO:=w7 A v A.length) [cS 28 aj A];have D:=HO (P:=ab) (G:=G) (c:=aT (ao 71) 0) (n:=(ao 71).aH) (N:=A.length) (w:=200) (n0:=eF 0) (E:=cx 0) (e:=.exit 0) (q:=dH [[17,0]]) (T:=λ i q=>(6,fo)::B7 A v i q) (K:=w7 A v) (dx:=λ q=>[(6,fo),(7,.ah (q 0) 2 0 A.length false)]) (cC:=w7 A v A.length) (vM an) al rd x am (JM ac);have jx:bA ab G [0] (.loop (aT (ao 71) 0)) _ ⟨fr (ao 71).aH ((6,.ref [13,0] 0 0)::B7 A v 0 (dH [[17,0]])),bB (([13,0],⟨[.agg [.int .i64 0]],1,false⟩)::w7 A v 0 (dH [[17,0]])),eF 0⟩:=Tn (cs:=[.int .i64 0]) rfl (λ y I=>by rw[bU.1 I];exact⟨by show([17,0]:List Nat)≠[13,0];decide,λ e l=>by have l:e∈(a7 A.length (dA lD (sk A v) 0)).map λ x=>x:=l;rw[n7]at l;obtain⟨j,_,rfl⟩:=bd.1 l;unfold dA;split<;>rfl⟩) D;rw[z];refine yY hN [hc (Ag G (λ r C=>(s r C).1) t),hc cs,eB 18 (show((((v.map aP).length:Nat):Int)!=(w:Int))=false by rw[aL,hw];exact bne_self_eq_false _),Go.aA.hw 23 (show(((A.map aj).length:Nat):Int)=(A.length:Int)by rw[aL]),vu 24 2 48 lD A.length (λ x:aa=>x) (dA lD (sk A v) 0) (λ j _=>if_neg (ew _)),.iQ [0] (aT (ao 71) 0) _ _ (eF 0) (.exit 0) _ _ (cx 0) jx] [([17,0],⟨(a7 A.length (dA lD (sk A v) A.length)).map λ x=>x,2,false⟩)] (.aM [.ah [17,0] 2 0 A.length false,.int .i64 0]) an oL rfl am λ σ h=>?_;have h1:=h _ cg;simp only[AQ]at h1;haveI:b9 2 (a7 A.length (sk A v)):=⟨λ c hc=>by obtain⟨j,_,rfl⟩:=bd.1 hc;infer_instance⟩;exact mq (bZ (gK h1 (iC _ _)) (bZ (fx (KE _ _)) eH))
def akN{w j:Nat}{M:List (List ak)}(c:a4 K n w M)(a:M≠[])(h0:0<w)(f:M.length<=90)(d:w<=90)(g:M.length<=j\/w<=j)(B:bF K q (grow K j n)):ag ab G 66 [aD M] (.aM [aD ((dk M).rows w M.length),bP (dk M).pv,.int .i64 0]):=aN [hc (Ag G (λ r h=>(c r h).1) ac),hc (H2 G F M c a h0 f d g B)]
def VX{w j:Nat}{M:List (List ak)}(b:a4 K n w M)(a:M≠[])(h0:0<w)(g:M.length<=90)(k:w<=90)(i:M.length<=j\/w<=j)(B:bF K q (grow K j n)):ag ab G 63 [aD M] (.aM [bP (dk (cB M)).pv,.int .i64 0]):=by
 have h:=nR b;have jd:(cB M).length=w:=by rw[qx,eD b a]
 have f:cB M≠[]:=λ e=>by rw[e]at jd;rw[gR]at jd;omega
 exact aN [hc (Ag G (λ r c=>(b r c).1) ac),hc (VY G (λ r c=>(b r c).1) a ac ac),hc (H2 G F (cB M) h f (fN.2 a) ac g ac B)]
end
section
open Go.aA Go.aA.fE Go.Proofs Go.Lib
noncomputable def k7(R:List (List ak))(pv:List Nat)(w i k:Nat):List ak:=jB (λ s=>((R.getD s []).getD k (a3 0)).neg) (pv.take i) 0 (c4 w (some k))
noncomputable def ki(R:List (List ak))(pv:List Nat)(w i:Nat):List (List ak):=((aR i).filter λ k=>!pv.contains k).map λ k=>k7 R pv w pv.length k
def UR{R:List (List ak)}{pv:List Nat}{w i k:Nat}:(k7 R pv w i k).length=w:=by unfold k7;rw[DT,jE]
def ai6{R:List (List ak)}{pv:List Nat}{w i:Nat}(h:pv.contains i=false):ki R pv w (i+1)=ki R pv w i++[k7 R pv w pv.length i]:=by unfold ki;rw[gz,ks,dW,show List.filter (λ k=>!pv.contains k) [i]=[i]from by rw[abI,h];rfl];rfl
def ai5{R:List (List ak)}{pv:List Nat}{w i:Nat}(h:pv.contains i=true):ki R pv w (i+1)=ki R pv w i:=by unfold ki;rw[gz,ks,dW,show List.filter (λ k=>!pv.contains k) [i]=[]from by rw[abI,h];rfl];exact mn _
def UQ(R:List (List ak))(pv:List Nat)(w i:Nat):(ki R pv w i).length<=i:=by unfold ki;rw[aL];have:=qR (λ k=>!pv.contains k) (aR i);rwa[cR]at this
variable(G:Nat->Option (List aa))(M R:List (List ak))(pv:List Nat)(w:Nat)(rd ed:aa)
noncomputable abbrev z2:List aa:=[aD R,bP pv,rd,ed]
noncomputable abbrev xC(k:Nat):List (Nat×aa):=[(4,.cE (z2 R pv rd ed) 0),(0,aD M),(23,aq w),(24,aq k)]
noncomputable abbrev sQ(o:Bool)(l:List aa)(k i:Nat)(q:bm):List (Nat×aa):=(6,match o with|true=>.ah (q 1) 1 0 l.length false|false=>.ar)::[(4,.cE (z2 R pv rd ed) 0),(0,aD M),(23,aq w),(24,aq k),(7,aq k),(8,.ah (q 0) 2 0 w false),(36,bP pv),(37,.int .i64 ((pv.map aq).length:Nat)),(38,aq i)]
noncomputable abbrev z3(o:Bool)(l:List aa)(v:List ak)(q:bm):List (bz×aJ):=match o with|true=>[(q 0,⟨v.map aP,2,false⟩),(q 1,⟨l,1,false⟩)]|false=>[(q 0,⟨v.map aP,2,false⟩)]
variable{M R pv w rd ed}
variable [bg rd][bg ed]{K:b6}{q e r:Nat}{n:Nat}
def UX(y:a4 K n w R)(z:pv.length<=R.length)(g:∀p∈pv,p<w)(u:bF K q n)(F:eb K q e r)(A:w<16)(E:pv.length<=9000){k:Nat}(B:k<w)(l:List aa)[bn l](o:Bool)(i:Nat)(c:i<pv.length):iK ab G (aT (ao 65) 1) (ao 65).aH 200 .normal (sQ M R pv w rd ed o l k i) (z3 o l (k7 R pv w i k)) (sQ M R pv w rd ed o l k (i+1)) (z3 o l (k7 R pv w (i+1) k)):=by have b:i<R.length:=ac;have⟨C,g1⟩:=y _ (bo b);have a:k<R[i].length:=ac;have m:=Ns G F (g1 _ (bo a)) u;have t:=g _ (bo c);have j:=IC (f:=λ s=>((R.getD s []).getD k (a3 0)).neg) (l:=pv) (i:=i) (x:=c4 w (some k)) c;simp only[aX b,aX a]at j;have D:=UR (R:=R) (pv:=pv) (w:=w) (i:=i) (k:=k);have d:(k7 R pv w i k).set pv[i] ((R[i])[k]).neg=k7 R pv w (i+1) k:=j;generalize k7 R pv w i k=v at*;generalize k7 R pv w (i+1) k=v' at*;cases o<;>exact gy [bu 39 aq c,aU 41 1 aq c,aU 48 1 aj b,aU 51 2 aP a,hc m,cQ 54 2 [1] false w pv[i],qd 54 2 [1] 2 aP v pv[i] ((R[i])[k]).neg v' d (b:=vN _),a5 55 i]
def UY{k:Nat}(l:List aa)[bn l](o:Bool):iK ab G (aT (ao 65) 1) (ao 65).aH 200 (.exit 2) (sQ M R pv w rd ed o l k pv.length) (z3 o l (k7 R pv w pv.length k)) (sQ M R pv w rd ed o l k pv.length) (z3 o l (k7 R pv w pv.length k)):=by cases o<;>exact gy [cS 39 aq pv]
noncomputable def UW(h:a4 K n w R)(c:pv.length<=R.length)(a:∀p∈pv,p<w)(f:bF K q n)(F:eb K q e r)(d:w<16)(j:pv.length<=9000){k:Nat}(m:k<w)(l:List aa)[bn l]:Bool->aV ab G|true=>oF (ao 65) 1 0 pv.length (dH [[22,4,2,10,0],[1]]) (sQ M R pv w rd ed true l k) (λ i=>z3 true l (k7 R pv w i k)) (.exit 2) (sQ M R pv w rd ed true l k pv.length) (λ q=>[(q 0,⟨(k7 R pv w pv.length k).map aP,2,false⟩),(q 1,⟨l,1,false⟩)]) (λ i b=>UX G h c a f F d j m l true i b) (UY G l true) (t0:=sQ M R pv w rd ed true l k 0 (dH [[22,4,2,10,0],[1]])) (k0:=[([22,4,2,10,0],⟨(c4 w (some k)).map aP,2,false⟩),([1],⟨l,1,false⟩)]) rfl rfl|false=>oF (ao 65) 1 0 pv.length (dH [[22,4,2,10,0],[1]]) (sQ M R pv w rd ed false l k) (λ i=>z3 false l (k7 R pv w i k)) (.exit 2) (sQ M R pv w rd ed false l k pv.length) (λ q=>[(q 0,⟨(k7 R pv w pv.length k).map aP,2,false⟩)]) (λ i b=>UX G h c a f F d j m l false i b) (UY G l false) (t0:=sQ M R pv w rd ed false l k 0 (dH [[22,4,2,10,0],[1]])) (k0:=[([22,4,2,10,0],⟨(c4 w (some k)).map aP,2,false⟩)]) rfl rfl
def ajf(m:a4 K n w R)(t:pv.length<=R.length)(d:∀p∈pv,p<w)(o:bF K q n)(F:eb K q e r)(j:w<16)(g:pv.length<=9000)(cs:ag ab G 111 [aD M] (aq w))(k:Nat)(b:k<w):bb ab G (aT (ao 65) 0) (ao 65).aH (cx 9) .normal (λ q=>(6,bt q.a 1 ((ki R pv w k).map aj))::xC M R pv w rd ed k) (λ q=>a8 q.a 1 ((ki R pv w k).map aj)++[]) (λ q=>(6,bt q.a 1 ((ki R pv w (k+1)).map aj))::xC M R pv w rd ed (k+1)) (λ q=>a8 q.a 1 ((ki R pv w (k+1)).map aj)++[]):=by have f:=pD G (l:=pv) (n:=k) g;have u:=UQ R pv w k;cases h:pv.contains k with|true=>rw[h]at f;rw[ai5 h];exact j1 (A:=λ _=>xC M R pv w rd ed k) (B:=λ _=>xC M R pv w rd ed (k+1)) (bC:=λ _=>[]) (bO:=λ _=>[]) aO [hb 25 (dv b),hc f,a5 60 k]|false=>
   rw[h]at f;rw[ai6 h,dW,gQ];have i:=λ p=>V0 G b j p;rw[aL,jE]at i;have el:((k7 R pv w pv.length k).map aP).length=w:=by rw[aL,UR]
   exact F0 (key:=59) (d:=2) (lC:=w) (row:=(k7 R pv w pv.length k).map aP) el.symm (by rw[aL];omega) 1000000000000000000000002 ⟨[1000000000000000000000003,0],[22,4,2,10,0],[3],[4]⟩ (λ y=>match y with|[]=>[hb 25 (dv b),hc f,hc cs,c3 i,UW G (M:=M) (rd:=rd) (ed:=ed) m t d o F j g b ((ki R pv w k).map aj) false,a5 60 k]|z::_=>[hb 25 (dv b),hc f,hc cs,c3 i,UW G (M:=M) (rd:=rd) (ed:=ed) m t d o F j g b ((ki R pv w k).map aj) true,z,a5 60 k])
noncomputable def ags(m:a4 K n w R)(f:pv.length<=R.length)(d:∀p∈pv,p<w)(j:bF K q n)(F:eb K q e r)(g:w<16)(h:pv.length<=9000)(cs:ag ab G 111 [aD M] (aq w)):aV ab G:=.iQ [0] (aT (ao 65) 0) (fr (ao 65).aH ((4,.ref [10,0] 0 0)::[(6,.ar),(0,aD M),(23,aq w),(24,aq 0)])) [([10,0],⟨[.agg (z2 R pv rd ed)],4,false⟩)] (eF 0) (.exit 0) (fr (ao 65).aH [(6,.sl 1 ((ki R pv w w).map aj))]) (b8 []) (qb+4) (by
   refine bA.To (cs:=z2 R pv rd ed) rfl ?_;have x:=(j1 (P:=ab) (G:=G) (c:=aT (ao 65) 0) (n:=(ao 65).aH) (w:=cx 9) (k:=1) (so:=6) (e:=.exit 0) (l:=(ki R pv w w).map aj) (A:=λ _=>xC M R pv w rd ed w) (B:=λ _=>[]) (bC:=λ _=>[]) (bO:=λ _=>[]) aO [hb 25 (iW (a2 w))]).re (B:=[]) λ e t=>by obtain⟨y,_,rfl⟩:=bd.1 t;infer_instance
   have:=Da (P:=ab) (G:=G) (c:=aT (ao 65) 0) (n:=(ao 65).aH) (N:=w) (w:=cx 9) (n0:=eF 0) (E:=qb) (e:=.exit 0) (d:=aO) (T:=λ i q=>(6,bt q.a 1 ((ki R pv w i).map aj))::xC M R pv w rd ed i) (K:=λ i q=>a8 q.a 1 ((ki R pv w i).map aj)++[]) (dx:=λ _=>[(6,.sl 1 ((ki R pv w w).map aj))]) (cC:=λ _=>[]) (fh.start an) (λ i o=>ajf G m f d j F g h cs i o) x am (by unfold eF cx qb;omega);rw[show fr (ao 65).aH ((4,.cE (z2 R pv rd ed) 0)::[(6,.ar),(0,aD M),(23,aq w),(24,aq 0)])=fr (ao 65).aH ((6,.ar)::xC M R pv w rd ed 0)from an];exact this)
end
section
open Go.aA Go.aA.fE Go.Proofs Go.Lib
variable(G:Nat->Option (List aa)){K:b6}{q e r:Nat}(F:eb K q e r){n w j:Nat}{M:List (List ak)}
noncomputable def pn(M:List (List ak)):List (List ak):=ki ((dk M).rows (c8 M) M.length) (dk M).pv (c8 M) (c8 M)
def NU(b:a4 K n w M)(a:M≠[]):wY K n w M.length (bH M) w (dk M):=by unfold dk;rw[eD b a];exact DJ M b w (a2 _)
def xW(b:a4 K n w M)(a:M≠[]):(dk M).pv=(bc M).2:=by rw[(NU b a).pv,show w=c8 M from(eD b a).symm,Oe b]
def WI(b:a4 K n w M)(a:M≠[]):bH ((dk M).rows w M.length)=bH (bc M).1:=by rw[(NU b a).val,show w=c8 M from(eD b a).symm,Oe b]
def DI(b:a4 K n w M)(a:M≠[])(c:M.length<=j\/w<=j):a4 K (grow K j n) w ((dk M).rows w M.length):=by have g:=(NU b a).g;have l:=AL b c;rw[<-xW b a]at l;exact aoE λ q=>(g q).mono (ot l)
def amy(b:a4 K n w M)(a:M≠[]):(∀p∈(dk M).pv,p<w)/\(dk M).pv.length<=M.length/\(dk M).pv.Pairwise (·<·):=by have H:=ir b;rw[xW b a];refine⟨λ p c=>?_,H.pl,H.qX⟩;have:=H.lt p c;rwa[eD b a]at this
include F
def VW(c:a4 K n w M)(b:M≠[])(h0:0<w)(o:M.length<=90)(p:w<16)(g:M.length<=j\/w<=j)(B:bF K q (grow K j n)):ag ab G 65 [aD M] (.aM [aD (pn M),.int .i64 0]):=by have d:=eD c b;have cs:=xH G b;have el:=H2 G F M c b h0 o ac g B;have k:=DI c b g;have⟨l,h,_⟩:=amy c b;unfold pn;rw[d]at cs⊢;have m:((dk M).rows w M.length).length=M.length:=la;rw[<-m]at h;generalize(dk M).rows w M.length=R at*;generalize dk M=x at*;exact bK [hc (Ag G (λ r i=>(c r i).1) ac),hc el,hc cs,ags G (rd:=aW x.eh.2.T.2.ay) (ed:=aK x.eh.2.a) k h l B F p ac cs]
end
section
open Go.aA Go.aA.fE Go.Proofs Go.Lib
def TV{G:Nat->Option (List aa)}(k:Nat)(l:List ak)(n:Nat)(h:n<=l.length):aV ab G:=.st k [] (.slice 2 (aj l) (some (aq n)) none none) (λ _=>{val:=aj (l.drop n)}) (λ σ p _=>by
 have e:gh (l.map aP).length (some (aq n)) none=some (n,(l.map aP).length):=by simp only[gh,jf];rw[if_pos ⟨ac,by rw[aL];omega⟩,Int.toNat_natCast]
 have:gi 2 (.sl 2 (l.map aP)) (some (aq n)) none none=some (aj (l.drop n)):=by simp only[gi,e];rw[gl,if_pos trivial];show some (aa.sl 2 _)=some (aa.sl 2 _);rw[List.map_drop]
 unfold aj;simp only[ck,this,pF];rfl)
variable(G:Nat->Option (List aa))
noncomputable abbrev amN(r:List ak)(l:List Nat)(i:Nat):List (Nat×aa):=[(0,aj r),(8,bP l),(9,.int .i64 ((l.map aq).length:Nat)),(10,aq i)]
def S3{r:List ak}{l:List Nat}(h:∀k∈l,k<r.length)(e:l.length<=9000):ag ab G 67 [aj r,bP l] (aj (b5 l r)):=by refine bK [ue (ao 67) 0 0 0 l.length 2 48 20 5 (λ i=>(r.getD (l.getD i 0) (a3 0)).T) ((b5 l r).map aP) (amN r l) (.exit 0) [] al (λ i a=>?_) (rN [cS 11 aq l] (by intros;kernel_rfl)) ?_];have c:=h _ (bo a);rw[aX a,aX c];exact p4 9 10 (λ x=>[bu 11 aq a,aU 12 1 aq a,aU 17 2 aP c]++x++[a5 21 i]) (by intros;kernel_rfl);unfold b5;rw[iA,<-x6 (f:=aP∘λ k=>r.getD k (a3 0)) (d:=0)];rfl
noncomputable abbrev amV(M:List (List ak))(l:List Nat)(i:Nat):List (Nat×aa):=[(0,aD M),(8,bP l),(9,.int .i64 ((l.map aq).length:Nat)),(10,aq i)]
def S4{M:List (List ak)}{l:List Nat}(h:∀k∈l,k<M.length)(e:l.length<=9000):ag ab G 64 [aD M,bP l] (aD (aE M l)):=by refine bK [ue (ao 64) 0 0 0 l.length 1 24 20 5 (λ i=>aj (M.getD (l.getD i 0) [])) ((aE M l).map aj) (amV M l) (.exit 0) [] al (λ i a=>?_) (rN [cS 11 aq l] (by intros;kernel_rfl)) ?_];have c:=h _ (bo a);rw[aX a,aX c];exact p4 9 10 (λ x=>[bu 11 aq a,aU 12 1 aq a,aU 17 1 aj c]++x++[a5 21 i]) (by intros;kernel_rfl);unfold aE;rw[iA,<-x6 (f:=aj∘λ k=>M.getD k []) (d:=0)];rfl
def afx(r:List ak)(w:Int):ag ab G 107 [aj r,.cE [di w] 0] (.bool (!decide ((r.length:Int)=w))):=by cases h:decide ((r.length:Int)=w)with|true=>exact aN [hb 7 (HH h)]|false=>exact aN [hb 7 (HH h)]
def vR(M:List (List ak))(w:Int):Bool:=decide (0<=w)&&M.all λ r=>decide ((r.length:Int)=w)
def LS{M:List (List ak)}{w:Int}(j:M.length<=9000):ag ab G 61 [aD M,di w] (.bool (vR M w)):=by
 have e:(aR M.length).any (λ i=>!decide (((M.getD i []).length:Int)=w))=!(M.all λ r=>decide ((r.length:Int)=w)):=by rw[Bool.eq_iff_iff,List.any_eq_true,Bool.not_eq_true',List.all_eq_false];constructor;rintro⟨i,a,h⟩;have a:=cb.1 a;rw[aX a]at h;exact⟨_,bo a,by simpa using h⟩;rintro⟨r,f,h⟩;obtain⟨i,a,rfl⟩:=fy.1 f;exact⟨i,cb.2 a,by rw[aX a];simpa using h⟩
 have b:=Es G (M:=M) (g:=107) (c:=.cE [di w] 0) (p:=λ i=>!decide (((M.getD i []).length:Int)=w)) j (λ i a=>by rw[aX a];exact afx G M[i] w) e;unfold vR;cases h:decide (0<=w)with|false=>exact aN [hb 6 (show decide ((0:Int)<=w)=false from h)]|true=>cases h2:M.all λ r=>decide ((r.length:Int)=w)with|true=>rw[h2]at b;exact aN [hb 6 (show decide ((0:Int)<=w)=true from h),xu (A:=[aD M]) [0] (di w) 1 [di w] b]|false=>rw[h2]at b;exact aN [hb 6 (show decide ((0:Int)<=w)=true from h),xu (A:=[aD M]) [0] (di w) 1 [di w] b]
def akP{M:List (List ak)}(h:∀r∈M,r.length=M.length)(a:M≠[])(d:M.length<=9000):ag ab G 113 [aD M] (.bool true):=by
 have cs:=xH G a;have c:c8 M=M.length:=by cases M with|nil=>exact absurd rfl a|cons r M=>exact h r cg
 rw[c]at cs;exact aN [hc (Ag G h d),hc cs,hb 10 (show((((M.map aj).length:Nat):Int)==(M.length:Int))=true by rw[aL];exact beq_self_eq_true _)]
noncomputable abbrev sO(R:List (List ak))(n j:Nat):aa:=aj ((R.getD j []).drop n)
noncomputable abbrev qB(n j:Nat):aa:=aj (c4 n (some j))
noncomputable abbrev zZ(M:List (List ak))(n i:Nat)(q:bm):List (Nat×aa):=[(0,aD M),(4,aq n),(5,.ah (q 0) 1 0 n false),(19,aq n),(20,aq i)]
noncomputable abbrev vA(n i:Nat)(q:bm):List (bz×aJ):=[(q 0,⟨(a7 n (dA .ar (qB n) i)).map λ x=>x,1,false⟩)]
noncomputable abbrev C2(n i:Nat)(q:bm):List (Nat×aa):=[(4,aq n),(7,.ref (q 1) 0 0),(9,.ah (q 0) 1 0 n false),(43,aq n),(44,aq i)]
noncomputable abbrev C1(R:List (List ak))(pv:List Nat)(rd ed:aa)(n i:Nat)(q:bm):List (bz×aJ):=[(q 0,⟨(a7 n (dA .ar (sO R n) i)).map λ x=>x,1,false⟩),(q 1,⟨[.agg (z2 R pv rd ed)],4,false⟩)]
variable{K:b6}{q e r:Nat}(F:eb K q e r){n m j:Nat}{M:List (List ak)}
noncomputable def l9(M:List (List ak)):List (List ak):=(aR M.length).map λ i=>(((dk (bX M (dt M.length))).rows (M.length+M.length) M.length).getD i []).drop M.length
include F
def akI(p:a4 K m M.length M)(o:M≠[])(J:M.length<16)(V:M.length<=j)(hI:(dk (bX M (dt M.length))).pv=aR M.length)(B:bF K q (grow K j m)):ag ab G 68 [aD M] (.aM [aD (l9 M),.int .i64 0]):=by
 have S:0<M.length:=fN.2 o;have z:=np p (oy (K:=K) (n:=m) M.length);have t:(bX M (dt M.length)).length=M.length:=by unfold bX;rw[gY,mO,n4]
 have bne:bX M (dt M.length)≠[]:=λ e=>by rw[e,gR]at t;omega
 have el:=H2 G F _ z bne ac ac ac (j:=j) ac B;rw[t,hI]at el;have C:=DI (j:=j) z bne ac;rw[t]at C;have v:=akz G (A:=M) (B:=dt M.length) (mO _).symm ac (λ r g=>⟨λ e=>by have:=(p r g).1;rw[e,gR]at this;omega,by rw[(p r g).1];omega⟩) (λ r g=>by have:=(oy (K:=K) (n:=m) M.length r g).1;exact⟨λ e=>by rw[e,gR]at this;omega,ac⟩);have H:aD (dt M.length)=.sl 1 (a7 M.length (qB M.length)):=by show aa.sl 1 ((dt M.length).map aj)=_;unfold dt a7;rw[iA];rfl
 rw[H]at v;have O:aD (l9 M)=.sl 1 (a7 M.length (sO ((dk (bX M (dt M.length))).rows (M.length+M.length) M.length) M.length)):=by show aa.sl 1 ((l9 M).map aj)=_;unfold l9 a7;rw[iA];rfl
 rw[O];have U:((dk (bX M (dt M.length))).rows (M.length+M.length) M.length).length=M.length:=la;generalize(dk (bX M (dt M.length))).rows (M.length+M.length) M.length=R at*;have N:=akP G (λ r g=>(p r g).1) o ac;have I:(((M.map aj).length:Nat):Int)=(M.length:Int):=by rw[aL]
 generalize E:M.length=n at*;have s:∀i,i<n->iK ab G (aT (ao 68) 0) (ao 68).aH 200 .normal (zZ M n i) (vA n i) (zZ M n (i+1)) (vA n (i+1)):=λ i l=>gy [hb 21 (dv l),hc (VZ G l J),cQ 28 1 [1] false n i,mJ 28 1 [1] 1 n (λ x=>x) (dA .ar (qB n) i) (dA .ar (qB n) (i+1)) i (qB n i) (λ j _=>D7 j) rfl (h1:=IX (λ _=>rfl) i i) (hu:=by unfold dA;split<;>rfl),a5 29 i];have f:=gy (P:=ab) (G:=G) (c:=aT (ao 68) 0) (n:=(ao 68).aH) (w:=200) (e:=.exit 0) (A:=zZ M n n) (bC:=vA n n) (B:=λ q=>[(0,aD M),(4,aq n),(5,.ah (q 0) 1 0 n false)]) (bO:=vA n n) [hb 21 (iW (a2 n))];have x1:iK ab G (aT (ao 68) 0) (ao 68).aH 200 (.exit 0) (zZ M n n) (vA n n) (λ q=>[(0,aD M),(4,aq n),(5,.ah (q 0) 1 0 n false)]) (λ q=>[(q 0,⟨a7 n (qB n),1,false⟩)]):=by unfold vA at f⊢;rw[AQ]at f⊢;exact f
 generalize Q:dk (bX M (dt n))=x at*;have u:∀i,i<n->iK ab G (aT (ao 68) 1) (ao 68).aH 200 .normal (C2 n i) (C1 R (aR n) (aW x.eh.2.T.2.ay) (aK x.eh.2.a) n i) (C2 n (i+1)) (C1 R (aR n) (aW x.eh.2.T.2.ay) (aK x.eh.2.a) n (i+1)):=λ i l=>by
   have k:i<(aR n).length:=by rw[cR];exact l
   have d:i<R.length:=ac;have L:(aR n)[i]=i:=kT k;have y:n<=R[i].length:=by rw[(C _ (bo d)).1];omega
   have D:aj ((R[i]).drop n)=sO R n i:=by show _=aj ((R.getD i []).drop n);rw[aX d]
   have hv:=TV (G:=G) 62 R[i] n y;exact gy [hb 45 (dv l),aU 50 1 aq k,hb 53 (show((((aR n)[i]:Nat):Int)!=(i:Int))=false by rw[L];exact bne_self_eq_false _),aU 59 1 aj d,TV 62 R[i] n y,cQ 63 1 [1] false n i,mJ 63 1 [1] 1 n (λ x=>x) (dA .ar (sO R n) i) (dA .ar (sO R n) (i+1)) i (aj ((R[i]).drop n)) (λ j _=>by rw[D];exact D7 j) rfl (h1:=IX (λ _=>rfl) i i) (hu:=by unfold dA;split<;>rfl),a5 64 i]
 have cu:=gy (P:=ab) (G:=G) (c:=aT (ao 68) 1) (n:=(ao 68).aH) (w:=200) (e:=.exit 2) (A:=C2 n n) (bC:=C1 R (aR n) (aW x.eh.2.T.2.ay) (aK x.eh.2.a) n n) (B:=λ q=>[(9,.ah (q 0) 1 0 n false)]) (bO:=λ q=>[(q 0,⟨(a7 n (dA .ar (sO R n) n)).map λ x=>x,1,false⟩)]) [hb 45 (iW (a2 n))];haveI:bn (a7 n (qB n)):=inferInstanceAs(bn ((aR n).map (qB n)));haveI:b9 1 (a7 n (qB n)):=⟨λ c hc=>by obtain⟨j,_,rfl⟩:=bd.1 hc;infer_instance⟩;refine yY hN [hc N,hw 15 I,vu 17 1 24 .ar n (λ x:aa=>x) (dA .ar (qB n) 0) (λ j _=>if_neg (ew _)),oF (ao 68) 0 0 n (dH [[9,0]]) (zZ M n) (vA n) (.exit 0) (λ q=>[(0,aD M),(4,aq n),(5,.ah (q 0) 1 0 n false)]) (λ q=>[(q 0,⟨a7 n (qB n),1,false⟩)]) s x1 (t0:=zZ M n 0 (dH [[9,0]])) (k0:=vA n 0 (dH [[9,0]])) rfl rfl,ox [9,0] 1 (a7 n (qB n)) n (iC _ _) (A:=[aD M]) v,hc el,vu 41 1 24 .ar n (λ x:aa=>x) (dA .ar (sO R n) 0) (λ j _=>if_neg (ew _)),oF (ao 68) 1 1 n (dH [[1000000000000000000000013,0],[1000000000000000000000007,0]]) (C2 n) (C1 R (aR n) (aW x.eh.2.T.2.ay) (aK x.eh.2.a) n) (.exit 2) (λ q=>[(9,.ah (q 0) 1 0 n false)]) (λ q=>[(q 0,⟨(a7 n (dA .ar (sO R n) n)).map λ x=>x,1,false⟩)]) u cu (t0:=C2 n 0 (dH [[1000000000000000000000013,0],[1000000000000000000000007,0]])) (k0:=C1 R (aR n) (aW x.eh.2.T.2.ay) (aK x.eh.2.a) n 0 (dH [[1000000000000000000000013,0],[1000000000000000000000007,0]])) rfl rfl] [([1000000000000000000000013,0],⟨(a7 n (dA .ar (sO R n) n)).map λ x=>x,1,false⟩)] (.aM [.ah [1000000000000000000000013,0] 1 0 n false,.int .i64 0]) an oL rfl am λ σ h=>?_;have h1:=h _ cg;simp only[AQ]at h1;haveI:b9 1 (a7 n (sO R n)):=⟨λ c hc=>by obtain⟨j,_,rfl⟩:=bd.1 hc;infer_instance⟩;exact mq (bZ (gK h1 (iC _ _)) (bZ (fx (KE _ _)) eH))
end
end Go.Proofs.YtpcofcmencgkbaaGreat
namespace Go.aA
section
variable{K:b6}{n m w:Nat}{M:List (List ak)}
def amI(b:a4 K n w M){ord:List Nat}(ho:∀k∈ord,k<M.length)(d:ord.Nodup){j:Nat}(a:M.length<=j\/w<=j):(bS M ord).length<=j:=by have h:=lI b ho;rcases a with a|a;have:=n6 (S:=aR M.length) (xY M d) λ x c=>cb.2 (h.1 x c);rw[cR]at this;omega;omega
def RT(c:a4 K n w M){j:Nat}(d:M.length<=j\/w<=j)(a:Nat):(gu M a).G K (grow K j n):=by have ho:∀k∈aR M.length,k<M.length:=λ k q=>cb.1 q;have f:=lI c ho;have l:=amI c ho pQ d;have o:=xY M (pQ (n:=M.length));have hc:a4 K n w (aE M (bS M (aR M.length))):=c.sub f.1;refine⟨?_,?_,?_⟩;show oY K _ (lA _);exact(MM (vI hc _) (by unfold aE;rw[aL,aL];exact l)).2.w6;intro r p;obtain⟨i,g,rfl⟩:=bd.1 p;have b:=cb.1 (iU.1 g).1;have e:=(iU.1 g).2;refine OE hc (c.get b).2 ?_;rcases d with d|d;refine .inr ?_;have:=Db o f.1 b (λ h=>by rw[jN.2 h]at e;cases e);unfold aE;rw[aL];omega;exact .inl (by rw[(c.get b).1];exact d);show oY K _ (if M.isEmpty=true then rQ a else oC M);split;exact(oy a).w6;exact(UU c (AL c d)).w6
def mf(M:List (List ak))(first:Nat):List Nat:=(aR M.length).map λ i=>(first%M.length+i)%M.length
def xU{first:Nat}:∀k∈mf M first,k<M.length:=λ k a=>by obtain⟨i,b,rfl⟩:=bd.1 a;have:=cb.1 b;exact Nat.mod_lt _ ac
def al4{first k:Nat}(a:k<M.length):k∈mf M first:=by have h1:=Nat.mod_lt first (ac:0<M.length);generalize b:first%M.length=f at h1;unfold mf;rw[b];by_cases h:f<=k;refine bd.2 ⟨k-f,cb.2 ac,?_⟩;rw[show f+(k-f)=k from ac,dL a];refine bd.2 ⟨k+M.length-f,cb.2 ac,?_⟩;rw[show f+(k+M.length-f)=k+M.length from ac,Nat.add_mod_right,dL a]
noncomputable def chosen(M:List (List ak))(first:Nat):List Nat:=(aR M.length).filter λ i=>(bS M (mf M first)).contains i
def vg{first:Nat}:∀k∈chosen M first,k<M.length:=λ k a=>cb.1 (iU.1 a).1
def Gi(M:List (List ak))(first:Nat):(chosen M first).Nodup:=pQ.filter _
def Ch(c:a4 K n w M)(first:Nat){j:Nat}(b:M.length<=j\/w<=j):(chosen M first).length<=j:=by rcases b with b|b;have:=n6 (S:=aR M.length) (Gi M first) λ x a=>cb.2 (vg x a);rw[cR]at this;omega;have h1:=(lI c (ord:=mf M first) xU).2;have:=n6 (S:=bS M (mf M first)) (Gi M first) λ x a=>jN.1 (iU.1 a).2;omega
def Aq(h:M≠[])(a first:Nat):mg M a first=⟨(chosen M first).map jj,(gu (aE M (chosen M first)) a).bE,(gu (aE M (chosen M first)) a).inv,((aR M.length).filter λ i=>!(chosen M first).contains i).map λ i=>gg (aE M (chosen M first)) (M.getD i []),(gu (aE M (chosen M first)) a).bh⟩:=by unfold mg;rw[if_neg (by rw[oU];exact h)];rfl
def al7(d:a4 K n w M){j:Nat}(c:M.length<=j\/w<=j)(a first:Nat):(mg M a first).G K (grow K j n):=by by_cases e:M=[];subst e;exact RT d c a;rw[Aq e];have g:a4 K n w (aE M (chosen M first)):=d.sub vg;have hc:=RT g (j:=j) (.inl (by unfold aE;rw[aL];exact Ch d first c)) a;refine⟨hc.inv,λ r l=>?_,hc.bh⟩;obtain⟨i,k,rfl⟩:=bd.1 l;have b:=cb.1 (iU.1 k).1;have f:=(iU.1 k).2;refine OE g (d.get b).2 ?_;rcases c with c|c;refine .inr ?_;have:=Db (Gi M first) vg b (λ h=>by rw[jN.2 h]at f;cases f);unfold aE;rw[aL];omega;exact .inl (by rw[(d.get b).1];exact c)
end
end Go.aA
namespace Go.aA.fE
noncomputable section
open Classical
variable{K:b6}{n w:Nat}{M:List (List ak)}
def Span.trans{n m w:Nat}{C D:Nat->Nat->az}{v:Nat->az}(h:Span n w C v)(b:∀j,j<n->Span m w D (C j)):Span m w D v:=by have⟨y,d⟩:=h;refine⟨λ i=>bL n λ j=>y j*(if a:j<n then(b j a).choose i else 0),λ k c=>?_⟩;rw[d k c,cF (g:=λ j=>bL m λ i=>y j*(if a:j<n then(b j a).choose i else 0)*D i k) λ j a=>by rw[(b j a).choose_spec k c,<-lf];exact cF λ i _=>by rw[dif_pos a];grind];rw[pA];exact cF λ i _=>by rw[<-uz]
def Span.congr{n w:Nat}{C D:Nat->Nat->az}{u v:Nat->az}(h:Span n w C u)(a:∀j,j<n->C j=D j)(e:u=v):Span n w D v:=by subst e;have⟨y,b⟩:=h;exact⟨y,λ k d=>(b k d).trans (cF λ j c=>by rw[a j c])⟩
def gp.congr{n w:Nat}{C D:Nat->Nat->az}(h:gp n w C)(a:∀j,j<n->C j=D j):gp n w D:=by have⟨c,h1,d⟩:=h;exact⟨c,h1,λ k e=>(cF λ j b=>by rw[a j b]).trans (d k e)⟩
def cL(M:List (List ak))(c:List Nat):Nat->Nat->az:=λ j=>br (bH M) (c.getD j 0)
def aoG(M:List (List ak)){c:List Nat}{j:Nat}(a:j<c.length):(aE M c).getD j []=M.getD (c.getD j 0) []:=by unfold aE;rw[dE,List.getElem?_map,eu a,Option.map_some,BN,aX a]
def py(M:List (List ak)){c:List Nat}{j:Nat}(a:j<c.length):br (bH (aE M c)) j=cL M c j:=by funext k;unfold cL;rw[gv,gv,aoG M a]
def D0(d:a4 K n w M){c:List Nat}(hc:∀k∈c,k<M.length)(a:c≠[]):(bc (aE M c)).2.length=c.length↔¬gp c.length w (cL M c):=by have h:=aid (d.sub hc) (show aE M c≠[]from λ h=>a (gP.1 h));have e:(c.map λ i=>M.getD i []).length=c.length:=aL ..;rw[e]at h;refine h.trans (not_congr ⟨λ h=>h.congr λ j b=>py M b,λ h=>h.congr λ j b=>(py M b).symm⟩)
def OH{c:List Nat}{k:Nat}(h:k∈c):Span c.length w (cL M c) (br (bH M) k):=by obtain⟨j,a,rfl⟩:=fy.1 h;refine(Span.row (w:=w) (C:=cL M c) a).congr (λ _ _=>rfl) ?_;unfold cL;rw[aX a]
def DZ(M:List (List ak)){c:List Nat}{k j:Nat}(a:j<c.length):cL M (c++[k]) j=cL M c j:=by unfold cL;rw[zB a]
def Oc(M:List (List ak))(c:List Nat)(k:Nat):cL M (c++[k]) c.length=br (bH M) k:=by unfold cL;rw[zC]
def Co{w:Nat}{C:Nat->Nat->az}:¬gp 0 w C:=λ⟨_,⟨j,a,_⟩,_⟩=>ew _ a
def DK(l:a4 K n w M):∀(ord c:List Nat),(∀k∈ord,k<M.length)->(∀k∈c,k<M.length)->¬gp c.length w (cL M c)->∀k∈ord,Span (ord.foldl (ja M) c).length w (cL M (ord.foldl (ja M) c)) (br (bH M) k)
 |[],c,_,_,_,k,a=>(ct a).elim|j::ord,c,ho,hc,g,k,a=>by
   have h1:∀i∈c++[j],i<M.length:=λ i g=>(hJ.1 g).elim (hc i) λ h=>by rw[bU.1 h];exact ho j cg
   have o:=D0 l h1 am;have f:∀k∈ord,k<M.length:=λ k a=>ho k (cX _ a);rw[List.foldl_cons];by_cases e:(bc (aE M (c++[j]))).2.length=(c++[j]).length;have m:ja M c j=c++[j]:=if_pos (by rw[aL];exact e);rw[m];rcases cp.1 a with rfl|a;exact OH (Ip M ord _ _ (List.mem_append_right _ (bU.2 rfl)));exact DK l ord _ f h1 (o.1 e) k a;have m:ja M c j=c:=if_neg (by rw[aL];exact e);rw[m];rcases cp.1 a with rfl|a;have hd:gp (c++[k]).length w (cL M (c++[k])):=oQ λ h=>e (o.2 h);rw[cy,lT]at hd;have p:=Ys (λ h=>g (h.congr λ j d=>DZ M d)) hd;refine(p.congr (λ j d=>DZ M d) (Oc M c k)).trans λ j d=>?_;exact OH (Ip M ord c _ (by rw[aX d];exact bo d));exact DK l ord c f hc g k a
def RX(c:a4 K n w M)(first:Nat){k:Nat}(d:k<M.length):Span (chosen M first).length w (br (bH (aE M (chosen M first)))) (br (bH M) k):=by have h:=DK c (mf M first) [] xU (λ _ h=>(ct h).elim) Co k (al4 d);have e:=(lI c (ord:=mf M first) xU).1;refine(h.trans (D:=cL M (chosen M first)) λ j b=>OH ?_).congr (λ j b=>(py M b).symm) rfl;have a:j<(bS M (mf M first)).length:=b;show(bS M (mf M first)).getD j 0∈_;rw[aX a];exact iU.2 ⟨cb.2 (e _ (bo a)),jN.2 (bo a)⟩
def Yp{S:List (List ak)}{b:List ak}(G:a4 K n w S)(hb:cU K n b)(L:b.length=w)(hw:0<w)(v:S≠[])(H:Span S.length w (br (bH S)) λ k=>(b.getD k (a3 0)).2.val):∃x,nM (cB S) b=some x:=by
 have F:=nR G;have p:(cB S).length=w:=by rw[qx,eD G v]
 have cP:c8 (cB S)=S.length:=eD F (λ h=>by rw[h]at p;rw[<-p]at hw;exact pM _ hw);have t:a4 K n 1 (b.map λ x=>[x]):=λ r N=>by obtain⟨x,I,rfl⟩:=bd.1 N;exact⟨rfl,λ y o=>by rw[bU.1 o];exact hb x I⟩
 have J:=np F t;have l:(bX (cB S) (b.map λ x=>[x])).length=w:=by unfold bX;rw[gY,aL,p,L,n4]
 have at_:∀i,i<w->(bX (cB S) (b.map λ x=>[x])).getD i []=jr S i++[b.getD i (a3 0)]:=λ i a=>by rw[aX (by rw[l];exact a)];have A:i<b.length:=ac;unfold bX;rw[uO,gm,aX A];unfold cB;rw[gm,kT]
 have C:bX (cB S) (b.map λ x=>[x])≠[]:=λ h=>by rw[h]at l;rw[<-l]at hw;exact pM _ hw
 have E:=rG J C;unfold nM;simp only;rw[cP];by_cases hc:(bc (bX (cB S) (b.map λ x=>[x]))).2.contains S.length=true;exfalso;have⟨s,c,es⟩:=fy.1 (jN.1 hc);generalize bX (cB S) (b.map λ x=>[x])=B at*;have u:(bc B).2.getD s 0=S.length:=by rw[aX c,es]
 have m:s<B.length:=Nat.lt_of_lt_of_le c E.rE;have f:=E.one s c s m;have d:=E.lead s c;rw[u]at f d;rw[if_pos rfl]at f;have⟨y,o⟩:=E.to s m;have⟨z,O⟩:=H;have q:∀k,k<w->(b.getD k (a3 0)).2.val=bL S.length λ j=>z j*br (bH S) j k:=O;have D:∀i,(jr S i).length=S.length:=λ i=>aL ..;have v1:∀i,i<w->br (bH B) i S.length=(b.getD i (a3 0)).2.val:=λ i a=>by rw[gv,at_ i a,<-D i,zC]
 have v2:∀i,i<w->∀j,j<S.length->br (bH B) i j=br (bH S) j i:=λ i a j e=>by rw[gv,at_ i a,zB (by rw[D];exact e),gv];unfold jr;rw[aX (by rw[aL];exact e),gm,aX e]
 have key:br (bH (bc B).1) s S.length=0:=by rw[o S.length ac,l,cF (g:=λ i=>bL S.length λ j=>z j*(y i*br (bH B) i j)) λ i a=>by rw[v1 i a,q i a,<-lf];exact cF λ j e=>by rw[v2 i a j e];grind];rw[pA,cF (g:=λ _=>0) λ j e=>by have h1:=o j ac;rw[d j e,l]at h1;rw[lf,<-h1];grind];exact nP _
 rw[key]at f;grind;rw[if_neg hc];exact⟨_,rfl⟩
def Yn{S:List (List ak)}{b:List ak}(a:a4 K n w S)(hb:cU K n b)(f:b.length=w)(hw:S.length<=w)(i:Span S.length w (br (bH S)) λ k=>(b.getD k (a3 0)).2.val):(gg S b).length=S.length:=by
 unfold gg;by_cases e:S=[];subst e;rfl;have j:=fN.2 e;have⟨x,c⟩:=Yp a hb f ac e i;rw[if_neg (by rw[oU];exact e),c,BN];have d:=nR a;have g:(cB S).length=w:=by rw[qx,eD a e]
 rw[(Yo d hb (a2 _) c).1];exact eD d (λ h=>by rw[h]at g;have:([]:List (List ak)).length=0:=rfl;omega)
def al9(c:a4 K n w M)(a first:Nat):∀r∈(mg M a first).ez,r.length=(chosen M first).length:=by by_cases e:M=[];subst e;intro r d;exact(ct d).elim;rw[Aq e];intro r d;obtain⟨i,j,rfl⟩:=bd.1 d;have b:=cb.1 (iU.1 j).1;have g:=RX c first b;have f:(aE M (chosen M first)).length=(chosen M first).length:=aL ..;have h:=c.get b;rw[<-f]at g⊢;refine Yn (c.sub vg) h.2 h.1 ?_ (g.congr (λ _ _=>rfl) (funext λ k=>gv));rw[f];exact Ch c first (.inr (a2 _))
def F3:∀{l m:List Nat},l.Pairwise (·<·)->m.Pairwise (·<·)->(∀x,x∈l↔x∈m)->l=m
 |[],[],_,_,_=>rfl|[],b::m,_,_,h=>(ct ((h b).2 cg)).elim|a::l,[],_,_,h=>(ct ((h a).1 cg)).elim|a::l,b::m,j,g,h=>by
   have⟨f,k⟩:=abJ.1 j;have⟨d,i⟩:=abJ.1 g;have e:a=b:=by rcases cp.1 ((h a).1 cg)with e|h1;exact e;rcases cp.1 ((h b).2 cg)with e|h2;exact e.symm;have:=f _ h2;have:=d _ h1;omega
   subst e;rw[F3 k i λ x=>⟨λ c=>(cp.1 ((h x).1 (cX _ c))).resolve_left λ e=>by have:=f _ c;omega,λ c=>(cp.1 ((h x).2 (cX _ c))).resolve_left λ e=>by have:=d _ c;omega⟩]
def acM{l:List Nat}{n:Nat}(b:l.Pairwise (·<·))(c:∀p∈l,p<n)(e:l.length=n):l=aR n:=F3 b abK λ x=>⟨λ h=>cb.2 (c x h),λ h=>oQ λ d=>by have:=Db (b.imp λ h=>Nat.ne_of_lt h) c (cb.1 h) d;omega⟩
end
noncomputable section
open Classical
variable{n w:Nat}{A m:er}{pv:List Nat}{C:Nat->Nat->az}
def Tm(h:jm n w w A m pv){q:Nat}(hw:q<w)(d:q∉pv)(f:∀i,i<n->∀k,k<w->br A i k=C k i):Span q n C (C q):=by
 refine⟨λ j=>-mb m pv q j,λ i c=>?_⟩;have e:=MU h hw d c;rw[OP (r:=q+1) ac λ k h1 h2=>?_,cF (g:=λ k=>mb m pv q k*C k i) λ k b=>by rw[f i c k ac];grind]at e;rw[bL,HF]at e;rw[cF (g:=λ j=>(-1)*(mb m pv q j*C j i)) λ j _=>ap,lf];grind;have z:mb m pv q k=0:=by by_cases b:k∈pv;obtain⟨s,a,rfl⟩:=fy.1 b;have l:=h.lead s a q (by rw[aX a];omega);have:=OD h a q;rw[aX a,l]at this;unfold mb;rw[if_neg ac,this];grind;exact MT b ac
 rw[z];grind
def WU(h:jm n w w A m pv){q:Nat}(hw:q<w)(o:q∈pv)(l:∀i,i<n->∀k,k<w->br A i k=C k i):¬Span q n C (C q):=by
 rintro⟨y,p⟩;have⟨s,a,e⟩:=fy.1 o;have es:pv.getD s 0=q:=by rw[aX a,e]
 have f:=ai9 h (x:=λ k=>if k<q then y k else if k=q then-1 else 0) (λ i d=>by rw[OP (r:=q+1) ac λ k h1 h2=>by rw[if_neg ac,if_neg ac];grind];rw[bL,if_neg (pM q),if_pos rfl,cF (g:=λ j=>y j*C j i) λ k b=>by rw[if_pos b,l i d k ac];grind,<-p i d,l i d q hw];grind) a;rw[mZ hw _ λ k b c=>?_]at f;rw[if_neg (pM q),if_pos rfl]at f;have:=h.one s a s (by have:=h.rE;omega);rw[es,if_pos rfl]at this;rw[this]at f;grind;by_cases b:k<q;rw[h.lead s a k ac];grind;rw[if_neg b,if_neg c];grind
def VI(h:jm n w w A m pv)(l:pv.length=n):¬gp n n λ i s=>br A i (pv.getD s 0):=by
 rintro⟨c,⟨f,a,hc⟩,h0⟩;have b:∀i,∃y:Nat->az,i<n->∀k,k<w->br m i k=bL n λ j=>y j*br A j k:=λ i=>by by_cases d:i<n;have⟨y,g⟩:=h.to i d;exact⟨y,λ _=>g⟩;exact⟨λ _=>0,λ h=>(d h).elim⟩
 refine hc (U4 (n:=n) (Y:=λ t i=>(b t).choose i) (W:=λ i s=>br A i (pv.getD s 0)) (λ t e s o=>?_) h0 f a);have:=(b t).choose_spec e (pv.getD s 0) (h.sZ s ac);rw[<-this,h.one s ac t e]
def aeO{n w:Nat}{C:Nat->Nat->az}(h:Span n w C (C n)):gp (n+1) w C:=by have⟨y,b⟩:=h;refine⟨λ j=>if j=n then-1 else y j,⟨n,ac,by show(if n=n then(-1:az)else y n)≠0;rw[if_pos rfl];grind⟩,λ k a=>?_⟩;show(bL n λ j=>(if j=n then(-1:az)else y j)*C j k)+(if n=n then(-1:az)else y n)*C n k=0;rw[if_pos rfl,cF (g:=λ j=>y j*C j k) λ j c=>by rw[if_neg ac],<-b k a];grind
end
noncomputable section
open Classical
variable{K:b6}{n w:Nat}{M:List (List ak)}
def Zf(f:a4 K n w M)(a:M≠[]){i k:Nat}(d:i<w)(b:k<M.length):br (bH (cB M)) i k=br (bH M) k i:=by
 have g:i<(cB M).length:=by rw[qx,eD f a];exact d
 have e:(cB M)[i]=jr M i:=by simp[cB]
 rw[gv,gv,aX g,e];have c:(jr M i).getD k (a3 0)=(M[k]).getD i (a3 0):=by rw[aX (by unfold jr;rw[aL];exact b)];simp[jr]
 rw[c,aX b]
def aqp(b:a4 K n w M)(a:M≠[])(hw:0<w):jm w M.length M.length (bH (cB M)) (bH (bc (cB M)).1) (bc (cB M)).2:=by
 have jd:(cB M).length=w:=by rw[qx,eD b a]
 have:=rG (nR b) λ h=>by rw[h]at jd;simp at jd;omega
 rwa[jd]at this
def NY(a:a4 K n w M){ord:List Nat}(ho:∀k∈ord,k<M.length):¬gp (bS M ord).length w (cL M (bS M ord)):=by by_cases e:bS M ord=[];rw[e];exact Co;exact(D0 a (lI a ho).1 e).1 (Ir M ord e)
def WQ(l:a4 K n w M)(f:M≠[])(hw:0<w):∀k,k<=M.length->bS M (aR k)=(aR k).filter λ i=>(bc (cB M)).2.contains i
 |0,_=>rfl|k+1,r=>by
   have s:=WQ l f hw k ac;have H:=aqp l f hw;have q:∀i,i<w->∀k,k<M.length->br (bH (cB M)) i k=br (bH M) k i:=λ i d k r=>Zf l f d r;have o:∀i∈aR k,i<M.length:=λ i d=>by have:=cb.1 d;omega
   have d:=NY l o;have u:=DK l (aR k) [] o (λ _ h=>(ct h).elim) Co;have p:∀i∈aR k,Span (bS M (aR k)).length w (cL M (bS M (aR k))) (br (bH M) i):=u;have t:=(lI l o).1;have hb:∀i∈bS M (aR k),i<k:=λ i d=>by rw[s]at d;exact cb.1 (iU.1 d).1
   have es:bS M (aR (k+1))=ja M (bS M (aR k)) k:=by unfold bS;rw[gz,List.foldl_append];rfl
   rw[es,gz,ks,<-s];generalize bS M (aR k)=c at*;have h1:∀i∈c++[k],i<M.length:=λ i d=>(hJ.1 d).elim (t i) λ h=>by rw[bU.1 h];omega
   have h2:=D0 l h1 am;rw[cy,lT]at h2;have key:(¬gp (c.length+1) w (cL M (c++[k])))↔k∈(bc (cB M)).2:=by constructor;intro hd;refine oQ λ a=>hd (aeO ?_);have:=(Tm H ac a q).trans λ j b=>p j (cb.2 b);exact this.congr (λ j b=>(DZ M b).symm) (Oc M c k).symm;intro a hd;refine WU H ac a q ?_;have:=Ys (λ h=>d (h.congr λ j b=>DZ M b)) hd;refine(this.congr (λ j b=>DZ M b) (Oc M c k)).trans λ j b=>?_;have m:=hb _ (bo b);unfold cL;rw[aX b];exact Span.row m
   by_cases a:k∈(bc (cB M)).2;have e:=h2.2 (key.2 a);rw[show ja M c k=c++[k]from if_pos (by rw[aL,cy,lT];exact e),BM (jN.2 a)];rfl;have e:¬(bc (aE M (c++[k]))).2.length=c.length+1:=λ e=>a (key.1 (h2.1 e));rw[show ja M c k=c from if_neg (by rw[aL,cy,lT];exact e),BL (λ h=>a (jN.1 h))];exact(mn _).symm
def N1(b:a4 K n w M)(a:M≠[])(hw:0<w):(bc (cB M)).2=bS M (aR M.length):=by
 rw[WQ b a hw M.length (a2 _)];have H:=ir (nR b);have jd:(cB M).length=w:=by rw[qx,eD b a]
 have lt:=H.lt;rw[eD (nR b) λ h=>by rw[h]at jd;simp at jd;omega]at lt;exact F3 H.qX (abK.filter _) λ x=>by rw[iU,cb,jN];exact⟨λ h=>⟨lt x h,h⟩,λ h=>h.2⟩
def VH(a:List Nat){i s:Nat}(b:i<M.length)(c:s<a.length):br (bH (M.map (b5 a))) i s=br (bH M) i (a.getD s 0):=by
 have e:(M.map (b5 a)).getD i []=b5 a (M.getD i []):=by rw[aX (by rw[aL];exact b),gm,aX b]
 have d:(b5 a (M.getD i [])).getD s (a3 0)=(M.getD i []).getD a[s] (a3 0):=by rw[aX (by unfold b5;rw[aL];exact c)];simp[b5]
 rw[gv,gv,e,d,aX c]
def F8{r:Nat}{A:List (List ak)}(g:a4 K n r A)(d:A.length=r){i k:Nat}(j:i<r):(k<r->br (bH (bX A (dt r))) i k=br (bH A) i k)/\(k<r->br (bH (bX A (dt r))) i (r+k)=if i=k then 1 else 0):=by
 have l:(bX A (dt r)).length=r:=by unfold bX;rw[gY,mO,d,n4]
 have a:i<A.length:=ac;have b:(bX A (dt r)).getD i []=A[i]++c4 r (some i):=by rw[aX ac];unfold bX dt;rw[uO,gm,kT]
 have c:=(g _ (bo a)).1;refine⟨λ f=>?_,λ f=>?_⟩;rw[gv,gv,b,aX a,aX (by rw[cy];omega),List.getElem_append_left ac,aX];rw[gv,b,aX (by rw[cy,jE];omega),List.getElem_append_right ac];unfold c4;rw[gm,kT,c,Nat.add_sub_cancel_left];by_cases e:k=i;subst e;rw[if_pos rfl,if_pos rfl];rfl;rw[if_neg (λ h=>e (Option.some.inj h)),if_neg (λ h=>e h.symm)];rfl
def VJ(y:a4 K n w M)(b:M≠[])(l:(bc M).2.length=M.length):(bc (bX (M.map (b5 (bc M).2)) (dt M.length))).2=aR M.length:=by
 have E:=rG y b;have I:=VI E l;have g:=vI y (bc M).2;rw[l]at g;have h:(M.map (b5 (bc M).2)).length=M.length:=aL ..;have v:=λ i(m:i<M.length)s(a:s<(bc M).2.length)=>VH (M:=M) (bc M).2 m a;rw[l]at v;generalize(bc M).2=f at*;generalize M.map (b5 f)=A at*;have t:=np g (oy (K:=K) (n:=n) M.length);have o:(bX A (dt M.length)).length=M.length:=by unfold bX;rw[gY,mO,h,n4]
 have h0:=fN.2 b;have r:bX A (dt M.length)≠[]:=λ e=>by rw[e]at o;simp at o;omega
 have u:=rG t r;rw[o]at u;have P:=ain u (λ d=>I (by have⟨c,h1,h2⟩:=d;exact⟨c,h1,λ k q=>by rw[<-h2 k q];exact cF λ j x=>by rw[(F8 g h x).1 q,v j x k q]⟩)) (λ i m s a=>(F8 g h m).2 a);refine acM (ir t).qX (λ p z=>?_) P.1;obtain⟨s,a,rfl⟩:=fy.1 z;have:=P.2 s ac;rwa[aX a]at this
end
end Go.aA.fE
namespace Go.Proofs.YtpcofcmencgkbaaGreat
section
open Go.aA Go.aA.fE Go.Proofs Go.Lib
variable(G:Nat->Option (List aa)){K:b6}{q e r:Nat}{n w j:Nat}{M:List (List ak)}
noncomputable abbrev nu(b:List (List ak))(a:List Nat)(M:List (List ak))(P:List Nat)(i:Nat):List (List ak):=((aR i).filter λ i=>!P.contains i).map λ i=>mD b (b5 a (M.getD i []))
def ad6{b:List (List ak)}{a:List Nat}{P:List Nat}{i:Nat}(h:P.contains i=true):nu b a M P (i+1)=nu b a M P i:=by unfold nu;rw[gz,ks,BL (by rw[h];decide)];simp
def ad5{a:List (List ak)}{b:List Nat}{P:List Nat}{i:Nat}(h:P.contains i=false):nu a b M P (i+1)=nu a b M P i++[mD a (b5 b (M.getD i []))]:=by unfold nu;rw[gz,ks,BM (by rw[h];decide),dW];simp
def RM(b:List (List ak))(a:List Nat)(M:List (List ak))(P:List Nat)(i:Nat):(nu b a M P i).length<=i:=by unfold nu;rw[aL];have:=qR (λ i=>!P.contains i) (aR i);rwa[cR]at this
noncomputable def sx(M:List (List ak)):ie:=let P:=bS M (aR M.length);let ch:=aE M P;let a:=(bc ch).2;let b:=l9 (ch.map (b5 a));⟨P.map jj,a.map jj,b,nu (cB b) a M P M.length,pn M⟩
noncomputable abbrev vo(M ch:List (List ak))(P:List Nat)(i:Nat)(q:aB):List (Nat×aa):=[(8,.ref q.b 0 0),(4,.ref q.c 0 0),(0,aD M),(6,bP P),(78,aD ch),(79,.int .i64 ((ch.map aj).length:Nat)),(80,aq i)]
def afO{P b:List Nat}{bh ch:List (List ak)}(hc:∀x∈ch,∀k∈b,k<x.length)(g:b.length<=4000)(m:ch.length<=4000)(i:Nat)(c:i<ch.length):bb ab G (aT (ao 21) 0) (ao 21).aH (bj 0) .normal (λ q=>(10,bt q.a 1 (((ch.take i).map (b5 b)).map aj))::vo M ch P i q) (λ q=>a8 q.a 1 (((ch.take i).map (b5 b)).map aj)++iG P (bP b) bh q) (λ q=>(10,bt q.a 1 (((ch.take (i+1)).map (b5 b)).map aj))::vo M ch P (i+1) q) (λ q=>a8 q.a 1 (((ch.take (i+1)).map (b5 b)).map aj)++iG P (bP b) bh q):=by have nE:=S3 G (r:=ch[i]) (l:=b) (hc _ (bo c)) ac;rw[List.take_succ_eq_append_getElem c,dW,dW,gQ,gQ];have f:pZ 1 24 9000 (((ch.take i).map (b5 b)).map aj):=⟨by rw[aL,aL,eZ];omega,g9 (k:=1)⟩;exact qW (key:=90) (hb:=al) (A:=vo M ch P i) (B:=vo M ch P (i+1)) (bC:=iG P (bP b) bh) (bO:=iG P (bP b) bh) f 9 ⟨[10,0],[2],[3],[4]⟩ (λ x=>[bu 81 aj c,aU 82 1 aj c,Go.aA.hc nE]++x++[a5 91 i]) (by intros;kernel_rfl) (by intros;kernel_rfl)
def afN{P:List Nat}{cP:aa}[bg cP]{L:List (List ak)}{bh ch:List (List ak)}:bb ab G (aT (ao 21) 0) (ao 21).aH (bj 0) (.exit 0) (λ q=>(10,bt q.a 1 (L.map aj))::vo M ch P ch.length q) (λ q=>a8 q.a 1 (L.map aj)++iG P cP bh q) (λ q=>(10,aD L)::[(8,.ref q.b 0 0),(4,.ref q.c 0 0),(0,aD M),(6,bP P)]) (iG P cP bh):=(j1 (A:=vo M ch P ch.length) (B:=λ q=>[(8,.ref q.b 0 0),(4,.ref q.c 0 0),(0,aD M),(6,bP P)]) (bC:=iG P cP bh) (bO:=iG P cP bh) aO [cS 81 aj ch]).vp (λ e f=>by obtain⟨x,_,rfl⟩:=bd.1 f;infer_instance) (F7 (λ _=>nt) (λ _=>nt))
noncomputable abbrev tQ(M a:List (List ak))(P:List Nat)(i:Nat)(q:aB):List (Nat×aa):=[(13,aD a),(6,bP P),(8,.ref q.b 0 0),(4,.ref q.c 0 0),(105,aD M),(106,.int .i64 ((M.map aj).length:Nat)),(107,aq i)]
noncomputable abbrev om(P a:List Nat)(b bh:List (List ak))(l:List aa)(q:aB):List (bz×aJ):=iD P (bP a) b bh l q
variable{P bE:List Nat}{inv bh back:List (List ak)}{i:Nat}{x:List ak}
def afD(c:i<M.length)(h:M.length<=4000)(k:P.length<=4000)(f:P.contains i=false)(nE:ag ab G 67 [aj M[i],bP bE] (aj (b5 bE M[i])))(so:ag ab G 71 [aD back,aj (b5 bE M[i])] (.aM [aj x,.int .i64 0])):bb ab G (aT (ao 21) 1) (ao 21).aH (bj 0) .normal (tQ M back P i) (om P bE inv bh []) (tQ M back P (i+1)) (om P bE inv bh ([]++[(aj x)])):=by have b:=pD G (l:=P) (n:=i) ac;rw[f]at b;have d:∀p,bt p 1 ([]:List aa)=.ar:=λ p=>rfl;have g:∀p,a8 p 1 ([]:List aa)=[]:=λ p=>rfl;unfold om iD;simp only[d,g,jK];exact a9 ⟨[26,0],[2],[3],[4]⟩ [bu 108 aj c,aU 110 1 aj c,hc b,hc nE,hc so,a5 134 i]
def afE{l:List aa}[bn l][b9 1 l](d:l≠[])(s:l.length<=4000)(b:i<M.length)(t:M.length<=4000)(u:P.length<=4000)(m:P.contains i=false)(nE:ag ab G 67 [aj M[i],bP bE] (aj (b5 bE M[i])))(so:ag ab G 71 [aD back,aj (b5 bE M[i])] (.aM [aj x,.int .i64 0])):bb ab G (aT (ao 21) 1) (ao 21).aH (bj 0) .normal (tQ M back P i) (om P bE inv bh l) (tQ M back P (i+1)) (om P bE inv bh (l++[(aj x)])):=by
 have c:=pD G (l:=P) (n:=i) ac;rw[m]at c;have o:∀p,bt p 1 (l++[(aj x)])=.ah p 1 0 (l.length+1) false:=λ p=>by rw[dP am,cy];rfl
 have h:∀p,a8 p 1 (l++[(aj x)])=[(p,⟨l++[(aj x)],1,false⟩)]:=λ p=>dK am;have f:∀p,bt p 1 l=.ah p 1 0 l.length false:=λ p=>dP d;have g:∀p,a8 p 1 l=[(p,⟨l,1,false⟩)]:=λ p=>dK d;unfold om iD;simp only[f,g,o,h,mo];exact a9 ⟨[26,0],[2],[3],[4]⟩ [bu 108 aj b,aU 110 1 aj b,hc c,hc nE,hc so,l5 132 1 24 [1] 25 l (aj x) ac (g9 (k:=1)),a5 134 i]
def afF{l:List aa}[bn l](a:i<M.length)(k:M.length<=4000)(m:P.length<=4000)(h:P.contains i=true):bb ab G (aT (ao 21) 1) (ao 21).aH (bj 0) .normal (tQ M back P i) (om P bE inv bh l) (tQ M back P (i+1)) (om P bE inv bh l):=by have d:=pD G (l:=P) (n:=i) ac;rw[h]at d;unfold om iD;by_cases b:l=[];subst b;have f:∀p,bt p 1 ([]:List aa)=.ar:=λ p=>rfl;have c:∀p,a8 p 1 ([]:List aa)=[]:=λ p=>rfl;simp only[f,c,jK];exact a9 aO [bu 108 aj a,aU 110 1 aj a,hc d,a5 134 i];have f:∀p,bt p 1 l=.ah p 1 0 l.length false:=λ p=>dP b;have c:∀p,a8 p 1 l=[(p,⟨l,1,false⟩)]:=λ p=>dK b;simp only[f,c,mo];exact a9 aO [bu 108 aj a,aU 110 1 aj a,hc d,a5 134 i]
def afC{l:List aa}[bn l](a:∀e∈l,e.size=1)(t:∀c∈flat l,cd c)(o:∀σ:aQ,dy σ (flat l) (flat l)):bb ab G (aT (ao 21) 1) (ao 21).aH (bj 0) (.exit 2) (tQ M back P M.length) (om P bE inv bh l) (λ q=>[(8,.ref q.b 0 0),(4,.ref q.c 0 0)]) (λ q=>[(q.b,dh (bP P) (bP bE) (aD inv) (.sl 1 l) (aD bh)),(q.c,bV)]):=by
 have H:bb ab G (aT (ao 21) 1) (ao 21).aH (bj 0) (.exit 2) (tQ M back P M.length) (om P bE inv bh l) (λ q=>[(8,.ref q.b 0 0),(4,.ref q.c 0 0)]) (om P bE inv bh l):=by unfold om iD;by_cases k:l=[];subst k;have f:∀p,bt p 1 ([]:List aa)=.ar:=λ p=>rfl;have h:∀p,a8 p 1 ([]:List aa)=[]:=λ p=>rfl;simp only[f,h,jK];exact a9 aO [cS 108 aj M];have f:∀p,bt p 1 l=.ah p 1 0 l.length false:=λ p=>dP k;have h:∀p,a8 p 1 l=[(p,⟨l,1,false⟩)]:=λ p=>dK k;simp only[f,h,mo];exact a9 aO [cS 108 aj M]
 exact H.hZ λ q m g=>bN.L8 g rfl a a (λ F=>ji F _) t (λ F=>n5 F _) (λ F=>n5 F _) (λ F=>n5 F _) (λ F=>n5 F _) nt o
def ML{A:List (List ak)}{t:Nat}(m:a4 K n t A)(b:A.length=t)(h0:0<t):(l9 A).length=t/\a4 K (grow K t n) t (l9 A):=by
 have k:=np m (oy (K:=K) (n:=n) A.length);have h:(bX A (dt A.length)).length=A.length:=by unfold bX;rw[gY,mO,n4]
 have bne:bX A (dt A.length)≠[]:=λ e=>by rw[e,gR]at h;omega
 have d:=DI (j:=t) k bne ac;rw[h,b]at d;refine⟨by unfold l9;rw[aL,cR,b],λ r c=>?_⟩;unfold l9 at c;rw[b]at c;obtain⟨i,a,rfl⟩:=bd.1 c;have a:=cb.1 a;have f:((dk (bX A (dt t))).rows (t+t) t).length=t:=la;have g:=d _ (bo (show i<_ by rw[f];exact a));rw[aX (by rw[f];exact a)];exact⟨by rw[List.length_drop,g.1];omega,λ x l=>g.2 x (List.mem_of_mem_drop l)⟩
end
section
open Go.aA Go.aA.fE Go.Proofs Go.Lib
variable(G:Nat->Option (List aa)){K:b6}{q e r:Nat}{n w j:Nat}{M:List (List ak)}
variable(F:eb K q e r)
include F
def akD(s:a4 K n w M)(p:M≠[])(w0:0<w)(fe:M.length<=90)(cw:w<16)(hj:M.length<=j\/w<=j)(hB:bF K q (grow K j n))(agl:(bS M (aR M.length)).length<M.length->bF K q ((bS M (aR M.length)).length*(grow K (bS M (aR M.length)).length n+n+K.c+1)))(hp:bS M (aR M.length)≠[]):ag ab G 21 [aD M,aq w] (.aM [kG (sx M),.int .i64 0]):=by
 have Xv:=LS G (M:=M) (w:=(w:Int)) ac;have LN:vR M (w:Int)=true:=by unfold vR;rw[gj];exact⟨decide_eq_true (Int.natCast_nonneg w),ek.2 λ r hr=>decide_eq_true (by rw[(s r hr).1])⟩
 rw[LN]at Xv;have O:=VX G F s p w0 fe ac hj hB;have jd:(cB M).length=w:=by rw[qx,eD s p]
 rw[xW (nR s) (λ e=>by rw[e]at jd;simp at jd;omega),N1 s p w0]at O;have ajd:=VW G F s p w0 fe cw hj hB;have Y:=lI s (ord:=aR M.length) λ k X=>cb.1 X;have I:=xY M (pQ (n:=M.length));have V:=Ir M (aR M.length) hp;have pw:(bS M (aR M.length)).length<=M.length:=by have:=n6 (S:=aR M.length) I λ x u=>cb.2 (Y.1 x u);rwa[cR]at this
 have ajL:=λ{i:Nat}(g:i<M.length)(h:i∉bS M (aR M.length))=>Db I Y.1 g h;unfold sx kG;simp only[C0];generalize pn M=bh at*;generalize bS M (aR M.length)=P at*;have p0:0<P.length:=fN.2 hp;have pr:=S4 G Y.1 ac;have N:aE M P≠[]:=λ h=>hp (gP.1 h);have C:a4 K n w (aE M P):=s.sub Y.1;have vD:(aE M P).length=P.length:=aL ..;have R:=akN G F C N w0 ac ac (j:=j) ac hB;rw[xW C N]at R;have B:=(ir C).lt;rw[eD C N]at B;have VO:=VJ C N (by rw[V,vD]);have Z:=vI C (bc (aE M P)).2;have T:((aE M P).map (b5 (bc (aE M P)).2)).length=P.length:=by rw[aL,vD]
 have z:(bc (aE M P)).2.length=P.length:=V;generalize(bc (aE M P)).2=d at*;have hw:∀x∈aE M P,∀k∈d,k<x.length:=λ x u k X=>by rw[(C x u).1];exact B k X
 have ahN:∀i(g:i<M.length),∀k∈d,k<(M[i]).length:=λ i g k X=>by rw[(s _ (bo g)).1];exact B k X
 rw[z]at Z;have ahj:P.length<=j:=by rcases hj with h|h<;>omega
 have nm:(aE M P).map (b5 d)≠[]:=λ h=>N (gP.1 h);have E:bF K q (grow K P.length n):=by have:=ot (K:=K) (n:=n) ahj;unfold bF at*;omega
 have acP:=np Z (oy (K:=K) (n:=n) P.length);have iX:=akI G F (M:=(aE M P).map (b5 d)) (m:=n) (j:=P.length) (by rw[T];exact Z) nm (by rw[T];omega) ac (by rw[T];rw[vD]at VO;rw[xW acP (λ e=>by have:=congrArg List.length e;unfold bX at this;rw[gY,mO,T,n4,gR]at this;omega),VO]) E;have D:=ML Z T p0;generalize l9 ((aE M P).map (b5 d))=o at*;have U:o≠[]:=λ e=>by rw[e]at D;simp at D;omega
 have jC:=VY G (λ x u=>(D.2 x u).1) U ac (ac:P.length<=9000);have tm:=nR D.2;rw[D.1]at tm;have Q:(cB o).length=P.length:=by rw[qx,eD D.2 U]
 have p4:=λ i(g:i<M.length)(t:i∉P)=>aky G F (A:=cB o) (v:=b5 d M[i]) (m:=n) tm (Gl (s _ (bo g)).2 d).2 (by unfold b5;rw[aL,z]) (λ e=>by rw[e]at Q;simp at Q;omega) ac ac E (by have:=ot (K:=K) (n:=n) (dF j);unfold grow bF at*;omega) (agl (by have:=ajL g t;omega));generalize cB o=f at*;have iE:=afN G (M:=M) (P:=P) (cP:=bP d) (L:=(aE M P).map (b5 d)) (bh:=bh) (ch:=aE M P);have ajg:bb ab G (aT (ao 21) 0) (ao 21).aH (bj 0) (.exit 0) (λ q=>(10,bt q.a 1 ((((aE M P).take (aE M P).length).map (b5 d)).map aj))::vo M (aE M P) P (aE M P).length q) (λ q=>a8 q.a 1 ((((aE M P).take (aE M P).length).map (b5 d)).map aj)++iG P (bP d) bh q) (λ q=>(10,aD ((aE M P).map (b5 d)))::[(8,.ref q.b 0 0),(4,.ref q.c 0 0),(0,aD M),(6,bP P)]) (iG P (bP d) bh):=by rw[gl];exact iE
 exact bK [hc Xv,eB 24 (show((w:Int)==0)=false by rw[beq_eq_false_iff_ne];omega),eB 31 (show((((M.map aj).length:Nat):Int)==0)=false by rw[aL,beq_eq_false_iff_ne];have:=fN.2 p;omega),hc O,hc pr,hc ajd,eB 61 (show((((P.map aq).length:Nat):Int)==0)=false by rw[aL,beq_eq_false_iff_ne];omega),hc R,dz (ao 21) 0 0 0 (aE M P).length ⟨[1],[22,0],[0,0],[4]⟩ (λ i q=>(10,bt q.a 1 ((((aE M P).take i).map (b5 d)).map aj))::vo M (aE M P) P i q) (λ i q=>a8 q.a 1 ((((aE M P).take i).map (b5 d)).map aj)++iG P (bP d) bh q) (.exit 0) (λ q=>(10,aD ((aE M P).map (b5 d)))::[(8,.ref q.b 0 0),(4,.ref q.c 0 0),(0,aD M),(6,bP P)]) (iG P (bP d) bh) (λ i g=>afO G hw ac ac i g) ajg,hc iX,hc jC,dz (ao 21) 1 0 1 M.length ⟨[1],[2000001,0],[2000002,0],[4]⟩ (λ i q=>tQ M f P i q) (λ i q=>om P d o bh ((nu f d M P i).map aj) q) (.exit 2) (λ q=>[(8,.ref q.b 0 0),(4,.ref q.c 0 0)]) (λ q=>[(q.b,dh (bP P) (bP d) (aD o) (.sl 1 ((nu f d M P M.length).map aj)) (aD bh)),(q.c,bV)]) (λ i g=>by cases t:P.contains i with|true=>rw[ad6 t];exact afF G g ac ac t|false=>
         have ahl:i∉P:=λ h=>by rw[jN.2 h]at t;cases t
         have H:=p4 i g ahl;have nE:=S3 G (ahN i g) ac;rw[ad5 t,dW,gQ,aX g];have z4:=RM f d M P i;by_cases hl:nu f d M P i=[];rw[hl];exact afD G g ac ac t nE H;exact afE G (l:=(nu f d M P i).map aj) (λ h=>hl (gP.1 h)) (by rw[aL];omega) g ac ac t nE H) (afC G (λ e he=>by obtain⟨x,_,rfl⟩:=bd.1 he;rfl) (λ c hc=>by have⟨x,u,h⟩:=g3.1 hc;obtain⟨y,_,rfl⟩:=bd.1 u;rw[bU.1 h];exact bg.pure) (λ σ=>jJ λ c hc=>by have⟨x,u,h⟩:=g3.1 hc;obtain⟨y,_,rfl⟩:=bd.1 u;rw[bU.1 h];exact bg.pure))]
end
end Go.Proofs.YtpcofcmencgkbaaGreat
