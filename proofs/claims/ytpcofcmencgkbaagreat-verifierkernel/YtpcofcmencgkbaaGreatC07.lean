/- For the claim of VerifierKernel: parts DN, ZWC, ZWD, ZWE, ZWF, ZUP, ZUW, ZI1, ZI2, ZJ1, LQ1, ZS0, DO, ZS1, ZS2, ZS3, ZS4, ZJ2, ZJ3, TP1. -/
import Derived.Test.YtpcofcmencgkbaaGreatC06
import Derived.Test.YtpcofcmencgkbaaGreatC04
import Derived.RangeFuncBox
import Derived.RangeFuncLeaves
import Derived.Shelf.Abstract
import Derived.WalkKit
import Derived.OwnWalkIn
import Derived.TacticsInMore
import Derived.LoopNIn
import Derived.LoopIn
import Derived.Test.YtpcofcmencgkbaaGreatProg
import Derived.Lib.ItoaNum
import Derived.Test.YtpcofcmencgkbaaGreatC03
set_option linter.defProp false
set_option linter.unusedSectionVars false
set_option linter.unusedSimpArgs false
set_option linter.unusedVariables false
set_option maxRecDepth 100000
open Array renaming replicate_succ->Jz,replicate_zero->JA
open BitVec renaming ofInt->iK,ofInt_natCast->xS
open Go.IntKind renaming i64->cO,u32->jc,u64->cY,wrap_i64->cU,wrap_u64->h5
open Go.Proofs.Tryz renaming func323->Pp,ntmps323->Z2,prog->ab
open Go.RowKit renaming intOf->Z3
open Go.ay renaming Id->bt
open Go.ay.cj renaming kV->eB,Ob->Jw
open Go.ay.ae renaming c2->cX
open Go.ay.aD renaming s->a3
open Go.ay.cb renaming bool->AB
open Go.ay.aL renaming of->bU
open Go.ay.eP renaming to->m8
open Go.ay.View renaming aH->ga,ai->nU,pure->fk,aJ->lN
open Go.ay.dc renaming cons->bZ,nil->eT,pure->my
open Int renaming lt_trichotomy->Z6,natAbs_mul->m7,natAbs_natCast->gB,natAbs_of_nonneg->Ei,natCast_mul->oF,tdiv_eq_ediv_of_nonneg->Eh
open List renaming append_toArray->JC,cons_append->xO,ext_getElem->ie,getD_eq_getElem?_getD->dt,getElem?_eq_getElem->eO,getElem_mem->bf,length_cons->gC,length_map->aQ,length_nil->iM,length_range->dx,mem_cons_self->cp,mem_flatMap->kD,mem_of_mem_drop->vE,mem_of_mem_take->gK,mem_singleton->cq,nil_append->qU,nodup_nil->gW,push_toArray->JB,range'->tR,replicate->bM,size_toArray->qQ
open Nat renaming add_assoc->lQ,add_mul->eX,add_mul_div_left->nV,add_mul_mod_self_left->vu,add_sub_cancel_left->su,add_zero->ij,div_add_mod->hE,div_div_eq_div_mul->kC,div_eq_of_lt->hh,div_le_self->h6,div_lt_iff_lt_mul->lK,div_lt_of_lt_mul->tO,div_one->oI,gcd->cz,le_antisymm->Z5,le_div_iff_mul_le->xT,le_mul_of_pos_left->ZY,le_mul_self->AE,le_of_lt->hH,le_of_not_lt->jT,le_refl->a2,le_trans->bx,lt_irrefl->nW,lt_mul_div_succ->Z1,lt_of_le_of_lt->gA,lt_of_lt_of_le->gz,lt_of_not_le->vv,lt_succ_iff_lt_or_eq->Pm,lt_succ_self->nb,lt_trans->Ee,mod_add_div->tP,mod_eq_of_lt->dX,mod_le->Pn,mod_lt->bA,mul_add->dW,mul_assoc->fu,mul_comm->c9,mul_div_le->Po,mul_le_mul->jd,mul_le_mul_left->fK,mul_le_mul_right->ck,mul_lt_mul''->qV,mul_one->m9,mul_zero->jy,not_le_of_lt->ZZ,not_lt_zero->fv,pos_of_ne_zero->kX,pow_add->ic,pow_le_pow_right->dT,pow_lt_pow_right->tM,pow_mul->x4,pow_one->Pq,pow_pos->Eg,pow_succ->ea,pow_zero->kg,reduceAdd->Jx,reduceSub->Jy,sub_self->x2,sub_sub_self->Z0,sub_zero->Ef,succ_eq_add_one->Z4,succ_mul->fU,two_pow_add_eq_or_of_lt->Ay,two_pow_pos->lJ,zero_add->cF,zero_le->dL,zero_mul->sv
open Rat renaming divInt_eq_div->xU,intCast_mul->xY,num_eq_zero->mw,num_nonneg->D6,zero_mul->JD
set_option maxHeartbeats 4000000
open Go.ay Go.Proofs Go.Lib
namespace Go.ay
def Hp{a b:Nat}(c:a<ah)(hb:b<ah):ah*a+b<18446744073709551616:=by unfold ah at*;omega
def VD{q Q:Nat}(h1:q=Q+1)(a:q<ah):cY.wrap ((q:Int)-1)=(Q:Int):=by rw[h5];unfold ah at a;omega
def least(C:Nat->Bool):∀k,(∀i,i<k->C i=true)\/∃N,N<k/\(∀i,i<N->C i=true)/\C N=false
 |0=>.inl λ i a=>absurd a (fv _)|k+1=>by
   rcases least C k with h|⟨N,h1,b⟩;cases e:C k with|true=>exact .inl λ i a=>(Pm.1 a).elim (h i) λ g=>g▸e|false=>exact .inr ⟨k,ac,h,e⟩
   exact .inr ⟨N,ac,b⟩
def fN(M V c:Nat):Nat:=M%ah^c+ah^c*(M/ah^c%V)
def cK(M V i:Nat):Nat:=ao M i+ah*(M/ah^(i+1)%V)
def Rt{M V c:Nat}(h:M/ah^c<V):fN M V c=M:=by unfold fN;rw[dX h];exact tP _ _
def Ru(M V:Nat):fN M V 0=M%V:=by unfold fN;rw[kg,Nat.mod_one,oI];omega
def Rf{V:Nat}(M i:Nat)(a:0<V):M/ah^i=cK M V i+V*(ah*(M/ah^(i+1)/V)):=by
 have h:=oT M i;have e:=tP (M/ah^(i+1)) V;unfold cK;rw[h];conv=>lhs;rw[<-e]
 rw[dW,Nat.mul_left_comm];omega
def Bv{V:Nat}(M i:Nat)(a:0<V):cK M V i<ah*V/\cK M V i/V<ah:=ahc (cu M i) (bA _ a)
def ac6{V:Nat}(M i:Nat)(a:0<V):M/ah^i%V=cK M V i%V:=by rw[Rf M i a,vu]
def KF{V:Nat}(M i:Nat)(a:0<V):ao (M/V) i=cK M V i/V:=by rw[JV,Rf M i a,nV _ _ a,vu,dX (Bv M i a).2]
def yh{a p X j:Nat}(b:a<ah^p):ao (a+ah^p*X) j=if j<p then ao a j else ao X (j-p):=by
 split;next h=>exact vM h
 next h=>obtain⟨d,rfl⟩:=Nat.exists_eq_add_of_le (jT h);rw[su];unfold ao;rw[ic,<-kC,nV _ _ (fJ p),hh b,cF]
def Rs(M V i:Nat):fN M V (i+1)=M%ah^i+ah^i*cK M V i:=by unfold fN cK;rw[rU,ea,dW,fu];omega
def adm{V:Nat}(M i:Nat)(a:0<V):fN M V i=M%ah^i+ah^i*(cK M V i%V):=by unfold fN;rw[ac6 M i a]
def Bw(M V i j:Nat):ao (fN M V (i+1)) (i+j)=ao (cK M V i) j:=by rw[Rs,yh (bA _ (fJ i)),if_neg ac,su]
def KM{V n X:Nat}{f:Nat->Nat}(M i:Nat)(a:0<V)(g:ah*V<=ah^n)(c:∀j,(j<i\/i+n<=j)->f j=ao (fN M V (i+1)) j)(b:∀j,j<n->ao X j=ao (cK M V i%V) j)(j:Nat):wf f i X n j=ao (fN M V i) j:=by have e:=(Bv M i a).1;have h:=bA (cK M V i) a;unfold wf;rw[adm M i a,yh (bA _ (fJ i))];split;rw[if_neg ac,b _ ac];rw[c j ac,Rs,yh (bA _ (fJ i))];split;rfl;have d:=dT (n:=ah) fl (ac:n<=j-i);have:V<=ah*V:=ZY _ fl;rw[q7 ac,q7 ac]
def XI(D k:Nat)(h:D<ah^(k+3)):D=((ah*ao D (k+2)+ao D (k+1))*ah+ao D k)*ah^k+D%ah^k:=by
 have e:=hE D (ah^k);rw[oT D k,oT D (k+1),oT D (k+1+1),hh h,jy,cF]at e;conv=>lhs;rw[<-e]
 rw[c9,c9 ah (_+_)]
def XH(V k:Nat)(h:V<ah^(k+2)):V=(ao V (k+1)*ah+ao V k)*ah^k+V%ah^k:=by
 have e:=hE V (ah^k);rw[oT V k,oT V (k+1),hh h,jy,cF]at e;conv=>lhs;rw[<-e]
 rw[c9,c9 ah (ao V _)]
section
variable{D V k:Nat}
def xy(h l x0 q r:Nat):Prop:=ah<=q\/ah*r+x0<q*l
instance{h l x0 q r:Nat}:Decidable (xy h l x0 q r):=inferInstanceAs(Decidable (_\/_))
def ahh{h l x0 num M u' v':Nat}(m:0<h)(K:h<ah)(C:l<ah)(F:x0<ah)(hv:v'<M)(hu:u'<M)(s:V=(h*ah+l)*M+v')(u:D=(num*ah+x0)*M+u')(r:D<ah*V)(n:D/V<ah)(L:num<18446744073709551616):∃N,N<=ah/\(∀j,j<=N->j<=num/h/\num%h+j*h<ah)/\(∀j,j<N->xy h l x0 (num/h-j) (num%h+j*h))/\∃q,q<ah/\D/V<=q/\q<=D/V+1/\((¬xy h l x0 (num/h-N) (num%h+N*h)/\q=num/h-N)\/(xy h l x0 (num/h-N) (num%h+N*h)/\ah<=num%h+(N+1)*h/\q+1=num/h-N)):=by
 have i:num/h*h+num%h=num:=by rw[c9];exact hE num h
 have f:=Tu m s u F hu;have p:∀k,(∀j,j<k->decide (xy h l x0 (num/h-j) (num%h+j*h)/\num%h+(j+1)*h<ah)=true)->∀j,j<=k->j<=num/h/\num%h+j*h<ah/\(num/h-j)*h+(num%h+j*h)=num/\D/V<=num/h-j:=λ k I j=>by induction j with|zero=>intro _;exact⟨dL _,by rw[sv,ij];exact Ee (bA _ m) K,by simpa using i,by simpa using f⟩|succ j G=>intro o;have⟨a,b,c,d⟩:=G ac;have⟨J,t2⟩:=of_decide_eq_true (I j ac);have⟨H,y,A,z⟩:=Ts C hv hu m s u r n c d (J.imp id λ g=>by rw[c9];exact g);rw[fU]at t2⊢;rw[show num/h-(j+1)=num/h-j-1 from ac];exact⟨ac,t2,by rw[<-lQ (num%h)];exact A,y⟩
 rcases least (λ j=>decide (xy h l x0 (num/h-j) (num%h+j*h)/\num%h+(j+1)*h<ah)) (ah+1)with g|⟨N,g1,g2,x⟩;have⟨_,b,_,_⟩:=p _ g (ah+1) (a2 _);have:(ah+1)*1<=(ah+1)*h:=fK _ m;omega;have w:=p N g2;refine⟨N,ac,λ j o=>⟨(w j o).1,(w j o).2.1⟩,λ j o=>(of_decide_eq_true (g2 j o)).1,?_⟩;have⟨a,b,c,d⟩:=w N (a2 _);have x:=of_decide_eq_false x;by_cases t:xy h l x0 (num/h-N) (num%h+N*h);have E:ah<=num%h+(N+1)*h:=jT λ e=>x ⟨t,e⟩;have⟨H,y,A,z⟩:=Ts C hv hu m s u r n c d (t.imp id λ g=>by rw[c9];exact g);have B:=z (by rw[fU]at E;omega);exact⟨num/h-N-1,B.1,y,B.2,.inr ⟨t,E,ac⟩⟩;have v:num/h-N<ah/\(num/h-N)*l<=ah*(num%h+N*h)+x0:=⟨vv λ e=>t (.inl e),jT λ e=>t (.inr e)⟩;exact⟨num/h-N,v.1,d,Tv m s u hv v.1 c (by rw[c9 _ ah];exact v.2),.inl ⟨t,rfl⟩⟩
end
section
variable{P:Program}{G:Nat->Option (List aa)}
def Gj{f:FuncId}{args:List aa}{id:Id}{a b:aG}{v:aa}(h:∀p,cj P G f args p [(id,a)] {val:=v,rd:=[id],up:=[(id,some b)]}):aR P G:=.rel f args [(id,a)] (λ _=>{val:=v,rd:=[id],up:=[(id,some b)]}) (λ p _=>h p) (λ p x c=>by rw[cq.1 c];exact cp)
def Lj(k:Nat)(id:Id)(len l h n:Nat)(a:l<h:=by omega)(b:h<=len:=by omega)(c:h-l=n:=by omega):aR P G:=.st k [] (.slice 1 (.ai id 1 0 len false) (some (.int .i64 (l:Int))) (some (.int .i64 (h:Int))) none) (λ _=>{val:=.ai id 1 l n false}) (λ σ p _=>by simp only[cd,anl a b,c,oB];rfl)
def aeQ(k:Nat)(id:Id)(len h:Nat)(a:h<=len:=by omega):aR P G:=.st k [] (.slice 1 (.ai id 1 0 len false) none (some (.int .i64 (h:Int))) none) (λ _=>{val:=.ai id 1 0 h false}) (λ σ p _=>by simp only[cd,anm a,oB];rfl)
def aeS(k:Nat)(id:Id)(o len h:Nat)(a:h<=len:=by omega):aR P G:=.st k [] (.slice 1 (.ai id 1 o len false) none (some (.int .i64 (h:Int))) none) (λ _=>{val:=.ai id 1 o h false}) (λ σ p _=>by simp only[cd,ank a,oB];rfl)
def Lg{f:FuncId}{args args':List aa}{r:aa}(S:List (Id×aG))(h:ag P G f args' r)(hv:dc (bU S) args args')(a:n2 r):aR P G:=.rel f args S (λ _=>{val:=r,rd:=S.map (·.1)}) (λ p _=>cj.of_flat h hv a) (λ p x b=>List.mem_map.2 ⟨x,b,rfl⟩)
def rE{f:FuncId}{args:List aa}{id:Id}{a:aG}{v:aa}(h:∀p,cj P G f args p [(id,a)] {val:=v,rd:=[id],up:=[]}):aR P G:=.rel f args [(id,a)] (λ _=>{val:=v,rd:=[id],up:=[]}) (λ p _=>h p) (λ p x b=>by rw[cq.1 b];exact cp)
noncomputable def G8{aB:dO}{k:Nat}{e:cf}{A B:List (Nat×aa)}{K cm:List (Id×aG)}(h:bo P G [0] (.loop (aZ aB k)) (λ a s'=>a=e/\bP G [0] s' ⟨fr aB.aK B,m8 (b5 cm),b6 0⟩) ⟨fr aB.aK A,bU K,ej 0⟩):aR P G:=.h9 [0] (aZ aB k) (fr aB.aK A) K (ej 0) e (fr aB.aK B) (b5 cm) (b6 0) h
def aeU{nx:FuncId}(L n s:Nat)(f:Nat->Nat)(k:∀j,j<n->f j=ao s j)(a:n<=L)(h:hP P G nx)(g:s<ah^n)(id:Id)(bk:L<=8388608000000:=by omega):aR P G:=uI [(id,⟨us (ca L f),1,false⟩)] (args:=[.ai id 1 0 n false]) (args':=[.sl 1 (us (eD s n))]) (r:=W s) (by have:=h (eD s n) (yi s n) (by rw[mE];omega);rwa[tz,dX g]at this) (bZ (by
   have e:(us (ca L f)).take n=us (eD s n):=by rw[Ya];congr 1;refine ie (by simp[ca,eD,a]) λ j h1 b=>?_;simp only[eD,aQ,dx]at b;simp[ca,eD,k j b]
   rw[<-e];refine nU (aq:=⟨us (ca L f),1,false⟩) (by simp[bU,List.lookup]) rfl (by simp[jw,ua,a]) ?_ (by simp[jw,ua,a]) λ d hd=>Ol _ d (gK hd);rw[List.drop_zero];exact my λ c hc=>Ok (ca L f) c (by have⟨e,i,hc⟩:=kD.1 hc;exact kD.2 ⟨e,gK i,hc⟩)) eT)
structure km(L o n D:Nat)(f:Nat->Nat):Prop where
 kJ:o+n<=L
 Sn:L<=8388608000000
 wx:D<ah^n
 gf:∀i,i<n->f (o+i)=ao D i
def km.wl{L o n D:Nat}{f:Nat->Nat}(H:km L o n D f):af D<=n:=ja H.wx
def km.short{L o n D:Nat}{f:Nat->Nat}(H:km L o n D f):km L o (af D) D f:=⟨bx (Nat.add_le_add_left H.wl _) H.kJ,H.Sn,eK D,λ i a=>H.gf i (gz a H.wl)⟩
def km.view{L o D:Nat}{f:Nat->Nat}(H:km L o (af D) D f)(id:Id):View (bU [(id,⟨us (ca L f),1,false⟩)]) (.ai id 1 o (af D) false) (W D):=by
 have g:=H.kJ;have e:((us (ca L f)).drop o).take (af D)=us (eD D (af D)):=by
   have b:((ca L f).drop o).take (af D)=eD D (af D):=by refine ie (by simp[ca,eD];omega) λ j h1 a=>?_;simp only[eD,aQ,dx]at a;simp[ca,eD,H.gf j a]
   rw[<-b];simp[us,List.map_take,List.map_drop]
 rw[E3,<-e];refine nU (aq:=⟨us (ca L f),1,false⟩) (by simp[bU,List.lookup]) rfl (by simp[jw,ua];omega) ?_ (by simp[jw,ua];omega) λ d hd=>Ol _ d (vE (gK hd));exact my λ c hc=>Ok (ca L f) c (by have⟨e,h,hc⟩:=kD.1 hc;exact kD.2 ⟨e,vE (gK h),hc⟩)
end
end Go.ay
namespace Go.Proofs.YtpcofcmencgkbaaGreat
structure tY(M V cC L k:Nat):Prop where
 hk:af V=k+2
 qc:V<ah^(k+2)BN:cC=L+(k+2)aX:M<ah^cC
 hs:cC<=4194304000001
 dE:M/ah^L<V
section
variable(G:Nat->Option (List aa))(M V cC L k s:Nat)
noncomputable abbrev Bx(c:Nat):aD->List (Nat×aa):=λ r=>[(8,.int .i64 (s:Int)),(9,.ai r.a 1 0 cC false),(10,W V),(11,.int .i64 (af V:Int)),(12,.ai r.b 1 0 L false),(13,.int .u64 (ao V (k+1):Int)),(14,.int .u64 (ao V k:Int)),(15,.int .i64 (p5 c))]
noncomputable abbrev KQ(i q:Nat):aD->List (Nat×aa):=λ r=>[(8,.int .i64 (s:Int)),(9,.ai r.a 1 0 cC false),(10,W V),(11,.int .i64 (af V:Int)),(12,.ai r.b 1 0 L false),(13,.int .u64 (ao V (k+1):Int)),(14,.int .u64 (ao V k:Int)),(15,.int .i64 (i:Int)),(17,.int .u64 (q:Int))]
noncomputable abbrev KP(i q t:Nat):aD->List (Nat×aa):=λ r=>[(8,.int .i64 (s:Int)),(9,.ai r.a 1 0 cC false),(10,W V),(11,.int .i64 (af V:Int)),(12,.ai r.b 1 0 L false),(13,.int .u64 (ao V (k+1):Int)),(14,.int .u64 (ao V k:Int)),(15,.int .i64 (i:Int)),(17,.int .u64 (q:Int)),(18,.int .u64 (t:Int))]
abbrev p6(c:Nat):aD->List (bt×aG):=λ r=>[(r.a,⟨us (ca cC (ao (fN M V c))),1,false⟩),(r.b,⟨us (ca L (iT (M/V) c)),1,false⟩)]
variable{M V cC L k}
noncomputable def KR(H:tY M V cC L k){i q t:Nat}(f:i<L)(b:q<ah)(c:t<ah)(x:Bool)(d:decide (ah*t+ao (cK M V i) k<q*ao V k)=x):List (aR ab G):=have e:=H.hk;have g:=H.BN;have h:=H.hs;[hb 117 (decide_eq_false (by unfold ah at b;omega):decide ((q:Int)≥4294967296)=false),hw 121 (Cp q (ao V k) b (cu V k)) .u64,ho 123 (z2 t c),kK 127 i (af V),hw 128 (show cO.wrap (((i+af V:Nat):Int)-2)=((i+k:Nat):Int)by rw[cU];omega),eg 129 [1] cC (i+k) ac,hR 130 [1] cC (ao (fN M V (i+1))) ac (Bw M V i k),hw 131 (ft _ (cu (cK M V i) k)) .u64,ho 132 (CH t (ao (cK M V i) k) c (cu _ _)),hb 133 (show decide (((q*ao V k:Nat):Int)>((ah*t+ao (cK M V i) k:Nat):Int))=x by rw[<-d,decide_eq_decide];omega)]
noncomputable def Rx{q:Nat}(b:ah<=q):aR ab G:=hb 117 (decide_eq_true (by unfold ah at b;omega):decide ((q:Int)≥4294967296)=true)
noncomputable def FF{q q' t h a:Nat}(g:q=q'+1)(c:q<18446744073709551616)(f:a=t+h)(d:a<8589934592)(x:Bool)(e:decide (ah<=a)=x):List (aR ab G):=[hw 136 (show cY.wrap ((q:Int)-1)=(q':Int)by rw[h5];omega) .u64,hw 139 (show cY.wrap ((t:Int)+(h:Int))=(a:Int)by rw[h5];omega) .u64,hb 141 (show decide ((a:Int)≥4294967296)=x by rw[<-e,decide_eq_decide];unfold ah;omega)]
def ado(H:tY M V cC L k)(z:0<V)(i:Nat)(r:i<L)(num:Nat)(C:num=ah*ao (cK M V i) (k+2)+ao (cK M V i) (k+1)):∃q,q<ah/\cK M V i/V<=q/\q<=cK M V i/V+1/\bo ab G [0] (.loop (aZ (ak 303) 1)) (λ R s'=>R=.exit 3/\bP G [0] s' ⟨fr (ak 303).aK (KQ V cC L k s i q a3),m8 (b5 (p6 M V cC L (i+1) a3)),b6 0⟩) ⟨fr (ak 303).aK (KP V cC L k s i (num/ao V (k+1)) (num%ao V (k+1)) a3),bU (p6 M V cC L (i+1) a3),ej 0⟩:=by
 have v:=Bv M i z;have U:0<ao V (k+1):=kX (q8 H.hk);have p:=cu (cK M V i) (k+2);have x:=cu (cK M V i) (k+1);have A:=cu V (k+1);have m:num<18446744073709551616:=C▸Hp p x;have y:cK M V i<ah^(k+3):=Ee v.1 (by rw[ea,c9];exact Nat.mul_lt_mul_of_pos_right H.qc fl);have⟨N,g1,g2,X,q,q1,O,Q,Z⟩:=ahh (D:=cK M V i) (V:=V) (M:=ah^k) (num:=num) U A (cu V k) (cu (cK M V i) k) (bA V (fJ k)) (bA (cK M V i) (fJ k)) (XH V k H.qc) (by rw[C];exact XI _ k y) v.1 v.2 m;have J:num/ao V (k+1)<=num:=h6 _ _;generalize LD:num/ao V (k+1)=f at*;generalize Y:num%ao V (k+1)=o at*;refine⟨q,q1,O,Q,?_⟩;have mh:∀j,o+(j+1)*ao V (k+1)=o+j*ao V (k+1)+ao V (k+1):=λ j=>by rw[fU];omega
 have d:∀j,f-j<18446744073709551616:=λ j=>ac;have tb:∀{a b c:Nat},¬c<b->decide (c<b)=false:=λ h=>decide_eq_false h;have h4:=G9 (P:=ab) (G:=G) (c:=aZ (ak 303) 1) (n:=(ak 303).aK) (N:=N) (w:=200) (n0:=ej 0) (E:=b6 0) (e:=.exit 3) (q:=a3) (T:=λ j=>KP V cC L k s i (f-j) (o+j*ao V (k+1))) (K:=λ _=>p6 M V cC L (i+1)) (c5:=KQ V cC L k s i q) (cm:=p6 M V cC L (i+1)) (fL.start an) (λ j u=>by have⟨S,g⟩:=g2 j (hH u);have⟨b1,b2⟩:=g2 (j+1) u;have B:f-j=f-(j+1)+1:=ac;by_cases c:ah<=f-j;exact g7 (Rx G c::FF G B (d j) (mh j) (by unfold ah at b2;omega) false (decide_eq_false (ZZ b2)));have t:=(X j u).resolve_left c;exact g7 (KR G H r (vv c) g true (decide_eq_true t)++FF G B (d j) (mh j) (by unfold ah at b2;omega) false (decide_eq_false (ZZ b2)))) (by
   have⟨S,g⟩:=g2 N (a2 _);rcases Z with⟨t,rfl⟩|⟨t,I,F⟩;have c:¬ah<=f-N:=λ e=>t (.inl e);exact g7 (KR G H r (vv c) g false (decide_eq_false λ e=>t (.inr e)));have b3:o+(N+1)*ao V (k+1)<8589934592:=by rw[mh];unfold ah at g A;omega
   by_cases c:ah<=f-N;exact g7 (Rx G c::FF G F.symm (d N) (mh N) b3 true (decide_eq_true I));exact g7 (KR G H r (vv c) g true (decide_eq_true (t.resolve_left c))++FF G F.symm (d N) (mh N) b3 true (decide_eq_true I))) am (by unfold ej b6;unfold ah at g1;omega);simp only[Ef,sv,ij]at h4;exact h4
noncomputable def Ry(H:tY M V cC L k)(g:0<V){i q:Nat}(j:i<L)(h:bo ab G [0] (.loop (aZ (ak 303) 1)) (λ f s'=>f=.exit 3/\bP G [0] s' ⟨fr (ak 303).aK (KQ V cC L k s i q a3),m8 (b5 (p6 M V cC L (i+1) a3)),b6 0⟩) ⟨fr (ak 303).aK (KP V cC L k s i ((ah*ao (cK M V i) (k+2)+ao (cK M V i) (k+1))/ao V (k+1)) ((ah*ao (cK M V i) (k+2)+ao (cK M V i) (k+1))%ao V (k+1)) a3),bU (p6 M V cC L (i+1) a3),ej 0⟩):List (aR ab G):=have e:=H.hk;have l:=H.BN;have m:=H.hs;have d:0<ao V (k+1):=kX (q8 e);have a:=cu (cK M V i) (k+2);have b:=cu (cK M V i) (k+1);[p8 90 i,kK 96 i (af V),eg 97 [1] cC (i+af V) ac,hR 98 [1] cC (ao (fN M V (i+1))) (i:=i+af V) (y:=ao (cK M V i) (k+2)) ac (by rw[e];exact Bw M V i (k+2)),hw 99 (ft _ a) .u64,ho 100 (z2 _ a),kK 104 i (af V),hw 105 (show cO.wrap (((i+af V:Nat):Int)-1)=((i+(k+1):Nat):Int)by rw[cU];omega),eg 106 [1] cC (i+(k+1)) ac,hR 107 [1] cC (ao (fN M V (i+1))) ac (Bw M V i (k+1)),hw 108 (ft _ b) .u64,ho 109 (CH _ _ a b),ho 112 (CV (ah*ao (cK M V i) (k+2)+ao (cK M V i) (k+1)) (ao V (k+1)) (Hp a b) (Nat.ne_of_gt d)),ho 115 (C0 (ah*ao (cK M V i) (k+2)+ao (cK M V i) (k+1)) (ao V (k+1)) (Nat.ne_of_gt d)),G8 h,kK 146 i (af V),hI 147 (ac:i+af V<cC),Lj 148 [1] cC i (i+af V+1) (af V+1)]
def adq(H:tY M V cC L k)(a:0<V)(i:Nat)(d:i<L):bF ab G (aZ (ak 303) 0) (ak 303).aK (b6 9) .normal (Bx V cC L k s (i+1)) (p6 M V cC L (i+1)) (Bx V cC L k s i) (p6 M V cC L i):=by
 have⟨q,q1,D,y,x⟩:=ado G s H a i d _ rfl;have t:=H.hk;have N:=H.BN;have J:=H.hs;have z:=Bv M i a;have I:0<ao V (k+1):=kX (q8 t);have A:=cu (cK M V i) (k+2);have E:=cu (cK M V i) (k+1);have l:ah*V<=ah^(af V+1):=by rw[ea,c9,t];exact ck _ (hH H.qc)
 have F:=hE (cK M V i) V;rw[c9]at F;have K:=bA (cK M V i) a;have C:V<=ah*V:=ZY _ fl;have m:q*V<=cK M V i+V:=by have:=ck V y;rw[fU]at this;omega
 have B:vU cC i V q (cK M V i+ah^(af V+1)-q*V) (cK M V i) (ao (fN M V (i+1))):=⟨ac,ac,ac,q1,ac,λ j _=>Bw M V i j,ac⟩;have b:=λ p=>anF G B [1] p;have r:=z.2;rcases ahi a D y with⟨c,e⟩|⟨c,e⟩;have n:∀j,j<af V+1->ao (cK M V i+ah^(af V+1)-q*V+V) j=ao (cK M V i%V) j:=λ j g=>by rw[show cK M V i+ah^(af V+1)-q*V+V=cK M V i%V+ah^(af V+1)*1 by rw[e,fU];rw[e,fU]at m;omega,vM g]
 have h:=λ p=>alN G (L:=cC) (o:=i) (v:=V) (u:=cK M V i+ah^(af V+1)-q*V) (f:=wf (ao (fN M V (i+1))) i (cK M V i+ah^(af V+1)-q*V) (af V+1)) ac ac (λ j g=>by unfold wf;rw[if_pos ac,su]) [1] p;rw[sC λ j _=>KM M i a l (λ j g=>by unfold wf;exact if_neg ac) n j]at h;rw[decide_eq_true c]at b;exact bn a3 (Ry G s H a d x++[Gj b,hw 153 (VD e q1) .u64,kK 158 i (af V),hI 159 (ac:i+af V<cC),Lj 160 [1] cC i (i+af V+1) (af V+1),Gj h,hw 166 (show jc.wrap ((cK M V i/V:Nat):Int)=(ao (M/V) i:Int)by rw[oz r,KF M i a]) .u32,eg 167 [2] L i d,gO 167 [2] (f:=iT (M/V) (i+1)) (iT (M/V) i) d (F1 _),kp 92 i]);have n:∀j,j<af V+1->ao (cK M V i+ah^(af V+1)-q*V) j=ao (cK M V i%V) j:=λ j g=>by rw[show cK M V i+ah^(af V+1)-q*V=cK M V i%V+ah^(af V+1)*1 by rw[e];omega,vM g]
 rw[decide_eq_false (by omega:¬cK M V i<q*V),sC λ j _=>KM M i a l (λ _ _=>rfl) n j]at b;exact bn a3 (Ry G s H a d x++[Gj b,hw 166 (show jc.wrap (q:Int)=(ao (M/V) i:Int)by rw[oz q1,KF M i a,e]) .u32,eg 167 [2] L i d,gO 167 [2] (f:=iT (M/V) (i+1)) (iT (M/V) i) d (F1 _),kp 92 i])
abbrev Bi(i:Nat):bt:=[1000000000000000000000000000000000000000000000000+i,0]
def adp(u:∀x,x<ah->0<x->ag ab G 313 [.int .u32 ((x:Nat):Int)] (.int .i64 ((32-ek x:Nat):Int)))(m n:Nat)(i:n≠0)(U:af m<=3774873600000)(q:n<=m)(C:2<af m)(k:Nat)(v:af n=k+2):ag ab G 303 [W m,W n] (.aJ [W (m/n),W (m%n)]):=by
 have w:k+1<af n:=ac;have⟨S,I,iW,R,f⟩:=U2 (n:=n) (k:=k+1) v (vL w);have N:=u _ I S;generalize X:32-ek (ao n (k+1))=s at*;generalize l:n*2^s=V at*;have D:=fj q;have⟨L,kJ⟩:∃L,af m+1=L+(k+2):=⟨af m+1-(k+2),ac⟩;have K:m*2^s<ah^(af m+1):=by rw[ea];exact qV (eK m) (gA (dT al f) al)
 have o:m*2^s/ah^L<V:=Tw (k:=k+2) (c:=L) (m:=m) (s:=s) (A:=m*2^s%ah^L) l.symm (v▸BJ i) (by rw[show L+(k+2-1)=af m from ac];exact eK m) (tP _ _).symm;have b:0<V:=gA (dL _) o;have H:tY (m*2^s) V (af m+1) L k:=⟨R,iW,kJ,K,ac,o⟩;have⟨P,Q,T⟩:=Tt (m:=m) (n:=n) (s:=s) (O:=m*2^s/V) (r:=m*2^s%V) i (by rw[l,c9 _ V];exact(hE _ _).symm) (by rw[l];exact bA _ b);have F:=bA (m*2^s) b;have t:af (m*2^s%V)<=4194304000000:=by rw[l]at T;omega
 have p:decide (dU m n<0)=false:=decide_eq_false (by unfold dU;rcases n6 (m:Int) (n:Int)with⟨e,h⟩|⟨e,h⟩|⟨e,h⟩<;>omega);have z:ca (af m+1) (ao (fN (m*2^s) V L))=ca (af m+1) (fT m s (af m)):=sC λ j d=>by rw[Rt o];exact(Ih f (eK m) d).symm
 have B:m*2^s/V<ah^L:=tO ((lK (fJ L)).1 o);have J:=ft _ (cu V (k+1));have y:=ft _ (cu V k);have E:ag ab G 262 [.sl 1 (us (ca (af (m*2^s%V)) (iU (m*2^s%V/2^s) (af (m*2^s%V)))))] (W (m*2^s%V/2^s)):=by rw[sC (g:=ao (m*2^s%V/2^s)) λ j d=>F4 d];have:=nG G (eD (m*2^s%V/2^s) (af (m*2^s%V))) (yi _ _) (by rw[mE];omega);rwa[tz,dX (gA (h6 _ _) (eK _))]at this
 rw[<-P,<-Q];exact bL [hc (KB G (m:=m) (n:=n) (Kv G) (Ky G) ac),hb 23 p,bk 28 m,hb 29 (decide_eq_false ac:decide ((af m:Int)<=2)=false),bk 44 n,hb 45 (show((af n:Int)==1)=false by simp;omega),bk 55 n,hw 56 (show cO.wrap ((af n:Int)-1)=((k+1:Nat):Int)by rw[cU];omega),dI 57 w,hc N,cL (WR G f (ac:af m<=4194304000000)),cL (WR G f (ac:af n<=4194304000000)),qb (af n+1) V (fT n s (af n)) (λ j d=>by rw[<-l];exact Ih f (eK n) d) (nG G) (by rw[v];exact gz iW (dT fl ac)) (id:=[b6 0,28,0]),bk 68 V,hw 72 (show cO.wrap (((af m+1:Nat):Int)-(af V:Int))=(L:Int)by rw[cU];omega),Lh 73 L (m*2^s/V),hw 76 (show cO.wrap ((af V:Int)-1)=((k+1:Nat):Int)by rw[cU];omega),dI 77 (ac:k+1<af V),hw 79 J .u64,hw 82 (show cO.wrap ((af V:Int)-2)=((k:Nat):Int)by rw[cU];omega),dI 83 (ac:k<af V),hw 85 y .u64,kp 88 L,Ha (ak 303) 0 L ⟨[b6 0,25,0],[39,0],[3],[4]⟩ (Bx V (af m+1) L k s L ⟨[b6 0,25,0],[39,0],[3],[4]⟩) [([b6 0,25,0],⟨us (ca (af m+1) (fT m s (af m))),1,false⟩),([39,0],⟨us (ca L (iT (m*2^s/V) L)),1,false⟩)] (λ j=>Bx V (af m+1) L k s (L-j)) (λ j=>p6 (m*2^s) V (af m+1) L (L-j)) (.exit 1) (Bx V (af m+1) L k s 0) (p6 (m*2^s) V (af m+1) L 0) (by simp only[Ef]) (by simp only[Ef,p6,z]) (λ j d=>by have h:=adq G s H b (L-(j+1)) ac;rwa[show L-(j+1)+1=L-j from ac]at h) (by simp only[x2];exact bn a3 []),qb L (m*2^s/V) (iT (m*2^s/V) 0) (λ _ _=>if_pos (dL _)) (nG G) B (id:=Bi 1),aeQ 172 (Bi 0) (af m+1) (af V),aeU (af m+1) (af V) (m*2^s%V) (ao (fN (m*2^s) V 0)) (λ j _=>by rw[Ru]) ac (nG G) (Ee F (eK V)) (Bi 0),hc (Xe G f t),hc E]
def adr(i:∀x,x<ah->0<x->ag ab G 313 [.int .u32 ((x:Nat):Int)] (.int .i64 ((32-ek x:Nat):Int)))(d:∀n,n<18446744073709551616->ag ab G 304 [W n] (.int .u64 ((n:Nat):Int))):EN G 303:=λ m n b q r=>by
 have a:=KB G (m:=m) (n:=n) (Kv G) (Ky G) ac;by_cases l:m<n;rw[hh l,dX l];refine ag.pF hN [hc a,hb 23 (decide_eq_true (by unfold dU;rw[ur ac];decide):decide (dU m n<0)=true),hc (QX G m ac)] [] (.aJ [.aH,W m]) an rfl (bg.fix _) gW λ σ _=>lN (bZ ?_ (bZ (fk (vV m)) eT));rw[W,iQ];exact ga 1;have f:decide (dU m n<0)=false:=decide_eq_false (by unfold dU;rcases n6 (m:Int) (n:Int)with⟨e,h⟩|⟨e,h⟩|⟨e,h⟩<;>omega);by_cases h1:af m<=2;have qB:=Cj h1;have u2:n<18446744073709551616:=ac;exact bL [hc a,hb 23 f,bk 28 m,hb 29 (decide_eq_true ac:decide ((af m:Int)<=2)=true),hc (d m qB),hc (d n u2),ho 36 (CV m n qB b),hc (F0 G (m/n) (gA (h6 _ _) qB)),ho 40 (C0 m n b),hc (F0 G (m%n) (gA (Pn _ _) qB))];have p:0<af n:=by have:=@gw n;omega
 by_cases o:af n=1;have j:=eK n;rw[o]at j;have e:ao n 0=n:=by rw[A7 j,kg,oI]
 have h:=adt G (m:=m) (w:=n) (nG G) (F0 G) ac (by simpa using j) ac;have g:j7 1 (W n) (.int .i64 ((0:Nat):Int))=some (.cr [Ag n] 0):=by have:=E4 (vL p);rw[e]at this;exact this
 exact bL [hc a,hb 23 f,bk 28 m,hb 29 (decide_eq_false ac:decide ((af m:Int)<=2)=false),bk 44 n,hb 45 (show((af n:Int)==1)=true by rw[o];rfl),ho 48 g,hc h];exact adp G i m n b q ac ac (af n-2) ac
end
section
variable(G:Nat->Option (List aa))
noncomputable abbrev L9(n x j:Nat):aD->List (Nat×aa):=λ _=>[(0,W n),(3,.int .i64 (j:Int)),(4,.int .u32 ((x/2^j:Nat):Int))]
def TM(n k:Nat)(g:af n=k+1)(f:k<=4194304000000):ag ab G 255 [W n] (.int .i64 ((32*k+ek (ao n k):Nat):Int)):=by have c:=kX (q8 g);have a:=cu n k;generalize d:ao n k=x at*;have⟨b1,b2⟩:=yy a c;have b3:=Bk a c;exact bL [bk 6 n,hb 7 (show((af n:Int)==0)=false by simp;omega),bk 10 n,hw 11 (show cO.wrap ((af n:Int)-1)=(k:Int)by rw[cU];omega),ho 12 (d▸E4 (vL (ac:k<af n))),te (ak 255) 0 0 (ek x) (aD.o 0) [(0,W n),(3,.int .i64 0),(4,.int .u32 (x:Int))] [] (L9 n x) (λ _ _=>[]) (.exit 0) (L9 n x (ek x)) (λ _=>[]) (by simp only[L9,kg,oI];rfl) rfl (λ j e=>by have h:0<x/2^j:=Nat.div_pos (by have:=dT (n:=2) al (ac:j+1<=ek x);rw[ea]at this;omega) (lJ j);have q:=alc (x/2^j) (gA (h6 _ _) a);rw[kC,<-ea]at q;exact bn a3 [hb 15 (decide_eq_true ac:decide (((x/2^j:Nat):Int)>0)=true),hI 19 e,ho 17 q]) (bn a3 [hb 15 (decide_eq_false (by rw[hh b1];decide):decide (((x/2^ek x:Nat):Int)>0)=false)]),bk 21 n,hw 22 (show cO.wrap ((af n:Int)-1)=(k:Int)by rw[cU];omega),hw 23 (show cO.wrap (32*(k:Int))=((32*k:Nat):Int)by rw[cU];omega),hw 25 (P8 (32*k) (ek x) ac)]
variable{L o n D:Nat}{f:Nat->Nat}
abbrev toF(o j:Nat):aD->List (Nat×aa):=λ r=>[(0,.ai r.a 1 o j false)]
def toV(H:km L o n D f)(id p:bt):cj ab G 223 [.ai id 1 o n false] p [(id,⟨us (ca L f),1,false⟩)] {val:=.ai id 1 o (af D) false,rd:=[id],up:=[]}:=by
 have hw:=H.wl;have g1:=H.kJ;have g2:=H.Sn;have rd:∀i,i<n-af D->kF ab G (aZ (ak 223) 0) (ak 223).aK 200 .normal (toF o (n-i)) (dh L f) (toF o (n-(i+1))) (dh L f):=λ i k=>by
   have⟨j,g⟩:∃j,n-i=j+1:=⟨n-i-1,ac⟩;rw[g,show n-(i+1)=j from ac];have e:f (o+j)=0:=by rw[H.gf j ac];exact oR ac
   exact g7 [hb 5 (decide_eq_true ac:decide (((j+1:Nat):Int)>0)=true),yZ 10 j,lu 11 [1] o (j+1) j false ac,hR 12 [1] L f ac e,yZ 18 j,aeS 19 [1] o (j+1) j]
 have d:kF ab G (aZ (ak 223) 0) (ak 223).aK 200 (.exit 0) (toF o (af D)) (dh L f) (toF o (af D)) (dh L f):=by
   rcases h:af D with _|q;exact g7 [];have e:=H.gf q ac;have c:((ao D q:Int)==0)=false:=by simpa using q8 h
   exact g7 [hb 5 (decide_eq_true ac:decide (((q+1:Nat):Int)>0)=true),yZ 10 q,lu 11 [1] o (q+1) q false ac,hR 12 [1] L f ac e,hb 13 c]
 exact Jw hN [uQ (ak 223) 0 0 (n-af D) a3 (toF o n a3) (dh L f a3) (λ i=>toF o (n-i)) (λ _=>dh L f) (.exit 0) (toF o (af D)) (dh L f) rfl rfl rd (by rw[Z0 hw];exact d)] (λ r=>[.ai r.a 1 o n false]) (λ r=>.ai r.a 1 o (af D) false) (dh L f) (λ _=>[]) an ⟨id,[2],[3],[4]⟩ p am am
noncomputable abbrev Cn(o l D n i c:Nat):aD->List (Nat×aa):=λ r=>[(0,.ai r.a 1 o l false),(1,W n),(5,.ai r.b 1 0 l false),(6,.int .u64 (c:Int)),(7,.int .i64 (i:Int))]
abbrev DF(L l s:Nat)(f:Nat->Nat)(i:Nat):aD->List (bt×aG):=λ r=>[(r.a,⟨us (ca L f),1,false⟩),(r.b,⟨us (ca l (iU s i)),1,false⟩)]
variable{l m:Nat}
def aps(H:km L o l D f)(h:m<=D)(k:l<=4194304000001)(i:Nat)(a:i<l):kF ab G (aZ (ak 222) 0) (ak 222).aK 200 .normal (Cn o l D m i (cJ (D-m) m i)) (DF L l (D-m) f i) (Cn o l D m (i+1) (cJ (D-m) m (i+1))) (DF L l (D-m) f (i+1)):=by have g1:=H.kJ;have e:=H.gf i a;have⟨c,d,g⟩:=V0 (KH h i) (cu D i) (cu m i) (cu (D-m) i) (ry (D-m) m i) (ry (D-m) m (i+1));by_cases b:i<af m;exact g7 [fP 16 a,bk 21 m,fP 22 b,dI 25 b,lu 30 [1] o l i false a,hR 31 [1] L f ac e,hw 37 c .u64,hw 41 d .u32,eg 42 [2] _ i a,oa 42 (D-m) a [2],ho 44 (mZ (ao D i+ah-ao m i-cJ (D-m) m i)),hw 45 g .u64,hI 18 a];have z:=oR (jT b);rw[z]at c d g;exact g7 [fP 16 a,bk 21 m,hQ 22 (jT b),lu 30 [1] o l i false a,hR 31 [1] L f ac e,hw 37 c .u64,hw 41 d .u32,eg 42 [2] _ i a,oa 42 (D-m) a [2],ho 44 (mZ (ao D i+ah-0-cJ (D-m) m i)),hw 45 g .u64,hI 18 a]
def aiF(H:km L o l D f)(h:m<=D)(c:l<=4194304000001)(id p:bt):cj ab G 222 [.ai id 1 o l false,W m] p [(id,⟨us (ca L f),1,false⟩)] {val:=W (D-m),rd:=[id],up:=[]}:=Jw hN [yY 12 l (D-m),uQ (ak 222) 0 0 l ⟨[1],[3,0],[3],[4]⟩ (Cn o l D m 0 0 ⟨[1],[3,0],[3],[4]⟩) (DF L l (D-m) f 0 ⟨[1],[3,0],[3],[4]⟩) (λ i=>Cn o l D m i (cJ (D-m) m i)) (DF L l (D-m) f) (.exit 0) (Cn o l D m l (cJ (D-m) m l)) (DF L l (D-m) f l) (by simp only[yG]) rfl (aps G H h c) (g7 [hQ 16 (a2 l)]),qb l (D-m) (iU (D-m) l) (λ _=>F4) (ma G) (gA (Nat.sub_le _ _) H.wx) (id:=[3,0])] (λ r=>[.ai r.a 1 o l false,W m]) (λ _=>W (D-m)) (dh L f) (λ _=>[]) an ⟨id,[2],[3],[4]⟩ p am am
end
section
variable(G:Nat->Option (List aa)){L o D V k:Nat}{f:Nat->Nat}
noncomputable abbrev FC(o V q:Nat):aD->List (Nat×aa):=λ r=>[(0,.ai r.a 1 o (af V+1) false),(1,W V),(7,.int .u64 (q:Int)),(8,W (V*q))]
noncomputable def Ri(H:km L o (af V+1) D f)(a:af D<=4194304000000)(q:Nat)(x:Bool)(c:decide (D<V*q)=x):List (aR ab G):=[rE (toV G H [1]),Lg [([1],⟨us (ca L f),1,false⟩)] (CW G (m:=D) (n:=V*q) a) (bZ (H.short.view [1]) (bZ (fk (vV (V*q))) eT)) (n2.int _ _),hb 42 (show decide (dU D (V*q)<0)=x by rw[<-c,decide_eq_decide];unfold dU;rcases n6 (D:Int) ((V*q:Nat):Int)with⟨e,h⟩|⟨e,h⟩|⟨e,h⟩<;>omega)]
def Rj(H:km L o (af V+1) D f)(v:0<V)(h:∀q,q<ah->af (V*q)<=4194304000000)(a:af D<=4194304000000){q1 Q:Nat}(d:q1<ah)(t:Q<=q1)(g:V*Q<=D)(i:D<V*(Q+1)):bo ab G [0] (.loop (aZ (ak 257) 0)) (λ r s'=>r=.exit 0/\bP G [0] s' ⟨fr (ak 257).aK (FC o V Q a3),m8 (b5 (dh L f a3)),b6 0⟩) ⟨fr (ak 257).aK (FC o V q1 a3),bU (dh L f a3),ej 0⟩:=by have h4:=G9 (P:=ab) (G:=G) (c:=aZ (ak 257) 0) (n:=(ak 257).aK) (N:=q1-Q) (w:=200) (n0:=ej 0) (E:=b6 0) (e:=.exit 0) (q:=a3) (T:=λ j=>FC o V (q1-j)) (K:=λ _=>dh L f) (c5:=FC o V Q) (cm:=dh L f) (fL.start an) (λ j x=>by have p:q1-j=q1-(j+1)+1:=ac;have u:D<V*(q1-j):=gz i (fK _ ac);have l:=Wh G (ma G) (m:=V*(q1-j)) (n:=V) (Nat.le_mul_of_pos_right _ ac) (h _ ac);rw[show V*(q1-j)-V=V*(q1-(j+1))by rw[p,Nat.mul_succ,Nat.add_sub_cancel]]at l;exact g7 (Ri G H a (q1-j) true (decide_eq_true u)++[hw 44 (VD p ac) .u64,hc l])) (by rw[Z0 t];exact g7 (Ri G H a Q false (decide_eq_false (Nat.not_lt_of_le g)))) am (by unfold ej b6;unfold ah at d;omega);exact h4
noncomputable def Rk(H:km L o (af V+1) D f)(c:af V=k+2)(h:k+3<=4194304000000)(e:0<V):List (aR ab G):=have g1:=H.kJ;have a:=cu D (k+2);have b:=cu D (k+1);have g:=cu V (k+1);[bk 10 V,lu 13 [1] o (af V+1) (af V) false ac,hR 14 [1] L f (i:=o+af V) (y:=ao D (k+2)) ac (by rw[H.gf _ ac,c]),hw 15 (ft _ a) .u64,ho 16 (z2 _ a),hw 19 (show cO.wrap ((af V:Int)-1)=((k+1:Nat):Int)by rw[cU];omega),lu 20 [1] o (af V+1) (k+1) false ac,hR 21 [1] L f (i:=o+(k+1)) ac (H.gf _ ac),hw 22 (ft _ b) .u64,ho 23 (CH _ _ a b),hw 26 (show cO.wrap ((af V:Int)-1)=((k+1:Nat):Int)by rw[cU];omega),dI 27 (ac:k+1<af V),hw 29 (ft _ g) .u64,ho 30 (CV (ah*ao D (k+2)+ao D (k+1)) (ao V (k+1)) (Hp a b) (q8 c))]
def ada(H:km L o (af V+1) D f)(s:af V=k+2)(z:V<ah^(k+2))(n:k+3<=4194304000000)(b:0<V)(C:D<ah*V)(d:D/V<ah)(id p:bt):cj ab G 257 [.ai id 1 o (af V+1) false,W V] p [(id,⟨us (ca L f),1,false⟩)] {val:=.aJ [.int .u32 ((D/V:Nat):Int),W (V*(D/V))],rd:=[id],up:=[]}:=by
 have v:=cu D (k+2);have u:=cu D (k+1);have B:=Hp v u;have t:∀q,q<ah->V*q<ah^(k+3):=λ q h=>by rw[ea];exact qV z h
 have m:D<ah^(k+3):=by have:=H.wx;rwa[s]at this
 have F:=alK (num:=ah*ao D (k+2)+ao D (k+1)) (h:=ao V (k+1)) (V:=V) (D:=D) (x0:=ao D k) (M:=ah^k) (u':=D%ah^k) (l:=ao V k) (v':=V%ah^k) (kX (q8 s)) (XH V k z) (XI D k m) (cu D k) (bA _ (fJ k)) d;have j:∀q,q<ah->af (V*q)<=4194304000000:=λ q h=>bx (ja (t q h)) n;have i:af D<=4194304000000:=bx (ja m) n;have y:∀q,q<ah->ag ab G 225 [W V,.sl 1 (us [q])] (W (V*q)):=λ q h=>by have:=Wm G V [q] (λ w hw=>by rw[cq.1 hw];exact h) ac am;simpa[val]using this
 by_cases c:4294967295<(ah*ao D (k+2)+ao D (k+1))/ao V (k+1);have E:D/V<=4294967295:=by unfold ah at d;omega
 have x:=Rj G H b j i (q1:=4294967295) (by unfold ah;omega) E (Po D V) (Z1 D b);exact Jw hN (Rk G H s n b++[hb 32 (decide_eq_true ac:decide ((((ah*ao D (k+2)+ao D (k+1))/ao V (k+1):Nat):Int)>4294967295)=true),y7 [32,0] 1 (us [4294967295]) 1 rfl (A:=[W V]) (y 4294967295 (by unfold ah;omega)),G8 x,hw 49 (oz d) .u32]) (λ r=>[.ai r.a 1 o (af V+1) false,W V]) (λ _=>.aJ [.int .u32 ((D/V:Nat):Int),W (V*(D/V))]) (dh L f) (λ _=>[]) an ⟨id,[2],[3],[4]⟩ p am am;have e:(ah*ao D (k+2)+ao D (k+1))/ao V (k+1)<ah:=by unfold ah at c⊢;omega
 have x:=Rj G H b j i e (bx F (Nat.min_le_left _ _)) (Po D V) (Z1 D b);exact Jw hN (Rk G H s n b++[hb 32 (decide_eq_false ac:decide ((((ah*ao D (k+2)+ao D (k+1))/ao V (k+1):Nat):Int)>4294967295)=false),hw 35 (oz e) .u32,y7 [31,0] 1 (us [(ah*ao D (k+2)+ao D (k+1))/ao V (k+1)]) 1 rfl (A:=[W V]) (y _ e),G8 x,hw 49 (oz d) .u32]) (λ r=>[.ai r.a 1 o (af V+1) false,W V]) (λ _=>.aJ [.int .u32 ((D/V:Nat):Int),W (V*(D/V))]) (dh L f) (λ _=>[]) an ⟨id,[2],[3],[4]⟩ p am am
end
section
variable(G:Nat->Option (List aa))(M V cC L iJ k s:Nat)
noncomputable abbrev CY(c:Nat):aD->List (Nat×aa):=λ r=>[(10,.int .i64 (s:Int)),(11,.ai r.a 1 0 cC false),(12,W V),(13,.ai r.b 1 0 iJ false),(14,.int .i64 (p5 c))]
noncomputable abbrev HT(i R j:Nat):aD->List (Nat×aa):=λ r=>[(10,.int .i64 (s:Int)),(11,.ai r.a 1 0 cC false),(12,W V),(13,.ai r.b 1 0 iJ false),(14,.int .i64 (i:Int)),(15,.ai r.a 1 i (af V+1) false),(18,W R),(19,.int .i64 (j:Int))]
abbrev zS(c:Nat):aD->List (bt×aG):=λ r=>[(r.a,⟨us (ca cC (ao (fN M V c))),1,false⟩),(r.b,⟨us (ca iJ (iT (M/V) c)),1,false⟩)]
abbrev zR(i R j:Nat):aD->List (bt×aG):=λ r=>[(r.a,⟨us (ca cC (wf (ao (fN M V (i+1))) i R j)),1,false⟩),(r.b,⟨us (ca iJ (iT (M/V) i)),1,false⟩)]
variable{M V cC L iJ k}
def apw(H:tY M V cC L k)(e:cC=iJ+1)(R i:Nat)(l:i<L)(j:Nat)(a:j<af V+1):kF ab G (aZ (ak 224) 1) (ak 224).aK 200 .normal (HT V cC iJ s i R j) (zR M V cC iJ i R j) (HT V cC iJ s i R (j+1)) (zR M V cC iJ i R (j+1)):=by have m:=H.hk;have g:=H.BN;have h:=H.hs;have b:i+j<cC:=ac;by_cases c:j<af R;exact g7 [fP 105 a,lu 110 [1] i (af V+1) j false a,gO 110 [1] (f:=wf (ao (fN M V (i+1))) i R j) (v:=0) (λ x=>if x=i+j then 0 else wf (ao (fN M V (i+1))) i R j x) b (λ x _=>rfl),bk 113 R,fP 114 c,dI 119 c,lu 121 [1] i (af V+1) j false a,gO 121 [1] (f:=λ x=>if x=i+j then 0 else wf (ao (fN M V (i+1))) i R j x) (v:=ao R j) (wf (ao (fN M V (i+1))) i R (j+1)) b (λ x _=>by rw[Ah];exact VH x),hI 107 a];have z:=oR (jT c);exact g7 [fP 105 a,lu 110 [1] i (af V+1) j false a,gO 110 [1] (f:=wf (ao (fN M V (i+1))) i R j) (v:=0) (wf (ao (fN M V (i+1))) i R (j+1)) b (λ x _=>by rw[Ah,z]),bk 113 R,hQ 114 (jT c),hI 107 a]
def alH(H:tY M V cC L k)(t:cC=iJ+1)(o:k+3<=4194304000000)(x:L<=iJ)(d:0<V)(i:Nat)(z:i<L):bF ab G (aZ (ak 224) 0) (ak 224).aK (b6 9) .normal (CY V cC iJ s (i+1)) (zS M V cC iJ (i+1)) (CY V cC iJ s i) (zS M V cC iJ i):=by
 have u:=H.hk;have B:=H.BN;have A:=H.hs;have l:=Bv M i d;have h:ah*V<=ah^(af V+1):=by rw[ea,c9,u];exact ck _ (hH H.qc)
 have S:km cC i (af V+1) (cK M V i) (ao (fN M V (i+1))):=⟨ac,ac,gz l.1 h,λ j _=>Bw M V i j⟩;have dg:=λ p=>ada G S u H.qc o d l.1 l.2 [1] p;have m:=λ p=>aiF G S.short (Po (cK M V i) V) (bx S.wl ac) [1] p;rw[show cK M V i-V*(cK M V i/V)=cK M V i%V by have:=hE (cK M V i) V;omega]at m;rw[<-KF M i d]at dg m;have y:ca cC (wf (ao (fN M V (i+1))) i (cK M V i%V) (af V+1))=ca cC (ao (fN M V i)):=sC λ j _=>KM M i d h (λ _ _=>rfl) (λ _ _=>rfl) j;have v:=G9 (P:=ab) (G:=G) (c:=aZ (ak 224) 1) (n:=(ak 224).aK) (N:=af V+1) (w:=200) (n0:=ej 0) (E:=b6 0) (e:=.exit 2) (q:=a3) (T:=HT V cC iJ s i (cK M V i%V)) (K:=zR M V cC iJ i (cK M V i%V)) (c5:=HT V cC iJ s i (cK M V i%V) (af V+1)) (cm:=zS M V cC iJ i) (fL.start an) (apw G s H t _ i z) (by unfold zR;rw[y];exact g7 [hQ 105 (a2 (af V+1))]) am (by unfold ej b6;omega);rw[show zR M V cC iJ i (cK M V i%V) 0=λ r=>[(r.a,⟨us (ca cC (ao (fN M V (i+1)))),1,false⟩),(r.b,⟨us (ca iJ (iT (M/V) i)),1,false⟩)]by funext r;unfold zR;rw[OO]]at v;exact bn a3 [p8 77 i,bk 84 V,kK 85 i (af V),hI 86 (ac:i+af V<cC),Lj 87 [1] cC i (i+af V+1) (af V+1),rE dg,eg 97 [2] iJ i ac,gO 97 [2] (f:=iT (M/V) (i+1)) (iT (M/V) i) (ac:i<iJ) (F1 _),rE (toV G S [1]),rE m,G8 v,kp 79 i]
def ahO{N:Nat}(h:N<=4194304000000):cO.wrap (32*(N:Int))=((32*N:Nat):Int):=by rw[cU];omega
def ahP{N k b s:Nat}(h:N<=4194304000000)(hN:N=k+2)(h1:1<=b)(a:b<=32)(c:32-b=s):cO.wrap (((32*N:Nat):Int)-((32*(k+1)+b:Nat):Int))=(s:Int):=by rw[cU];omega
def ahQ{a b L:Nat}(h:a+1=L+b)(c:a<=4194304000000)(h3:b<=a):cO.wrap ((a:Int)-(b:Int))=p5 L:=by rw[cU,Rq];omega
def alG(m n:Nat)(l:n≠0)(X:af m<=3774873600000)(g:n<=m)(E:2<af m)(k:Nat)(o:af n=k+2):ag ab G 224 [W m,W n] (.aJ [W (m/n),W (m%n)]):=by
 have I:k+1<af n:=ac;have⟨R,P,iW,w,d⟩:=U2 (n:=n) (k:=k+1) o (vL I);have z:=fj g;have C:=Bk P R;have Q:=TM G n (k+1) o ac;have⟨s,y⟩:∃s,32-ek (ao n (k+1))=s:=⟨_,rfl⟩;rw[y]at iW w d;generalize p:n*2^s=V at*;have F:=fj g;have⟨L,kJ⟩:∃L,af m+1=L+(k+2):=⟨af m+1-(k+2),ac⟩;have x:m*2^s<ah^(af m+1):=by rw[ea];exact qV (eK m) (gA (dT al d) al)
 have q:m*2^s/ah^L<V:=Tw (k:=k+2) (c:=L) (m:=m) (s:=s) (A:=m*2^s%ah^L) p.symm (o▸BJ l) (by rw[show L+(k+2-1)=af m from ac];exact eK m) (tP _ _).symm;have f:0<V:=gA (dL _) q;have H:tY (m*2^s) V (af m+1) L k:=⟨w,iW,kJ,x,ac,q⟩;have⟨T,S,K⟩:=Tt (m:=m) (n:=n) (s:=s) (O:=m*2^s/V) (r:=m*2^s%V) l (by rw[p,c9 _ V];exact(hE _ _).symm) (by rw[p];exact bA _ f);have U:=bA (m*2^s) f;have u:af (m*2^s%V)<=4194304000000:=by rw[p]at K;omega
 have v:decide (dU m n<0)=false:=decide_eq_false (by unfold dU;rcases n6 (m:Int) (n:Int)with⟨e,h⟩|⟨e,h⟩|⟨e,h⟩<;>omega);have J:ca (af m+1) (ao (fN (m*2^s) V L))=ca (af m+1) (fT m s (af m)):=sC λ j t=>by rw[Rt q];exact(Ih d (eK m) t).symm
 have D:m*2^s/V<ah^L:=tO ((lK (fJ L)).1 q);have i:L<=af m:=ac;have aq:=abW G (ma G) (m:=m*2^s%V) d u;rw[S]at aq;rw[<-T];exact bL [hc (CW G (m:=m) (n:=n) ac),hb 23 v,bk 26 m,hb 27 (decide_eq_false ac:decide ((af m:Int)<=2)=false),bk 41 n,hb 42 (show((af n:Int)==1)=false by simp;omega),bk 56 n,hw 57 (ahO (N:=af n) ac),hc Q,hw 60 (ahP ac o C.1 C.2 y),cL (WJ G d (ac:af m<=4194304000000)),cL (WJ G d (ac:af n<=4194304000000)),qb (af n+1) V (fT n s (af n)) (λ j t=>by rw[<-p];exact Ih d (eK n) t) (ma G) (by rw[o];exact gz iW (dT fl ac)) (id:=[b6 0,24,0]),bk 69 m,rD 70 (af m) (iT (m*2^s/V) L) (λ j _=>by unfold iT;split;exact q7 (gz D (dT fl (by assumption)));rfl),bk 72 m,bk 74 V,hw 75 (ahQ (a:=af m) (b:=af V) (L:=L) (by rw[w];exact kJ) ac ac),Ha (ak 224) 0 L ⟨[b6 0,21,0],[30,0],[3],[4]⟩ (CY V (af m+1) (af m) s L ⟨[b6 0,21,0],[30,0],[3],[4]⟩) [([b6 0,21,0],⟨us (ca (af m+1) (fT m s (af m))),1,false⟩),([30,0],⟨us (ca (af m) (iT (m*2^s/V) L)),1,false⟩)] (λ j=>CY V (af m+1) (af m) s (L-j)) (λ j=>zS (m*2^s) V (af m+1) (af m) (L-j)) (.exit 0) (CY V (af m+1) (af m) s 0) (zS (m*2^s) V (af m+1) (af m) 0) (by simp only[Ef]) (by simp only[Ef,zS,J]) (λ j t=>by have h:=alH G s H rfl ac i f (L-(j+1)) ac;rwa[show L-(j+1)+1=L-j from ac]at h) (by simp only[x2];exact bn a3 []),qb (af m) (m*2^s/V) (iT (m*2^s/V) 0) (λ _ _=>if_pos (dL _)) (ma G) (gz D (dT fl i)) (id:=Bi 1),qb (af m+1) (m*2^s%V) (ao (fN (m*2^s) V 0)) (λ j _=>by rw[Ru]) (ma G) (gA (Pn _ _) x) (id:=Bi 0),hc aq]
def alI:EN G 224:=λ m n c l q=>by
 have a:=CW G (m:=m) (n:=n) ac;by_cases i:m<n;rw[hh i,dX i];refine ag.pF hN [hc a,hb 23 (decide_eq_true (by unfold dU;rw[ur ac];decide):decide (dU m n<0)=true)] [] (.aJ [.aH,W m]) an rfl (bg.fix _) gW λ σ _=>lN (bZ ?_ (bZ (fk (vV m)) eT));rw[W,iQ];exact ga 1;have d:decide (dU m n<0)=false:=decide_eq_false (by unfold dU;rcases n6 (m:Int) (n:Int)with⟨e,h⟩|⟨e,h⟩|⟨e,h⟩<;>omega);by_cases h1:af m<=2;have qB:=Cj h1;have u2:n<18446744073709551616:=ac;exact bL [hc a,hb 23 d,bk 26 m,hb 27 (decide_eq_true ac:decide ((af m:Int)<=2)=true),hc (WV G qB),hc (WV G u2),ho 34 (CV m n qB c),hc (I3 G (m/n) (gA (h6 _ _) qB)),ho 38 (C0 m n c),hc (I3 G (m%n) (gA (Pn _ _) qB))];have p:0<af n:=by have:=@gw n;omega
 by_cases j:af n=1;have f:=eK n;rw[j]at f;have b:n<ah:=by simpa using f
 have e:ao n 0=n:=by rw[A7 f,kg,oI]
 have h:=ab4 G (m:=m) (w:=n) (ma G) ac b ac;have o:=bA m (ac:0<n);have g:j7 1 (W n) (.int .i64 ((0:Nat):Int))=some (.cr [Ag n] 0):=by have:=E4 (vL p);rw[e]at this;exact this
 exact bL [hc a,hb 23 d,bk 26 m,hb 27 (decide_eq_false ac:decide ((af m:Int)<=2)=false),bk 41 n,hb 42 (show((af n:Int)==1)=true by rw[j];rfl),ho 46 g,hc h,hw 53 (ft (m%n) (Ee o b)) .u64,hc (I3 G (m%n) (by unfold ah at b;omega))];exact alG G m n c l ac ac (af n-2) ac
end
end Go.Proofs.YtpcofcmencgkbaaGreat
namespace Go.Proofs
section
open Go.RowKit Go.Shelf
attribute [local go_sem]Oper.semAt_some
def Tryz.upto{α:Type}(f:Nat->α)(k:Nat):List α:=(List.range k).map f
def Tryz.X6{α:Type}(f:Nat->α)(k:Nat):Tryz.upto f (k+1)=Tryz.upto f k++[f k]:=by simp[Tryz.upto,List.range_succ]
def Tryz.an7{α:Type}(f:Nat->α)(k:Nat):(Tryz.upto f k).length=k:=by simp[Tryz.upto]
def Tryz.rp(zs:List Int)(k:Nat):Int×Int:=((zs.length:Int)-1-k,zs[zs.length-1-k]?.getD 0)
def Tryz.q2(c a:Nat)(A B:World):Prop:=Below c A B/\B.cell? ⟨a,0,none⟩=A.cell? ⟨a,0,none⟩
def Tryz.q2.refl(c b:Nat)(A:World):Tryz.q2 c b A A:=⟨Below.refl _ _,rfl⟩
def Tryz.q2.trans{c b:Nat}{A B C:World}(h:Tryz.q2 c b A B)(k:Tryz.q2 c b B C):Tryz.q2 c b A C:=⟨h.1.trans k.1,k.2.trans h.2⟩
set_option maxRecDepth 100000 in set_option maxHeartbeats 2000000 in theorem Tryz.ab1(F:Fence)(n:Nat)(yW:F.fn 323)(rH:F.round=none)(hn:1<=n)(l vK ML b off cap:Nat)(zs:List Int)(SZ:zs.length*8<=140737488351232)(hb:b<ML)(J PT:List (Int×Int)->World->Prop)(SI:∀pre x W,J pre W->pre.length<zs.length->YieldAt F (n-1) ab l #[.int .i64 x.1,.int .u32 x.2] W fun e W'=>(e=.returned (.bool true)/\J (pre++[x]) W'/\Tryz.q2 ML vK W W')\/(e=.returned (.bool false)/\PT (pre++[x]) W'))(W:World)(aeD:W.cell? ⟨vK,0,none⟩=some (.slice (some ⟨b,off,none⟩) zs.length cap))(hc:∀j,j<zs.length->W.cell? ⟨b,off+j,none⟩=some (.int .u32 (zs[j]?.getD 0)))(h0:J [] W):CallsIn F n ab 323 #[.func (.yield l) #[] #[],.pointer (some ⟨vK,0,none⟩)] W fun e W'=>(∃v,e=.returned v)/\((∃ys,ys=Tryz.upto (Tryz.rp zs) zs.length/\J ys W')\/(∃pre,(∃k,k<=zs.length/\pre=Tryz.upto (Tryz.rp zs) k)/\PT pre W')):=by
 refine callsIn_of_wp Pp rfl yW ?_ rH;simp only[Z2,qQ,gC,iM,Jx,Jy,Jz,JA,JB,JC,qU,xO];gi_wp2;gi_loopw [3](fun i wr=>∃k:Nat,k<=zs.length/\i=.int .i64 ((zs.length:Int)-1-k)/\J (Tryz.upto (Tryz.rp zs) k) wr/\Tryz.q2 ML vK W wr)(fun i _=>(Z3 i+1).toNat);case atStart=>exact⟨0,dL _,am,h0,Tryz.q2.refl _ _ _⟩
 case round=>
   obtain⟨k,hk,rfl,Ge,LB⟩:=hrel;have aq8:=LB.2.trans aeD;have SM:∀j,j<zs.length->wr.cell? ⟨b,off+j,none⟩=some (.int .u32 (zs[j]?.getD 0)):=fun j h=>(LB.1.cell (p:=⟨b,off+j,none⟩) hb).trans (hc j h);by_cases hlt:k<zs.length
   . obtain⟨q,hq⟩:∃q,q=zs.length-1-k:=⟨_,rfl⟩;have LF:(zs.length:Int)-1-k=q:=ac;have afQ:q<zs.length:=ac;have Lp:Hid (Tryz.rp zs k=((q:Int),zs[q]?.getD 0)):=by show Tryz.rp zs k=_;rw[Tryz.rp,<-hq,LF]
     have afP:Hid (q+1+k=zs.length):=by show q+1+k=zs.length;omega
     clear hq;have afb:=SM q afQ;generalize zs[q]?.getD 0=aqW at Lp afb;obtain⟨fn,tmps,assign,body,hy,dE⟩:=SI _ ((q:Int),aqW) wr Ge (by rw[Tryz.an7];exact hlt);dsimp only at hy;rw[LF];clear LF SI h0 hc SM;gi_wp2;refine dE.mono ?_;rintro e aq2(⟨rfl,aeH,afp⟩|⟨rfl,aeI⟩)
     . gi_wp2;go_roundw;case rel=>exact⟨k+1,ac,by have:=afP.out;congr 1;omega,by rw[Tryz.X6,Lp.out];exact aeH,LB.trans afp⟩
       case measure=>simp[Z3]
     .gi_wp2;refine bodyPost_ret (results_none rfl _ _ _) rfl ?_;exact⟨⟨_,rfl⟩,.inr ⟨_,⟨k+1,ac,by rw[Tryz.X6,Lp.out]⟩,aeI⟩⟩
   .obtain rfl:k=zs.length:=ac;have afI:(zs.length:Int)-1-zs.length=-1:=ac;rw[afI];gi_wp2;go_end0;exact⟨⟨_,rfl⟩,.inl ⟨_,rfl,Ge⟩⟩
def Tryz.yp(e:Nat)(W:World)(c:Value)(zs:List Int):Prop:=(∃a cap,c=.slice a 0 cap/\zs=[])\/∃b off cap,c=.slice (some ⟨b,off,none⟩) zs.length cap/\b<e/\∀j,j<zs.length->W.cell? ⟨b,off+j,none⟩=some (.int .u32 (zs[j]?.getD 0))
def Tryz.yp.below{c:Nat}{A B:World}(h:Below c A B){d:Value}{zs:List Int}:Tryz.yp c A d zs->Tryz.yp c B d zs|.inl e=>.inl e|.inr ⟨b,off,cap,e,hb,f⟩=>.inr ⟨b,off,cap,e,hb,λ j g=>(h.cell (p:=⟨b,off+j,none⟩) hb).trans (f j g)⟩
set_option maxRecDepth 100000 in set_option maxHeartbeats 1000000 in theorem Tryz.ab2(F:Fence)(n:Nat)(yW:F.fn 323)(rH:F.round=none)(l vK:Nat)(a:Option Addr)(cap:Nat)(J:List (Int×Int)->World->Prop)(W:World)(aq9:W.cell? ⟨vK,0,none⟩=some (.slice a 0 cap))(h0:J [] W):CallsIn F n ab 323 #[.func (.yield l) #[] #[],.pointer (some ⟨vK,0,none⟩)] W fun e W'=>(∃v,e=.returned v)/\J [] W':=by
 refine callsIn_of_wp Pp rfl yW ?_ rH;simp only[Z2,qQ,gC,iM,Jx,Jy,Jz,JA,JB,JC,qU,xO];gi_wp2;gi_loopw [3](fun i wr=>i=.int .i64 (-1)/\J [] wr)(fun _ _=>0);case atStart=>exact⟨rfl,h0⟩
 case round=>obtain⟨rfl,Ge⟩:=hrel;gi_wp2;go_end0;exact⟨⟨_,rfl⟩,Ge⟩
set_option maxHeartbeats 1000000 in theorem Tryz.abK(F:Fence)(n:Nat)(im:F.fn 318)(rH:F.round=none)(a:Option Addr)(len cap:Nat)(w:World):CallsIn F n ab 318 #[.slice a len cap] w fun e w'=>e=.returned (.func (.func 323) #[] #[.pointer (some ⟨w.heap.size,0,none⟩)])/\w'=w.alloc (.cells #[.slice a len cap] 115):=by refine callsIn_of_wp Tryz.func318 rfl im ?_ rH;simp only[Tryz.ntmps318,qQ,gC,iM,Jx,Jy,Jz,JA,JB,JC,qU,xO];gi_wp2;go_ret;exact⟨rfl,rfl⟩
def Tryz.ab3(F:Fence)(n:Nat)(s:F.fn 323)(h:F.round=none)(z:1<=n)(f i:Nat)(t:Value)(zs:List Int)(d:zs.length*8<=140737488351232)(w:World)(o:f<w.heap.size)(j:i<=w.heap.size)(v:w.cell? ⟨f,0,none⟩=some t)(C:Tryz.yp i w t zs):SeqStopsK F n ab 323 #[.pointer (some ⟨f,0,none⟩)] (λ x:Int×Int=>#[Value.int .i64 x.1,Value.int .u32 x.2]) (Tryz.q2 i f) (λ ys=>ys=Tryz.upto (Tryz.rp zs) zs.length) (λ m=>∃k,k<=zs.length/\m=Tryz.upto (Tryz.rp zs) k) zs.length w:=λ l J A W u _ _ B r=>by have g:=(u.cell (p:=⟨f,0,none⟩) o).trans v;rcases C.below (u.mono j)with⟨a,cap,rfl,rfl⟩|⟨b,off,cap,rfl,hb,q⟩;exact(Tryz.ab2 F n s h l f a cap J W g r).mono λ e E⟨D,y⟩=>⟨D,.inl ⟨_,rfl,y⟩⟩;exact Tryz.ab1 F n s h z l f i b off cap zs d hb J A B W g q r
def Tryz.xv(s v:Int):Int:=bits BinOp.or cY (cY.wrap (s*4294967296)) (cY.wrap v)
def Tryz.toU(l:List (Int×Int)):Int:=l.foldl (λ s x=>Tryz.xv s x.2) 0
def Tryz.toU_snoc(b:List (Int×Int))(x:Int×Int):Tryz.toU (b++[x])=Tryz.xv (Tryz.toU b) x.2:=by simp[Tryz.toU]
set_option maxRecDepth 100000 in set_option maxHeartbeats 2000000 in theorem Tryz.toUint_in(F:Fence)(n:Nat)(h3:F.fn 304)(yV:F.fn 318)(yW:F.fn 323)(rH:F.round=none)(hn:3<=n)(a:Option Addr)(len cap:Nat)(zs:List Int)(SZ:zs.length*8<=140737488351232)(w:World)(hI:Tryz.yp w.heap.size w (.slice a len cap) zs):CallsIn F n ab 304 #[.slice a len cap] w fun e W'=>e=.returned (.int .u64 (Tryz.toU (Tryz.upto (Tryz.rp zs) zs.length)))/\Below w.heap.size w W':=by
 have h1:1<=n:=ac;refine callsIn_of_wp_marks Tryz.func304 rfl h3 ?_ rH;simp only[Tryz.ntmps304,qQ,gC,iM,Jx,Jy,Jz,JA,JB,JC,qU,xO];gi_wp2_with(gi_at_call 318;refine(Tryz.abK F (n-1) yV rH _ _ _ _).mono ?_;rintro e w'⟨rfl,rfl⟩);have Qn:=Boxed.new w 181 (.int .u64 0);have Qm:=Boxed.new (w.alloc (.cells #[.int .u64 0] 181)) 115 (.slice a len cap);rw[World.size_alloc]at Qm;have SA:Below w.heap.size w ((w.alloc (.cells #[.int .u64 0] 181)).alloc (.cells #[.slice a len cap] 115)):=((Below.refl _ w).alloc (a2 _) _).alloc am _;have ard:((w.alloc (.cells #[.int .u64 0] 181)).alloc (.cells #[.slice a len cap] 115)).heap.size=w.heap.size+2:=am;refine wpIn_rangeFunc_ownG rH h1 (gf:=323) (lb:=#[.pointer (some ⟨w.heap.size+1,0,none⟩)]) rfl yW (enters_of Pp an rfl) (Tryz.ab3 F (n-1) yW rH ac (w.heap.size+1) w.heap.size _ zs SZ _ am (by simp;omega) Qm.cell (hI.below SA)) (fun h k=>h.trans k) (fun W l o o' hl h h2 h3=>⟨belowK_b (w:=w) (a2 _) W l o o' ac h h2 h3,(belowK_b (w:=(w.alloc (.cells #[.int .u64 0] 181)).alloc (.cells #[.slice a len cap] 115)) (a2 _) W l o o' hl h h2 h3).cell (p:=⟨w.heap.size+1,0,none⟩) am⟩) (Below.refl _ _) (fun _=>rfl) (fun pre W=>(W.cell? ⟨w.heap.size,0,none⟩=some (.int .u64 (Tryz.toU pre))/\W.frozen? ⟨w.heap.size,0,none⟩=false)/\Below w.heap.size w W) (fun _ _ _=>False) (OwnFrom.and (Own.from (fun s A B row hs hg hr=>⟨cell_kept hs.1 hg hr,(frozen_kept hs.1 hg hr).trans hs.2⟩) _) (ownFrom_below (a2 _) (by simp;omega))) (fun _ _ _ _ _ hs _ _=>hs) ⟨⟨(Qn.alloc _).cell,(Qn.alloc _).frozen⟩,SA⟩ (fun x=>{tmps:=#[.slice a len cap,undef,.int .u64 0,.pointer (some ⟨w.heap.size,0,none⟩),undef,.int .u32 x.2,.slice a len cap,.func (.func 323) #[] #[.pointer (some ⟨w.heap.size+1,0,none⟩)],.int .i64 x.1,.int .u32 x.2,undef,undef,undef,undef,undef,undef],defers:=[]}) ?assign ?body ?done ?stop;case assign=>intro l x W K hK;gi_wp2;exact hK
 case body=>rintro l pre x W⟨⟨hc,hf⟩,hB⟩_;gi_wp2;exact⟨(KeepsOthers.setCell _ _ _).from _,⟨(Below.refl w.heap.size W).setCell (p:=⟨w.heap.size,0,none⟩) (a2 _) _,World.cell?_of_block (a:=⟨w.heap.size+1,0,none⟩) (Below.heap_setCell _ _ _ _ am)⟩,⟨by rw[Tryz.toU_snoc];exact World.cell?_setCell_same' _ _ _ (by rw[hc];rfl),by rw[World.frozen?_setCell];exact hf⟩,hB.setCell (p:=⟨w.heap.size,0,none⟩) (a2 _) _⟩
 case done=>rintro D ys W hD rfl⟨⟨hc,_⟩,hB⟩hK;gi_wp2;refine⟨am,.inl ⟨_,_,rfl,run_takeDeferred hK,?_⟩⟩;exact⟨_,results_tmp rfl _ _ _,rfl,hB.trans (belowK_b (w:=w) (a2 _) W D _ _ (by simp at hD;omega) hK rfl rfl)⟩
 case stop=>rintro D c pre W _ _ h _;exact h.elim
end
section
open Go.ay Go.RowKit
def s8(ws:List Nat):List Int:=ws.map λ w:Nat=>(w:Int)
def agA(ws:List Nat):(s8 ws).length=ws.length:=aQ ..
def abT(a b:Nat)(c:a<18446744073709551616)(hb:b<18446744073709551616):bits BinOp.or cY (a:Int) (b:Int)=((a|||b:Nat):Int):=by have h:=MT a b c hb;rw[Kk]at h;simp only[Option.some.injEq,aa.int.injEq,true_and]at h;rw[<-h];rfl
def Tryz.NL(r a:Nat)(e:r<ah)(d:a<ah):Tryz.xv (r:Int) (a:Int)=((ah*r+a:Nat):Int):=by
 unfold Tryz.xv;have h1:cY.wrap ((r:Int)*4294967296)=((ah*r:Nat):Int):=by rw[h5];unfold ah at*;omega
 rw[h1,ft a d,abT _ _ (by unfold ah at*;omega) (by unfold ah at*;omega)];have:=Ay (i:=32) (b:=a) (by unfold ah at d;omega) r;rw[show ah=2^32 from rfl,this]
def Tryz.toU_digits(n:Nat)(i:n<18446744073709551616):Tryz.toU (Tryz.upto (Tryz.rp (s8 (digits n))) (s8 (digits n)).length)=(n:Int):=by have f:=xH n i;have hd:=wu n;have d:=vf n;unfold af at f;generalize digits n=ds at f hd d;match ds,f,hd,d with|[],_,_,d=>subst d;rfl|[a],_,hd,d=>have g:=hd a am;have e:=Tryz.NL 0 a fl g;simp only[val,jy,ij]at d;have:(n:Int)=((ah*0+a:Nat):Int):=ac;rw[this,<-e];rfl|[a,b],_,hd,d=>have g:=hd a am;have hb:=hd b am;have h:=Tryz.NL 0 b fl hb;rw[jy,cF]at h;have k:=Tryz.NL b a hb g;simp only[val,jy,ij]at d;have:(n:Int)=((ah*b+a:Nat):Int):=ac;rw[this,<-k];show Tryz.xv (Tryz.xv 0 (b:Int)) (a:Int)=_;have j:Tryz.xv 0 (b:Int)=(b:Int):=h;rw[j]|_::_::_::_,f,_,_=>simp at f
def Tryz.toUint_vp(G:Nat->Option (List aa))(n:Nat)(k:n<18446744073709551616):ag ab G 304 [W n] (.int .u64 (n:Int)):=by
 refine ag.ajS (r:={val:=.int .u64 (n:Int)}) (cj.ajR Tryz.func304 an an ?_) (n2.int _ _);intro own E w σ vs _ s j;simp only[bc]at j;obtain⟨v,_,rfl,m,rfl⟩:=j;have g:us (digits n)=(s8 (digits n)).map (aa.int .u32):=by simp[us,s8]
 have f:jn σ 1 (W n)=some ((s8 (digits n)).map (aa.int .u32),[]):=by rw[W,adz,g]
 obtain⟨a,cap,rfl,q,d⟩:=agB s m f;have t:Tryz.yp w.heap.size w (.slice a (s8 (digits n)).length cap) (s8 (digits n)):=by rcases d with h|⟨b,o,rfl,hb,p⟩;rw[h];exact .inl ⟨a,cap,rfl,rfl⟩;exact .inr ⟨b,o,cap,rfl,hb,p⟩
 have i:(s8 (digits n)).length<=2:=by rw[agA];exact xH n k
 refine(callsIn_wide (n:=3)).1 ((Tryz.toUint_in Fence.wide 3 trivial trivial trivial rfl ac a _ cap _ ac w t).mono ?_);rintro e u⟨rfl,l⟩;rw[Tryz.toU_digits n k];exact⟨_,rfl,l,λ E w=>by simp only[av]⟩
end
end Go.Proofs
namespace Go.Proofs.YtpcofcmencgkbaaGreat
section
variable(G:Nat->Option (List aa))
def r7:hP ab G 262:=nG G
def Bo(n:Nat)(b:af n<=4194304000000):ag ab G 185 [W n] (W n):=QX G n b
def u3:ld ab G 229:=anb (r7 G)
def Si(n:Nat)(b:n<18446744073709551616):ag ab G 230 [.int .u64 ((n:Nat):Int)] (W n):=F0 G n b
def XT(n:Nat)(b:n<18446744073709551616):ag ab G 304 [W n] (.int .u64 ((n:Nat):Int)):=Tryz.toUint_vp G n b
def QD(a b:Int):ag ab G 265 [.int .i64 a,.int .i64 b] (.int .i64 (e5 a b)):=Kv G a b
def ab7(a b:Int):ag ab G 288 [.int .u32 a,.int .u32 b] (.int .i64 (e5 a b)):=Ky G a b
def Kp(m n:Nat)(b:af m<=4194304000000)(c:af n<=4194304000000):ag ab G 266 [W m,W n] (.int .i64 (dU m n)):=KB G (QD G) (ab7 G) b
def MX(m n:Nat)(c:af m<=4194304000000)(b:af n<=4194304000000):ag ab G 305 [W m,W n] (W (m+n)):=akx G m n c b
def Ub(m n:Nat)(a:n<=m)(c:af m<=4194304000000):ag ab G 306 [W m,W n] (W (m-n)):=ait G (r7 G) a c
def apB(m n:Nat)(c:af m<=4194304000000)(b:af n<=4194304000000):ag ab G 267 [W m,W n] (W (m*n)):=anS G m n c b
def ahC(x:Nat)(b:x<ah):ag ab G 322 [.int .u32 (x:Int)] (.int .i64 (ek x:Int)):=TW G x b
def aqU(x:Nat)(b:x<ah)(c:0<x):ag ab G 313 [.int .u32 (x:Int)] (.int .i64 ((32-ek x:Nat):Int)):=ah8 (ahC G) x b c
def KE(m n:Nat)(a:n≠0)(c:af m<=3774873600000)(d:af n<=3774873600000):ag ab G 303 [W m,W n] (.aJ [W (m/n),W (m%n)]):=adr G (aqU G) (XT G) m n a c d
def yS(z:Int)(b:af z.natAbs<=4194304000000):ag ab G 264 [aM z] (.int .i64 z.sign):=ana (r7 G) z b
def FP(a:Int)(h1:-9223372036854775808<=a)(c:a<9223372036854775808):ag ab G 188 [.int .i64 a] (aM a):=ad9 (Si G) (u3 G) a h1 c
def UH(z:Int)(b:af z.natAbs<=4194304000000):ag ab G 281 [aM z] (aM (-z)):=ajs (r7 G) (Bo G) (u3 G) z b
def T9(y z:Int)(c:af y.natAbs<=4194304000000)(b:af z.natAbs<=4194304000000):ag ab G 236 [aM y,aM z] (aM (y*z)):=aiM (r7 G) (apB G) (u3 G) y z c b
def QC(y z:Int)(c:af y.natAbs<=4194304000000)(b:af z.natAbs<=4194304000000):ag ab G 235 [aM y,aM z] (.int .i64 (e5 y z)):=acQ (yS G) (QD G) (r7 G) (Kp G) y z c b
def adh(a b:Int)(c:b≠0)(e:af a.natAbs<=3774873600000)(hb:af b.natAbs<=3774873600000):ag ab G 319 [aM a,aM b] (.aJ [aM (a.fdiv b),aM (a.fmod b),.int .i64 0]):=by have h:=ade (r7 G) (KE G) (MX G) (Ub G) (u3 G) a b c e hb;rw[(Rp a b c).1,(Rp a b c).2]at h;exact h
def Sk(a b:Int)(d:af a.natAbs<=3774873600000)(hb:af b.natAbs<=3774873600000):ag ab G 292 [aM a,aM b] (aM (cz a.natAbs b.natAbs:Nat)):=akp G (KE G) (u3 G) (Bo G) (XT G) (Si G) _ _ a.natAbs b.natAbs d hb
def agK(neg:Bool)(ws:List Nat)(b:ws.length<=9223372036854775807):ag ab G 290 [tZ neg ws] (.bool (rM neg ws)):=aoy G neg ws b
def MM:ag ab G 189 [] (aM 1):=ajW (FP G 1 al al)
def Tb(z:Int):ag ab G 291 [aM z] (.bool (decide (z=1))):=agG z
def akL(a b:Int)(c:b≠0)(e:af a.natAbs<=3774873600000)(hb:af b.natAbs<=3774873600000):ag ab G 307 [aM a,aM b] (aM (a.fdiv b)):=ald a b (Tb G b) (adh G a b c e hb)
def al5(a:Int)(h1:-9223372036854775808<=a)(c:a<9223372036854775808):ag ab G 139 [.int .i64 a] (hO a 1):=al8 a (FP G a h1 c) (MM G)
def amu(a b:Int)(d:af a.natAbs<=4194304000000):ag ab G 234 [hO a b] (.int .i64 a.sign):=amy a b (yS G a d)
def ahR(a b:Int)(j:b≠0)(k:af a.natAbs<=3774873600000)(hb:af b.natAbs<=3774873600000):ag ab G 295 [aM a,aM b] (hO (a.fdiv (if b<0 then-(cz a.natAbs b.natAbs:Nat)else(cz a.natAbs b.natAbs:Nat))) (b.fdiv (if b<0 then-(cz a.natAbs b.natAbs:Nat)else(cz a.natAbs b.natAbs:Nat)))):=by
 have i:0<cz a.natAbs b.natAbs:=Nat.gcd_pos_of_pos_right _ ac;have c:af (cz a.natAbs b.natAbs)<=3774873600000:=bx (fj (Nat.le_of_dvd ac (Nat.gcd_dvd_right _ _))) hb;refine ahY a b (cz a.natAbs b.natAbs:Nat) (Sk G a b k hb) (UH G _ (by rw[gB];omega)) ?_;intro x y h f;have e:y≠0:=by rcases f with rfl|rfl<;>omega
 have d:af y.natAbs<=3774873600000:=by rcases f with rfl|rfl<;>simpa using c
 exact akL G x y e (by rcases h with rfl|rfl<;>assumption) d
def Di:hP ab G 223:=ma G
def xq:ld ab G 179:=amz (Di G)
def Hk(z:Int)(b:af z.natAbs<=4194304000000):ag ab G 219 [aM z] (aM z):=amk (xq G) z b
def F5(z:Int)(b:af z.natAbs<=4194304000000):ag ab G 186 [aM z] (.int .i64 z.sign):=amx (Hk G) z b
def apd(n:Nat)(b:n<18446744073709551616):ag ab G 180 [.int .u64 ((n:Nat):Int)] (W n):=I3 G n b
def FQ(a:Int)(h1:-9223372036854775808<=a)(c:a<9223372036854775808):ag ab G 127 [.int .i64 a] (aM a):=al7 (apd G) (xq G) a h1 c
def ab8(m n:Nat)(b:af m<=4194304000000)(c:af n<=4194304000000):ag ab G 221 [W m,W n] (.int .i64 (dU m n)):=CW G b
def akh(m n:Nat)(b:af m<=4194304000000)(c:af n<=4194304000000):ag ab G 220 [W m,W n] (W (m+n)):=ams G (Di G) b c
def ah9(m n:Nat)(a:n<=m)(c:af m<=4194304000000):ag ab G 222 [W m,W n] (W (m-n)):=Wh G (Di G) a c
def apD(m:Nat)(ws:List Nat)(hw:jV ws)(b:af m<=4194304000000)(c:ws.length<=4194304000000):ag ab G 225 [W m,.sl 1 (us ws)] (W (m*val ws)):=Wm G m ws hw b c
def apC(m n:Nat)(b:af m<=4194304000000)(c:af n<=4194304000000):ag ab G 225 [W m,W n] (W (m*n)):=by have h:=apD G m (digits n) (wu n) b c;rw[vf]at h;exact h
def Re(m n:Nat)(a:n≠0)(c:af m<=3774873600000)(d:af n<=3774873600000):ag ab G 224 [W m,W n] (.aJ [W (m/n),W (m%n)]):=alI G m n a c d
def UX(z:Int)(b:af z.natAbs<=4194304000000):ag ab G 187 [aM z] (aM (-z)):=amj (xq G) z b
def P6(a b:Int)(d:af a.natAbs<=4194304000000)(hb:af b.natAbs<=4194304000000):ag ab G 175 [aM a,aM b] (aM (a+b)):=alA (Hk G) (akh G) (xq G) (ab8 G) (ah9 G) a b d hb
def Xl(a b:Int)(d:af a.natAbs<=4194304000000)(hb:af b.natAbs<=4194304000000):ag ab G 259 [aM a,aM b] (aM (a-b)):=amA (UX G) (P6 G) a b d hb
def Ux(a b:Int)(d:af a.natAbs<=4194304000000)(hb:af b.natAbs<=4194304000000):ag ab G 177 [aM a,aM b] (aM (a*b)):=amh (Hk G) (apC G) (xq G) a b d hb
def aec(a b:Int)(d:af a.natAbs<=3774873600000)(hb:af b.natAbs<=3774873600000):ag ab G 176 [aM a,aM b] (aM (cz a.natAbs b.natAbs:Nat)):=al9 G (Re G) (xq G) _ _ a.natAbs b.natAbs d hb
def agL(neg:Bool)(ws:List Nat)(hw:jV ws)(b:ws.length<=9223372036854775807):ag ab G 249 [tZ neg ws] (.bool (rM neg ws)):=amf (Di G) neg ws hw b
def al6(a:Int)(h1:-9223372036854775808<=a)(c:a<9223372036854775808):ag ab G 89 [.int .i64 a] (hO a 1):=alh a (FQ G a h1 c) (FQ G 1 al al)
def ajU(z:Int):ag ab G 174 [aM z] (.bool (decide (z=1))):=aln z
def amv(a b:Int)(d:af a.natAbs<=4194304000000):ag ab G 168 [hO a b] (.int .i64 a.sign):=bL [hc (F5 G a d)]
def aev:kE ab 213 (OM 249 186 176 174):=ae6
def agc:A9 ab G 294:=ago (r7 G) (MX G) (u3 G) (Kp G) (Ub G)
def zb:vN ab G 236:=λ a b d hb=>T9 G a b ac ac
def agh:Ba ab G 281:=λ a c=>UH G a ac
def agk:ER ab G 264:=λ a c=>yS G a ac
def Tc:PQ ab G 235:=λ a b d hb=>QC G a b ac ac
def LP:yk ab G 291:=λ z=>Tb G z
def agf:yj ab G 292:=λ a b d hb=>Sk G a b ac ac
def GG:JZ ab G 295:=λ a b hb e d=>by rw[<-T2 a b hb];exact ahR G a b hb ac ac
def VO:J6 ab G 272:=VR ae5 (PS λ neg ws _ b=>agK G neg ws b) (agk G) (agf G) (LP G)
def akR:EZ ab G 248:=ak7 (agh G)
def Nc:J4 ab G 234:=λ q b=>amu G q.num q.den (by have:=b.1;omega)
def akN:P1 ab G 195:=ak2 (Nc G) (zb G) (Tc G)
def akM:EY ab G 276:=ak1 (LP G) (agc G) (MM G) (zb G) (GG G)
def akQ:J3 ab G 284:=λ a b g hb=>by
 have⟨k,i⟩:=g;have⟨b1,b2⟩:=hb;have j:=mm a.num b.num;have h:=mm (a.den:Int) (b.den:Int);rw[gB,gB]at h;have c:=GG G (a.num*b.num) (a.den*b.den) (Uz a b) ac ac;rw[<-Nd]at c;have h1:=ami a.num a.den b.num b.den (aW (a*b)) (x1:=(a*b).num) (bE:=(a*b).den) rfl (LP G) (zb G _ _ ac ac) (zb G _ _ (by rw[gB];omega) (by rw[gB];omega)) (MM G) c;by_cases hd:(a.den:Int)=1/\(b.den:Int)=1;rw[if_pos hd]at h1;have e:a*b=((a.num*b.num:Int):Rat):=by rw[Nd,hd.1,hd.2];show((a.num*b.num:Int):Rat)/(1:Rat)=_;rw[Rat.div_def,show(1:Rat)⁻¹=1 from by decide+kernel,Rat.mul_one]
 rw[e];exact h1;rw[if_neg hd]at h1;exact h1
def xj:P3 ab G 139:=λ a h1 c=>al5 G a h1 c
def VP(z:Int):ag ab G 308 [aM z] (.bool (decide (z=0))):=agH z
def akO:P2 ab G 296:=ak5 (VP G) (zb G) (GG G)
def LX:PR ab G 219:=λ z b=>Hk G z b
def agQ:A9 ab G 175:=λ a b d hb=>P6 G a b ac ac
def zi:vN ab G 177:=λ a b d hb=>Ux G a b ac ac
def Tm:Ba ab G 187:=λ a c=>UX G a ac
def Tn:ER ab G 186:=λ a c=>F5 G a ac
def LY:yk ab G 174:=λ z=>ajU G z
def GU:yj ab G 176:=λ a b d hb=>aec G a b ac ac
def LZ:EP ab G 178:=λ a b hb hd e d=>amt a b (alL (LX G) (Re G) (xq G) (Ux G) (Xl G) (F5 G) a b hb hd ac ac)
def rZ:P3 ab G 89:=λ a h1 c=>al6 G a h1 c
def alx:J4 ab G 168:=λ q b=>amv G q.num q.den (by have:=b.1;omega)
def alo:EY ab G 123:=alf (LY G) (agQ G) (GU G) (zi G) (LZ G)
def alu:J3 ab G 124:=alk (rZ G 0 al al) (LY G) (zi G) (GU G) (LZ G)
def alv:EZ ab G 203:=alm (Tm G)
def aly:J6 ab G 213:=VR aev (PS λ neg ws hw b=>agL G neg ws hw b) (Tn G) (GU G) (LY G)
def Nf:aaT ab G 95:=λ a b c hb h1 f=>by have e:af a.natAbs<=1:=ja (by rw[Pq];unfold ah;omega);have b1:af b<=1:=ja (by rw[Pq];unfold ah;omega);exact alg a b c (FQ G a ac ac) (FQ G b ac ac) (alj (GU G) (Tn G) (LZ G) a b c ac ac)
end
end Go.Proofs.YtpcofcmencgkbaaGreat
namespace Go.ay
abbrev a7:=Nat->Id
def a7.s:a7:=λ k=>[k+1]
def a7.κ(q:a7):Nat->Id:=λ k=>q (k-1)
def a7.of(l:List Id):a7:=λ k=>l.getD k [0,0,k]
class oW(f:a7->aa):Prop where nat:∀ρ q,(f q).aU ρ=f fun k=>ρ (q k)
class pW(f:a7->List aa):Prop where nat:∀ρ q,br ρ (f q)=f fun k=>ρ (q k)
class mF(f:a7->List (Nat×aa)):Prop where nat:∀ρ q,qu ρ (f q)=f fun k=>ρ (q k)
class P0(f:a7->aG):Prop where nat:∀ρ q,(f q).aU ρ=f fun k=>ρ (q k)
class gh(i:Nat)(n:outParam Nat)(f:a7->List (Id×aG)):Prop where nat:∀ρ q,fh ρ (f q)=f fun k=>ρ (q k)nm:∀q,(f q).map (·.1)=(tR i n).map q
instance:oW (λ _=>aa.top):=⟨λ _ _=>rfl⟩
instance arG{c:aa}[h:bg c]:oW (λ _=>c):=⟨λ ρ _=>h.fix ρ⟩
instance{i k o n:Nat}{t:Bool}:oW (λ q=>.ai (q i) k o n t):=⟨λ _ _=>rfl⟩
instance{i e o:Nat}:oW (λ q=>.ref (q i) e o):=⟨λ _ _=>rfl⟩
instance{i k:Nat}{l:List aa}:oW (λ q=>bX (q i) k l):=⟨λ _ _=>He⟩
instance arF{l:List aa}[h:bq l]:pW (λ _=>l):=⟨λ ρ _=>h.fix ρ⟩
instance(priority:=900){f:a7->aa}{g:a7->List aa}[h:oW f][k:pW g]:pW (λ q=>f q::g q):=⟨λ ρ q=>by show(f q).aU ρ::br ρ (g q)=_;rw[h.nat,k.nat]⟩
instance(priority:=900){f:a7->List aa}[h:pW f]:oW (λ q=>.agg (f q)):=⟨λ ρ q=>by show aa.agg (br ρ (f q))=_;rw[h.nat]⟩
instance{α:Type}{l:List α}{f:α->a7->aa}[h:∀x,oW (f x)]:pW (λ q=>l.map λ x=>f x q):=⟨λ ρ q=>by rw[fS,List.map_map];exact List.map_congr_left λ x _=>(h x).nat ρ q⟩
instance:mF (λ _=>[]):=⟨λ _ _=>rfl⟩
instance{k:Nat}{f:a7->aa}{g:a7->List (Nat×aa)}[h:oW f][j:mF g]:mF (λ q=>(k,f q)::g q):=⟨λ ρ q=>by show(k,(f q).aU ρ)::qu ρ (g q)=_;rw[h.nat,j.nat]⟩
instance(priority:=800)arE{l:List (Nat×aa)}[h:gX l]:mF (λ _=>l):=⟨λ ρ _=>h.fix ρ⟩
instance{f:a7->List aa}{k:Nat}{b:Bool}[h:pW f]:P0 (λ q=>⟨f q,k,b⟩):=⟨λ ρ q=>by show aG.mk (br ρ (f q)) k b=_;rw[h.nat]⟩
instance{i:Nat}:gh i 0 (λ _=>[]):=⟨λ _ _=>rfl,λ _=>rfl⟩
instance{i n:Nat}{x:a7->aG}{g:a7->List (Id×aG)}[h:P0 x][k:gh (i+1) n g]:gh i (n+1) (λ q=>(q i,x q)::g q):=⟨λ ρ q=>by show(ρ (q i),(x q).aU ρ)::fh ρ (g q)=_;rw[h.nat,k.nat],λ q=>by rw[List.map_cons,k.nm,List.range'_succ];rfl⟩
def vQ(q:a7):Prop:=((tR 0 8).map q).Nodup
def gh.nd{n:Nat}{f:a7->List (Id×aG)}[h:gh 0 n f]{q:a7}(g:vQ q)(a:n<=8):((f q).map (·.1)).Nodup:=by rw[h.nm];refine g.sublist (List.Sublist.map _ ?_);rw[show 8=n+(8-n)from ac,<-List.range'_append];exact List.sublist_append_left _ _
def a7.rR(q:a7)(m:Nat):(λ k=>bN m [0] q.κ (a7.s k))=q:=rfl
section
variable{P:Program}{G:Nat->Option (List aa)}
def fe(P:Program)(G:Nat->Option (List aa))(c:cw)(n w:Nat)(e:cf)(A:a7->List (Nat×aa))(bJ:a7->List (Id×aG))(B:a7->List (Nat×aa))(bS:a7->List (Id×aG)):Prop:=∀(q:a7)(m:Nat),vQ q->bo P G [0] c (λ a s'=>a=e/\bP G [0] s' ⟨fr n (B q),bU (bS q),m+w⟩) ⟨fr n (A q),bU (bJ q),m⟩
def en{c:cw}{n w a b:Nat}{e:cf}{A B:a7->List (Nat×aa)}{bJ bS:a7->List (Id×aG)}[mF A][mF B][gh 0 a bJ][gh 0 b bS](d:List (aR P G))(h:gT (bS a7.s) (fr n (B a7.s)) w (bT true 1000 c [0] d ⟨fr n (A a7.s),b5 (bJ a7.s),0⟩)=gS e (bS a7.s) (fr n (B a7.s)) (bT true 1000 c [0] d ⟨fr n (A a7.s),b5 (bJ a7.s),0⟩):=by kernel_rfl)(j:a<=8:=by decide):fe P G c n w e A bJ B bS:=λ q m g=>bo.kV q.κ d (fr n (A a7.s)) (bJ a7.s) e (fr n (B a7.s)) (bS a7.s) w h (by rw[n8,mF.nat,a7.rR]) (by rw[gh.nat (i:=0) (f:=bJ),a7.rR]) (by rw[n8,mF.nat,a7.rR]) (by rw[gh.nat (i:=0) (f:=bS),a7.rR]) (gh.nd (n:=a) g j) λ s hw=>⟨rfl,hw⟩
def Ci{c:cw}{n N w n0 E b:Nat}{e:cf}{q:a7}{T:Nat->a7->List (Nat×aa)}{K:Nat->a7->List (Id×aG)}{c5:a7->List (Nat×aa)}{cm:a7->List (Id×aG)}[gh 0 b cm](h0:vQ q)(hb:b<=8)(o:∀i,i<N->fe P G c n w .normal (T i) (K i) (T (i+1)) (K (i+1)))(m:fe P G c n w e (T N) (K N) c5 cm)(g:e≠.normal)(k:n0+w*N+w<=E):bo P G [0] (.loop c) (λ f s'=>f=e/\bP G [0] s' ⟨fr n (c5 q),m8 (b5 (cm q)),E⟩) ⟨fr n (T 0 q),bU (K 0 q),n0⟩:=by refine bo.zo (α:=Nat) (λ i=>⟨fr n (T i q),bU (K i q),n0+w*i⟩) (λ i=>i<=N) (λ i=>N-i) 0 (by rw[jy];exact bP.refl _ _ _) (dL _) ?_;intro i p;by_cases a:i<N;refine(o i a q _ h0).mono λ f s'⟨h1,h3⟩=>?_;subst h1;rw[show n0+w*i+w=n0+w*(i+1)by rw[dW,m9];omega]at h3;exact⟨i+1,a,by show N-(i+1)<N-i;omega,h3⟩;obtain rfl:i=N:=ac;refine(m q _ h0).mono λ f s'⟨h1,h3⟩=>?_;subst h1;have h4:=bP.toT (gh.nd (n:=b) h0 hb) (h3.trans (bP.slots (iN.same _) k));cases f with|normal=>exact(g rfl).elim|exit j=>exact⟨rfl,h4⟩|ret=>exact⟨rfl,h4⟩
noncomputable def kN(aB:dO)(k s N:Nat)(q0:a7)(T:Nat->a7->List (Nat×aa))(K:Nat->a7->List (Id×aG))(e:cf)(c5:a7->List (Nat×aa))(cm:a7->List (Id×aG)){b:Nat}[gh 0 b cm](g:∀i,i<N->fe P G (aZ aB k) aB.aK 200 .normal (T i) (K i) (T (i+1)) (K (i+1)))(c:fe P G (aZ aB k) aB.aK 200 e (T N) (K N) c5 cm){t0:List (Nat×aa)}{k0:List (Id×aG)}(f:T 0 q0=t0:=by rfl)(d:K 0 q0=k0:=by rfl)(h0:pn ((tR 0 8).map q0)=true:=by kernel_rfl)(hN:N<=10000000000000000000:=by omega)(a:e≠.normal:=by simp)(hb:b<=8:=by decide):aR P G:=.h9 [0] (aZ aB k) (fr aB.aK t0) k0 (ej s) e (fr aB.aK (c5 q0)) (b5 (cm q0)) (b6 s) (by rw[<-f,<-d];exact Ci (tk h0) hb g c a (bx (IZ hN) (a2 _)))
def cj.XM{f:FuncId}{aB:dO}(h:kE P f aB)(c:List (aR P G))(A:a7->List aa)(V:a7->aa)(K U:a7->List (Id×aG)){a b:Nat}[pW A][oW V][gh 0 a K][gh 0 b U](d:mX aB.results (U a7.s++rest (U a7.s) (K a7.s)) (bT true 1000 aB.body [0] c ⟨A a7.s++bM (aB.aK-(A a7.s).length) (.aJ []),b5 (K a7.s),0⟩)=mW (V a7.s) (U a7.s++rest (U a7.s) (K a7.s)) (bT true 1000 aB.body [0] c ⟨A a7.s++bM (aB.aK-(A a7.s).length) (.aJ []),b5 (K a7.s),0⟩))(q:a7)(p:Id)(hd:((K q).map (·.1)).Nodup)(qd:((U q).map (·.1)).Nodup):cj P G f (A q) p (K q) {val:=V q,rd:=(K q).map (·.1),up:=(U q).map λ x=>(x.1,some x.2)}:=eB h q.κ c (A a7.s) (K a7.s) (V a7.s) (U a7.s) d (pW.nat _ _) (gh.nat (i:=0) (f:=K) _ _) (oW.nat _ _) (gh.nat (i:=0) _ _) hd qd
end
end Go.ay
namespace Go.Proofs.YtpcofcmencgkbaaGreat
section
variable(G:Nat->Option (List aa)){L k D:Nat}{f:Nat->Nat}
abbrev zQ(k i:Nat):a7->List (Nat×aa):=λ q=>[(0,.ai (q 1) 1 0 k false),(1,.ai (q 1) 1 0 k false),(5,.ai (q 0) 1 0 (k+k) false),(6,.int .i64 (i:Int))]
abbrev CT(k i j c:Nat):a7->List (Nat×aa):=λ q=>[(0,.ai (q 1) 1 0 k false),(1,.ai (q 1) 1 0 k false),(5,.ai (q 0) 1 0 (k+k) false),(6,.int .i64 (i:Int)),(7,.int .u64 (c:Int)),(8,.int .i64 (j:Int))]
abbrev qs(L k:Nat)(f g:Nat->Nat):a7->List (bt×aG):=λ q=>[(q 0,⟨us (ca (k+k) g),1,false⟩),(q 1,⟨us (ca L f),1,false⟩)]
def ak6(H:km L 0 k D f)(q:k<=4194304000000)(i:Nat)(l:i<k)(j:Nat)(b:j<k):fe ab G (aZ (ak 225) 1) (ak 225).aK 200 .normal (CT k i j (eQ D D i j)) (qs L k f (gq D D i j)) (CT k i (j+1) (eQ D D i (j+1))) (qs L k f (gq D D i (j+1))):=by
 have d:=cu D i;have c:=cu D j;have n:=cu (cn D D i) (i+j);have hc:=z7 D D i j;have p:=Hh d c;have a:i+j<k+k:=ac;have kJ:=H.kJ;have h:=H.gf i l;have g:=H.gf j b;rw[cF]at h g;have e:=(Iu D D i j).1;have s:eS .shr .int (.int .u64 ((eQ D D i j+(ao D i*ao D j+ao (cn D D i) (i+j)):Nat):Int)) (.int .u64 32)=some (.int .u64 (eQ D D i (j+1):Int)):=by rw[mZ,e]
 unfold ah at n hc;have o:cY.wrap (((eQ D D i j+ao (cn D D i) (i+j):Nat):Int)+((ao D i*ao D j:Nat):Int))=((eQ D D i j+(ao D i*ao D j+ao (cn D D i) (i+j)):Nat):Int):=by rw[h5];omega
 exact en [fP 24 b,kK 31 i j,eg 32 [1] _ _ a,hR 33 [1] (k+k) (gq D D i j) a (by unfold gq;exact if_neg (nW _)),hw 34 (ft _ (cu (cn D D i) (i+j))) .u64,hw 35 (vW (eQ D D i j) (ao (cn D D i) (i+j)) ac) .u64,eg 38 [2] k i l,hR 39 [2] L f ac h,hw 40 (ft _ d) .u64,eg 43 [2] k j b,hR 44 [2] L f ac g,hw 45 (ft _ c) .u64,hw 46 (Cp _ _ d c) .u64,hw 47 o .u64,kK 51 i j,hw 53 (j8 (eQ D D i j+(ao D i*ao D j+ao (cn D D i) (i+j)))) .u32,eg 54 [1] _ _ a,gO 54 [1] (gq D D i (j+1)) a (λ x _=>N7 D D i j x),ho 56 s,hI 26 b]
def alb(H:km L 0 k D f)(d:k<=4194304000000)(i:Nat)(a:i<k):fe ab G (aZ (ak 225) 0) (ak 225).aK (b6 9) .normal (zQ k i) (qs L k f (ao (cn D D i))) (zQ k (i+1)) (qs L k f (ao (cn D D (i+1)))):=by have c:i+k<k+k:=ac;exact en [fP 18 a,kN (ak 225) 1 0 k (a7.of [[1],[2]]) (λ j=>CT k i j (eQ D D i j)) (λ j=>qs L k f (gq D D i j)) (.exit 2) (CT k i k (eQ D D i k)) (qs L k f (gq D D i k)) (ak6 G H d i a) (en [hQ 24 (a2 k)]) (t0:=CT k i 0 0 (a7.of [[1],[2]])) (k0:=qs L k f (ao (cn D D i)) (a7.of [[1],[2]])) (by simp only[N5]) (by simp only[N8]),kK 61 i k,hw 63 (oz (z7 D D i k)) .u32,eg 64 [1] _ _ c,gO 64 [1] (f:=gq D D i k) (ao (cn D D (i+1))) c (λ x _=>N6 H.wx x),hI 20 a]
def toT(H:km L 0 k D f)(d:k<=4194304000000)(id p:bt):cj ab G 225 [.ai id 1 0 k false,.ai id 1 0 k false] p [(id,⟨us (ca L f),1,false⟩)] {val:=W (D*D),rd:=[id],up:=[]}:=by
 have e:cn D D k=D*D:=by unfold cn;rw[dX H.wx]
 have z:∀j,j<k+k->ao (cn D D 0) j=0:=λ j _=>by unfold cn;rw[kg,Nat.mod_one,sv];exact q7 (fJ j)
 have b:=Ci (P:=ab) (G:=G) (c:=aZ (ak 225) 0) (n:=(ak 225).aK) (N:=k) (w:=b6 9) (n0:=ej 0) (E:=1000000000000000000000000000000000000000000000000) (e:=.exit 0) (q:=a7.of [[6,0],[1]]) (T:=zQ k) (K:=λ i=>qs L k f (ao (cn D D i))) (c5:=zQ k k) (cm:=qs L k f (ao (cn D D k))) (tk an) al (alb G H d) (en [hQ 18 (a2 k)]) am (by unfold ej b6;omega);exact cj.XM hN [kK 13 k k,rD 14 (k+k) (ao (cn D D 0)) z,.h9 [0] (aZ (ak 225) 0) (fr (ak 225).aK (zQ k 0 (a7.of [[6,0],[1]]))) (qs L k f (ao (cn D D 0)) (a7.of [[6,0],[1]])) (ej 0) (.exit 0) (fr (ak 225).aK (zQ k k (a7.of [[6,0],[1]]))) (b5 (qs L k f (ao (cn D D k)) (a7.of [[6,0],[1]]))) 1000000000000000000000000000000000000000000000000 b,qb (k+k) (D*D) (ao (cn D D k)) (λ j _=>by rw[e]) (ma G) (by rw[ic];exact qV H.wx H.wx) (id:=[6,0])] (λ q=>[.ai (q 0) 1 0 k false,.ai (q 0) 1 0 k false]) (λ _=>W (D*D)) (λ q=>[(q 0,⟨us (ca L f),1,false⟩)]) (λ _=>[]) an (λ _=>id) p am am
end
end Go.Proofs.YtpcofcmencgkbaaGreat
namespace Go.ay
def jm(n s:Nat):Prop:=s*s<=n/\n<(s+1)*(s+1)
def Wi{n s x:Nat}(h:jm n s)(c:x*x<=n):x<=s:=by rcases Nat.lt_or_ge s x with a|b;exfalso;have:=jd a a;have:=h.2;simp only[Z4]at*;omega;exact b
def aju{n s x:Nat}(h:jm n s)(b:0<x):s<=(x+n/x)/2:=by
 rw[xT al];rcases Nat.lt_or_ge (2*s) x with h1|h1;exact bx (ac:s*2<=x) (Nat.le_add_right _ _);have:2*s-x<=n/x:=by
   rw[xT b];refine bx ?_ h.1;have⟨d,hd⟩:∃d,2*s=x+d:=⟨2*s-x,ac⟩;rw[hd,su];rcases Nat.le_total x s with a|a;obtain⟨e,rfl⟩:∃e,s=x+e:=⟨s-x,ac⟩;have:d=x+2*e:=ac;subst this;have f:(x+2*e)*x=x*x+2*(e*x):=by rw[eX,fu]
   have c:(x+e)*(x+e)=x*x+2*(e*x)+e*e:=by rw[eX,dW,dW,c9 x e];omega
   omega;obtain⟨e,rfl⟩:∃e,x=s+e:=⟨x-s,ac⟩;have:d+e=s:=ac;subst this;have f:(d+e)*(d+e)=d*d+2*(d*e)+e*e:=by rw[eX,dW,dW,c9 e d];omega
   have c:d*(d+e+e)=d*d+2*(d*e):=by rw[dW,dW];omega
   omega
 omega
def ajt{n s x:Nat}(h:jm n s)(c:0<x)(a:s<=x)(b:x<=(x+n/x)/2):x=s:=by refine Z5 (Wi h ?_) a;rw[xT al]at b;have:x<=n/x:=ac;exact(xT c).1 this
def Km{w m:Nat}(g:m<32)(hw:w<ah)(hd:2^(m+1)∣w):w+2^m<ah/\w|||2^m=w+2^m:=by
 obtain⟨a,rfl⟩:=hd;have c:2^(m+1)=2*2^m:=by rw[ea,c9]
 have d:0<2^m:=Eg al;have f:ah=2^(m+1)*2^(31-m):=by rw[<-ic,show m+1+(31-m)=32 from ac];rfl
 refine⟨?_,(Ay (i:=m+1) (b:=2^m) (by rw[c];omega) a).symm⟩;rw[f]at hw⊢;have e:=Nat.lt_of_mul_lt_mul_left hw;have:=fK (2^(m+1)) e;rw[Z4,dW,m9]at this;omega
def WO{m:Nat}(a:m<32):eS .shl .int (.int .u32 1) (.int .i64 (m:Int))=some (.int .u32 ((2^m:Nat):Int)):=by
 rw[Kl ac];have d:min (m:Int).toNat jc.bits=m:=by rw[Int.toNat_natCast];exact Nat.min_eq_left (ac:m<=32)
 have b:(1:Int)*2^m=((2^m:Nat):Int):=by rw[Int.one_mul];exact(Int.natCast_pow 2 m).symm
 have c:2^m<ah:=tM al a;rw[d,b,j8,dX c]
def ajZ{w m:Nat}(a:m<32)(hw:w<ah)(hd:2^(m+1)∣w):eS .or .int (.int .u32 (w:Int)) (.int .u32 ((2^m:Nat):Int))=some (.int .u32 ((w+2^m:Nat):Int)):=by rw[Hv w (2^m) hw (tM al a),(Km a hw hd).2]
def abO{k:IntKind}{a b:Int}:eS .andNot .int (.int k a) (.int k b)=some (.int k (k.wrap (iK k.bits a&&&~~~iK k.bits b).toNat)):=by simp only[eS];rw[show lG .andNot .int (.int k a) (.int k b)=some (.int k (k.wrap (iK k.bits a&&&~~~iK k.bits b).toNat))from by simp[lG,pK,sO]]
def ajA{w m:Nat}(c:m<32)(hw:w<ah)(hd:2^(m+1)∣w):eS .andNot .int (.int .u32 ((w+2^m:Nat):Int)) (.int .u32 ((2^m:Nat):Int))=some (.int .u32 (w:Int)):=by
 rw[abO,<-(Km c hw hd).2];have b:w.testBit m=false:=by obtain⟨a,rfl⟩:=hd;rw[Nat.testBit_two_pow_mul];simp;omega
 have e:(iK 32 ((w|||2^m:Nat):Int)&&&~~~iK 32 ((2^m:Nat):Int))=BitVec.ofNat 32 w:=by rw[xS,xS];refine BitVec.eq_of_getLsbD_eq λ j d=>?_;simp only[BitVec.getLsbD_and,BitVec.getLsbD_not,BitVec.getLsbD_ofNat,d,decide_true,Bool.true_and,Nat.testBit_or,Nat.testBit_two_pow];by_cases h:m=j;subst h;simp[b];simp[h]
 show some (aa.int .u32 (jc.wrap ((iK 32 ((w|||2^m:Nat):Int)&&&~~~iK 32 ((2^m:Nat):Int)).toNat:Int)))=_;rw[e,BitVec.toNat_ofNat,j8];have:w<2^32:=hw;rw[dX this,dX hw]
def rt(s i:Nat):Nat:=s/2^i*2^i
def Wp(s i:Nat):rt s i=rt s (i+1)+s/2^i%2*2^i:=by
 unfold rt;have h:=hE (s/2^i) 2;rw[kC,<-ea]at h;conv=>lhs;rw[<-h]
 rw[eX,ea,c9 2,fu,c9 2]
def amD(s i:Nat):rt s i<=s:=Nat.div_mul_le_self ..
def amE(s i:Nat):s<rt s i+2^i:=by have h:=hE s (2^i);have:=bA s (lJ i);unfold rt;rw[c9]at h;omega
def amH(s:Nat):rt s 0=s:=by unfold rt;rw[kg,oI,m9]
def amG{n s i:Nat}(h:jm n s)(a:(rt s (i+1)+2^i)*(rt s (i+1)+2^i)<=n):rt s i=rt s (i+1)+2^i:=by have e:=Wp s i;have l:=Wi h a;have u:=amE s i;have m:=bA (s/2^i) (al:0<2);rcases Pm.1 m with h0|h1;have:s/2^i%2=0:=ac;rw[this]at e;omega;rw[h1]at e;omega
def amF{n s i:Nat}(h:jm n s)(a:¬(rt s (i+1)+2^i)*(rt s (i+1)+2^i)<=n):rt s i=rt s (i+1):=by have e:=Wp s i;have l:=amD s i;have m:=bA (s/2^i) (al:0<2);rcases Pm.1 m with h0|h1;have:s/2^i%2=0:=ac;rw[this]at e;omega;rw[h1,Nat.one_mul]at e;exact(a (bx (jd ac ac) h.1)).elim
def VC(q m:Nat):2^(32*q+m)=ah^q*2^m:=by rw[ic,x4];rfl
def Qs{m a:Nat}(b:m<32):2^(m+1)∣(2^(m+1)*a)%ah:=by refine(Nat.dvd_mod_iff ?_).2 (Nat.dvd_mul_right _ _);rw[show ah=2^32 from rfl];exact Nat.pow_dvd_pow 2 ac
def abQ{m a k:Nat}(b:m<32):ao (2^(m+1)*a+2^m) k=if k=0 then ao (2^(m+1)*a) 0+2^m else ao (2^(m+1)*a) k:=by
 have hd:=Qs (a:=a) b;have d:=(Km b (bA (2^(m+1)*a) fl) hd).1;have h:=hE (2^(m+1)*a) ah;generalize 2^(m+1)*a=w at*;by_cases c:k=0;subst c;rw[if_pos rfl];unfold ao;rw[kg,oI,oI];conv=>lhs;rw[<-h,lQ,Nat.mul_add_mod]
 exact dX d;rw[if_neg c];obtain⟨j,rfl⟩:∃j,k=j+1:=⟨k-1,ac⟩;have e:(w+2^m)/ah=w/ah:=by conv=>lhs;rw[<-h,lQ,Nat.mul_add_div fl,hh d,ij]
 unfold ao;rw[ea,c9,<-kC,<-kC,e]
def Wn(s i:Nat):rt s (i+1)=ah^(i/32)*(2^(i%32+1)*(s/2^(i+1))):=by unfold rt;rw[<-fu,<-VC,c9];congr 2;have:=hE i 32;omega
def Wo(i:Nat):2^i=ah^(i/32)*2^(i%32):=by rw[<-VC,hE]
def PK(s i j:Nat):ao (rt s (i+1)+2^i) j=if j=i/32 then ao (rt s (i+1)) (i/32)+2^(i%32)else ao (rt s (i+1)) j:=by have b:=bA i (al:0<32);have f1:=Wn s i;have f:=Wo i;have c:0<ah^(i/32):=Eg fl;have d:=λ X j=>yh (a:=0) (p:=i/32) (X:=X) (j:=j) c;simp only[cF]at d;rw[f,f1,<-dW,d,d,d];generalize i/32=q at*;by_cases h:j<q;rw[if_pos h,if_neg ac,if_pos h];rw[if_neg h,if_neg (nW _),if_neg h,x2,abQ b];by_cases e:j=q;subst e;rw[x2,if_pos rfl,if_pos rfl];rw[if_neg ac,if_neg e]
def aaO(s i:Nat):2^(i%32+1)∣ao (rt s (i+1)) (i/32):=by have b:=bA i (al:0<32);have c:0<ah^(i/32):=Eg fl;have d:=yh (a:=0) (p:=i/32) (X:=2^(i%32+1)*(s/2^(i+1))) (j:=i/32) c;rw[cF,<-Wn,if_neg (nW _),x2]at d;rw[d];unfold ao;rw[kg,oI];exact Qs b
end Go.ay
namespace Go.Proofs.YtpcofcmencgkbaaGreat
section
variable(G:Nat->Option (List aa))
def amw(ws:List Nat)(hw:jV ws)(b:ws.length<=4194304000000):ag ab G 179 [.bool false,.sl 1 (us ws)] (aM ((val ws:Nat):Int)):=aI [hc (ma G ws hw ac)]
noncomputable abbrev tt(L i:Nat):aD->List (Nat×aa):=λ q=>[(1,.ref q.b 0 0),(2,.ref q.c 0 0),(3,.int .i64 0),(5,.ai q.a 1 0 L false),(6,.int .i64 (p5 i))]
abbrev tu(z:Int)(L r:Nat):aD->List (bt×aG):=λ q=>[(q.a,⟨us (ca L (ao r)),1,false⟩),(q.b,⟨[aM z],2,false⟩),(q.c,⟨[.agg [.bool false,.aH]],2,false⟩)]
def amC{s j b:Nat}(a:s<2^b)(c:j<b):rt s (j+1)+2^j<2^b:=by
 have e:2^b=2^(j+1)*2^(b-(j+1)):=by rw[<-ic];congr 1;omega
 have h:=tO (e▸a);have:=ck (2^(j+1)) h;rw[fU,c9 (2^(b-(j+1))),<-e]at this;have p:2^(j+1)=2^j*2:=ea ..;have:=lJ j;unfold rt;omega
def anr{z:Int}{s L j b:Nat}(x:jm z.natAbs s)(I:af z.natAbs<=4194304000000)(bk:L<=200000000000)(A:j<b)(B:b<32*L)(r:s<2^b):kF ab G (aZ (ak 250) 0) (ak 250).aK 200 .normal (tt L (j+1)) (tu z L (rt s (j+1))) (tt L j) (tu z L (rt s j)):=by
 have a:cO.wrap ((j:Int).tdiv 32)=((j/32:Nat):Int):=by rw[Eh ac,cU];omega
 have q:=bA j (al:0<32);have hd:=aaO s j;have u:=cu (rt s (j+1)) (j/32);have D:=PK s j;have y:=amG (i:=j) x;have E:=amF (i:=j) x;have o:rt s (j+1)+2^j<ah^L:=gz (amC r A) (by rw[show ah=2^32 from rfl,<-x4];exact dT al ac);have c:j/32<L:=ac;have t:j<=8388608000000:=ac;have g:=WO q;have l:=ajZ q u hd;have p:=ajA q u hd;generalize rt s (j+1)=R at*;generalize C:R+2^j=cv at*;have H:km L 0 L cv (ao cv):=⟨ac,ac,o,λ i _=>by rw[cF]⟩;have F:=ja o;have v:=CW G (m:=cv*cv) (n:=z.natAbs) (bx (Ai _ _) ac);have g1:∀k,ao cv k=if k=j/32 then ao R (j/32)+2^(j%32)else ao R k:=D;by_cases h:cv*cv<=z.natAbs;have d:decide (dU (cv*cv) z.natAbs>0)=false:=dQ (by unfold dU e5;split<;>(try split)<;>omega);rw[y h];exact g7 [p8 23 j,hw 28 a,hw 31 a,eg 32 [1] L (j/32) c,hR 33 [1] L (ao R) c rfl,qa 35 .i64 j 32,ho 36 g,ho 37 l,eg 38 [1] L (j/32) c,gO 38 [1] (f:=ao R) (ao cv) c (λ k _=>g1 k),rE (toV G H [1]),rE (toV G H [1]),rE (toT G H.short ac [1]),hc v,hb 47 d,kp 25 j t];have d:decide (dU (cv*cv) z.natAbs>0)=true:=fB (by unfold dU e5;split<;>(try split)<;>omega);rw[E h];exact g7 [p8 23 j,hw 28 a,hw 31 a,eg 32 [1] L (j/32) c,hR 33 [1] L (ao R) c rfl,qa 35 .i64 j 32,ho 36 g,ho 37 l,eg 38 [1] L (j/32) c,gO 38 [1] (f:=ao R) (ao cv) c (λ k _=>g1 k),rE (toV G H [1]),rE (toV G H [1]),rE (toT G H.short ac [1]),hc v,hb 47 d,hw 50 a,hw 53 a,eg 54 [1] L (j/32) c,hR 55 [1] L (ao cv) c ((g1 _).trans (if_pos rfl)),qa 57 .i64 j 32,ho 58 g,ho 59 p,eg 60 [1] L (j/32) c,gO 60 [1] (f:=ao cv) (ao R) c (λ k _=>if e:k=j/32 then by rw[if_pos e,e]else by rw[if_neg e,g1,if_neg e]),kp 25 j t]
def ans(z:Int)(s b:Nat)(B:0<z)(f:af z.natAbs<=4194304000000)(r:jm z.natAbs s)(p:z.natAbs<2^b)(t:b<=6710886400000)(w:ag ab G 219 [aM z] (aM z))(o:ag ab G 282 [aM z] (.int .i64 (b:Int))):ag ab G 250 [aM z] (.aJ [aM (s:Int),.int .i64 0]):=by
 have k:decide (z<0)=false:=dQ ac;have q:cO.wrap ((b:Int)+1)=((b+1:Nat):Int):=by rw[cU];omega
 have l:cO.wrap ((((b+1:Nat)):Int).tdiv 2)=(((b+1)/2:Nat):Int):=by rw[Eh ac,cU];omega
 have y:z.natAbs<2^((b+1)/2)*2^((b+1)/2):=by rw[<-ic];exact gz p (dT al ac)
 generalize D:(b+1)/2=m at*;have v:m<=3355443200001:=ac;have n:cO.wrap ((m:Int).tdiv 32)=((m/32:Nat):Int):=by rw[Eh ac,cU];omega
 have g:cO.wrap (((m/32:Nat):Int)+1)=((m/32+1:Nat):Int):=by rw[cU];omega
 have c:s<2^m:=vv λ h=>by have:=jd h h;have:=r.1;omega
 have bk:m/32+1<=200000000000:=ac;have d:m<32*(m/32+1):=ac;have e:s<ah^(m/32+1):=Ee c (by rw[show ah=2^32 from rfl,<-x4];exact tM al d);generalize m/32+1=L at*;have eL:rt s m=0:=by unfold rt;rw[hh c,sv]
 have hY:=amw G (eD s L) (yi s L) (by rw[mE];omega);rw[tz,dX e]at hY;have rd:∀i,i<m->kF ab G (aZ (ak 250) 0) (ak 250).aK 200 .normal (tt L (m-i)) (tu z L (rt s (m-i))) (tt L (m-(i+1))) (tu z L (rt s (m-(i+1)))):=λ i C=>by have⟨j,u⟩:∃j,m-i=j+1:=⟨m-i-1,ac⟩;rw[u,show m-(i+1)=j from ac];exact anr G r f bk (ac:j<m) d c
 have x:kF ab G (aZ (ak 250) 0) (ak 250).aK 200 (.exit 0) (tt L (m-m)) (tu z L (rt s (m-m))) (tt L 0) (tu z L s):=by rw[x2,amH];exact g7 []
 exact bL [hc w,hb 10 k,hc o,hw 14 q,hw 15 l,hw 17 n,hw 18 g,rD 19 L (ao (rt s m)) (λ j _=>by rw[eL];exact q7 (Eg fl)),kp 21 m,uQ (ak 250) 0 0 m ⟨[16,0],[0,0],[1,0],[4]⟩ (tt L m ⟨[16,0],[0,0],[1,0],[4]⟩) (tu z L (rt s m) ⟨[16,0],[0,0],[1,0],[4]⟩) (λ i=>tt L (m-i)) (λ i=>tu z L (rt s (m-i))) (.exit 0) (tt L 0) (tu z L s) rfl rfl rd x,y7 [16,0] 1 (us (eD s L)) L (by rw[jw,mE]) (A:=[.bool false]) hY]
def least{p:Nat->Prop}:∀N,(∃i,i<N/\p i)->∃i,i<N/\p i/\∀j,j<i->¬p j|0,⟨i,h,_⟩=>absurd h (fv i)|N+1,⟨i,h,b⟩=>by by_cases e:∃j,j<N/\p j;have⟨j,h1,h2⟩:=least N e;exact⟨j,ac,h2⟩;exact⟨i,h,b,λ j c a=>e ⟨j,ac,a⟩⟩
end
section
variable(G:Nat->Option (List aa)){m n:Nat}
abbrev zX(i:Nat):aD->List (Nat×aa):=λ q=>[(2,.ref q.a 0 0),(3,.ref q.b 0 0),(4,.bool false),(5,.int .i64 (i:Int))]
abbrev zY(m n:Nat):aD->List (bt×aG):=λ q=>[(q.a,⟨[aM (m:Int)],2,false⟩),(q.b,⟨[aM (n:Int)],2,false⟩)]
def Wv(q:af m<=4194304000000):ag ab G 251 [aM (m:Int),aM (n:Int)] (.bool (decide (m=n))):=by
 have l:∀x:Nat,decide ((x:Int)<0)=false:=λ x=>dQ ac;have d:(decide ((m:Int)<0)!=decide ((n:Int)<0))=false:=by rw[l,l];rfl
 by_cases k:af m=af n;have b:((af m:Int)!=(af n:Int))=false:=by rw[k];exact bne_self_eq_false _
 have rd:∀i,i<af m->ao m i=ao n i->kF ab G (aZ (ak 251) 0) (ak 251).aK 200 .normal (zX i) (zY m n) (zX (i+1)) (zY m n):=λ i a h=>g7 [bk 23 m,fP 24 a,dI 30 a,dI 35 (k▸a),hb 37 (show((ao m i:Int)!=(ao n i:Int))=false by rw[h];exact bne_self_eq_false _),hI 26 a];by_cases c:m=n;subst c;rw[decide_eq_true rfl];exact bL [hb 10 d,bk 14 m,bk 17 m,hb 18 b,uQ (ak 251) 0 0 (af m) ⟨[0,0],[1,0],[3],[4]⟩ (zX 0 ⟨[0,0],[1,0],[3],[4]⟩) (zY m m ⟨[0,0],[1,0],[3],[4]⟩) (λ i=>zX i) (λ _=>zY m m) (.exit 0) (λ _=>[]) (λ _=>[]) rfl rfl (λ i a=>rd i a rfl) (g7 [bk 23 m,hQ 24 (a2 (af m))])];have⟨i,a,h1,h2⟩:=least (p:=λ i=>ao m i≠ao n i) (af m) (by have⟨i,a,h1,_⟩:=Iv c (af m) (by rw[hh (eK m),k,hh (eK n)]);exact⟨i,a,h1⟩);rw[decide_eq_false c];exact bL [hb 10 d,bk 14 m,bk 17 n,hb 18 b,uQ (ak 251) 0 0 i ⟨[0,0],[1,0],[3],[4]⟩ (zX 0 ⟨[0,0],[1,0],[3],[4]⟩) (zY m n ⟨[0,0],[1,0],[3],[4]⟩) (λ i=>zX i) (λ _=>zY m n) .ret (λ _=>[(4,.bool false)]) (λ _=>[]) rfl rfl (λ j o=>rd j ac (Classical.not_not.1 (h2 j o))) (g7 [bk 23 m,fP 24 a,dI 30 a,dI 35 (k▸a),hb 37 (show((ao m i:Int)!=(ao n i:Int))=true from bne_iff_ne.2 ac)])];have b:((af m:Int)!=(af n:Int))=true:=bne_iff_ne.2 ac;rw[decide_eq_false λ e=>k (by rw[e])];exact bL [hb 10 d,bk 14 m,bk 17 n,hb 18 b]
end
section
variable(G:Nat->Option (List aa))
def abR(z:Int)(l:z.natAbs≠0)(j:af z.natAbs<=4194304000000):∃b:Nat,z.natAbs<2^b/\b<=32*af z.natAbs/\ag ab G 324 [aM z] (.int .i64 (b:Int)):=by
 have⟨k,f⟩:∃k,af z.natAbs=k+1:=⟨af z.natAbs-1,by have:=@gw z.natAbs;omega⟩;have h0:=kX (q8 f);have d:=cu z.natAbs k;have i:=Bk d h0;have h2:=(yy d h0).1;have e:=oT z.natAbs k;have g:=eK z.natAbs;rw[f]at g;rw[hh g,jy,cF]at e;have c:k<af z.natAbs:=ac;have a:cO.wrap ((af z.natAbs:Int)-1)=(k:Int):=by rw[cU];omega
 refine⟨32*k+ek (ao z.natAbs k),?_,ac,aI [hc (iY (nG G) z.natAbs ac),bk 8 z.natAbs,hb 9 (show((af z.natAbs:Int)==0)=false by rw[beq_eq_false_iff_ne];omega),bk 11 z.natAbs,hw 12 a,hw 13 (show cO.wrap (32*(k:Int))=((32*k:Nat):Int)by rw[cU];omega),bk 16 z.natAbs,hw 17 a,dI 18 c,hc (TW G (ao z.natAbs k) d),hw 21 (show cO.wrap (((32*k:Nat):Int)+(ek (ao z.natAbs k):Int))=((32*k+ek (ao z.natAbs k):Nat):Int)by rw[cU];omega)]⟩;rw[ic,x4];have h3:z.natAbs/ah^k<2^ek (ao z.natAbs k):=by rw[e];exact h2
 rw[c9];exact(lK (fJ k)).1 h3
def akB(n:Nat):af (2^n)=n/32+1:=by
 have h:=Wo n;have c:=bA n (al:0<32);have d:ao (2^n) (n/32)=2^(n%32):=by have:=yh (a:=0) (p:=n/32) (X:=2^(n%32)) (j:=n/32) (Eg fl);rw[cF,<-h,if_neg (nW _),x2]at this;rw[this];unfold ao;rw[kg,oI];exact dX (tM al c)
 refine Z5 (ja ?_) (vv λ b=>?_);rw[show ah=2^32 from rfl,<-x4];exact tM al ac;rw[oR b]at d;have:=lJ (n%32);omega
def am5(n:Nat)(k:n<=10000000000000):ag ab G 325 [.int .i64 (n:Int)] (W (2^n)):=by
 have h:=akB n;have d:=bA n (al:0<32);have c:cO.wrap ((n:Int).tdiv 32)=((n/32:Nat):Int):=by rw[Eh ac,cU];omega
 have i:cO.wrap (((n/32:Nat):Int)+1)=((n/32+1:Nat):Int):=by rw[cU];omega
 have g:∀j,ao (2^n) j=if j=n/32 then 2^(n%32)else 0:=λ j=>by
   have:=PK 0 n j;have z:rt 0 (n+1)=0:=by unfold rt;rw[Nat.zero_div,sv]
   have b:∀j,ao 0 j=0:=λ j=>by unfold ao;rw[Nat.zero_div];rfl
   rwa[z,cF,b,b,cF]at this
 have e:W (2^n)=.sl 1 (us (ca (n/32+1) (ao (2^n)))):=by show aa.sl 1 (us (digits (2^n)))=_;rw[KI,h];rfl
 rw[e];exact ag.Og hN [hw 5 c,hw 6 i,rD 7 (n/32+1) (λ _=>0) (λ _ _=>rfl),hw 10 c,qa 12 .i64 n 32,ho 13 (WO d),eg 14 [4,0] (n/32+1) (n/32) ac,gO 14 [4,0] (L:=n/32+1) (f:=λ _=>0) (ao (2^n)) (nb (n/32)) (λ j _=>g j)] 4 (ua _ _)
def gp(n x:Nat):Nat->Nat|0=>x|i+1=>(gp n x i+n/gp n x i)/2
def Cz{n s x:Nat}(h:jm n s)(h0:0<s)(a:s<=x):∀i,(∀j,j<i->gp n x (j+1)<gp n x j)->s<=gp n x i/\(gp n x i-s)*2^i<=x-s/\gp n x i<=x
 |0,_=>⟨a,by show(x-s)*2^0<=_;omega,a2 _⟩|i+1,hd=>by
   have⟨h1,h2,h3⟩:=Cz h h0 a i λ j f=>hd j ac;have b:=hd i;have c:=aju h (ac:0<gp n x i);have e:gp n x (i+1)=(gp n x i+n/gp n x i)/2:=rfl;rw[e]at b⊢;generalize gp n x i=y at*;have d:n/y<=s:=by have:n/y<=n/(s+1):=Nat.div_le_div_left ac ac;have:=(lK (ac:0<s+1)).2 h.2;omega
   refine⟨c,bx ?_ h2,ac⟩;rw[ea,c9 (2^i),<-fu];exact ck _ ac
def ajD{n s t:Nat}(h:jm n s)(h0:0<s)(d:s<=2^t):∃N,N<=t/\(∀i,i<N->gp n (2^t) (i+1)<gp n (2^t) i)/\gp n (2^t) N<=gp n (2^t) (N+1)/\gp n (2^t) N=s:=by have⟨N,h1,h2,h3⟩:=least (p:=λ i=>gp n (2^t) i<=gp n (2^t) (i+1)) (t+1) (Classical.byContradiction λ e=>by have hd:∀j,j<t+1->gp n (2^t) (j+1)<gp n (2^t) j:=λ j b=>vv λ c=>e ⟨j,b,c⟩;have⟨f,g,_⟩:=Cz h h0 d t λ j b=>hd j ac;have⟨b1,_,_⟩:=Cz h h0 d (t+1) hd;have:=hd t;have:1*2^t<=(gp n (2^t) t-s)*2^t:=ck _ ac;omega);have hd:∀j,j<N->gp n (2^t) (j+1)<gp n (2^t) j:=λ j b=>vv (h3 j b);have:=Cz h h0 d N hd;exact⟨N,ac,hd,h2,ajt h ac this.1 h2⟩
abbrev w8(x:Nat):aD->List (Nat×aa):=λ q=>[(1,.ref q.a 0 0),(2,.ref q.b 0 0),(3,.int .i64 0),(5,W x)]
abbrev w9(z:Int):aD->List (bt×aG):=λ q=>[(q.a,⟨[aM z],2,false⟩),(q.b,⟨[.agg [.bool false,.aH]],2,false⟩)]
def ajC{z:Int}{x y:Nat}(e:(x+z.natAbs/x)/2=y)(d:ag ab G 262 [W z.natAbs] (W z.natAbs))(i:ag ab G 303 [W z.natAbs,W x] (.aJ [W (z.natAbs/x),W (z.natAbs%x)]))(g:ag ab G 305 [W x,W (z.natAbs/x)] (W (x+z.natAbs/x)))(c:ag ab G 326 [W (x+z.natAbs/x)] (W ((x+z.natAbs/x)/2)))(f:ag ab G 266 [W y,W x] (.int .i64 (dU y x)))(h:y<x):kF ab G (aZ (ak 320) 0) (ak 320).aK 200 .normal (w8 x) (w9 z) (w8 y) (w9 z):=by rw[e]at c;have b:decide (dU y x≥0)=false:=dQ (by unfold dU e5;rw[if_pos ac];decide);exact g7 [hc d,hc i,hc g,hc c,hc f,hb 38 b]
def jb:aa:=.agg [.bool false,.aH,.bool false,.aH]
instance:bg jb:=by unfold jb;infer_instance
def apn{k j:Nat}(h:k<32*j):af (2^k)<=j:=ja (by have a:ah=2^32:=rfl;rw[a,<-x4];exact tM al h)
def ae3(m:Nat)(b:af m<=4194304000000):ag ab G 326 [W m] (W (m/2)):=by
 have c:ag ab G 262 [.sl 1 (us (ca (af m) (iU (m/2^1) (af m))))] (W (m/2^1)):=by rw[sC (g:=ao (m/2^1)) λ j d=>F4 d];have:=nG G (eD (m/2^1) (af m)) (yi _ _) (by rw[mE];omega);rwa[tz,dX (gA (h6 _ _) (eK _))]at this
 have h:ag ab G 326 [W m] (W (m/2^1)):=bL [hc (Xe G (s:=1) al b),hc c];exact h
def abS(z:Int)(j:z.natAbs≠0)(i:af z.natAbs<=4194304000000):∃b:Nat,z.natAbs<2^b/\b<=32*af z.natAbs/\ag ab G 282 [aM z] (.int .i64 (b:Int)):=by
 have⟨k,a⟩:∃k,af z.natAbs=k+1:=⟨af z.natAbs-1,by have:=@gw z.natAbs;omega⟩;have g:=kX (q8 a);have d:=cu z.natAbs k;have hb:=Bk d g;have h:=(yy d g).1;have e:=oT z.natAbs k;have c:=eK z.natAbs;rw[a]at c;rw[hh c,jy,cF]at e;refine⟨32*k+ek (ao z.natAbs k),?_,ac,aI [hc (iY (ma G) z.natAbs ac),hc (TM G z.natAbs k a ac)]⟩;rw[ic,x4];have h3:z.natAbs/ah^k<2^ek (ao z.natAbs k):=by rw[e];exact h
 rw[c9];exact(lK (fJ k)).1 h3
def agl(z:Int)(s:Nat)(L:0<z)(hw:af z.natAbs<=201326592000)(p:jm z.natAbs s):ag ab G 320 [aM z] (.aJ [aM (s:Int),.int .i64 0]):=by
 have w:z.natAbs≠0:=ac;have⟨b,hb,O,H⟩:=abR G z w ac;have m:=yS G z ac;rw[Int.sign_eq_one_of_pos L]at m;have J:af (2^(b/2+1))<=100663296002:=apn ac;have d:∀n,n<=2^(b/2+1)->af n<=100663296002:=λ n h=>bx (fj h) J;have r:∀n,af (z.natAbs/n)<=201326592000:=λ n=>bx (fj (h6 _ _)) hw;have f:∀n,n<=2^(b/2+1)->af (n+z.natAbs/n)<=201326592001:=λ n h=>DC (bx (d n h) ac) (r n);have k:∀n,n<=2^(b/2+1)->af ((n+z.natAbs/n)/2)<=201326592001:=λ n h=>bx (fj (h6 _ _)) (f n h);have K:af s<=201326592000:=bx (fj (by have:=p.1;exact bx (AE s) this)) hw;have h0:0<s:=kX λ e=>by have:=p.2;rw[e]at this;omega
 have c:s<=2^(b/2+1):=jT λ t=>by have h1:=jd (hH t) (hH t);rw[<-ic]at h1;have h2:=dT (n:=2) al (ac:b<=b/2+1+(b/2+1));have:=p.1;omega
 have⟨N,hN,hd,o,l⟩:=ajD p h0 c;have mN:=λ i(F:i<=N)=>Cz p h0 c i λ j Q=>hd j ac;have y:=iY (r7 G) z.natAbs ac;have B:=λ n(h0:0<n)(h:n<=2^(b/2+1))=>KE G z.natAbs n ac ac (by have:=d n h;omega);have C:=λ n(h:n<=2^(b/2+1))=>MX G n (z.natAbs/n) (by have:=d n h;omega) (by have:=r n;omega);have E:=λ n(h:n<=2^(b/2+1))=>ae3 G (n+z.natAbs/n) (by have:=f n h;omega);have A:=λ n(h:n<=2^(b/2+1))=>Kp G ((n+z.natAbs/n)/2) n (by have:=k n h;omega) (by have:=d n h;omega);have hY:=u3 G false s ac;have M:=am5 G (b/2+1) ac;have v:cO.wrap ((b:Int).tdiv 2)=((b/2:Nat):Int):=by rw[Eh ac,cU];omega
 have x:cO.wrap (((b/2:Nat):Int)+1)=((b/2+1:Nat):Int):=by rw[cU];omega
 have rd:∀i,i<N->kF ab G (aZ (ak 320) 0) (ak 320).aK 200 .normal (w8 (gp z.natAbs (2^(b/2+1)) i)) (w9 z) (w8 (gp z.natAbs (2^(b/2+1)) (i+1))) (w9 z):=λ i F=>by have⟨P,_,iW⟩:=mN i ac;exact ajC G rfl y (B _ ac iW) (C _ iW) (E _ iW) (A _ iW) (hd i F)
 have I:kF ab G (aZ (ak 320) 0) (ak 320).aK 200 .ret (w8 (gp z.natAbs (2^(b/2+1)) N)) (w9 z) (λ q=>[(2,.ref q.b 0 0),(3,.int .i64 0)]) (λ q=>[(q.a,⟨[aM z],2,false⟩),(q.b,⟨[aM (s:Int)],2,false⟩)]):=by
   have e:gp z.natAbs (2^(b/2+1)) (N+1)=(s+z.natAbs/s)/2:=by show(gp z.natAbs (2^(b/2+1)) N+_/gp z.natAbs (2^(b/2+1)) N)/2=_;rw[l]
   rw[l,e]at o;rw[l];have u:decide (dU ((s+z.natAbs/s)/2) s≥0)=true:=fB (by unfold dU e5;split<;>(try split)<;>omega);exact g7 [hc y,hc (B s h0 c),hc (C s c),hc (E s c),hc (A s c),Go.ay.hb 38 u,hc hY]
 exact bL [hc m,hc H,Go.ay.hw 19 v,Go.ay.hw 20 x,hc M,uQ (ak 320) 0 0 N ⟨[0,0],[1,0],[3],[4]⟩ (w8 (2^(b/2+1)) ⟨[0,0],[1,0],[3],[4]⟩) (w9 z ⟨[0,0],[1,0],[3],[4]⟩) (λ i=>w8 (gp z.natAbs (2^(b/2+1)) i)) (λ _=>w9 z) .ret (λ q=>[(2,.ref q.b 0 0),(3,.int .i64 0)]) (λ q=>[(q.a,⟨[aM z],2,false⟩),(q.b,⟨[aM (s:Int)],2,false⟩)]) rfl rfl rd I]
def C3(n:Nat):∃s,jm n s:=by induction n with|zero=>exact⟨0,by unfold jm;decide⟩|succ n a=>
   have⟨s,h1,b⟩:=a;by_cases h:n+1<(s+1)*(s+1);exact⟨s,ac,h⟩;refine⟨s+1,ac,?_⟩;have:(s+1+1)*(s+1+1)=(s+1)*(s+1)+2*(s+1)+1:=by rw[eX,dW];omega
   omega
def z5(r:Rat):(r*r).num=r.num*r.num/\(r*r).den=r.den*r.den:=by
 have a:=Nat.Coprime.mul_left r.reduced r.reduced;have hc:(r.num*r.num).natAbs.Coprime (r.den*r.den):=by rw[m7];exact Nat.Coprime.mul_right a a
 have hd:r.den*r.den≠0:=Nat.mul_ne_zero r.den_nz r.den_nz;have e:r*r=⟨r.num*r.num,r.den*r.den,hd,hc⟩:=by rw[Rat.mk_eq_divInt,Nd,<-xU];simp
 rw[e];exact⟨rfl,rfl⟩
def W6{q:Rat}{s t:Nat}(b:(s:Int)*s=q.num)(a:(t:Int)*t=(q.den:Int)):((s:Int):Rat)/((t:Int):Rat)*(((s:Int):Rat)/((t:Int):Rat))=q:=by
 have f:((t:Int):Rat)≠0:=by
   intro e;have:(t:Int)=0:=by exact_mod_cast e
   rw[this]at a;have:=q.den_pos;omega
 have h:((q.num:Int):Rat)/(((q.den:Nat):Int):Rat)=q:=by rw[<-xU];exact Rat.num_divInt_den q
 have d:((q.num:Int):Rat)=((s:Int):Rat)*((s:Int):Rat):=by rw[<-b];exact xY ..
 have c:(((q.den:Nat):Int):Rat)=((t:Int):Rat)*((t:Int):Rat):=by rw[<-a];exact xY ..
 refine Eq.trans ?_ h;rw[d,c];generalize((s:Int):Rat)=x at*;generalize((t:Int):Rat)=y at*;grind
def zO(z:Int)(s:Nat)(d:0<z)(hw:af z.natAbs<=201326592000)(a:jm z.natAbs s):ag ab G 309 [aM z] (.aJ [aM (s:Int),.bool (decide ((s:Int)*s=z))]):=by
 have f:af s<=201326592000:=bx (fj (by have:=a.1;exact bx (AE s) this)) hw;have h1:=agl G z s d hw a;have c:=T9 G (s:Int) (s:Int) (by simpa using(ac:af s<=4194304000000)) (by simpa using(ac:af s<=4194304000000));have h3:=QC G ((s:Int)*s) z (by rw[m7];have:=Ai s s;simp only[gB];omega) ac;have e:(e5 ((s:Int)*s) z==0)=decide ((s:Int)*s=z):=by unfold e5;by_cases h:(s:Int)*s=z;rw[if_neg ac,if_neg ac,decide_eq_true h];rfl;rw[decide_eq_false h];split;rfl;rw[if_pos ac];rfl
 exact aI [hc h1,hc c,hc h3,hb 20 e]
def akX(q r:Rat)(j:0<q.num)(g:cE 201326592000 q)(d:r*r=q)(m:0<r.num):ag ab G 299 [aW q] (.aJ [aW r,.bool true]):=by
 have c:q.num=r.num*r.num:=by rw[<-d];exact(z5 r).1
 have e:q.den=r.den*r.den:=by rw[<-d];exact(z5 r).2
 have f:∀n:Nat,jm (n*n) n:=λ n=>⟨a2 _,qV (nb n) (nb n)⟩;have a:=zO G q.num r.num.natAbs j g.1 (by rw[c,m7];exact f _);have b:=zO G (q.den:Int) r.den (by have:=q.den_pos;omega) (by simpa using g.2) (by rw[gB,e];exact f _);have l:((r.num.natAbs:Int)*(r.num.natAbs:Int)=q.num):=by rw[c,Ei ac]
 have i:((r.den:Int)*(r.den:Int)=(q.den:Int)):=by rw[e];simp
 rw[decide_eq_true l]at a;rw[decide_eq_true i]at b;have k:(r.num.natAbs:Int)=r.num:=Ei ac;rw[k]at a;exact ala q.num q.den r.num r.den a b
def akW(q:Rat)(g:0<q.num)(e:cE 201326592000 q)(i:∀r:Rat,r*r≠q):ag ab G 299 [aW q] (.aJ [.agg [.bool false,.aH,.bool false,.aH],.bool false]):=by have⟨s,h1⟩:=C3 q.num.natAbs;have⟨t,h⟩:=C3 q.den;have a:=zO G q.num s g e.1 h1;have c:=zO G (q.den:Int) t (by have:=q.den_pos;omega) (by simpa using e.2) (by simpa using h);by_cases b:((s:Int)*s=q.num);by_cases d:((t:Int)*t=(q.den:Int));exfalso;exact i (((s:Int):Rat)/((t:Int):Rat)) (W6 b d);rw[decide_eq_true b]at a;rw[decide_eq_false d]at c;exact aI [hc a,hc c];rw[decide_eq_false b]at a;exact aI [hc a,hc c]
def DO(z:Int)(s:Nat)(d:0<z)(hw:af z.natAbs<=201326592000)(c:jm z.natAbs s):ag ab G 250 [aM z] (.aJ [aM (s:Int),.int .i64 0]):=by have⟨b,h1,h2,h3⟩:=abS G z ac ac;exact ans G z s b d ac c h1 ac (LX G z ac) h3
def DN(z:Int)(s:Nat)(f:0<z)(hw:af z.natAbs<=201326592000)(d:jm z.natAbs s):ag ab G 177 [aM (s:Int),aM (s:Int)] (aM ((s*s:Nat):Int))/\ag ab G 251 [aM ((s*s:Nat):Int),aM z] (.bool (decide ((s:Int)*s=z))):=by have c:af s<=201326592000:=bx (fj (by have:=d.1;exact bx (AE s) this)) hw;have b:af (s*s)<=402653184000:=bx (Ai s s) ac;have h1:=zi G (s:Int) (s:Int) (by rw[gB];omega) (by rw[gB];omega);have h2:=Wv G (m:=s*s) (n:=z.natAbs) ac;rw[Ei ac]at h2;have e:decide (s*s=z.natAbs)=decide ((s:Int)*s=z):=decide_eq_decide.2 ⟨λ h=>by have:=congrArg (λ x:Nat=>(x:Int)) h;simp only[oF]at this;omega,λ h=>by rw[<-h,m7];rfl⟩;rw[e]at h2;exact⟨by rw[oF];exact h1,h2⟩
def aqd(q r:Rat)(c:0<q.num)(a:cE 201326592000 q)(i:r*r=q)(w:0<r.num):ag ab G 215 [aW q] (.aJ [aW r,.bool true]):=by
 have e:q.num=r.num*r.num:=by rw[<-i];exact(z5 r).1
 have b:q.den=r.den*r.den:=by rw[<-i];exact(z5 r).2
 have m:∀n:Nat,jm (n*n) n:=λ n=>⟨a2 _,qV (nb n) (nb n)⟩;have f:jm q.num.natAbs r.num.natAbs:=by rw[e,m7];exact m _
 have d:jm (q.den:Int).natAbs r.den:=by rw[gB,b];exact m _
 have j:0<(q.den:Int):=by have:=q.den_pos;omega
 have p:=DO G q.num r.num.natAbs c a.1 f;have v:=DO G (q.den:Int) r.den j (by simpa using a.2) d;have⟨o,g⟩:=DN G q.num r.num.natAbs c a.1 f;have⟨s,h⟩:=DN G (q.den:Int) r.den j (by simpa using a.2) d;have t:((r.num.natAbs:Int)*(r.num.natAbs:Int)=q.num):=by rw[e,Ei ac]
 have u:((r.den:Int)*(r.den:Int)=(q.den:Int)):=by rw[b];simp
 rw[decide_eq_true t]at g;rw[decide_eq_true u]at h;have k:(r.num.natAbs:Int)=r.num:=Ei ac;rw[k]at p o;exact aI [hb 10 (dQ ac:decide (q.num<0)=false),hc p,hc v,hc o,hc g,hc s,hc h]
def aqc(q:Rat)(g:0<q.num)(c:cE 201326592000 q)(o:∀r:Rat,r*r≠q):ag ab G 215 [aW q] (.aJ [jb,.bool false]):=by
 have⟨s,h1⟩:=C3 q.num.natAbs;have⟨t,m⟩:=C3 (q.den:Int).natAbs;have i:0<(q.den:Int):=by have:=q.den_pos;omega
 have l:=DO G q.num s g c.1 h1;have f:=DO G (q.den:Int) t i (by simpa using c.2) m;have⟨k,b⟩:=DN G q.num s g c.1 h1;have⟨n,h⟩:=DN G (q.den:Int) t i (by simpa using c.2) m;have a:decide (q.num<0)=false:=dQ ac;by_cases d:((s:Int)*s=q.num);by_cases e:((t:Int)*t=(q.den:Int));exfalso;exact o (((s:Int):Rat)/((t:Int):Rat)) (W6 d e);rw[decide_eq_true d]at b;rw[decide_eq_false e]at h;exact aI [hb 10 a,hc l,hc f,hc k,hc b,hc n,hc h];rw[decide_eq_false d]at b;exact aI [hb 10 a,hc l,hc f,hc k,hc b]
theorem ajV(b:Rat):1/b=b⁻¹:=by rw[Rat.div_def,Rat.one_mul]
def Jb:aa:=.agg [.bool false,.aH]
instance:bg Jb:=by unfold Jb;infer_instance
theorem lI{n k:Nat}(h:n<4294967296:=by decide)(hk:1<=k:=by decide):af n<=k:=bx (ja (k:=1) (by rw[Pq];exact h)) hk
theorem aov{σ:aL}{c:aa}[bg c]:View σ (.aJ [.agg [.bool false,.aH],c]) (.aJ [aM 0,c]):=by rw[show aM 0=.agg [.bool false,.sl 1 []]from an];exact lN (bZ (View.agg (bZ (fk (AB _)) (bZ (ga 1) eT))) (bZ (fk bg.pure) eT))
theorem als(b:Rat)(h:b≠0)(hb:cE 419430400000 b):ag ab G 227 [aW b] (aW b⁻¹):=ali (Tm G) b h hb
theorem agn:ag ab G 320 [aM 0] (.aJ [aM 0,.int .i64 0]):=ag.xz hN [hc (yS G 0 lI)] [] (.aJ [.agg [.bool false,.aH],.int .i64 0]) an (fun σ _=>aov)
theorem akT:ag ab G 309 [aM 0] (.aJ [aM 0,.bool true]):=aI [hc (agn G),hc (zb G 0 0 lI lI),hc (Tc G 0 0 lI lI)] an
theorem agm(z:Int)(h:z<0)(hw:af z.natAbs<=419430400000):ag ab G 320 [aM z] (.aJ [Jb,.int .i64 7]):=by have hs:=yS G z ac;rw[Int.sign_eq_neg_one_of_neg h]at hs;exact aI [hc hs] an
theorem akS(z:Int)(h:z<0)(hw:af z.natAbs<=419430400000):ag ab G 309 [aM z] (.aJ [Jb,.bool false]):=aI [hc (agm G z h hw)] an
theorem akV(q r:Rat)(hs:cE 201326592000 q)(hr:r*r=q)(h0:0<=r):ag ab G 299 [aW q] (.aJ [aW r,.bool true]):=by
 have amq:=D6.2 h0;have e1:q.num=r.num*r.num:=by rw[<-hr];exact(z5 r).1
 by_cases e:r.num=0
 . obtain rfl:=mw.1 e;obtain rfl:q=0:=by rw[<-hr,JD]
   have nk:=zO G 1 1 al lI (by unfold jm;decide);exact aI [hc (akT G),hc nk] an
 .refine akX G q r ?_ hs hr ac;rw[e1];exact Int.mul_pos ac ac
theorem akU(q:Rat)(hs:cE 201326592000 q)(hr:∀r:Rat,r*r≠q):ag ab G 299 [aW q] (.aJ [jb,.bool false]):=by
 rcases Z6 q.num 0 with h|h|h;.obtain⟨t,h2⟩:=C3 q.den;have nk:=zO G (q.den:Int) t (by have:=q.den_pos;omega) (by simpa using hs.2) (by simpa using h2);exact aI [hc (akS G q.num h (by have:=hs.1;omega)),hc nk] an
 .exact absurd (by rw[mw.1 h,JD]) (hr 0)
 .exact akW G q h hs hr
theorem akP:ag ab G 311 [.int .i64 1,.int .i64 2] (aW (1/2)):=by have n1:∀n:Nat,n<100->ag ab G 327 [aM (n:Int)] (aM (n:Int)):=fun n hn=>aI [hc (iY (r7 G) n (by have:=xH n ac;omega)),hc (Bo G n (by have:=xH n ac;omega)),hc (u3 G false n (by have:=xH n ac;omega))] an;have m:=GG G 1 2 al lI lI;have hm:ag ab G 321 [aM 1,aM 2] (.aJ [aW (1/2),.int .i64 0]):=aI [hc (n1 1 al),hc (n1 2 al),hc (VP G 2),hc m] an;exact aI [hc (FP G 1 al al),hc (FP G 2 al al),hc hm] an
theorem aqM:ag ab G 250 [aM 0] (.aJ [aM 0,.int .i64 0]):=by
 have hb:ag ab G 282 [aM 0] (.int .i64 0):=by have hl:ag ab G 255 [W 0] (.int .i64 0):=aI [] an;exact aI [hc (iY (Di G) 0 lI),hc hl] an
 have t:=ma G [0] (fun w hw=>by rw[cq.1 hw];decide) al;have hg:ag ab G 179 [.bool false,.sl 1 (us [0])] (aM 0):=aI [hc t] an;have hv:dc (bU [([16],⟨us [0],1,false⟩)]) [.bool false,.ai [16] 1 0 1 false] [.bool false,.sl 1 (us [0])]:=bZ (fk (AB _)) (bZ (nU (aq:=⟨us [0],1,false⟩) (by simp[bU]) rfl (by simp[us]) (my fun c hc=>by simp[us,flat,aa.cells]at hc;subst hc;exact cb.int _ _) rfl (fun d hd=>by simp[us]at hd;subst hd;rfl)) eT);exact aI [hc (LX G 0 lI),hc hb,uI [([16],⟨us [0],1,false⟩)] hg hv] an
theorem ap8:ag ab G 177 [aM 0,aM 0] (aM 0)/\ag ab G 251 [aM 0,aM 0] (.bool true):=by have h2:=Wv G (m:=0) (n:=0) lI;exact⟨zi G 0 0 lI lI,by simpa using h2⟩
theorem aqb(q r:Rat)(hs:cE 201326592000 q)(hr:r*r=q)(h0:0<=r):ag ab G 215 [aW q] (.aJ [aW r,.bool true]):=by
 have amq:=D6.2 h0;have e1:q.num=r.num*r.num:=by rw[<-hr];exact(z5 r).1
 by_cases e:r.num=0
 . obtain rfl:=mw.1 e;obtain rfl:q=0:=by rw[<-hr,JD]
   have r1:jm (1:Int).natAbs 1:=by unfold jm;decide
   have nk:=DO G 1 1 al lI r1;obtain⟨Ua,s2⟩:=DN G 1 1 al lI r1;obtain⟨zq,s1⟩:=ap8 G;exact aI [hc (aqM G),hc nk,hc zq,hc s1,hc Ua,hc s2] an
 .refine aqd G q r ?_ hs hr ac;rw[e1];exact Int.mul_pos ac ac
theorem aqa(q:Rat)(hs:cE 201326592000 q)(hr:∀r:Rat,r*r≠q):ag ab G 215 [aW q] (.aJ [jb,.bool false]):=by
 rcases Z6 q.num 0 with h|h|h;.exact aI [hb 10 (decide_eq_true h)] an
 .exact absurd (by rw[mw.1 h,JD]) (hr 0)
 .exact aqc G q h hs hr
def ml{σ:aL}{a b c:aa}[bg c](h:View σ a b):View σ (.aJ [a,c]) (.aJ [b,c]):=lN (bZ h (bZ (fk bg.pure) eT))
def Rr(x:Rat):(dm x !=0)=!decide (x=0):=by have:=ak8 x;by_cases h:x=0;rw[decide_eq_true h]at this⊢;have:=of_decide_eq_true this;simp[this];rw[decide_eq_false h]at this⊢;have:=of_decide_eq_false this;simp[this]
def Tg(f:Nat)(p:Rat->Bool)(l:List Rat)(q:l.length<=9000)(o:∀x∈l,ag ab G f [aW x] (.bool (p x))):ag ab G 274 [ba l,.fn (.func f) [] []] (.bool (l.any p)):=by
 have d:∀i(a:i<l.length)(b:Bool),p (l.getD i 0)=b->ag ab G f [aW l[i]] (.bool b):=λ i a b e=>by rw[dt,eO a]at e;rw[<-e];exact o _ (bf a)
 rcases first (λ i=>p (l.getD i 0)) l.length with h|⟨i,a,g,n⟩;have e:l.any p=false:=by rw[List.any_eq_false];intro x k;obtain⟨i,a,rfl⟩:=List.mem_iff_getElem.1 k;have:=h i a;rw[dt,eO a]at this;simpa using this
 have a:ag ab G 293 [ba l,.fn (.func f) [] []] (.int .i64 (-1)):=bL [wU (ak 293) 0 0 0 l.length (λ i=>[(0,ba l),(1,.fn (.func f) [] []),(7,.int .i64 ((l.map aW).length:Nat)),(8,.int .i64 (i:Int))]) (.exit 0) [] (λ i a=>[bB 9 aW a,aV 14 4 aW a,hc (d i a false (h i a)),bh 18 i]) [dH 9 aW l]];rw[e];exact aI [hc a];have e:l.any p=true:=List.any_eq_true.2 ⟨_,bf a,by rw[dt,eO a]at g;exact g⟩;have k:ag ab G 293 [ba l,.fn (.func f) [] []] (.int .i64 (i:Int)):=bL [wU (ak 293) 0 0 0 i (λ i=>[(0,ba l),(1,.fn (.func f) [] []),(7,.int .i64 ((l.map aW).length:Nat)),(8,.int .i64 (i:Int))]) .ret [(4,.int .i64 (i:Int))] (λ j m=>[bB 9 aW (ac:j<l.length),aV 14 4 aW (ac:j<l.length),hc (d j ac false (n j m)),bh 18 j]) [bB 9 aW a,aV 14 4 aW a,hc (d i a true g)]];rw[e];exact aI [hc k,hb 8 (decide_eq_true (ac:(i:Int)≥0))]
def oD(x:Rat)(b:cE 419430400000 x):ag ab G 275 [aW x] (.bool (!decide (x=0))):=aI [hc (Nc G x b),hb 5 (Rr x)]
def sW{h:Nat}(b:h<=3)(a:ae h):(ae.flat a).length<=9000:=by rw[ae.rA];rcases h4 b with rfl|rfl|rfl|rfl<;>decide
def z6{h:Nat}(d:h<=3)(a:ae h)(c:cX 419430400000 a):ag ab G 239 [aF a] (.bool a.bD):=by
 have e:(!((ae.flat a).any λ x=>!decide (x=0)))=a.bD:=by unfold ae.bD;rw[<-List.not_all_eq_any_not,Bool.not_not]
 exact aI [hc (Tg G 275 (λ x=>!decide (x=0)) _ (sW d a) λ x f=>oD G x (c.flat x f)),hb 5 e]
def NU{h:Nat}(d:h<=3)(a:ae h)(f:cX 419430400000 a):ag ab G 247 [aF a,.int .i64 ((2^h:Nat):Int)] (.bool true):=by have g:∀x,cE 419430400000 x->ag ab G 280 [aW x] (.bool false):=λ x c=>aI [hc (VO G x c)];have e:=Tg G 280 (λ _=>false) _ (sW d a) λ x c=>g x (f.flat x c);rw[show(ae.flat a).any (λ _=>false)=false from am]at e;rcases h4 d with rfl|rfl|rfl|rfl<;>exact aI [hc e]
def VU:{h:Nat}->(t:aE h)->h<=3->aE.c2 419430400000 t->List (aR ab G)|0,_,_,_=>[]|_+1,t,b,H=>VU t.1 ac H.1++[hc (NU G ac t.2 H.2)]
def NY{h:Nat}(b:h<=3)(t:aE h)(H:aE.c2 419430400000 t):ag ab G 246 [aT t.aw] (.bool true):=by rcases h4 b with rfl|rfl|rfl|rfl<;>exact aI (VU G t al H)
def vb{h:Nat}(b:h<=3)(t:aE h)(H:aE.c2 419430400000 t)(a:ae h)(e:cX 419430400000 a):ag ab G 210 [aT t.aw,aF a] (.bool true):=by have h1:=NY G b t H;have d:=NU G b a e;rcases h4 b with rfl|rfl|rfl|rfl<;>exact aI [hc h1,hc d]
def NT{h:Nat}(c:h<=3)(t:aE h)(H:aE.c2 419430400000 t)(a b:ae h)(f:cX 419430400000 a)(hb:cX 419430400000 b):ag ab G 241 [aT t.aw,aF a,aF b] (.bool true):=by have h1:=vb G c t H a f;have e:=NU G c b hb;rcases h4 c with rfl|rfl|rfl|rfl<;>exact aI [hc h1,hc e]
def aex(a b:Rat)(d:cE 419430400000 a)(hb:cE 419430400000 b):aR ab G:=hc (akM G a b d hb)
def aeN(a:Rat)(c:cE 419430400000 a):aR ab G:=hc (akR G a c)
def Kd:{h:Nat}->(a b:ae h)->cX 419430400000 a->cX 419430400000 b->List (aR ab G)|0,a,b,c,hb=>[aex G a b c hb]|_+1,a,b,c,hb=>Kd a.1 b.1 c.1 hb.1++Kd a.2 b.2 c.2 hb.2
def MC:{h:Nat}->(a:ae h)->cX 419430400000 a->List (aR ab G)|0,a,b=>[aeN G a b]|_+1,a,b=>MC a.1 b.1++MC a.2 b.2
def Xs{h:Nat}(e:h<=3)(a b:ae h)(d:cX 419430400000 a)(hb:cX 419430400000 b)(p:bt):cj ab G 242 [aF a,aF b] p [] {val:=.ai (3::p) 4 0 (2^h) false,rd:=[],up:=[(3::p,some (jG (ae.add a b)))]}:=by rcases h4 e with rfl|rfl|rfl|rfl<;>exact eB (p:=p) (up:=[(3::p,_)]) hN (λ _=>[]) (Kd G a b d hb) _ [] (.ai [3,0] 4 0 _ false) [([3,0],_)] an (bq.fix _) rfl rfl g8 am am
def Iq{h:Nat}(e:h<=3)(a b:ae h)(d:cX 419430400000 a)(hb:cX 419430400000 b):ag ab G 242 [aF a,aF b] (aF (ae.add a b)):=ag.xc (Xs G e a b d hb []) (dS sJ)
def anL{h:Nat}(d:h<=3)(a:ae h)(c:cX 419430400000 a)(p:bt):cj ab G 211 [aF a] p [] {val:=.ai (3::p) 4 0 (2^h) false,rd:=[],up:=[(3::p,some (jG (ae.neg a)))]}:=by rcases h4 d with rfl|rfl|rfl|rfl<;>exact eB (p:=p) (up:=[(3::p,_)]) hN (λ _=>[]) (MC G a c) _ [] (.ai [3,0] 4 0 _ false) [([3,0],_)] an (bq.fix _) rfl rfl g8 am am
def Is{h:Nat}(d:h<=3)(a:ae h)(c:cX 419430400000 a):ag ab G 211 [aF a] (aF (ae.neg a)):=ag.xc (anL G d a c []) (dS sJ)
def N3{h:Nat}(b:h<=3)(p:bt):cj ab G 273 [.int .i64 ((2^h:Nat):Int)] p [] {val:=.ai (2::p) 4 0 (2^h) false,rd:=[],up:=[(2::p,some (jG (ae.rat h 0)))]}:=by have z:=xj G 0 al al;rcases h4 b with rfl|rfl|rfl|rfl<;>exact eB (p:=p) (up:=[(2::p,_)]) hN (λ _=>[]) (bM 8 (hc z)) _ [] (.ai [2,0] 4 0 _ false) [([2,0],_)] an (bq.fix _) rfl rfl g8 am am
def Dk{h:Nat}(a:h<=3)(t:aE h)(H:aE.c2 419430400000 t)(x:Rat)(d:cE 419430400000 x):ag ab G 238 [aT t.aw,aW x] (aF (ae.rat h x)):=by have h1:=NY G a t H;have c:=VO G x d;have h3:=λ p=>N3 G a p;rcases h4 a with rfl|rfl|rfl|rfl<;>exact ag.xz hN [hc h1,hc c,cL h3] [([2,13],_)] (.ai [2,13] 4 0 _ false) an (λ σ h=>dS (one h))
def N0{h:Nat}(b:h+1<=3)(t:aE (h+1)):ag ab G 285 [aT t.aw] (.aJ [aT t.1.aw,aF t.2]):=by rcases h3 b with rfl|rfl|rfl<;>exact aI []
def Ir{h:Nat}(c:h+1<=3)(a:ae (h+1)):ag ab G 286 [aF a] (.aJ [aF a.1,aF a.2]):=by rcases h3 c with rfl|rfl|rfl<;>exact aI []
end
end Go.Proofs.YtpcofcmencgkbaaGreat
