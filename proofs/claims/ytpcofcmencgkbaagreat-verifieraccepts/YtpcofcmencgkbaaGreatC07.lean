/- For the claim of VerifierAccepts: parts DM, ZWB, DN, ZWC, ZWD, ZWE, ZWF, ZUP, ZUW, ZI1, ZI2, ZJ1, LQ1, ZS0, DO, ZS1, ZS2, ZS3, ZS4, ZJ2, ZJ3. -/
import Derived.Test.YtpcofcmencgkbaaGreatC06
import Derived.Test.YtpcofcmencgkbaaGreatC04
import Derived.RangeFuncBox
import Derived.RangeFuncLeaves
import Derived.Shelf.Abstract
import Derived.WalkKit
import Derived.OwnWalkIn
import Derived.TacticsInMore
import Derived.LoopNIn
import Derived.LoopIn
import Derived.Test.YtpcofcmencgkbaaGreatProg
import Derived.Lib.ItoaNum
import Derived.Test.YtpcofcmencgkbaaGreatC03
set_option linter.defProp false
set_option linter.unusedSectionVars false
set_option linter.unusedSimpArgs false
set_option linter.unusedVariables false
set_option maxRecDepth 100000
open Array renaming replicate_succ->Kl,replicate_zero->Km
open BitVec renaming ofInt->jk,ofInt_natCast->yA
open Go.IntKind renaming i64->cV,u32->jH,u64->da,wrap_i64->c0,wrap_u64->iy
open Go.Proofs.Tryz renaming func323->Qm,ntmps323->abo,prog->ab
open Go.RowKit renaming intOf->abp
open Go.aA renaming Id->bz
open Go.aA.cv renaming jC->e9,Pc->Ki
open Go.aA.aB renaming s->aO
open Go.aA.cd renaming bool->Bt
open Go.aA.aQ renaming of->bB
open Go.aA.e5 renaming to->nW
open Go.aA.View renaming ar->e8,ah->nc,pure->fx,aM->mq
open Go.aA.dy renaming cons->bZ,nil->eH,pure->jJ
open Int renaming lt_trichotomy->abt,natAbs_mul->nV,natAbs_natCast->gO,natAbs_of_nonneg->Fb,natCast_mul->pI,tdiv_eq_ediv_of_nonneg->Fa
open List renaming append_toArray->Ko,cons_append->yx,ext_getElem->jL,length_cons->fU,length_map->aL,length_nil->gR,length_range->cR,mem_cons_self->cg,mem_flatMap->g3,mem_of_mem_drop->wL,mem_of_mem_take->gZ,mem_singleton->bU,nil_append->jK,nodup_nil->gA,push_toArray->Kn,range'->uS,replicate->bI,size_toArray->r3
open Nat renaming add_assoc->my,add_mul->fw,add_mul_div_left->oV,add_mul_mod_self_left->wz,add_sub_cancel_left->tt,add_zero->j7,div_add_mod->h8,div_div_eq_div_mul->ll,div_eq_of_lt->h6,div_le_self->h7,div_lt_iff_lt_mul->mm,div_lt_of_lt_mul->uP,div_one->pL,gcd->cJ,le_antisymm->abr,le_div_iff_mul_le->yB,le_mul_of_pos_left->abk,le_mul_self->Bv,le_of_lt->h9,le_of_not_lt->ku,le_refl->a2,le_trans->bx,lt_irrefl->pM,lt_mul_div_succ->abn,lt_of_le_of_lt->gN,lt_of_lt_of_le->gM,lt_of_not_le->wA,lt_succ_iff_lt_or_eq->Bx,lt_succ_self->nb,lt_trans->E7,mod_add_div->uQ,mod_eq_of_lt->dL,mod_le->Qk,mod_lt->bG,mod_one->qO,mul_add->ej,mul_assoc->fT,mul_comm->dm,mul_div_le->Ql,mul_le_mul->kr,mul_le_mul_left->fS,mul_le_mul_right->cr,mul_lt_mul''->r6,mul_lt_mul_of_pos_right->abj,mul_one->nX,mul_zero->j5,not_le_of_lt->abl,not_lt_zero->ew,pos_of_ne_zero->lP,pow_add->iI,pow_le_pow_right->dR,pow_lt_pow_right->uN,pow_mul->yM,pow_one->Qn,pow_pos->E9,pow_succ->eo,pow_zero->kR,reduceAdd->Kj,reduceSub->Kk,sub_self->yK,sub_sub_self->abm,sub_zero->E8,succ_eq_add_one->abq,succ_mul->gB,two_pow_add_eq_or_of_lt->Bq,two_pow_pos->lQ,zero_add->cI,zero_le->dF,zero_mul->tu
open Rat renaming divInt_eq_div->yC,intCast_mul->yG,num_eq_zero->m9,num_nonneg->E1,zero_mul->Kq
set_option maxHeartbeats 4000000
open Go.aA Go.Proofs Go.Lib
namespace Go.aA
def nJ(m s i:Nat):Nat:=m%ai^i*2^s/ai^i
def apn(m s:Nat):nJ m s 0=0:=by unfold nJ;rw[kR,qO,tu]
def Ef(m s i:Nat):nJ m s i<2^s:=uP (abj (bG m (fR i)) (lQ s))
def Ya{s:Nat}(m i:Nat)(b:s<=31):nJ m s i|||au m i*2^s%ai=au (m*2^s) i/\au m i*2^s/ai=nJ m s (i+1):=by
 have⟨h1,a,h3⟩:=apo (ac:s<=32) (Ef m s i) (cG m i);have e:(m%ai^(i+1)*2^s)/ai^i=nJ m s i+au m i*2^s:=by unfold nJ;rw[sU,fw,fT,oV _ _ (fR i)]
 have d:nJ m s i+au m i*2^s=(nJ m s i+au m i*2^s%ai)+ai*(au m i*2^s/ai):=by have:=uQ (au m i*2^s) ai;omega
 refine⟨?_,?_⟩;have h:=h8 m (ai^(i+1));rw[h1];conv=>rhs;rw[<-h,fw,fT,Nat.add_comm,wS (nb i)]
 show _=_/_%_;rw[e,d,wz,dL a];show _=_/ai^(i+1);rw[eo,<-ll,<-eo,e,d,oV _ _ fz,h6 a,cI]
def gb(m s i j:Nat):Nat:=if j<i then au (m*2^s) j else if j=i then nJ m s i else 0
def vW(m s i j:Nat):Nat:=if j=i then au (m*2^s) i else gb m s i j
def Yd(m s:Nat)(j:Nat):gb m s 0 j=0:=by unfold gb;rw[if_neg (ew _),apn];split<;>rfl
def Yb(m s i:Nat):gb m s i i=nJ m s i:=by unfold gb;rw[if_neg (pM _),if_pos rfl]
def Yc(m s i j:Nat):gb m s (i+1) j=if j=i+1 then nJ m s (i+1)else vW m s i j:=by unfold vW gb;rcases Nat.lt_trichotomy j i with h|h|h;rw[if_pos ac,if_neg ac,if_neg ac,if_pos h];subst h;rw[if_pos ac,if_neg ac,if_pos rfl];rw[if_neg ac,if_neg (ac:¬j=i),if_neg (ac:¬j<i),if_neg (ac:¬j=i)]
def Ja{m s k j:Nat}(b:s<=31)(a:m<ai^k)(h:j<k+1):gb m s k j=au (m*2^s) j:=by
 unfold gb;split;rfl;have:j=k:=ac;subst this;have hb:m*2^s<ai^(j+1):=by rw[eo];exact r6 a (by have:=dR (n:=2) al b;unfold ai;omega)
 rw[if_pos rfl,BW hb];unfold nJ;rw[dL a]
section
variable{P:Program}{G:Nat->Option (List aa)}
def cv.Zd{f:FuncId}{aG:ee}(h:lp P f aG)(a:List (aV P G))(i:Nat){n:Nat}{args:List aa}{ws:List Nat}[bn args](p:Id)(b:nI aG.results ([([i,0],⟨us ws,1,false⟩)]++rest [([i,0],⟨us ws,1,false⟩)] []) (qu aG args a)=nH (.ah [i,0] 1 0 n false) ([([i,0],⟨us ws,1,false⟩)]++rest [([i,0],⟨us ws,1,false⟩)] []) (qu aG args a)):cv P G f args p [] {val:=.ah (i::p) 1 0 n false,rd:=[],up:=[(i::p,some ⟨us ws,1,false⟩)]}:=by refine e9 (up:=[(i::p,⟨us ws,1,false⟩)]) h (λ _=>[]) a args [] (.ah [i,0] 1 0 n false) [([i,0],⟨us ws,1,false⟩)] b (bn.fix _) rfl ?_ ?_ gA am;show aa.ah (bT 0 p _ ([]++[i,0])) _ _ _ _=_;rw[jb,cI];rfl;show [(bT 0 p _ ([]++[i,0]),aJ.aY _ _)]=_;rw[jb,cI];show [([]++i::p,aJ.mk (bD _ (us ws)) 1 false)]=_;rw[bn.fix];rfl
end
end Go.aA
namespace Go.Proofs.YtpcofcmencgkbaaGreat
section
variable(G:Nat->Option (List aa)){m s:Nat}
noncomputable abbrev EI(m s i:Nat):aB->List (Nat×aa):=λ q=>[(0,W m),(1,.int .i64 (s:Int)),(5,.ah q.a 1 0 (af m+1) false),(13,W m),(14,.int .i64 (af m:Int)),(15,.int .i64 (i:Int))]
def apv(d:s<=31)(n:af m<=4194304000000)(i:Nat)(c:i<af m):hM ab G (ao 314) 0 .normal (EI m s i) (dr (af m+1) (gb m s i)) (EI m s (i+1)) (dr (af m+1) (gb m s (i+1))):=by
 have⟨l,g⟩:=Ya m i d;have e:=cG m i;have b:i<af m+1:=ac;have a:i+1<af m+1:=ac;have hc:=gM (Ef m s i) (show 2^s<=ai from bx (dR al d) al);have k:au m i*2^s/ai<ai:=by rw[g];exact gM (Ef m s _) (bx (dR al d) al)
 exact a9 aO [fY 16 c,dU 18 c,hw 21 (fC _ e) .u64,ho 23 (OA (au m i) s ac e),et 26 [1] _ _ b,ik 27 [1] (af m+1) (gb m s i) b (Yb m s i),hw 29 (kN (au m i*2^s)) .u32,ho 30 (Ig (nJ m s i) (au m i*2^s%ai) hc (bG _ fz)),et 31 [1] _ _ b,g6 31 [1] (vW m s i) b (λ j _=>by unfold vW;rw[<-l]),hI 34 c,ho 36 (nK (au m i*2^s)),hw 37 (pC k) .u32,et 38 [1] _ _ a,g6 38 [1] (f:=vW m s i) (v:=au m i*2^s/ai) (gb m s (i+1)) a (λ j _=>by rw[Yc,g]),hI 39 c]
def Yg(c:s<=31)(b:af m<=4194304000000)(p:bz):cv ab G 314 [W m,.int .i64 (s:Int)] p [] {val:=.ah (cx 0::p) 1 0 (af m+1) false,rd:=[],up:=[(cx 0::p,some ⟨us (cj (af m+1) (gb m s (af m))),1,false⟩)]}:=have d:af m<af m+1:=nb _;cv.Zd hN [bw 10 m,hI 11 d,sF 12 (af m+1) (gb m s 0) (λ j _=>Yd m s j),bw 14 m,ug (ao 314) 0 0 (af m) (aB.o 4) (EI m s 0 (aB.o 4)) (dr (af m+1) (gb m s 0) (aB.o 4)) (EI m s) (λ i=>dr (af m+1) (gb m s i)) (.exit 0) (EI m s (af m)) (dr (af m+1) (gb m s (af m))) rfl rfl (apv G c b) (a9 aO [ij 16 (a2 (af m))])] (cx 0) p an
noncomputable abbrev EH(m s i:Nat):aB->List (Nat×aa):=λ q=>[(0,W m),(1,.int .i64 (s:Int)),(5,.ah q.a 1 0 (af m+1) false),(6,.int .i64 (i:Int))]
def arT(d:s<=31)(n:af m<=4194304000000)(i:Nat)(c:i<af m):hM ab G (ao 256) 0 .normal (EH m s i) (dr (af m+1) (gb m s i)) (EH m s (i+1)) (dr (af m+1) (gb m s (i+1))):=by
 have⟨l,g⟩:=Ya m i d;have e:=cG m i;have b:i<af m+1:=ac;have a:i+1<af m+1:=ac;have hc:=gM (Ef m s i) (show 2^s<=ai from bx (dR al d) al);have k:au m i*2^s/ai<ai:=by rw[g];exact gM (Ef m s _) (bx (dR al d) al)
 exact a9 aO [bw 14 m,fY 15 c,dU 20 c,hw 22 (fC _ e) .u64,ho 24 (OA (au m i) s ac e),et 29 [1] _ _ b,ik 30 [1] (af m+1) (gb m s i) b (Yb m s i),hw 32 (kN (au m i*2^s)) .u32,ho 33 (Ig (nJ m s i) (au m i*2^s%ai) hc (bG _ fz)),et 34 [1] _ _ b,g6 34 [1] (vW m s i) b (λ j _=>by unfold vW;rw[<-l]),hI 37 c,ho 39 (nK (au m i*2^s)),hw 40 (pC k) .u32,et 41 [1] _ _ a,g6 41 [1] (f:=vW m s i) (v:=au m i*2^s/ai) (gb m s (i+1)) a (λ j _=>by rw[Yc,g]),hI 17 c]
def X9(c:s<=31)(b:af m<=4194304000000)(p:bz):cv ab G 256 [W m,.int .i64 (s:Int)] p [] {val:=.ah (cx 0::p) 1 0 (af m+1) false,rd:=[],up:=[(cx 0::p,some ⟨us (cj (af m+1) (gb m s (af m))),1,false⟩)]}:=have d:af m<af m+1:=nb _;cv.Zd hN [bw 9 m,hI 10 d,sF 11 (af m+1) (gb m s 0) (λ j _=>Yd m s j),ug (ao 256) 0 0 (af m) (aB.o 4) (EH m s 0 (aB.o 4)) (dr (af m+1) (gb m s 0) (aB.o 4)) (EH m s) (λ i=>dr (af m+1) (gb m s i)) (.exit 0) (EH m s (af m)) (dr (af m+1) (gb m s (af m))) rfl rfl (arT G c b) (a9 aO [bw 14 m,ij 15 (a2 (af m))])] (cx 0) p an
end
end Go.Proofs.YtpcofcmencgkbaaGreat
namespace Go.aA
def H8{a b:Nat}(c:a<ai)(hb:b<ai):ai*a+b<18446744073709551616:=by unfold ai at*;omega
def WZ{q Q:Nat}(h1:q=Q+1)(a:q<ai):da.wrap ((q:Int)-1)=(Q:Int):=by rw[iy];unfold ai at a;omega
def least(C:Nat->Bool):∀k,(∀i,i<k->C i=true)\/∃N,N<k/\(∀i,i<N->C i=true)/\C N=false
 |0=>.inl λ i a=>absurd a (ew _)|k+1=>by
   rcases least C k with h|⟨N,h1,b⟩;cases e:C k with|true=>exact .inl λ i a=>(Bx.1 a).elim (h i) λ g=>g▸e|false=>exact .inr ⟨k,ac,h,e⟩
   exact .inr ⟨N,ac,b⟩
def fV(M V c:Nat):Nat:=M%ai^c+ai^c*(M/ai^c%V)
def cZ(M V i:Nat):Nat:=au M i+ai*(M/ai^(i+1)%V)
def Sx{M V c:Nat}(h:M/ai^c<V):fV M V c=M:=by unfold fV;rw[dL h];exact uQ _ _
def Sy(M V:Nat):fV M V 0=M%V:=by unfold fV;rw[kR,qO,pL];omega
def Sh{V:Nat}(M i:Nat)(a:0<V):M/ai^i=cZ M V i+V*(ai*(M/ai^(i+1)/V)):=by
 have h:=pW M i;have e:=uQ (M/ai^(i+1)) V;unfold cZ;rw[h];conv=>lhs;rw[<-e]
 rw[ej,Nat.mul_left_comm];omega
def Cn{V:Nat}(M i:Nat)(a:0<V):cZ M V i<ai*V/\cZ M V i/V<ai:=aiU (cG M i) (bG _ a)
def aeM{V:Nat}(M i:Nat)(a:0<V):M/ai^i%V=cZ M V i%V:=by rw[Sh M i a,wz]
def Lv{V:Nat}(M i:Nat)(a:0<V):au (M/V) i=cZ M V i/V:=by rw[KL,Sh M i a,oV _ _ a,wz,dL (Cn M i a).2]
def y1{a p X j:Nat}(b:a<ai^p):au (a+ai^p*X) j=if j<p then au a j else au X (j-p):=by
 split;next h=>exact wS h
 next h=>obtain⟨d,rfl⟩:=Nat.exists_eq_add_of_le (ku h);rw[tt];unfold au;rw[iI,<-ll,oV _ _ (fR p),h6 b,cI]
def Sw(M V i:Nat):fV M V (i+1)=M%ai^i+ai^i*cZ M V i:=by unfold fV cZ;rw[sU,eo,ej,fT];omega
def ae0{V:Nat}(M i:Nat)(a:0<V):fV M V i=M%ai^i+ai^i*(cZ M V i%V):=by unfold fV;rw[aeM M i a]
def Cp(M V i j:Nat):au (fV M V (i+1)) (i+j)=au (cZ M V i) j:=by rw[Sw,y1 (bG _ (fR i)),if_neg ac,tt]
def LB{V n X:Nat}{f:Nat->Nat}(M i:Nat)(a:0<V)(g:ai*V<=ai^n)(c:∀j,(j<i\/i+n<=j)->f j=au (fV M V (i+1)) j)(b:∀j,j<n->au X j=au (cZ M V i%V) j)(j:Nat):wf f i X n j=au (fV M V i) j:=by have e:=(Cn M i a).1;have h:=bG (cZ M V i) a;unfold wf;rw[ae0 M i a,y1 (bG _ (fR i))];split;rw[if_neg ac,b _ ac];rw[c j ac,Sw,y1 (bG _ (fR i))];split;rfl;have d:=dR (n:=ai) fz (ac:n<=j-i);have:V<=ai*V:=abk _ fz;rw[sc ac,sc ac]
def Y7(D k:Nat)(h:D<ai^(k+3)):D=((ai*au D (k+2)+au D (k+1))*ai+au D k)*ai^k+D%ai^k:=by
 have e:=h8 D (ai^k);rw[pW D k,pW D (k+1),pW D (k+1+1),h6 h,j5,cI]at e;conv=>lhs;rw[<-e]
 rw[dm,dm ai (_+_)]
def Y6(V k:Nat)(h:V<ai^(k+2)):V=(au V (k+1)*ai+au V k)*ai^k+V%ai^k:=by
 have e:=h8 V (ai^k);rw[pW V k,pW V (k+1),h6 h,j5,cI]at e;conv=>lhs;rw[<-e]
 rw[dm,dm ai (au V _)]
section
variable{D V k:Nat}
def ye(h l x0 q r:Nat):Prop:=ai<=q\/ai*r+x0<q*l
instance{h l x0 q r:Nat}:Decidable (ye h l x0 q r):=inferInstanceAs(Decidable (_\/_))
def aiZ{h l x0 num M u' v':Nat}(m:0<h)(K:h<ai)(C:l<ai)(F:x0<ai)(hv:v'<M)(hu:u'<M)(s:V=(h*ai+l)*M+v')(u:D=(num*ai+x0)*M+u')(r:D<ai*V)(n:D/V<ai)(L:num<18446744073709551616):∃N,N<=ai/\(∀j,j<=N->j<=num/h/\num%h+j*h<ai)/\(∀j,j<N->ye h l x0 (num/h-j) (num%h+j*h))/\∃q,q<ai/\D/V<=q/\q<=D/V+1/\((¬ye h l x0 (num/h-N) (num%h+N*h)/\q=num/h-N)\/(ye h l x0 (num/h-N) (num%h+N*h)/\ai<=num%h+(N+1)*h/\q+1=num/h-N)):=by
 have i:num/h*h+num%h=num:=by rw[dm];exact h8 num h
 have f:=UL m s u F hu;have p:∀k,(∀j,j<k->decide (ye h l x0 (num/h-j) (num%h+j*h)/\num%h+(j+1)*h<ai)=true)->∀j,j<=k->j<=num/h/\num%h+j*h<ai/\(num/h-j)*h+(num%h+j*h)=num/\D/V<=num/h-j:=λ k I j=>by induction j with|zero=>intro _;exact⟨dF _,by rw[tu,j7];exact E7 (bG _ m) K,by simpa using i,by simpa using f⟩|succ j G=>intro o;have⟨a,b,c,d⟩:=G ac;have⟨J,t2⟩:=of_decide_eq_true (I j ac);have⟨H,y,A,z⟩:=UJ C hv hu m s u r n c d (J.imp id λ g=>by rw[dm];exact g);rw[gB]at t2⊢;rw[show num/h-(j+1)=num/h-j-1 from ac];exact⟨ac,t2,by rw[<-my (num%h)];exact A,y⟩
 rcases least (λ j=>decide (ye h l x0 (num/h-j) (num%h+j*h)/\num%h+(j+1)*h<ai)) (ai+1)with g|⟨N,g1,g2,x⟩;have⟨_,b,_,_⟩:=p _ g (ai+1) (a2 _);have:(ai+1)*1<=(ai+1)*h:=fS _ m;omega;have w:=p N g2;refine⟨N,ac,λ j o=>⟨(w j o).1,(w j o).2.1⟩,λ j o=>(of_decide_eq_true (g2 j o)).1,?_⟩;have⟨a,b,c,d⟩:=w N (a2 _);have x:=of_decide_eq_false x;by_cases t:ye h l x0 (num/h-N) (num%h+N*h);have E:ai<=num%h+(N+1)*h:=ku λ e=>x ⟨t,e⟩;have⟨H,y,A,z⟩:=UJ C hv hu m s u r n c d (t.imp id λ g=>by rw[dm];exact g);have B:=z (by rw[gB]at E;omega);exact⟨num/h-N-1,B.1,y,B.2,.inr ⟨t,E,ac⟩⟩;have v:num/h-N<ai/\(num/h-N)*l<=ai*(num%h+N*h)+x0:=⟨wA λ e=>t (.inl e),ku λ e=>t (.inr e)⟩;exact⟨num/h-N,v.1,d,UM m s u hv v.1 c (by rw[dm _ ai];exact v.2),.inl ⟨t,rfl⟩⟩
end
section
variable{P:Program}{G:Nat->Option (List aa)}
def G7{f:FuncId}{args:List aa}{id:Id}{a b:aJ}{v:aa}(h:∀p,cv P G f args p [(id,a)] {val:=v,rd:=[id],up:=[(id,some b)]}):aV P G:=.rel f args [(id,a)] (λ _=>{val:=v,rd:=[id],up:=[(id,some b)]}) (λ p _=>h p) (λ p x c=>by rw[bU.1 c];exact cg)
def Md(k:Nat)(id:Id)(len l h n:Nat)(a:l<h:=by omega)(b:h<=len:=by omega)(c:h-l=n:=by omega):aV P G:=.st k [] (.slice 1 (.ah id 1 0 len false) (some (.int .i64 (l:Int))) (some (.int .i64 (h:Int))) none) (λ _=>{val:=.ah id 1 l n false}) (λ σ p _=>by simp only[ck,apD a b,c,pF];rfl)
def agz(k:Nat)(id:Id)(len h:Nat)(a:h<=len:=by omega):aV P G:=.st k [] (.slice 1 (.ah id 1 0 len false) none (some (.int .i64 (h:Int))) none) (λ _=>{val:=.ah id 1 0 h false}) (λ σ p _=>by simp only[ck,apE a,pF];rfl)
def agB(k:Nat)(id:Id)(o len h:Nat)(a:h<=len:=by omega):aV P G:=.st k [] (.slice 1 (.ah id 1 o len false) none (some (.int .i64 (h:Int))) none) (λ _=>{val:=.ah id 1 o h false}) (λ σ p _=>by simp only[ck,apC a,pF];rfl)
def TN{f:FuncId}{args args':List aa}{r:aa}(S:List (Id×aJ))(h:ag P G f args' r)(hv:dy (bB S) args args')(a:sf r):aV P G:=.rel f args S (λ _=>{val:=r,rd:=S.map (·.1)}) (λ p _=>cv.of_flat h hv a) (λ p x b=>List.mem_map.2 ⟨x,b,rfl⟩)
def sG{f:FuncId}{args:List aa}{id:Id}{a:aJ}{v:aa}(h:∀p,cv P G f args p [(id,a)] {val:=v,rd:=[id],up:=[]}):aV P G:=.rel f args [(id,a)] (λ _=>{val:=v,rd:=[id],up:=[]}) (λ p _=>h p) (λ p x b=>by rw[bU.1 b];exact cg)
noncomputable def HP{aG:ee}{k:Nat}{e:cn}{A B:List (Nat×aa)}{K cC:List (Id×aJ)}(h:bA P G [0] (.loop (aT aG k)) (λ a s'=>a=e/\bN G [0] s' ⟨fr aG.aH B,nW (b8 cC),cx 0⟩) ⟨fr aG.aH A,bB K,eF 0⟩):aV P G:=.iQ [0] (aT aG k) (fr aG.aH A) K (eF 0) e (fr aG.aH B) (b8 cC) (cx 0) h
def agD{oo:FuncId}(L n s:Nat)(f:Nat->Nat)(k:∀j,j<n->f j=au s j)(a:n<=L)(h:ig P G oo)(g:s<ai^n)(id:Id)(bw:L<=8388608000000:=by omega):aV P G:=vx [(id,⟨us (cj L f),1,false⟩)] (args:=[.ah id 1 0 n false]) (args':=[.sl 1 (us (eM s n))]) (r:=W s) (by have:=h (eM s n) (y2 s n) (by rw[nk];omega);rwa[uB,dL g]at this) (bZ (by
   have e:(us (cj L f)).take n=us (eM s n):=by rw[Zz];congr 1;refine jL (by simp[cj,eM,a]) λ j h1 b=>?_;simp only[eM,aL,cR]at b;simp[cj,eM,k j b]
   rw[<-e];refine nc (av:=⟨us (cj L f),1,false⟩) (by simp[bB,List.lookup]) rfl (by simp[j2,u3,a]) ?_ (by simp[j2,u3,a]) λ d hd=>Pm _ d (gZ hd);rw[List.drop_zero];exact jJ λ c hc=>Pl (cj L f) c (by have⟨e,i,hc⟩:=g3.1 hc;exact g3.2 ⟨e,gZ i,hc⟩)) eH)
structure kX(L o n D:Nat)(f:Nat->Nat):Prop where
 lx:o+n<=L
 Tw:L<=8388608000000
 xl:D<ai^n
 gf:∀i,i<n->f (o+i)=au D i
def kX.wl{L o n D:Nat}{f:Nat->Nat}(H:kX L o n D f):af D<=n:=jF H.xl
def kX.short{L o n D:Nat}{f:Nat->Nat}(H:kX L o n D f):kX L o (af D) D f:=⟨bx (Nat.add_le_add_left H.wl _) H.lx,H.Tw,eS D,λ i a=>H.gf i (gM a H.wl)⟩
def kX.view{L o D:Nat}{f:Nat->Nat}(H:kX L o (af D) D f)(id:Id):View (bB [(id,⟨us (cj L f),1,false⟩)]) (.ah id 1 o (af D) false) (W D):=by
 have g:=H.lx;have e:((us (cj L f)).drop o).take (af D)=us (eM D (af D)):=by
   have b:((cj L f).drop o).take (af D)=eM D (af D):=by refine jL (by simp[cj,eM];omega) λ j h1 a=>?_;simp only[eM,aL,cR]at a;simp[cj,eM,H.gf j a]
   rw[<-b];simp[us,List.map_take,List.map_drop]
 rw[FR,<-e];refine nc (av:=⟨us (cj L f),1,false⟩) (by simp[bB,List.lookup]) rfl (by simp[j2,u3];omega) ?_ (by simp[j2,u3];omega) λ d hd=>Pm _ d (wL (gZ hd));exact jJ λ c hc=>Pl (cj L f) c (by have⟨e,h,hc⟩:=g3.1 hc;exact g3.2 ⟨e,wL (gZ h),hc⟩)
end
end Go.aA
namespace Go.Proofs.YtpcofcmencgkbaaGreat
structure u0(M V cM L k:Nat):Prop where
 hk:af V=k+2
 ri:V<ai^(k+2)CG:cM=L+(k+2)bp:M<ai^cM
 hs:cM<=4194304000001
 dM:M/ai^L<V
section
variable(G:Nat->Option (List aa))(M V cM L k s:Nat)
noncomputable abbrev Cq(c:Nat):aB->List (Nat×aa):=λ r=>[(8,.int .i64 (s:Int)),(9,.ah r.a 1 0 cM false),(10,W V),(11,.int .i64 (af V:Int)),(12,.ah r.b 1 0 L false),(13,.int .u64 (au V (k+1):Int)),(14,.int .u64 (au V k:Int)),(15,.int .i64 (ra c))]
noncomputable abbrev LG(i q:Nat):aB->List (Nat×aa):=λ r=>[(8,.int .i64 (s:Int)),(9,.ah r.a 1 0 cM false),(10,W V),(11,.int .i64 (af V:Int)),(12,.ah r.b 1 0 L false),(13,.int .u64 (au V (k+1):Int)),(14,.int .u64 (au V k:Int)),(15,.int .i64 (i:Int)),(17,.int .u64 (q:Int))]
noncomputable abbrev LF(i q t:Nat):aB->List (Nat×aa):=λ r=>[(8,.int .i64 (s:Int)),(9,.ah r.a 1 0 cM false),(10,W V),(11,.int .i64 (af V:Int)),(12,.ah r.b 1 0 L false),(13,.int .u64 (au V (k+1):Int)),(14,.int .u64 (au V k:Int)),(15,.int .i64 (i:Int)),(17,.int .u64 (q:Int)),(18,.int .u64 (t:Int))]
abbrev rb(c:Nat):aB->List (bz×aJ):=λ r=>[(r.a,⟨us (cj cM (au (fV M V c))),1,false⟩),(r.b,⟨us (cj L (jw (M/V) c)),1,false⟩)]
variable{M V cM L k}
noncomputable def LH(H:u0 M V cM L k){i q t:Nat}(f:i<L)(b:q<ai)(c:t<ai)(x:Bool)(d:decide (ai*t+au (cZ M V i) k<q*au V k)=x):List (aV ab G):=have e:=H.hk;have g:=H.CG;have h:=H.hs;[hb 117 (decide_eq_false (by unfold ai at b;omega):decide ((q:Int)≥4294967296)=false),hw 121 (Dj q (au V k) b (cG V k)) .u64,ho 123 (AY t c),ly 127 i (af V),hw 128 (show cV.wrap (((i+af V:Nat):Int)-2)=((i+k:Nat):Int)by rw[c0];omega),et 129 [1] cM (i+k) ac,ik 130 [1] cM (au (fV M V (i+1))) ac (Cp M V i k),hw 131 (fC _ (cG (cZ M V i) k)) .u64,ho 132 (DD t (au (cZ M V i) k) c (cG _ _)),hb 133 (show decide (((q*au V k:Nat):Int)>((ai*t+au (cZ M V i) k:Nat):Int))=x by rw[<-d,decide_eq_decide];omega)]
noncomputable def SB{q:Nat}(b:ai<=q):aV ab G:=hb 117 (decide_eq_true (by unfold ai at b;omega):decide ((q:Int)≥4294967296)=true)
noncomputable def Gs{q q' t h a:Nat}(g:q=q'+1)(c:q<18446744073709551616)(f:a=t+h)(d:a<8589934592)(x:Bool)(e:decide (ai<=a)=x):List (aV ab G):=[hw 136 (show da.wrap ((q:Int)-1)=(q':Int)by rw[iy];omega) .u64,hw 139 (show da.wrap ((t:Int)+(h:Int))=(a:Int)by rw[iy];omega) .u64,hb 141 (show decide ((a:Int)≥4294967296)=x by rw[<-e,decide_eq_decide];unfold ai;omega)]
def ae2(H:u0 M V cM L k)(z:0<V)(i:Nat)(r:i<L)(num:Nat)(C:num=ai*au (cZ M V i) (k+2)+au (cZ M V i) (k+1)):∃q,q<ai/\cZ M V i/V<=q/\q<=cZ M V i/V+1/\bA ab G [0] (.loop (aT (ao 303) 1)) (λ R s'=>R=.exit 3/\bN G [0] s' ⟨fr (ao 303).aH (LG V cM L k s i q aO),nW (b8 (rb M V cM L (i+1) aO)),cx 0⟩) ⟨fr (ao 303).aH (LF V cM L k s i (num/au V (k+1)) (num%au V (k+1)) aO),bB (rb M V cM L (i+1) aO),eF 0⟩:=by
 have v:=Cn M i z;have U:0<au V (k+1):=lP (se H.hk);have p:=cG (cZ M V i) (k+2);have x:=cG (cZ M V i) (k+1);have A:=cG V (k+1);have m:num<18446744073709551616:=C▸H8 p x;have y:cZ M V i<ai^(k+3):=E7 v.1 (by rw[eo,dm];exact abj H.ri fz);have⟨N,g1,g2,X,q,q1,O,Q,Z⟩:=aiZ (D:=cZ M V i) (V:=V) (M:=ai^k) (num:=num) U A (cG V k) (cG (cZ M V i) k) (bG V (fR k)) (bG (cZ M V i) (fR k)) (Y6 V k H.ri) (by rw[C];exact Y7 _ k y) v.1 v.2 m;have J:num/au V (k+1)<=num:=h7 _ _;generalize My:num/au V (k+1)=f at*;generalize Y:num%au V (k+1)=o at*;refine⟨q,q1,O,Q,?_⟩;have m1:∀j,o+(j+1)*au V (k+1)=o+j*au V (k+1)+au V (k+1):=λ j=>by rw[gB];omega
 have d:∀j,f-j<18446744073709551616:=λ j=>ac;have tb:∀{a b c:Nat},¬c<b->decide (c<b)=false:=λ h=>decide_eq_false h;have h4:=HQ (P:=ab) (G:=G) (c:=aT (ao 303) 1) (n:=(ao 303).aH) (N:=N) (w:=200) (n0:=eF 0) (E:=cx 0) (e:=.exit 3) (q:=aO) (T:=λ j=>LF V cM L k s i (f-j) (o+j*au V (k+1))) (K:=λ _=>rb M V cM L (i+1)) (dx:=LG V cM L k s i q) (cC:=rb M V cM L (i+1)) (fh.start an) (λ j u=>by have⟨S,g⟩:=g2 j (h9 u);have⟨b1,b2⟩:=g2 (j+1) u;have B:f-j=f-(j+1)+1:=ac;by_cases c:ai<=f-j;exact hU (SB G c::Gs G B (d j) (m1 j) (by unfold ai at b2;omega) false (decide_eq_false (abl b2)));have t:=(X j u).resolve_left c;exact hU (LH G H r (wA c) g true (decide_eq_true t)++Gs G B (d j) (m1 j) (by unfold ai at b2;omega) false (decide_eq_false (abl b2)))) (by
   have⟨S,g⟩:=g2 N (a2 _);rcases Z with⟨t,rfl⟩|⟨t,I,F⟩;have c:¬ai<=f-N:=λ e=>t (.inl e);exact hU (LH G H r (wA c) g false (decide_eq_false λ e=>t (.inr e)));have b3:o+(N+1)*au V (k+1)<8589934592:=by rw[m1];unfold ai at g A;omega
   by_cases c:ai<=f-N;exact hU (SB G c::Gs G F.symm (d N) (m1 N) b3 true (decide_eq_true I));exact hU (LH G H r (wA c) g true (decide_eq_true (t.resolve_left c))++Gs G F.symm (d N) (m1 N) b3 true (decide_eq_true I))) am (by unfold eF cx;unfold ai at g1;omega);simp only[E8,tu,j7]at h4;exact h4
noncomputable def SC(H:u0 M V cM L k)(g:0<V){i q:Nat}(j:i<L)(h:bA ab G [0] (.loop (aT (ao 303) 1)) (λ f s'=>f=.exit 3/\bN G [0] s' ⟨fr (ao 303).aH (LG V cM L k s i q aO),nW (b8 (rb M V cM L (i+1) aO)),cx 0⟩) ⟨fr (ao 303).aH (LF V cM L k s i ((ai*au (cZ M V i) (k+2)+au (cZ M V i) (k+1))/au V (k+1)) ((ai*au (cZ M V i) (k+2)+au (cZ M V i) (k+1))%au V (k+1)) aO),bB (rb M V cM L (i+1) aO),eF 0⟩):List (aV ab G):=have e:=H.hk;have l:=H.CG;have m:=H.hs;have d:0<au V (k+1):=lP (se e);have a:=cG (cZ M V i) (k+2);have b:=cG (cZ M V i) (k+1);[rf 90 i,ly 96 i (af V),et 97 [1] cM (i+af V) ac,ik 98 [1] cM (au (fV M V (i+1))) (i:=i+af V) (y:=au (cZ M V i) (k+2)) ac (by rw[e];exact Cp M V i (k+2)),hw 99 (fC _ a) .u64,ho 100 (AY _ a),ly 104 i (af V),hw 105 (show cV.wrap (((i+af V:Nat):Int)-1)=((i+(k+1):Nat):Int)by rw[c0];omega),et 106 [1] cM (i+(k+1)) ac,ik 107 [1] cM (au (fV M V (i+1))) ac (Cp M V i (k+1)),hw 108 (fC _ b) .u64,ho 109 (DD _ _ a b),ho 112 (DX (ai*au (cZ M V i) (k+2)+au (cZ M V i) (k+1)) (au V (k+1)) (H8 a b) (Nat.ne_of_gt d)),ho 115 (D3 (ai*au (cZ M V i) (k+2)+au (cZ M V i) (k+1)) (au V (k+1)) (Nat.ne_of_gt d)),HP h,ly 146 i (af V),hI 147 (ac:i+af V<cM),Md 148 [1] cM i (i+af V+1) (af V+1)]
def ae4(H:u0 M V cM L k)(a:0<V)(i:Nat)(d:i<L):bb ab G (aT (ao 303) 0) (ao 303).aH (cx 9) .normal (Cq V cM L k s (i+1)) (rb M V cM L (i+1)) (Cq V cM L k s i) (rb M V cM L i):=by
 have⟨q,q1,D,y,x⟩:=ae2 G s H a i d _ rfl;have t:=H.hk;have N:=H.CG;have J:=H.hs;have z:=Cn M i a;have I:0<au V (k+1):=lP (se t);have A:=cG (cZ M V i) (k+2);have E:=cG (cZ M V i) (k+1);have l:ai*V<=ai^(af V+1):=by rw[eo,dm,t];exact cr _ (h9 H.ri)
 have F:=h8 (cZ M V i) V;rw[dm]at F;have K:=bG (cZ M V i) a;have C:V<=ai*V:=abk _ fz;have m:q*V<=cZ M V i+V:=by have:=cr V y;rw[gB]at this;omega
 have B:w3 cM i V q (cZ M V i+ai^(af V+1)-q*V) (cZ M V i) (au (fV M V (i+1))):=⟨ac,ac,ac,q1,ac,λ j _=>Cp M V i j,ac⟩;have b:=λ p=>ap2 G B [1] p;have r:=z.2;rcases ai0 a D y with⟨c,e⟩|⟨c,e⟩;have n:∀j,j<af V+1->au (cZ M V i+ai^(af V+1)-q*V+V) j=au (cZ M V i%V) j:=λ j g=>by rw[show cZ M V i+ai^(af V+1)-q*V+V=cZ M V i%V+ai^(af V+1)*1 by rw[e,gB];rw[e,gB]at m;omega,wS g]
 have h:=λ p=>an3 G (L:=cM) (o:=i) (v:=V) (u:=cZ M V i+ai^(af V+1)-q*V) (f:=wf (au (fV M V (i+1))) i (cZ M V i+ai^(af V+1)-q*V) (af V+1)) ac ac (λ j g=>by unfold wf;rw[if_pos ac,tt]) [1] p;rw[tB λ j _=>LB M i a l (λ j g=>by unfold wf;exact if_neg ac) n j]at h;rw[decide_eq_true c]at b;exact a9 aO (SC G s H a d x++[G7 b,hw 153 (WZ e q1) .u64,ly 158 i (af V),hI 159 (ac:i+af V<cM),Md 160 [1] cM i (i+af V+1) (af V+1),G7 h,hw 166 (show jH.wrap ((cZ M V i/V:Nat):Int)=(au (M/V) i:Int)by rw[pC r,Lv M i a]) .u32,et 167 [2] L i d,g6 167 [2] (f:=jw (M/V) (i+1)) (jw (M/V) i) d (GQ _),k5 92 i]);have n:∀j,j<af V+1->au (cZ M V i+ai^(af V+1)-q*V) j=au (cZ M V i%V) j:=λ j g=>by rw[show cZ M V i+ai^(af V+1)-q*V=cZ M V i%V+ai^(af V+1)*1 by rw[e];omega,wS g]
 rw[decide_eq_false (by omega:¬cZ M V i<q*V),tB λ j _=>LB M i a l (λ _ _=>rfl) n j]at b;exact a9 aO (SC G s H a d x++[G7 b,hw 166 (show jH.wrap (q:Int)=(au (M/V) i:Int)by rw[pC q1,Lv M i a,e]) .u32,et 167 [2] L i d,g6 167 [2] (f:=jw (M/V) (i+1)) (jw (M/V) i) d (GQ _),k5 92 i])
abbrev B8(i:Nat):bz:=[1000000000000000000000000000000000000000000000000+i,0]
def ae3(u:∀x,x<ai->0<x->ag ab G 313 [.int .u32 ((x:Nat):Int)] (.int .i64 ((32-ey x:Nat):Int)))(m n:Nat)(i:n≠0)(U:af m<=3774873600000)(q:n<=m)(C:2<af m)(k:Nat)(v:af n=k+2):ag ab G 303 [W m,W n] (.aM [W (m/n),W (m%n)]):=by
 have w:k+1<af n:=ac;have⟨S,I,jz,R,f⟩:=Wj (n:=n) (k:=k+1) v (wR w);have N:=u _ I S;generalize X:32-ey (au n (k+1))=s at*;generalize l:n*2^s=V at*;have D:=fv q;have⟨L,lx⟩:∃L,af m+1=L+(k+2):=⟨af m+1-(k+2),ac⟩;have K:m*2^s<ai^(af m+1):=by rw[eo];exact r6 (eS m) (gN (dR al f) al)
 have o:m*2^s/ai^L<V:=UN (k:=k+2) (c:=L) (m:=m) (s:=s) (A:=m*2^s%ai^L) l.symm (v▸CC i) (by rw[show L+(k+2-1)=af m from ac];exact eS m) (uQ _ _).symm;have b:0<V:=gN (dF _) o;have H:u0 (m*2^s) V (af m+1) L k:=⟨R,jz,lx,K,ac,o⟩;have⟨P,Q,T⟩:=UK (m:=m) (n:=n) (s:=s) (O:=m*2^s/V) (r:=m*2^s%V) i (by rw[l,dm _ V];exact(h8 _ _).symm) (by rw[l];exact bG _ b);have F:=bG (m*2^s) b;have t:af (m*2^s%V)<=4194304000000:=by rw[l]at T;omega
 have p:decide (eg m n<0)=false:=decide_eq_false (by unfold eg;rcases o6 (m:Int) (n:Int)with⟨e,h⟩|⟨e,h⟩|⟨e,h⟩<;>omega);have z:cj (af m+1) (au (fV (m*2^s) V L))=cj (af m+1) (gb m s (af m)):=tB λ j d=>by rw[Sx o];exact(Ja f (eS m) d).symm
 have B:m*2^s/V<ai^L:=uP ((mm (fR L)).1 o);have J:=fC _ (cG V (k+1));have y:=fC _ (cG V k);have E:ag ab G 262 [.sl 1 (us (cj (af (m*2^s%V)) (jx (m*2^s%V/2^s) (af (m*2^s%V)))))] (W (m*2^s%V/2^s)):=by rw[tB (g:=au (m*2^s%V/2^s)) λ j d=>GU d];have:=oK G (eM (m*2^s%V/2^s) (af (m*2^s%V))) (y2 _ _) (by rw[nk];omega);rwa[uB,dL (gN (h7 _ _) (eS _))]at this
 rw[<-P,<-Q];exact bK [hc (Lp G (m:=m) (n:=n) (Lk G) (Lm G) ac),hb 23 p,bw 28 m,hb 29 (decide_eq_false ac:decide ((af m:Int)<=2)=false),bw 44 n,hb 45 (show((af n:Int)==1)=false by simp;omega),bw 55 n,hw 56 (show cV.wrap ((af n:Int)-1)=((k+1:Nat):Int)by rw[c0];omega),dU 57 w,hc N,c3 (Yg G f (ac:af m<=4194304000000)),c3 (Yg G f (ac:af n<=4194304000000)),rh (af n+1) V (gb n s (af n)) (λ j d=>by rw[<-l];exact Ja f (eS n) d) (oK G) (by rw[v];exact gM jz (dR fz ac)) (id:=[cx 0,28,0]),bw 68 V,hw 72 (show cV.wrap (((af m+1:Nat):Int)-(af V:Int))=(L:Int)by rw[c0];omega),Mc 73 L (m*2^s/V),hw 76 (show cV.wrap ((af V:Int)-1)=((k+1:Nat):Int)by rw[c0];omega),dU 77 (ac:k+1<af V),hw 79 J .u64,hw 82 (show cV.wrap ((af V:Int)-2)=((k:Nat):Int)by rw[c0];omega),dU 83 (ac:k<af V),hw 85 y .u64,k5 88 L,HR (ao 303) 0 L ⟨[cx 0,25,0],[39,0],[3],[4]⟩ (Cq V (af m+1) L k s L ⟨[cx 0,25,0],[39,0],[3],[4]⟩) [([cx 0,25,0],⟨us (cj (af m+1) (gb m s (af m))),1,false⟩),([39,0],⟨us (cj L (jw (m*2^s/V) L)),1,false⟩)] (λ j=>Cq V (af m+1) L k s (L-j)) (λ j=>rb (m*2^s) V (af m+1) L (L-j)) (.exit 1) (Cq V (af m+1) L k s 0) (rb (m*2^s) V (af m+1) L 0) (by simp only[E8]) (by simp only[E8,rb,z]) (λ j d=>by have h:=ae4 G s H b (L-(j+1)) ac;rwa[show L-(j+1)+1=L-j from ac]at h) (by simp only[yK];exact a9 aO []),rh L (m*2^s/V) (jw (m*2^s/V) 0) (λ _ _=>if_pos (dF _)) (oK G) B (id:=B8 1),agz 172 (B8 0) (af m+1) (af V),agD (af m+1) (af V) (m*2^s%V) (au (fV (m*2^s) V 0)) (λ j _=>by rw[Sy]) ac (oK G) (E7 F (eS V)) (B8 0),hc (YF G f t),hc E]
def ae5(i:∀x,x<ai->0<x->ag ab G 313 [.int .u32 ((x:Nat):Int)] (.int .i64 ((32-ey x:Nat):Int)))(d:∀n,n<18446744073709551616->ag ab G 304 [W n] (.int .u64 ((n:Nat):Int))):FD G 303:=λ m n b q r=>by
 have a:=Lp G (m:=m) (n:=n) (Lk G) (Lm G) ac;by_cases l:m<n;rw[h6 l,dL l];refine ag.oN hN [hc a,hb 23 (decide_eq_true (by unfold eg;rw[vi ac];decide):decide (eg m n<0)=true),hc (R2 G m ac)] [] (.aM [.ar,W m]) an rfl (bg.fix _) gA λ σ _=>mq (bZ ?_ (bZ (fx (w4 m)) eH));rw[W,jt];exact e8 1;have f:decide (eg m n<0)=false:=decide_eq_false (by unfold eg;rcases o6 (m:Int) (n:Int)with⟨e,h⟩|⟨e,h⟩|⟨e,h⟩<;>omega);by_cases h1:af m<=2;have rP:=Dc h1;have u2:n<18446744073709551616:=ac;exact bK [hc a,hb 23 f,bw 28 m,hb 29 (decide_eq_true ac:decide ((af m:Int)<=2)=true),hc (d m rP),hc (d n u2),ho 36 (DX m n rP b),hc (GO G (m/n) (gN (h7 _ _) rP)),ho 40 (D3 m n b),hc (GO G (m%n) (gN (Qk _ _) rP))];have p:0<af n:=by have:=@gL n;omega
 by_cases o:af n=1;have j:=eS n;rw[o]at j;have e:au n 0=n:=by rw[BW j,kR,pL]
 have h:=ae7 G (m:=m) (w:=n) (oK G) (GO G) ac (by simpa using j) ac;have g:kM 1 (W n) (.int .i64 ((0:Nat):Int))=some (.cE [Bb n] 0):=by have:=FT (wR p);rw[e]at this;exact this
 exact bK [hc a,hb 23 f,bw 28 m,hb 29 (decide_eq_false ac:decide ((af m:Int)<=2)=false),bw 44 n,hb 45 (show((af n:Int)==1)=true by rw[o];rfl),ho 48 g,hc h];exact ae3 G i m n b q ac ac (af n-2) ac
end
section
variable(G:Nat->Option (List aa))
noncomputable abbrev MX(n x j:Nat):aB->List (Nat×aa):=λ _=>[(0,W n),(3,.int .i64 (j:Int)),(4,.int .u32 ((x/2^j:Nat):Int))]
def U2(n k:Nat)(g:af n=k+1)(f:k<=4194304000000):ag ab G 255 [W n] (.int .i64 ((32*k+ey (au n k):Nat):Int)):=by have c:=lP (se g);have a:=cG n k;generalize d:au n k=x at*;have⟨b1,b2⟩:=ze a c;have b3:=Ca a c;exact bK [bw 6 n,hb 7 (show((af n:Int)==0)=false by simp;omega),bw 10 n,hw 11 (show cV.wrap ((af n:Int)-1)=(k:Int)by rw[c0];omega),ho 12 (d▸FT (wR (ac:k<af n))),ug (ao 255) 0 0 (ey x) (aB.o 0) [(0,W n),(3,.int .i64 0),(4,.int .u32 (x:Int))] [] (MX n x) (λ _ _=>[]) (.exit 0) (MX n x (ey x)) (λ _=>[]) (by simp only[MX,kR,pL];rfl) rfl (λ j e=>by have h:0<x/2^j:=Nat.div_pos (by have:=dR (n:=2) al (ac:j+1<=ey x);rw[eo]at this;omega) (lQ j);have q:=anu (x/2^j) (gN (h7 _ _) a);rw[ll,<-eo]at q;exact a9 aO [hb 15 (decide_eq_true ac:decide (((x/2^j:Nat):Int)>0)=true),hI 19 e,ho 17 q]) (a9 aO [hb 15 (decide_eq_false (by rw[h6 b1];decide):decide (((x/2^ey x:Nat):Int)>0)=false)]),bw 21 n,hw 22 (show cV.wrap ((af n:Int)-1)=(k:Int)by rw[c0];omega),hw 23 (show cV.wrap (32*(k:Int))=((32*k:Nat):Int)by rw[c0];omega),hw 25 (Q9 (32*k) (ey x) ac)]
variable{L o n D:Nat}{f:Nat->Nat}
abbrev toF(o j:Nat):aB->List (Nat×aa):=λ r=>[(0,.ah r.a 1 o j false)]
def toV(H:kX L o n D f)(id p:bz):cv ab G 223 [.ah id 1 o n false] p [(id,⟨us (cj L f),1,false⟩)] {val:=.ah id 1 o (af D) false,rd:=[id],up:=[]}:=by
 have hw:=H.wl;have g1:=H.lx;have g2:=H.Tw;have rd:∀i,i<n-af D->lq ab G (aT (ao 223) 0) (ao 223).aH 200 .normal (toF o (n-i)) (dr L f) (toF o (n-(i+1))) (dr L f):=λ i k=>by
   have⟨j,g⟩:∃j,n-i=j+1:=⟨n-i-1,ac⟩;rw[g,show n-(i+1)=j from ac];have e:f (o+j)=0:=by rw[H.gf j ac];exact pV ac
   exact hU [hb 5 (decide_eq_true ac:decide (((j+1:Nat):Int)>0)=true),zI 10 j,l4 11 [1] o (j+1) j false ac,ik 12 [1] L f ac e,zI 18 j,agB 19 [1] o (j+1) j]
 have d:lq ab G (aT (ao 223) 0) (ao 223).aH 200 (.exit 0) (toF o (af D)) (dr L f) (toF o (af D)) (dr L f):=by
   rcases h:af D with _|q;exact hU [];have e:=H.gf q ac;have c:((au D q:Int)==0)=false:=by simpa using se h
   exact hU [hb 5 (decide_eq_true ac:decide (((q+1:Nat):Int)>0)=true),zI 10 q,l4 11 [1] o (q+1) q false ac,ik 12 [1] L f ac e,hb 13 c]
 exact Ki hN [vF (ao 223) 0 0 (n-af D) aO (toF o n aO) (dr L f aO) (λ i=>toF o (n-i)) (λ _=>dr L f) (.exit 0) (toF o (af D)) (dr L f) rfl rfl rd (by rw[abm hw];exact d)] (λ r=>[.ah r.a 1 o n false]) (λ r=>.ah r.a 1 o (af D) false) (dr L f) (λ _=>[]) an ⟨id,[2],[3],[4]⟩ p am am
noncomputable abbrev Dh(o l D n i c:Nat):aB->List (Nat×aa):=λ r=>[(0,.ah r.a 1 o l false),(1,W n),(5,.ah r.b 1 0 l false),(6,.int .u64 (c:Int)),(7,.int .i64 (i:Int))]
abbrev EE(L l s:Nat)(f:Nat->Nat)(i:Nat):aB->List (bz×aJ):=λ r=>[(r.a,⟨us (cj L f),1,false⟩),(r.b,⟨us (cj l (jx s i)),1,false⟩)]
variable{l m:Nat}
def arN(H:kX L o l D f)(h:m<=D)(k:l<=4194304000001)(i:Nat)(a:i<l):lq ab G (aT (ao 222) 0) (ao 222).aH 200 .normal (Dh o l D m i (cY (D-m) m i)) (EE L l (D-m) f i) (Dh o l D m (i+1) (cY (D-m) m (i+1))) (EE L l (D-m) f (i+1)):=by have g1:=H.lx;have e:=H.gf i a;have⟨c,d,g⟩:=Xt (Lx h i) (cG D i) (cG m i) (cG (D-m) i) (sy (D-m) m i) (sy (D-m) m (i+1));by_cases b:i<af m;exact hU [fY 16 a,bw 21 m,fY 22 b,dU 25 b,l4 30 [1] o l i false a,ik 31 [1] L f ac e,hw 37 c .u64,hw 41 d .u32,et 42 [2] _ i a,o9 42 (D-m) a [2],ho 44 (nK (au D i+ai-au m i-cY (D-m) m i)),hw 45 g .u64,hI 18 a];have z:=pV (ku b);rw[z]at c d g;exact hU [fY 16 a,bw 21 m,ij 22 (ku b),l4 30 [1] o l i false a,ik 31 [1] L f ac e,hw 37 c .u64,hw 41 d .u32,et 42 [2] _ i a,o9 42 (D-m) a [2],ho 44 (nK (au D i+ai-0-cY (D-m) m i)),hw 45 g .u64,hI 18 a]
def akq(H:kX L o l D f)(h:m<=D)(c:l<=4194304000001)(id p:bz):cv ab G 222 [.ah id 1 o l false,W m] p [(id,⟨us (cj L f),1,false⟩)] {val:=W (D-m),rd:=[id],up:=[]}:=Ki hN [zH 12 l (D-m),vF (ao 222) 0 0 l ⟨[1],[3,0],[3],[4]⟩ (Dh o l D m 0 0 ⟨[1],[3,0],[3],[4]⟩) (EE L l (D-m) f 0 ⟨[1],[3,0],[3],[4]⟩) (λ i=>Dh o l D m i (cY (D-m) m i)) (EE L l (D-m) f) (.exit 0) (Dh o l D m l (cY (D-m) m l)) (EE L l (D-m) f l) (by simp only[zn]) rfl (arN G H h c) (hU [ij 16 (a2 l)]),rh l (D-m) (jx (D-m) l) (λ _=>GU) (mQ G) (gN (Nat.sub_le _ _) H.xl) (id:=[3,0])] (λ r=>[.ah r.a 1 o l false,W m]) (λ _=>W (D-m)) (dr L f) (λ _=>[]) an ⟨id,[2],[3],[4]⟩ p am am
end
section
variable(G:Nat->Option (List aa)){L o D V k:Nat}{f:Nat->Nat}
noncomputable abbrev Gp(o V q:Nat):aB->List (Nat×aa):=λ r=>[(0,.ah r.a 1 o (af V+1) false),(1,W V),(7,.int .u64 (q:Int)),(8,W (V*q))]
noncomputable def Sl(H:kX L o (af V+1) D f)(a:af D<=4194304000000)(q:Nat)(x:Bool)(c:decide (D<V*q)=x):List (aV ab G):=[sG (toV G H [1]),TN [([1],⟨us (cj L f),1,false⟩)] (DY G (m:=D) (n:=V*q) a) (bZ (H.short.view [1]) (bZ (fx (w4 (V*q))) eH)) (sf.int _ _),hb 42 (show decide (eg D (V*q)<0)=x by rw[<-c,decide_eq_decide];unfold eg;rcases o6 (D:Int) ((V*q:Nat):Int)with⟨e,h⟩|⟨e,h⟩|⟨e,h⟩<;>omega)]
def Sm(H:kX L o (af V+1) D f)(v:0<V)(h:∀q,q<ai->af (V*q)<=4194304000000)(a:af D<=4194304000000){q1 Q:Nat}(d:q1<ai)(t:Q<=q1)(g:V*Q<=D)(i:D<V*(Q+1)):bA ab G [0] (.loop (aT (ao 257) 0)) (λ r s'=>r=.exit 0/\bN G [0] s' ⟨fr (ao 257).aH (Gp o V Q aO),nW (b8 (dr L f aO)),cx 0⟩) ⟨fr (ao 257).aH (Gp o V q1 aO),bB (dr L f aO),eF 0⟩:=by have h4:=HQ (P:=ab) (G:=G) (c:=aT (ao 257) 0) (n:=(ao 257).aH) (N:=q1-Q) (w:=200) (n0:=eF 0) (E:=cx 0) (e:=.exit 0) (q:=aO) (T:=λ j=>Gp o V (q1-j)) (K:=λ _=>dr L f) (dx:=Gp o V Q) (cC:=dr L f) (fh.start an) (λ j x=>by have p:q1-j=q1-(j+1)+1:=ac;have u:D<V*(q1-j):=gM i (fS _ ac);have l:=XJ G (mQ G) (m:=V*(q1-j)) (n:=V) (Nat.le_mul_of_pos_right _ ac) (h _ ac);rw[show V*(q1-j)-V=V*(q1-(j+1))by rw[p,Nat.mul_succ,Nat.add_sub_cancel]]at l;exact hU (Sl G H a (q1-j) true (decide_eq_true u)++[hw 44 (WZ p ac) .u64,hc l])) (by rw[abm t];exact hU (Sl G H a Q false (decide_eq_false (Nat.not_lt_of_le g)))) am (by unfold eF cx;unfold ai at d;omega);exact h4
noncomputable def Sn(H:kX L o (af V+1) D f)(c:af V=k+2)(h:k+3<=4194304000000)(e:0<V):List (aV ab G):=have g1:=H.lx;have a:=cG D (k+2);have b:=cG D (k+1);have g:=cG V (k+1);[bw 10 V,l4 13 [1] o (af V+1) (af V) false ac,ik 14 [1] L f (i:=o+af V) (y:=au D (k+2)) ac (by rw[H.gf _ ac,c]),hw 15 (fC _ a) .u64,ho 16 (AY _ a),hw 19 (show cV.wrap ((af V:Int)-1)=((k+1:Nat):Int)by rw[c0];omega),l4 20 [1] o (af V+1) (k+1) false ac,ik 21 [1] L f (i:=o+(k+1)) ac (H.gf _ ac),hw 22 (fC _ b) .u64,ho 23 (DD _ _ a b),hw 26 (show cV.wrap ((af V:Int)-1)=((k+1:Nat):Int)by rw[c0];omega),dU 27 (ac:k+1<af V),hw 29 (fC _ g) .u64,ho 30 (DX (ai*au D (k+2)+au D (k+1)) (au V (k+1)) (H8 a b) (se c))]
def aeQ(H:kX L o (af V+1) D f)(s:af V=k+2)(z:V<ai^(k+2))(n:k+3<=4194304000000)(b:0<V)(C:D<ai*V)(d:D/V<ai)(id p:bz):cv ab G 257 [.ah id 1 o (af V+1) false,W V] p [(id,⟨us (cj L f),1,false⟩)] {val:=.aM [.int .u32 ((D/V:Nat):Int),W (V*(D/V))],rd:=[id],up:=[]}:=by
 have v:=cG D (k+2);have u:=cG D (k+1);have B:=H8 v u;have t:∀q,q<ai->V*q<ai^(k+3):=λ q h=>by rw[eo];exact r6 z h
 have m:D<ai^(k+3):=by have:=H.xl;rwa[s]at this
 have F:=an0 (num:=ai*au D (k+2)+au D (k+1)) (h:=au V (k+1)) (V:=V) (D:=D) (x0:=au D k) (M:=ai^k) (u':=D%ai^k) (l:=au V k) (v':=V%ai^k) (lP (se s)) (Y6 V k z) (Y7 D k m) (cG D k) (bG _ (fR k)) d;have j:∀q,q<ai->af (V*q)<=4194304000000:=λ q h=>bx (jF (t q h)) n;have i:af D<=4194304000000:=bx (jF m) n;have y:∀q,q<ai->ag ab G 225 [W V,.sl 1 (us [q])] (W (V*q)):=λ q h=>by have:=XO G V [q] (λ w hw=>by rw[bU.1 hw];exact h) ac am;simpa[val]using this
 by_cases c:4294967295<(ai*au D (k+2)+au D (k+1))/au V (k+1);have E:D/V<=4294967295:=by unfold ai at d;omega
 have x:=Sm G H b j i (q1:=4294967295) (by unfold ai;omega) E (Ql D V) (abn D b);exact Ki hN (Sn G H s n b++[hb 32 (decide_eq_true ac:decide ((((ai*au D (k+2)+au D (k+1))/au V (k+1):Nat):Int)>4294967295)=true),ox [32,0] 1 (us [4294967295]) 1 rfl (A:=[W V]) (y 4294967295 (by unfold ai;omega)),HP x,hw 49 (pC d) .u32]) (λ r=>[.ah r.a 1 o (af V+1) false,W V]) (λ _=>.aM [.int .u32 ((D/V:Nat):Int),W (V*(D/V))]) (dr L f) (λ _=>[]) an ⟨id,[2],[3],[4]⟩ p am am;have e:(ai*au D (k+2)+au D (k+1))/au V (k+1)<ai:=by unfold ai at c⊢;omega
 have x:=Sm G H b j i e (bx F (Nat.min_le_left _ _)) (Ql D V) (abn D b);exact Ki hN (Sn G H s n b++[hb 32 (decide_eq_false ac:decide ((((ai*au D (k+2)+au D (k+1))/au V (k+1):Nat):Int)>4294967295)=false),hw 35 (pC e) .u32,ox [31,0] 1 (us [(ai*au D (k+2)+au D (k+1))/au V (k+1)]) 1 rfl (A:=[W V]) (y _ e),HP x,hw 49 (pC d) .u32]) (λ r=>[.ah r.a 1 o (af V+1) false,W V]) (λ _=>.aM [.int .u32 ((D/V:Nat):Int),W (V*(D/V))]) (dr L f) (λ _=>[]) an ⟨id,[2],[3],[4]⟩ p am am
end
section
variable(G:Nat->Option (List aa))(M V cM L jg k s:Nat)
noncomputable abbrev D1(c:Nat):aB->List (Nat×aa):=λ r=>[(10,.int .i64 (s:Int)),(11,.ah r.a 1 0 cM false),(12,W V),(13,.ah r.b 1 0 jg false),(14,.int .i64 (ra c))]
noncomputable abbrev II(i R j:Nat):aB->List (Nat×aa):=λ r=>[(10,.int .i64 (s:Int)),(11,.ah r.a 1 0 cM false),(12,W V),(13,.ah r.b 1 0 jg false),(14,.int .i64 (i:Int)),(15,.ah r.a 1 i (af V+1) false),(18,W R),(19,.int .i64 (j:Int))]
abbrev AJ(c:Nat):aB->List (bz×aJ):=λ r=>[(r.a,⟨us (cj cM (au (fV M V c))),1,false⟩),(r.b,⟨us (cj jg (jw (M/V) c)),1,false⟩)]
abbrev AH(i R j:Nat):aB->List (bz×aJ):=λ r=>[(r.a,⟨us (cj cM (wf (au (fV M V (i+1))) i R j)),1,false⟩),(r.b,⟨us (cj jg (jw (M/V) i)),1,false⟩)]
variable{M V cM L jg k}
def arR(H:u0 M V cM L k)(e:cM=jg+1)(R i:Nat)(l:i<L)(j:Nat)(a:j<af V+1):lq ab G (aT (ao 224) 1) (ao 224).aH 200 .normal (II V cM jg s i R j) (AH M V cM jg i R j) (II V cM jg s i R (j+1)) (AH M V cM jg i R (j+1)):=by have m:=H.hk;have g:=H.CG;have h:=H.hs;have b:i+j<cM:=ac;by_cases c:j<af R;exact hU [fY 105 a,l4 110 [1] i (af V+1) j false a,g6 110 [1] (f:=wf (au (fV M V (i+1))) i R j) (v:=0) (λ x=>if x=i+j then 0 else wf (au (fV M V (i+1))) i R j x) b (λ x _=>rfl),bw 113 R,fY 114 c,dU 119 c,l4 121 [1] i (af V+1) j false a,g6 121 [1] (f:=λ x=>if x=i+j then 0 else wf (au (fV M V (i+1))) i R j x) (v:=au R j) (wf (au (fV M V (i+1))) i R (j+1)) b (λ x _=>by rw[Bc];exact W9 x),hI 107 a];have z:=pV (ku c);exact hU [fY 105 a,l4 110 [1] i (af V+1) j false a,g6 110 [1] (f:=wf (au (fV M V (i+1))) i R j) (v:=0) (wf (au (fV M V (i+1))) i R (j+1)) b (λ x _=>by rw[Bc,z]),bw 113 R,ij 114 (ku c),hI 107 a]
def anY(H:u0 M V cM L k)(t:cM=jg+1)(o:k+3<=4194304000000)(x:L<=jg)(d:0<V)(i:Nat)(z:i<L):bb ab G (aT (ao 224) 0) (ao 224).aH (cx 9) .normal (D1 V cM jg s (i+1)) (AJ M V cM jg (i+1)) (D1 V cM jg s i) (AJ M V cM jg i):=by
 have u:=H.hk;have B:=H.CG;have A:=H.hs;have l:=Cn M i d;have h:ai*V<=ai^(af V+1):=by rw[eo,dm,u];exact cr _ (h9 H.ri)
 have S:kX cM i (af V+1) (cZ M V i) (au (fV M V (i+1))):=⟨ac,ac,gM l.1 h,λ j _=>Cp M V i j⟩;have dg:=λ p=>aeQ G S u H.ri o d l.1 l.2 [1] p;have m:=λ p=>akq G S.short (Ql (cZ M V i) V) (bx S.wl ac) [1] p;rw[show cZ M V i-V*(cZ M V i/V)=cZ M V i%V by have:=h8 (cZ M V i) V;omega]at m;rw[<-Lv M i d]at dg m;have y:cj cM (wf (au (fV M V (i+1))) i (cZ M V i%V) (af V+1))=cj cM (au (fV M V i)):=tB λ j _=>LB M i d h (λ _ _=>rfl) (λ _ _=>rfl) j;have v:=HQ (P:=ab) (G:=G) (c:=aT (ao 224) 1) (n:=(ao 224).aH) (N:=af V+1) (w:=200) (n0:=eF 0) (E:=cx 0) (e:=.exit 2) (q:=aO) (T:=II V cM jg s i (cZ M V i%V)) (K:=AH M V cM jg i (cZ M V i%V)) (dx:=II V cM jg s i (cZ M V i%V) (af V+1)) (cC:=AJ M V cM jg i) (fh.start an) (arR G s H t _ i z) (by unfold AH;rw[y];exact hU [ij 105 (a2 (af V+1))]) am (by unfold eF cx;omega);rw[show AH M V cM jg i (cZ M V i%V) 0=λ r=>[(r.a,⟨us (cj cM (au (fV M V (i+1)))),1,false⟩),(r.b,⟨us (cj jg (jw (M/V) i)),1,false⟩)]by funext r;unfold AH;rw[PL]]at v;exact a9 aO [rf 77 i,bw 84 V,ly 85 i (af V),hI 86 (ac:i+af V<cM),Md 87 [1] cM i (i+af V+1) (af V+1),sG dg,et 97 [2] jg i ac,g6 97 [2] (f:=jw (M/V) (i+1)) (jw (M/V) i) (ac:i<jg) (GQ _),sG (toV G S [1]),sG m,HP v,k5 79 i]
def aju{N:Nat}(h:N<=4194304000000):cV.wrap (32*(N:Int))=((32*N:Nat):Int):=by rw[c0];omega
def ajv{N k b s:Nat}(h:N<=4194304000000)(hN:N=k+2)(h1:1<=b)(a:b<=32)(c:32-b=s):cV.wrap (((32*N:Nat):Int)-((32*(k+1)+b:Nat):Int))=(s:Int):=by rw[c0];omega
def ajw{a b L:Nat}(h:a+1=L+b)(c:a<=4194304000000)(h3:b<=a):cV.wrap ((a:Int)-(b:Int))=ra L:=by rw[c0,Su];omega
def anX(m n:Nat)(l:n≠0)(X:af m<=3774873600000)(g:n<=m)(E:2<af m)(k:Nat)(o:af n=k+2):ag ab G 224 [W m,W n] (.aM [W (m/n),W (m%n)]):=by
 have I:k+1<af n:=ac;have⟨R,P,jz,w,d⟩:=Wj (n:=n) (k:=k+1) o (wR I);have z:=fv g;have C:=Ca P R;have Q:=U2 G n (k+1) o ac;have⟨s,y⟩:∃s,32-ey (au n (k+1))=s:=⟨_,rfl⟩;rw[y]at jz w d;generalize p:n*2^s=V at*;have F:=fv g;have⟨L,lx⟩:∃L,af m+1=L+(k+2):=⟨af m+1-(k+2),ac⟩;have x:m*2^s<ai^(af m+1):=by rw[eo];exact r6 (eS m) (gN (dR al d) al)
 have q:m*2^s/ai^L<V:=UN (k:=k+2) (c:=L) (m:=m) (s:=s) (A:=m*2^s%ai^L) p.symm (o▸CC l) (by rw[show L+(k+2-1)=af m from ac];exact eS m) (uQ _ _).symm;have f:0<V:=gN (dF _) q;have H:u0 (m*2^s) V (af m+1) L k:=⟨w,jz,lx,x,ac,q⟩;have⟨T,S,K⟩:=UK (m:=m) (n:=n) (s:=s) (O:=m*2^s/V) (r:=m*2^s%V) l (by rw[p,dm _ V];exact(h8 _ _).symm) (by rw[p];exact bG _ f);have U:=bG (m*2^s) f;have u:af (m*2^s%V)<=4194304000000:=by rw[p]at K;omega
 have v:decide (eg m n<0)=false:=decide_eq_false (by unfold eg;rcases o6 (m:Int) (n:Int)with⟨e,h⟩|⟨e,h⟩|⟨e,h⟩<;>omega);have J:cj (af m+1) (au (fV (m*2^s) V L))=cj (af m+1) (gb m s (af m)):=tB λ j t=>by rw[Sx q];exact(Ja d (eS m) t).symm
 have D:m*2^s/V<ai^L:=uP ((mm (fR L)).1 q);have i:L<=af m:=ac;have av:=ads G (mQ G) (m:=m*2^s%V) d u;rw[S]at av;rw[<-T];exact bK [hc (DY G (m:=m) (n:=n) ac),hb 23 v,bw 26 m,hb 27 (decide_eq_false ac:decide ((af m:Int)<=2)=false),bw 41 n,hb 42 (show((af n:Int)==1)=false by simp;omega),bw 56 n,hw 57 (aju (N:=af n) ac),hc Q,hw 60 (ajv ac o C.1 C.2 y),c3 (X9 G d (ac:af m<=4194304000000)),c3 (X9 G d (ac:af n<=4194304000000)),rh (af n+1) V (gb n s (af n)) (λ j t=>by rw[<-p];exact Ja d (eS n) t) (mQ G) (by rw[o];exact gM jz (dR fz ac)) (id:=[cx 0,24,0]),bw 69 m,sF 70 (af m) (jw (m*2^s/V) L) (λ j _=>by unfold jw;split;exact sc (gM D (dR fz (by assumption)));rfl),bw 72 m,bw 74 V,hw 75 (ajw (a:=af m) (b:=af V) (L:=L) (by rw[w];exact lx) ac ac),HR (ao 224) 0 L ⟨[cx 0,21,0],[30,0],[3],[4]⟩ (D1 V (af m+1) (af m) s L ⟨[cx 0,21,0],[30,0],[3],[4]⟩) [([cx 0,21,0],⟨us (cj (af m+1) (gb m s (af m))),1,false⟩),([30,0],⟨us (cj (af m) (jw (m*2^s/V) L)),1,false⟩)] (λ j=>D1 V (af m+1) (af m) s (L-j)) (λ j=>AJ (m*2^s) V (af m+1) (af m) (L-j)) (.exit 0) (D1 V (af m+1) (af m) s 0) (AJ (m*2^s) V (af m+1) (af m) 0) (by simp only[E8]) (by simp only[E8,AJ,J]) (λ j t=>by have h:=anY G s H rfl ac i f (L-(j+1)) ac;rwa[show L-(j+1)+1=L-j from ac]at h) (by simp only[yK];exact a9 aO []),rh (af m) (m*2^s/V) (jw (m*2^s/V) 0) (λ _ _=>if_pos (dF _)) (mQ G) (gM D (dR fz i)) (id:=B8 1),rh (af m+1) (m*2^s%V) (au (fV (m*2^s) V 0)) (λ j _=>by rw[Sy]) (mQ G) (gN (Qk _ _) x) (id:=B8 0),hc av]
def anZ:FD G 224:=λ m n c l q=>by
 have a:=DY G (m:=m) (n:=n) ac;by_cases i:m<n;rw[h6 i,dL i];refine ag.oN hN [hc a,hb 23 (decide_eq_true (by unfold eg;rw[vi ac];decide):decide (eg m n<0)=true)] [] (.aM [.ar,W m]) an rfl (bg.fix _) gA λ σ _=>mq (bZ ?_ (bZ (fx (w4 m)) eH));rw[W,jt];exact e8 1;have d:decide (eg m n<0)=false:=decide_eq_false (by unfold eg;rcases o6 (m:Int) (n:Int)with⟨e,h⟩|⟨e,h⟩|⟨e,h⟩<;>omega);by_cases h1:af m<=2;have rP:=Dc h1;have u2:n<18446744073709551616:=ac;exact bK [hc a,hb 23 d,bw 26 m,hb 27 (decide_eq_true ac:decide ((af m:Int)<=2)=true),hc (Yl G rP),hc (Yl G u2),ho 34 (DX m n rP c),hc (JQ G (m/n) (gN (h7 _ _) rP)),ho 38 (D3 m n c),hc (JQ G (m%n) (gN (Qk _ _) rP))];have p:0<af n:=by have:=@gL n;omega
 by_cases j:af n=1;have f:=eS n;rw[j]at f;have b:n<ai:=by simpa using f
 have e:au n 0=n:=by rw[BW f,kR,pL]
 have h:=adA G (m:=m) (w:=n) (mQ G) ac b ac;have o:=bG m (ac:0<n);have g:kM 1 (W n) (.int .i64 ((0:Nat):Int))=some (.cE [Bb n] 0):=by have:=FT (wR p);rw[e]at this;exact this
 exact bK [hc a,hb 23 d,bw 26 m,hb 27 (decide_eq_false ac:decide ((af m:Int)<=2)=false),bw 41 n,hb 42 (show((af n:Int)==1)=true by rw[j];rfl),ho 46 g,hc h,hw 53 (fC (m%n) (E7 o b)) .u64,hc (JQ G (m%n) (by unfold ai at b;omega))];exact anX G m n c l ac ac (af n-2) ac
end
end Go.Proofs.YtpcofcmencgkbaaGreat
namespace Go.Proofs
section
open Go.RowKit Go.Shelf
attribute [local go_sem]Oper.semAt_some
def Tryz.upto{α:Type}(f:Nat->α)(k:Nat):List α:=(List.range k).map f
def Tryz.Zv{α:Type}(f:Nat->α)(k:Nat):Tryz.upto f (k+1)=Tryz.upto f k++[f k]:=by simp[Tryz.upto,List.range_succ]
def Tryz.aqx{α:Type}(f:Nat->α)(k:Nat):(Tryz.upto f k).length=k:=by simp[Tryz.upto]
def Tryz.sv(zs:List Int)(k:Nat):Int×Int:=((zs.length:Int)-1-k,zs[zs.length-1-k]?.getD 0)
def Tryz.sb(c a:Nat)(A B:World):Prop:=Below c A B/\B.cell? ⟨a,0,none⟩=A.cell? ⟨a,0,none⟩
def Tryz.sb.refl(c b:Nat)(A:World):Tryz.sb c b A A:=⟨Below.refl _ _,rfl⟩
def Tryz.sb.trans{c b:Nat}{A B C:World}(h:Tryz.sb c b A B)(k:Tryz.sb c b B C):Tryz.sb c b A C:=⟨h.1.trans k.1,k.2.trans h.2⟩
set_option maxRecDepth 100000 in set_option maxHeartbeats 2000000 in theorem Tryz.adx(F:Fence)(n:Nat)(zE:F.fn 323)(sK:F.round=none)(hn:1<=n)(l wQ NF b off cap:Nat)(zs:List Int)(Ud:zs.length*8<=140737488351232)(hb:b<NF)(J QT:List (Int×Int)->World->Prop)(TX:∀pre x W,J pre W->pre.length<zs.length->YieldAt F (n-1) ab l #[.int .i64 x.1,.int .u32 x.2] W fun e W'=>(e=.returned (.bool true)/\J (pre++[x]) W'/\Tryz.sb NF wQ W W')\/(e=.returned (.bool false)/\QT (pre++[x]) W'))(W:World)(agm:W.cell? ⟨wQ,0,none⟩=some (.slice (some ⟨b,off,none⟩) zs.length cap))(hc:∀j,j<zs.length->W.cell? ⟨b,off+j,none⟩=some (.int .u32 (zs[j]?.getD 0)))(h0:J [] W):CallsIn F n ab 323 #[.func (.yield l) #[] #[],.pointer (some ⟨wQ,0,none⟩)] W fun e W'=>(∃v,e=.returned v)/\((∃ys,ys=Tryz.upto (Tryz.sv zs) zs.length/\J ys W')\/(∃pre,(∃k,k<=zs.length/\pre=Tryz.upto (Tryz.sv zs) k)/\QT pre W')):=by
 refine callsIn_of_wp Qm rfl zE ?_ sK;simp only[abo,r3,fU,gR,Kj,Kk,Kl,Km,Kn,Ko,jK,yx];gi_wp2;gi_loopw [3](fun i wr=>∃k:Nat,k<=zs.length/\i=.int .i64 ((zs.length:Int)-1-k)/\J (Tryz.upto (Tryz.sv zs) k) wr/\Tryz.sb NF wQ W wr)(fun i _=>(abp i+1).toNat);case atStart=>exact⟨0,dF _,am,h0,Tryz.sb.refl _ _ _⟩
 case round=>
   obtain⟨k,hk,rfl,G3,Mw⟩:=hrel;have aty:=Mw.2.trans agm;have T2:∀j,j<zs.length->wr.cell? ⟨b,off+j,none⟩=some (.int .u32 (zs[j]?.getD 0)):=fun j h=>(Mw.1.cell (p:=⟨b,off+j,none⟩) hb).trans (hc j h);by_cases hlt:k<zs.length
   . obtain⟨q,hq⟩:∃q,q=zs.length-1-k:=⟨_,rfl⟩;have Mz:(zs.length:Int)-1-k=q:=ac;have ahw:q<zs.length:=ac;have Mi:Hid (Tryz.sv zs k=((q:Int),zs[q]?.getD 0)):=by show Tryz.sv zs k=_;rw[Tryz.sv,<-hq,Mz]
     have ahv:Hid (q+1+k=zs.length):=by show q+1+k=zs.length;omega
     clear hq;have agT:=T2 q ahw;generalize zs[q]?.getD 0=ath at Mi agT;obtain⟨fn,tmps,assign,body,hy,dM⟩:=TX _ ((q:Int),ath) wr G3 (by rw[Tryz.aqx];exact hlt);dsimp only at hy;rw[Mz];clear Mz TX h0 hc T2;gi_wp2;refine dM.mono ?_;rintro e atp(⟨rfl,agq,ag8⟩|⟨rfl,agr⟩)
     . gi_wp2;go_roundw;case rel=>exact⟨k+1,ac,by have:=ahv.out;congr 1;omega,by rw[Tryz.Zv,Mi.out];exact agq,Mw.trans ag8⟩
       case measure=>simp[abp]
     .gi_wp2;refine bodyPost_ret (results_none rfl _ _ _) rfl ?_;exact⟨⟨_,rfl⟩,.inr ⟨_,⟨k+1,ac,by rw[Tryz.Zv,Mi.out]⟩,agr⟩⟩
   .obtain rfl:k=zs.length:=ac;have aho:(zs.length:Int)-1-zs.length=-1:=ac;rw[aho];gi_wp2;go_end0;exact⟨⟨_,rfl⟩,.inl ⟨_,rfl,G3⟩⟩
def Tryz.y7(e:Nat)(W:World)(c:Value)(zs:List Int):Prop:=(∃a cap,c=.slice a 0 cap/\zs=[])\/∃b off cap,c=.slice (some ⟨b,off,none⟩) zs.length cap/\b<e/\∀j,j<zs.length->W.cell? ⟨b,off+j,none⟩=some (.int .u32 (zs[j]?.getD 0))
def Tryz.y7.below{c:Nat}{A B:World}(h:Below c A B){d:Value}{zs:List Int}:Tryz.y7 c A d zs->Tryz.y7 c B d zs|.inl e=>.inl e|.inr ⟨b,off,cap,e,hb,f⟩=>.inr ⟨b,off,cap,e,hb,λ j g=>(h.cell (p:=⟨b,off+j,none⟩) hb).trans (f j g)⟩
set_option maxRecDepth 100000 in set_option maxHeartbeats 1000000 in theorem Tryz.ady(F:Fence)(n:Nat)(zE:F.fn 323)(sK:F.round=none)(l wQ:Nat)(a:Option Addr)(cap:Nat)(J:List (Int×Int)->World->Prop)(W:World)(atz:W.cell? ⟨wQ,0,none⟩=some (.slice a 0 cap))(h0:J [] W):CallsIn F n ab 323 #[.func (.yield l) #[] #[],.pointer (some ⟨wQ,0,none⟩)] W fun e W'=>(∃v,e=.returned v)/\J [] W':=by
 refine callsIn_of_wp Qm rfl zE ?_ sK;simp only[abo,r3,fU,gR,Kj,Kk,Kl,Km,Kn,Ko,jK,yx];gi_wp2;gi_loopw [3](fun i wr=>i=.int .i64 (-1)/\J [] wr)(fun _ _=>0);case atStart=>exact⟨rfl,h0⟩
 case round=>obtain⟨rfl,G3⟩:=hrel;gi_wp2;go_end0;exact⟨⟨_,rfl⟩,G3⟩
set_option maxHeartbeats 1000000 in theorem Tryz.adg(F:Fence)(n:Nat)(kg:F.fn 318)(sK:F.round=none)(a:Option Addr)(len cap:Nat)(w:World):CallsIn F n ab 318 #[.slice a len cap] w fun e w'=>e=.returned (.func (.func 323) #[] #[.pointer (some ⟨w.heap.size,0,none⟩)])/\w'=w.alloc (.cells #[.slice a len cap] 115):=by refine callsIn_of_wp Tryz.func318 rfl kg ?_ sK;simp only[Tryz.ntmps318,r3,fU,gR,Kj,Kk,Kl,Km,Kn,Ko,jK,yx];gi_wp2;go_ret;exact⟨rfl,rfl⟩
def Tryz.adz(F:Fence)(n:Nat)(s:F.fn 323)(h:F.round=none)(z:1<=n)(f i:Nat)(t:Value)(zs:List Int)(d:zs.length*8<=140737488351232)(w:World)(o:f<w.heap.size)(j:i<=w.heap.size)(v:w.cell? ⟨f,0,none⟩=some t)(C:Tryz.y7 i w t zs):SeqStopsK F n ab 323 #[.pointer (some ⟨f,0,none⟩)] (λ x:Int×Int=>#[Value.int .i64 x.1,Value.int .u32 x.2]) (Tryz.sb i f) (λ ys=>ys=Tryz.upto (Tryz.sv zs) zs.length) (λ m=>∃k,k<=zs.length/\m=Tryz.upto (Tryz.sv zs) k) zs.length w:=λ l J A W u _ _ B r=>by have g:=(u.cell (p:=⟨f,0,none⟩) o).trans v;rcases C.below (u.mono j)with⟨a,cap,rfl,rfl⟩|⟨b,off,cap,rfl,hb,q⟩;exact(Tryz.ady F n s h l f a cap J W g r).mono λ e E⟨D,y⟩=>⟨D,.inl ⟨_,rfl,y⟩⟩;exact Tryz.adx F n s h z l f i b off cap zs d hb J A B W g q r
def Tryz.yb(s v:Int):Int:=bits BinOp.or da (da.wrap (s*4294967296)) (da.wrap v)
def Tryz.toU(l:List (Int×Int)):Int:=l.foldl (λ s x=>Tryz.yb s x.2) 0
def Tryz.toU_snoc(b:List (Int×Int))(x:Int×Int):Tryz.toU (b++[x])=Tryz.yb (Tryz.toU b) x.2:=by simp[Tryz.toU]
set_option maxRecDepth 100000 in set_option maxHeartbeats 2000000 in theorem Tryz.toUint_in(F:Fence)(n:Nat)(h3:F.fn 304)(G1:F.fn 318)(zE:F.fn 323)(sK:F.round=none)(hn:3<=n)(a:Option Addr)(len cap:Nat)(zs:List Int)(Ud:zs.length*8<=140737488351232)(w:World)(hI:Tryz.y7 w.heap.size w (.slice a len cap) zs):CallsIn F n ab 304 #[.slice a len cap] w fun e W'=>e=.returned (.int .u64 (Tryz.toU (Tryz.upto (Tryz.sv zs) zs.length)))/\Below w.heap.size w W':=by
 have h1:1<=n:=ac;refine callsIn_of_wp_marks Tryz.func304 rfl h3 ?_ sK;simp only[Tryz.ntmps304,r3,fU,gR,Kj,Kk,Kl,Km,Kn,Ko,jK,yx];gi_wp2_with(gi_at_call 318;refine(Tryz.adg F (n-1) G1 sK _ _ _ _).mono ?_;rintro e w'⟨rfl,rfl⟩);have Rp:=Boxed.new w 181 (.int .u64 0);have Ro:=Boxed.new (w.alloc (.cells #[.int .u64 0] 181)) 115 (.slice a len cap);rw[World.size_alloc]at Ro;have TL:Below w.heap.size w ((w.alloc (.cells #[.int .u64 0] 181)).alloc (.cells #[.slice a len cap] 115)):=((Below.refl _ w).alloc (a2 _) _).alloc am _;have atD:((w.alloc (.cells #[.int .u64 0] 181)).alloc (.cells #[.slice a len cap] 115)).heap.size=w.heap.size+2:=am;refine wpIn_rangeFunc_ownG sK h1 (gf:=323) (lb:=#[.pointer (some ⟨w.heap.size+1,0,none⟩)]) rfl zE (enters_of Qm an rfl) (Tryz.adz F (n-1) zE sK ac (w.heap.size+1) w.heap.size _ zs Ud _ am (by simp;omega) Ro.cell (hI.below TL)) (fun h k=>h.trans k) (fun W l o o' hl h h2 h3=>⟨belowK_b (w:=w) (a2 _) W l o o' ac h h2 h3,(belowK_b (w:=(w.alloc (.cells #[.int .u64 0] 181)).alloc (.cells #[.slice a len cap] 115)) (a2 _) W l o o' hl h h2 h3).cell (p:=⟨w.heap.size+1,0,none⟩) am⟩) (Below.refl _ _) (fun _=>rfl) (fun pre W=>(W.cell? ⟨w.heap.size,0,none⟩=some (.int .u64 (Tryz.toU pre))/\W.frozen? ⟨w.heap.size,0,none⟩=false)/\Below w.heap.size w W) (fun _ _ _=>False) (OwnFrom.and (Own.from (fun s A B row hs hg hr=>⟨cell_kept hs.1 hg hr,(frozen_kept hs.1 hg hr).trans hs.2⟩) _) (ownFrom_below (a2 _) (by simp;omega))) (fun _ _ _ _ _ hs _ _=>hs) ⟨⟨(Rp.alloc _).cell,(Rp.alloc _).frozen⟩,TL⟩ (fun x=>{tmps:=#[.slice a len cap,undef,.int .u64 0,.pointer (some ⟨w.heap.size,0,none⟩),undef,.int .u32 x.2,.slice a len cap,.func (.func 323) #[] #[.pointer (some ⟨w.heap.size+1,0,none⟩)],.int .i64 x.1,.int .u32 x.2,undef,undef,undef,undef,undef,undef],defers:=[]}) ?assign ?body ?done ?stop;case assign=>intro l x W K hK;gi_wp2;exact hK
 case body=>rintro l pre x W⟨⟨hc,hf⟩,hB⟩_;gi_wp2;exact⟨(KeepsOthers.setCell _ _ _).from _,⟨(Below.refl w.heap.size W).setCell (p:=⟨w.heap.size,0,none⟩) (a2 _) _,World.cell?_of_block (a:=⟨w.heap.size+1,0,none⟩) (Below.heap_setCell _ _ _ _ am)⟩,⟨by rw[Tryz.toU_snoc];exact World.cell?_setCell_same' _ _ _ (by rw[hc];rfl),by rw[World.frozen?_setCell];exact hf⟩,hB.setCell (p:=⟨w.heap.size,0,none⟩) (a2 _) _⟩
 case done=>rintro D ys W hD rfl⟨⟨hc,_⟩,hB⟩hK;gi_wp2;refine⟨am,.inl ⟨_,_,rfl,run_takeDeferred hK,?_⟩⟩;exact⟨_,results_tmp rfl _ _ _,rfl,hB.trans (belowK_b (w:=w) (a2 _) W D _ _ (by simp at hD;omega) hK rfl rfl)⟩
 case stop=>rintro D c pre W _ _ h _;exact h.elim
end
section
open Go.aA Go.RowKit
def ua(ws:List Nat):List Int:=ws.map λ w:Nat=>(w:Int)
def aih(ws:List Nat):(ua ws).length=ws.length:=aL ..
def adp(a b:Nat)(c:a<18446744073709551616)(hb:b<18446744073709551616):bits BinOp.or da (a:Int) (b:Int)=((a|||b:Nat):Int):=by have h:=NQ a b c hb;rw[La]at h;simp only[Option.some.injEq,aa.int.injEq,true_and]at h;rw[<-h];rfl
def Tryz.OM(r a:Nat)(e:r<ai)(d:a<ai):Tryz.yb (r:Int) (a:Int)=((ai*r+a:Nat):Int):=by
 unfold Tryz.yb;have h1:da.wrap ((r:Int)*4294967296)=((ai*r:Nat):Int):=by rw[iy];unfold ai at*;omega
 rw[h1,fC a d,adp _ _ (by unfold ai at*;omega) (by unfold ai at*;omega)];have:=Bq (i:=32) (b:=a) (by unfold ai at d;omega) r;rw[show ai=2^32 from rfl,this]
def Tryz.toU_digits(n:Nat)(i:n<18446744073709551616):Tryz.toU (Tryz.upto (Tryz.sv (ua (digits n))) (ua (digits n)).length)=(n:Int):=by have f:=yo n i;have hd:=xi n;have d:=we n;unfold af at f;generalize digits n=ds at f hd d;match ds,f,hd,d with|[],_,_,d=>subst d;rfl|[a],_,hd,d=>have g:=hd a am;have e:=Tryz.OM 0 a fz g;simp only[val,j5,j7]at d;have:(n:Int)=((ai*0+a:Nat):Int):=ac;rw[this,<-e];rfl|[a,b],_,hd,d=>have g:=hd a am;have hb:=hd b am;have h:=Tryz.OM 0 b fz hb;rw[j5,cI]at h;have k:=Tryz.OM b a hb g;simp only[val,j5,j7]at d;have:(n:Int)=((ai*b+a:Nat):Int):=ac;rw[this,<-k];show Tryz.yb (Tryz.yb 0 (b:Int)) (a:Int)=_;have j:Tryz.yb 0 (b:Int)=(b:Int):=h;rw[j]|_::_::_::_,f,_,_=>simp at f
def Tryz.toUint_vp(G:Nat->Option (List aa))(n:Nat)(k:n<18446744073709551616):ag ab G 304 [W n] (.int .u64 (n:Int)):=by
 refine ag.alH (r:={val:=.int .u64 (n:Int)}) (cv.alG Tryz.func304 an an ?_) (sf.int _ _);intro own E w σ vs _ s j;simp only[bq]at j;obtain⟨v,_,rfl,m,rfl⟩:=j;have g:us (digits n)=(ua (digits n)).map (aa.int .u32):=by simp[us,ua]
 have f:iM σ 1 (W n)=some ((ua (digits n)).map (aa.int .u32),[]):=by rw[W,afh,g]
 obtain⟨a,cap,rfl,q,d⟩:=aii s m f;have t:Tryz.y7 w.heap.size w (.slice a (ua (digits n)).length cap) (ua (digits n)):=by rcases d with h|⟨b,o,rfl,hb,p⟩;rw[h];exact .inl ⟨a,cap,rfl,rfl⟩;exact .inr ⟨b,o,cap,rfl,hb,p⟩
 have i:(ua (digits n)).length<=2:=by rw[aih];exact yo n k
 refine(callsIn_wide (n:=3)).1 ((Tryz.toUint_in Fence.wide 3 trivial trivial trivial rfl ac a _ cap _ ac w t).mono ?_);rintro e u⟨rfl,l⟩;rw[Tryz.toU_digits n k];exact⟨_,rfl,l,λ E w=>by simp only[ax]⟩
end
end Go.Proofs
namespace Go.Proofs.YtpcofcmencgkbaaGreat
section
variable(G:Nat->Option (List aa))
def s9:ig ab G 262:=oK G
def Cf(n:Nat)(b:af n<=4194304000000):ag ab G 185 [W n] (W n):=R2 G n b
def vT:lX ab G 229:=apt (s9 G)
def Tp(n:Nat)(b:n<18446744073709551616):ag ab G 230 [.int .u64 ((n:Nat):Int)] (W n):=GO G n b
def Zj(n:Nat)(b:n<18446744073709551616):ag ab G 304 [W n] (.int .u64 ((n:Nat):Int)):=Tryz.toUint_vp G n b
def RD(a b:Int):ag ab G 265 [.int .i64 a,.int .i64 b] (.int .i64 (fi a b)):=Lk G a b
def adD(a b:Int):ag ab G 288 [.int .u32 a,.int .u32 b] (.int .i64 (fi a b)):=Lm G a b
def Le(m n:Nat)(b:af m<=4194304000000)(c:af n<=4194304000000):ag ab G 266 [W m,W n] (.int .i64 (eg m n)):=Lp G (RD G) (adD G) b
def NT(m n:Nat)(c:af m<=4194304000000)(b:af n<=4194304000000):ag ab G 305 [W m,W n] (W (m+n)):=amQ G m n c b
def Vo(m n:Nat)(a:n<=m)(c:af m<=4194304000000):ag ab G 306 [W m,W n] (W (m-n)):=akg G (s9 G) a c
def arW(m n:Nat)(c:af m<=4194304000000)(b:af n<=4194304000000):ag ab G 267 [W m,W n] (W (m*n)):=aqh G m n c b
def ajh(x:Nat)(b:x<ai):ag ab G 322 [.int .u32 (x:Int)] (.int .i64 (ey x:Int)):=Vb G x b
def atf(x:Nat)(b:x<ai)(c:0<x):ag ab G 313 [.int .u32 (x:Int)] (.int .i64 ((32-ey x:Nat):Int)):=ajN (ajh G) x b c
def Lu(m n:Nat)(a:n≠0)(c:af m<=3774873600000)(d:af n<=3774873600000):ag ab G 303 [W m,W n] (.aM [W (m/n),W (m%n)]):=ae5 G (atf G) (Zj G) m n a c d
def zz(z:Int)(b:af z.natAbs<=4194304000000):ag ab G 264 [aS z] (.int .i64 z.sign):=aps (s9 G) z b
def GD(a:Int)(h1:-9223372036854775808<=a)(c:a<9223372036854775808):ag ab G 188 [.int .i64 a] (aS a):=afR (Tp G) (vT G) a h1 c
def V2(z:Int)(b:af z.natAbs<=4194304000000):ag ab G 281 [aS z] (aS (-z)):=alb (s9 G) (Cf G) (vT G) z b
def Vm(y z:Int)(c:af y.natAbs<=4194304000000)(b:af z.natAbs<=4194304000000):ag ab G 236 [aS y,aS z] (aS (y*z)):=akx (s9 G) (arW G) (vT G) y z c b
def RB(y z:Int)(c:af y.natAbs<=4194304000000)(b:af z.natAbs<=4194304000000):ag ab G 235 [aS y,aS z] (.int .i64 (fi y z)):=aer (zz G) (RD G) (s9 G) (Le G) y z c b
def aeV(a b:Int)(c:b≠0)(e:af a.natAbs<=3774873600000)(hb:af b.natAbs<=3774873600000):ag ab G 319 [aS a,aS b] (.aM [aS (a.fdiv b),aS (a.fmod b),.int .i64 0]):=by have h:=aeS (s9 G) (Lu G) (NT G) (Vo G) (vT G) a b c e hb;rw[(St a b c).1,(St a b c).2]at h;exact h
def Tt(a b:Int)(d:af a.natAbs<=3774873600000)(hb:af b.natAbs<=3774873600000):ag ab G 292 [aS a,aS b] (aS (cJ a.natAbs b.natAbs:Nat)):=amF G (Lu G) (vT G) (Cf G) (Zj G) (Tp G) _ _ a.natAbs b.natAbs d hb
def ais(neg:Bool)(ws:List Nat)(b:ws.length<=9223372036854775807):ag ab G 290 [u1 neg ws] (.bool (sP neg ws)):=aq0 G neg ws b
def NG:ag ab G 189 [] (aS 1):=alL (GD G 1 al al)
def Ur(z:Int):ag ab G 291 [aS z] (.bool (decide (z=1))):=aio z
def am2(a b:Int)(c:b≠0)(e:af a.natAbs<=3774873600000)(hb:af b.natAbs<=3774873600000):ag ab G 307 [aS a,aS b] (aS (a.fdiv b)):=anv a b (Ur G b) (aeV G a b c e hb)
def aon(a:Int)(h1:-9223372036854775808<=a)(c:a<9223372036854775808):ag ab G 139 [.int .i64 a] (ic a 1):=aoq a (GD G a h1 c) (NG G)
def aoL(a b:Int)(d:af a.natAbs<=4194304000000):ag ab G 234 [ic a b] (.int .i64 a.sign):=aoP a b (zz G a d)
def ajx(a b:Int)(j:b≠0)(k:af a.natAbs<=3774873600000)(hb:af b.natAbs<=3774873600000):ag ab G 295 [aS a,aS b] (ic (a.fdiv (if b<0 then-(cJ a.natAbs b.natAbs:Nat)else(cJ a.natAbs b.natAbs:Nat))) (b.fdiv (if b<0 then-(cJ a.natAbs b.natAbs:Nat)else(cJ a.natAbs b.natAbs:Nat)))):=by
 have i:0<cJ a.natAbs b.natAbs:=Nat.gcd_pos_of_pos_right _ ac;have c:af (cJ a.natAbs b.natAbs)<=3774873600000:=bx (fv (Nat.le_of_dvd ac (Nat.gcd_dvd_right _ _))) hb;refine ajE a b (cJ a.natAbs b.natAbs:Nat) (Tt G a b k hb) (V2 G _ (by rw[gO];omega)) ?_;intro x y h f;have e:y≠0:=by rcases f with rfl|rfl<;>omega
 have d:af y.natAbs<=3774873600000:=by rcases f with rfl|rfl<;>simpa using c
 exact am2 G x y e (by rcases h with rfl|rfl<;>assumption) d
def El:ig ab G 223:=mQ G
def x8:lX ab G 179:=aoQ (El G)
def H3(z:Int)(b:af z.natAbs<=4194304000000):ag ab G 219 [aS z] (aS z):=aoA (x8 G) z b
def GV(z:Int)(b:af z.natAbs<=4194304000000):ag ab G 186 [aS z] (.int .i64 z.sign):=aoO (H3 G) z b
def arC(n:Nat)(b:n<18446744073709551616):ag ab G 180 [.int .u64 ((n:Nat):Int)] (W n):=JQ G n b
def GF(a:Int)(h1:-9223372036854775808<=a)(c:a<9223372036854775808):ag ab G 127 [.int .i64 a] (aS a):=aop (arC G) (x8 G) a h1 c
def adE(m n:Nat)(b:af m<=4194304000000)(c:af n<=4194304000000):ag ab G 221 [W m,W n] (.int .i64 (eg m n)):=DY G b
def amw(m n:Nat)(b:af m<=4194304000000)(c:af n<=4194304000000):ag ab G 220 [W m,W n] (W (m+n)):=aoJ G (El G) b c
def ajO(m n:Nat)(a:n<=m)(c:af m<=4194304000000):ag ab G 222 [W m,W n] (W (m-n)):=XJ G (El G) a c
def arY(m:Nat)(ws:List Nat)(hw:kz ws)(b:af m<=4194304000000)(c:ws.length<=4194304000000):ag ab G 225 [W m,.sl 1 (us ws)] (W (m*val ws)):=XO G m ws hw b c
def arX(m n:Nat)(b:af m<=4194304000000)(c:af n<=4194304000000):ag ab G 225 [W m,W n] (W (m*n)):=by have h:=arY G m (digits n) (xi n) b c;rw[we]at h;exact h
def Sg(m n:Nat)(a:n≠0)(c:af m<=3774873600000)(d:af n<=3774873600000):ag ab G 224 [W m,W n] (.aM [W (m/n),W (m%n)]):=anZ G m n a c d
def We(z:Int)(b:af z.natAbs<=4194304000000):ag ab G 187 [aS z] (aS (-z)):=aoz (x8 G) z b
def Q8(a b:Int)(d:af a.natAbs<=4194304000000)(hb:af b.natAbs<=4194304000000):ag ab G 175 [aS a,aS b] (aS (a+b)):=anS (H3 G) (amw G) (x8 G) (adE G) (ajO G) a b d hb
def YM(a b:Int)(d:af a.natAbs<=4194304000000)(hb:af b.natAbs<=4194304000000):ag ab G 259 [aS a,aS b] (aS (a-b)):=aoR (We G) (Q8 G) a b d hb
def VS(a b:Int)(d:af a.natAbs<=4194304000000)(hb:af b.natAbs<=4194304000000):ag ab G 177 [aS a,aS b] (aS (a*b)):=aox (H3 G) (arX G) (x8 G) a b d hb
def afW(a b:Int)(d:af a.natAbs<=3774873600000)(hb:af b.natAbs<=3774873600000):ag ab G 176 [aS a,aS b] (aS (cJ a.natAbs b.natAbs:Nat)):=aor G (Sg G) (x8 G) _ _ a.natAbs b.natAbs d hb
def ait(neg:Bool)(ws:List Nat)(hw:kz ws)(b:ws.length<=9223372036854775807):ag ab G 249 [u1 neg ws] (.bool (sP neg ws)):=aov (El G) neg ws hw b
def aoo(a:Int)(h1:-9223372036854775808<=a)(c:a<9223372036854775808):ag ab G 89 [.int .i64 a] (ic a 1):=anA a (GF G a h1 c) (GF G 1 al al)
def alJ(z:Int):ag ab G 174 [aS z] (.bool (decide (z=1))):=anF z
def aoM(a b:Int)(d:af a.natAbs<=4194304000000):ag ab G 168 [ic a b] (.int .i64 a.sign):=bK [hc (GV G a d)]
def aga:lp ab 213 (PK 249 186 176 174):=agP
def ahR:BZ ab G 294:=ah2 (s9 G) (NT G) (vT G) (Le G) (Vo G)
def zT:wT ab G 236:=λ a b d hb=>Vm G a b ac ac
def ahV:B0 ab G 281:=λ a c=>V2 G a ac
def ahY:FG ab G 264:=λ a c=>zz G a ac
def Us:QQ ab G 235:=λ a b d hb=>RB G a b ac ac
def MI:y4 ab G 291:=λ z=>Ur G z
def ahU:y3 ab G 292:=λ a b d hb=>Tt G a b ac ac
def Hq:KO ab G 295:=λ a b hb e d=>by rw[<-Vg a b hb];exact ajx G a b hb ac ac
def Xf:KV ab G 272:=Xi agO (QS λ neg ws _ b=>ais G neg ws b) (ahY G) (ahU G) (MI G)
def am8:FN ab G 248:=anp (ahV G)
def N7:KT ab G 234:=λ q b=>aoL G q.num q.den (by have:=b.1;omega)
def am4:Q2 ab G 195:=ank (N7 G) (zT G) (Us G)
def am3:FM ab G 276:=anj (MI G) (ahR G) (NG G) (zT G) (Hq G)
def am7:KS ab G 284:=λ a b g hb=>by
 have⟨k,i⟩:=g;have⟨b1,b2⟩:=hb;have j:=m4 a.num b.num;have h:=m4 (a.den:Int) (b.den:Int);rw[gO,gO]at h;have c:=Hq G (a.num*b.num) (a.den*b.den) (VU a b) ac ac;rw[<-N8]at c;have h1:=aoy a.num a.den b.num b.den (aZ (a*b)) (x1:=(a*b).num) (cu:=(a*b).den) rfl (MI G) (zT G _ _ ac ac) (zT G _ _ (by rw[gO];omega) (by rw[gO];omega)) (NG G) c;by_cases hd:(a.den:Int)=1/\(b.den:Int)=1;rw[if_pos hd]at h1;have e:a*b=((a.num*b.num:Int):Rat):=by rw[N8,hd.1,hd.2];show((a.num*b.num:Int):Rat)/(1:Rat)=_;rw[Rat.div_def,show(1:Rat)⁻¹=1 from by decide+kernel,Rat.mul_one]
 rw[e];exact h1;rw[if_neg hd]at h1;exact h1
def xZ:Q4 ab G 139:=λ a h1 c=>aon G a h1 c
def Xg(z:Int):ag ab G 308 [aS z] (.bool (decide (z=0))):=aip z
def am5:Q3 ab G 296:=ann (Xg G) (zT G) (Hq G)
def MP:QR ab G 219:=λ z b=>H3 G z b
def aiy:BZ ab G 175:=λ a b d hb=>Q8 G a b ac ac
def z0:wT ab G 177:=λ a b d hb=>VS G a b ac ac
def UD:B0 ab G 187:=λ a c=>We G a ac
def UE:FG ab G 186:=λ a c=>GV G a ac
def MQ:y4 ab G 174:=λ z=>alJ G z
def HB:y3 ab G 176:=λ a b d hb=>afW G a b ac ac
def MR:FF ab G 178:=λ a b hb hd e d=>aoK a b (an1 (MP G) (Sg G) (x8 G) (VS G) (YM G) (GV G) a b hb hd ac ac)
def s3:Q4 ab G 89:=λ a h1 c=>aoo G a h1 c
def anP:KT ab G 168:=λ q b=>aoM G q.num q.den (by have:=b.1;omega)
def anG:FM ab G 123:=anx (MQ G) (aiy G) (HB G) (z0 G) (MR G)
def anL:KS ab G 124:=anD (s3 G 0 al al) (MQ G) (z0 G) (HB G) (MR G)
def anM:FN ab G 203:=anE (UD G)
def anQ:KV ab G 213:=Xi aga (QS λ neg ws hw b=>ait G neg ws hw b) (UE G) (HB G) (MQ G)
def N9:acg ab G 95:=λ a b c hb h1 f=>by have e:af a.natAbs<=1:=jF (by rw[Qn];unfold ai;omega);have b1:af b<=1:=jF (by rw[Qn];unfold ai;omega);exact anz a b c (GF G a ac ac) (GF G b ac ac) (anC (HB G) (UE G) (MR G) a b c ac ac)
end
end Go.Proofs.YtpcofcmencgkbaaGreat
namespace Go.aA
abbrev bm:=Nat->Id
def bm.s:bm:=λ k=>[k+1]
def bm.κ(q:bm):Nat->Id:=λ k=>q (k-1)
def bm.of(l:List Id):bm:=λ k=>l.getD k [0,0,k]
class p2(f:bm->aa):Prop where nat:∀ρ q,(f q).aY ρ=f fun k=>ρ (q k)
class qU(f:bm->List aa):Prop where nat:∀ρ q,bD ρ (f q)=f fun k=>ρ (q k)
class nn(f:bm->List (Nat×aa)):Prop where nat:∀ρ q,rH ρ (f q)=f fun k=>ρ (q k)
class Q1(f:bm->aJ):Prop where nat:∀ρ q,(f q).aY ρ=f fun k=>ρ (q k)
class gS(i:Nat)(n:outParam Nat)(f:bm->List (Id×aJ)):Prop where nat:∀ρ q,ft ρ (f q)=f fun k=>ρ (q k)nm:∀q,(f q).map (·.1)=(uS i n).map q
instance:p2 (λ _=>aa.top):=⟨λ _ _=>rfl⟩
instance at5{c:aa}[h:bg c]:p2 (λ _=>c):=⟨λ ρ _=>h.fix ρ⟩
instance{i k o n:Nat}{t:Bool}:p2 (λ q=>.ah (q i) k o n t):=⟨λ _ _=>rfl⟩
instance{i e o:Nat}:p2 (λ q=>.ref (q i) e o):=⟨λ _ _=>rfl⟩
instance{i k:Nat}{l:List aa}:p2 (λ q=>bt (q i) k l):=⟨λ _ _=>HW⟩
instance at4{l:List aa}[h:bn l]:qU (λ _=>l):=⟨λ ρ _=>h.fix ρ⟩
instance(priority:=900){f:bm->aa}{g:bm->List aa}[h:p2 f][k:qU g]:qU (λ q=>f q::g q):=⟨λ ρ q=>by show(f q).aY ρ::bD ρ (g q)=_;rw[h.nat,k.nat]⟩
instance(priority:=900){f:bm->List aa}[h:qU f]:p2 (λ q=>.agg (f q)):=⟨λ ρ q=>by show aa.agg (bD ρ (f q))=_;rw[h.nat]⟩
instance{α:Type}{l:List α}{f:α->bm->aa}[h:∀x,p2 (f x)]:qU (λ q=>l.map λ x=>f x q):=⟨λ ρ q=>by rw[ga,List.map_map];exact List.map_congr_left λ x _=>(h x).nat ρ q⟩
instance:nn (λ _=>[]):=⟨λ _ _=>rfl⟩
instance{k:Nat}{f:bm->aa}{g:bm->List (Nat×aa)}[h:p2 f][j:nn g]:nn (λ q=>(k,f q)::g q):=⟨λ ρ q=>by show(k,(f q).aY ρ)::rH ρ (g q)=_;rw[h.nat,j.nat]⟩
instance(priority:=800)at3{l:List (Nat×aa)}[h:hL l]:nn (λ _=>l):=⟨λ ρ _=>h.fix ρ⟩
instance{f:bm->List aa}{k:Nat}{b:Bool}[h:qU f]:Q1 (λ q=>⟨f q,k,b⟩):=⟨λ ρ q=>by show aJ.mk (bD ρ (f q)) k b=_;rw[h.nat]⟩
instance{i:Nat}:gS i 0 (λ _=>[]):=⟨λ _ _=>rfl,λ _=>rfl⟩
instance{i n:Nat}{x:bm->aJ}{g:bm->List (Id×aJ)}[h:Q1 x][k:gS (i+1) n g]:gS i (n+1) (λ q=>(q i,x q)::g q):=⟨λ ρ q=>by show(ρ (q i),(x q).aY ρ)::ft ρ (g q)=_;rw[h.nat,k.nat],λ q=>by rw[List.map_cons,k.nm,List.range'_succ];rfl⟩
def wX(q:bm):Prop:=((uS 0 8).map q).Nodup
def gS.nd{n:Nat}{f:bm->List (Id×aJ)}[h:gS 0 n f]{q:bm}(g:wX q)(a:n<=8):((f q).map (·.1)).Nodup:=by rw[h.nm];refine g.sublist (List.Sublist.map _ ?_);rw[show 8=n+(8-n)from ac,<-List.range'_append];exact List.sublist_append_left _ _
def bm.sT(q:bm)(m:Nat):(λ k=>bT m [0] q.κ (bm.s k))=q:=rfl
section
variable{P:Program}{G:Nat->Option (List aa)}
def iK(P:Program)(G:Nat->Option (List aa))(c:cD)(n w:Nat)(e:cn)(A:bm->List (Nat×aa))(bC:bm->List (Id×aJ))(B:bm->List (Nat×aa))(bO:bm->List (Id×aJ)):Prop:=∀(q:bm)(m:Nat),wX q->bA P G [0] c (λ a s'=>a=e/\bN G [0] s' ⟨fr n (B q),bB (bO q),m+w⟩) ⟨fr n (A q),bB (bC q),m⟩
def gy{c:cD}{n w a b:Nat}{e:cn}{A B:bm->List (Nat×aa)}{bC bO:bm->List (Id×aJ)}[nn A][nn B][gS 0 a bC][gS 0 b bO](d:List (aV P G))(h:hE (bO bm.s) (fr n (B bm.s)) w (bY true 1000 c [0] d ⟨fr n (A bm.s),b8 (bC bm.s),0⟩)=hh e (bO bm.s) (fr n (B bm.s)) (bY true 1000 c [0] d ⟨fr n (A bm.s),b8 (bC bm.s),0⟩):=by kernel_rfl)(j:a<=8:=by decide):iK P G c n w e A bC B bO:=λ q m g=>bA.jC q.κ d (fr n (A bm.s)) (bC bm.s) e (fr n (B bm.s)) (bO bm.s) w h (by rw[o7,nn.nat,bm.sT]) (by rw[gS.nat (i:=0) (f:=bC),bm.sT]) (by rw[o7,nn.nat,bm.sT]) (by rw[gS.nat (i:=0) (f:=bO),bm.sT]) (gS.nd (n:=a) g j) λ s hw=>⟨rfl,hw⟩
def HO{c:cD}{n N w n0 E b:Nat}{e:cn}{q:bm}{T:Nat->bm->List (Nat×aa)}{K:Nat->bm->List (Id×aJ)}{dx:bm->List (Nat×aa)}{cC:bm->List (Id×aJ)}[gS 0 b cC](h0:wX q)(hb:b<=8)(o:∀i,i<N->iK P G c n w .normal (T i) (K i) (T (i+1)) (K (i+1)))(m:iK P G c n w e (T N) (K N) dx cC)(g:e≠.normal)(k:n0+w*N+w<=E):bA P G [0] (.loop c) (λ f s'=>f=e/\bN G [0] s' ⟨fr n (dx q),nW (b8 (cC q)),E⟩) ⟨fr n (T 0 q),bB (K 0 q),n0⟩:=by refine bA.z7 (α:=Nat) (λ i=>⟨fr n (T i q),bB (K i q),n0+w*i⟩) (λ i=>i<=N) (λ i=>N-i) 0 (by rw[j5];exact bN.refl _ _ _) (dF _) ?_;intro i p;by_cases a:i<N;refine(o i a q _ h0).mono λ f s'⟨h1,h3⟩=>?_;subst h1;rw[show n0+w*i+w=n0+w*(i+1)by rw[ej,nX];omega]at h3;exact⟨i+1,a,by show N-(i+1)<N-i;omega,h3⟩;obtain rfl:i=N:=ac;refine(m q _ h0).mono λ f s'⟨h1,h3⟩=>?_;subst h1;have h4:=bN.toT (gS.nd (n:=b) h0 hb) (h3.trans (bN.slots (jn.same _) k));cases f with|normal=>exact(g rfl).elim|exit j=>exact⟨rfl,h4⟩|ret=>exact⟨rfl,h4⟩
noncomputable def oF(aG:ee)(k s N:Nat)(q0:bm)(T:Nat->bm->List (Nat×aa))(K:Nat->bm->List (Id×aJ))(e:cn)(dx:bm->List (Nat×aa))(cC:bm->List (Id×aJ)){b:Nat}[gS 0 b cC](g:∀i,i<N->iK P G (aT aG k) aG.aH 200 .normal (T i) (K i) (T (i+1)) (K (i+1)))(c:iK P G (aT aG k) aG.aH 200 e (T N) (K N) dx cC){t0:List (Nat×aa)}{k0:List (Id×aJ)}(f:T 0 q0=t0:=by rfl)(d:K 0 q0=k0:=by rfl)(h0:rB ((uS 0 8).map q0)=true:=by kernel_rfl)(hN:N<=10000000000000000000:=by omega)(a:e≠.normal:=by simp)(hb:b<=8:=by decide):aV P G:=.iQ [0] (aT aG k) (fr aG.aH t0) k0 (eF s) e (fr aG.aH (dx q0)) (b8 (cC q0)) (cx s) (by rw[<-f,<-d];exact HO (vM h0) hb g c a (bx (JM hN) (a2 _)))
def cv.Zc{f:FuncId}{aG:ee}(h:lp P f aG)(c:List (aV P G))(A:bm->List aa)(V:bm->aa)(K U:bm->List (Id×aJ)){a b:Nat}[qU A][p2 V][gS 0 a K][gS 0 b U](d:nI aG.results (U bm.s++rest (U bm.s) (K bm.s)) (bY true 1000 aG.body [0] c ⟨A bm.s++bI (aG.aH-(A bm.s).length) (.aM []),b8 (K bm.s),0⟩)=nH (V bm.s) (U bm.s++rest (U bm.s) (K bm.s)) (bY true 1000 aG.body [0] c ⟨A bm.s++bI (aG.aH-(A bm.s).length) (.aM []),b8 (K bm.s),0⟩))(q:bm)(p:Id)(hd:((K q).map (·.1)).Nodup)(rj:((U q).map (·.1)).Nodup):cv P G f (A q) p (K q) {val:=V q,rd:=(K q).map (·.1),up:=(U q).map λ x=>(x.1,some x.2)}:=e9 h q.κ c (A bm.s) (K bm.s) (V bm.s) (U bm.s) d (qU.nat _ _) (gS.nat (i:=0) (f:=K) _ _) (p2.nat _ _) (gS.nat (i:=0) _ _) hd rj
end
end Go.aA
namespace Go.Proofs.YtpcofcmencgkbaaGreat
section
variable(G:Nat->Option (List aa)){L k D:Nat}{f:Nat->Nat}
abbrev AG(k i:Nat):bm->List (Nat×aa):=λ q=>[(0,.ah (q 1) 1 0 k false),(1,.ah (q 1) 1 0 k false),(5,.ah (q 0) 1 0 (k+k) false),(6,.int .i64 (i:Int))]
abbrev DV(k i j c:Nat):bm->List (Nat×aa):=λ q=>[(0,.ah (q 1) 1 0 k false),(1,.ah (q 1) 1 0 k false),(5,.ah (q 0) 1 0 (k+k) false),(6,.int .i64 (i:Int)),(7,.int .u64 (c:Int)),(8,.int .i64 (j:Int))]
abbrev rF(L k:Nat)(f g:Nat->Nat):bm->List (bz×aJ):=λ q=>[(q 0,⟨us (cj (k+k) g),1,false⟩),(q 1,⟨us (cj L f),1,false⟩)]
def ano(H:kX L 0 k D f)(q:k<=4194304000000)(i:Nat)(l:i<k)(j:Nat)(b:j<k):iK ab G (aT (ao 225) 1) (ao 225).aH 200 .normal (DV k i j (e7 D D i j)) (rF L k f (gJ D D i j)) (DV k i (j+1) (e7 D D i (j+1))) (rF L k f (gJ D D i (j+1))):=by
 have d:=cG D i;have c:=cG D j;have n:=cG (cz D D i) (i+j);have hc:=A2 D D i j;have p:=HZ d c;have a:i+j<k+k:=ac;have lx:=H.lx;have h:=H.gf i l;have g:=H.gf j b;rw[cI]at h g;have e:=(Jk D D i j).1;have s:eY .shr .int (.int .u64 ((e7 D D i j+(au D i*au D j+au (cz D D i) (i+j)):Nat):Int)) (.int .u64 32)=some (.int .u64 (e7 D D i (j+1):Int)):=by rw[nK,e]
 unfold ai at n hc;have o:da.wrap (((e7 D D i j+au (cz D D i) (i+j):Nat):Int)+((au D i*au D j:Nat):Int))=((e7 D D i j+(au D i*au D j+au (cz D D i) (i+j)):Nat):Int):=by rw[iy];omega
 exact gy [fY 24 b,ly 31 i j,et 32 [1] _ _ a,ik 33 [1] (k+k) (gJ D D i j) a (by unfold gJ;exact if_neg (pM _)),hw 34 (fC _ (cG (cz D D i) (i+j))) .u64,hw 35 (w5 (e7 D D i j) (au (cz D D i) (i+j)) ac) .u64,et 38 [2] k i l,ik 39 [2] L f ac h,hw 40 (fC _ d) .u64,et 43 [2] k j b,ik 44 [2] L f ac g,hw 45 (fC _ c) .u64,hw 46 (Dj _ _ d c) .u64,hw 47 o .u64,ly 51 i j,hw 53 (kN (e7 D D i j+(au D i*au D j+au (cz D D i) (i+j)))) .u32,et 54 [1] _ _ a,g6 54 [1] (gJ D D i (j+1)) a (λ x _=>O8 D D i j x),ho 56 s,hI 26 b]
def ant(H:kX L 0 k D f)(d:k<=4194304000000)(i:Nat)(a:i<k):iK ab G (aT (ao 225) 0) (ao 225).aH (cx 9) .normal (AG k i) (rF L k f (au (cz D D i))) (AG k (i+1)) (rF L k f (au (cz D D (i+1)))):=by have c:i+k<k+k:=ac;exact gy [fY 18 a,oF (ao 225) 1 0 k (bm.of [[1],[2]]) (λ j=>DV k i j (e7 D D i j)) (λ j=>rF L k f (gJ D D i j)) (.exit 2) (DV k i k (e7 D D i k)) (rF L k f (gJ D D i k)) (ano G H d i a) (gy [ij 24 (a2 k)]) (t0:=DV k i 0 0 (bm.of [[1],[2]])) (k0:=rF L k f (au (cz D D i)) (bm.of [[1],[2]])) (by simp only[O6]) (by simp only[O9]),ly 61 i k,hw 63 (pC (A2 D D i k)) .u32,et 64 [1] _ _ c,g6 64 [1] (f:=gJ D D i k) (au (cz D D (i+1))) c (λ x _=>O7 H.xl x),hI 20 a]
def toT(H:kX L 0 k D f)(d:k<=4194304000000)(id p:bz):cv ab G 225 [.ah id 1 0 k false,.ah id 1 0 k false] p [(id,⟨us (cj L f),1,false⟩)] {val:=W (D*D),rd:=[id],up:=[]}:=by
 have e:cz D D k=D*D:=by unfold cz;rw[dL H.xl]
 have z:∀j,j<k+k->au (cz D D 0) j=0:=λ j _=>by unfold cz;rw[kR,qO,tu];exact sc (fR j)
 have b:=HO (P:=ab) (G:=G) (c:=aT (ao 225) 0) (n:=(ao 225).aH) (N:=k) (w:=cx 9) (n0:=eF 0) (E:=1000000000000000000000000000000000000000000000000) (e:=.exit 0) (q:=bm.of [[6,0],[1]]) (T:=AG k) (K:=λ i=>rF L k f (au (cz D D i))) (dx:=AG k k) (cC:=rF L k f (au (cz D D k))) (vM an) al (ant G H d) (gy [ij 18 (a2 k)]) am (by unfold eF cx;omega);exact cv.Zc hN [ly 13 k k,sF 14 (k+k) (au (cz D D 0)) z,.iQ [0] (aT (ao 225) 0) (fr (ao 225).aH (AG k 0 (bm.of [[6,0],[1]]))) (rF L k f (au (cz D D 0)) (bm.of [[6,0],[1]])) (eF 0) (.exit 0) (fr (ao 225).aH (AG k k (bm.of [[6,0],[1]]))) (b8 (rF L k f (au (cz D D k)) (bm.of [[6,0],[1]]))) 1000000000000000000000000000000000000000000000000 b,rh (k+k) (D*D) (au (cz D D k)) (λ j _=>by rw[e]) (mQ G) (by rw[iI];exact r6 H.xl H.xl) (id:=[6,0])] (λ q=>[.ah (q 0) 1 0 k false,.ah (q 0) 1 0 k false]) (λ _=>W (D*D)) (λ q=>[(q 0,⟨us (cj L f),1,false⟩)]) (λ _=>[]) an (λ _=>id) p am am
end
end Go.Proofs.YtpcofcmencgkbaaGreat
namespace Go.aA
def jT(n s:Nat):Prop:=s*s<=n/\n<(s+1)*(s+1)
def XK{n s x:Nat}(h:jT n s)(c:x*x<=n):x<=s:=by rcases Nat.lt_or_ge s x with a|b;exfalso;have:=kr a a;have:=h.2;simp only[abq]at*;omega;exact b
def ald{n s x:Nat}(h:jT n s)(b:0<x):s<=(x+n/x)/2:=by
 rw[yB al];rcases Nat.lt_or_ge (2*s) x with h1|h1;exact bx (ac:s*2<=x) (Nat.le_add_right _ _);have:2*s-x<=n/x:=by
   rw[yB b];refine bx ?_ h.1;have⟨d,hd⟩:∃d,2*s=x+d:=⟨2*s-x,ac⟩;rw[hd,tt];rcases Nat.le_total x s with a|a;obtain⟨e,rfl⟩:∃e,s=x+e:=⟨s-x,ac⟩;have:d=x+2*e:=ac;subst this;have f:(x+2*e)*x=x*x+2*(e*x):=by rw[fw,fT]
   have c:(x+e)*(x+e)=x*x+2*(e*x)+e*e:=by rw[fw,ej,ej,dm x e];omega
   omega;obtain⟨e,rfl⟩:∃e,x=s+e:=⟨x-s,ac⟩;have:d+e=s:=ac;subst this;have f:(d+e)*(d+e)=d*d+2*(d*e)+e*e:=by rw[fw,ej,ej,dm e d];omega
   have c:d*(d+e+e)=d*d+2*(d*e):=by rw[ej,ej];omega
   omega
 omega
def alc{n s x:Nat}(h:jT n s)(c:0<x)(a:s<=x)(b:x<=(x+n/x)/2):x=s:=by refine abr (XK h ?_) a;rw[yB al]at b;have:x<=n/x:=ac;exact(yB c).1 this
def Lc{w m:Nat}(g:m<32)(hw:w<ai)(hd:2^(m+1)∣w):w+2^m<ai/\w|||2^m=w+2^m:=by
 obtain⟨a,rfl⟩:=hd;have c:2^(m+1)=2*2^m:=by rw[eo,dm]
 have d:0<2^m:=E9 al;have f:ai=2^(m+1)*2^(31-m):=by rw[<-iI,show m+1+(31-m)=32 from ac];rfl
 refine⟨?_,(Bq (i:=m+1) (b:=2^m) (by rw[c];omega) a).symm⟩;rw[f]at hw⊢;have e:=Nat.lt_of_mul_lt_mul_left hw;have:=fS (2^(m+1)) e;rw[abq,ej,nX]at this;omega
def Ye{m:Nat}(a:m<32):eY .shl .int (.int .u32 1) (.int .i64 (m:Int))=some (.int .u32 ((2^m:Nat):Int)):=by
 rw[Lb ac];have d:min (m:Int).toNat jH.bits=m:=by rw[Int.toNat_natCast];exact Nat.min_eq_left (ac:m<=32)
 have b:(1:Int)*2^m=((2^m:Nat):Int):=by rw[Int.one_mul];exact(Int.natCast_pow 2 m).symm
 have c:2^m<ai:=uN al a;rw[d,b,kN,dL c]
def alZ{w m:Nat}(a:m<32)(hw:w<ai)(hd:2^(m+1)∣w):eY .or .int (.int .u32 (w:Int)) (.int .u32 ((2^m:Nat):Int))=some (.int .u32 ((w+2^m:Nat):Int)):=by rw[Ig w (2^m) hw (uN al a),(Lc a hw hd).2]
def adk{k:IntKind}{a b:Int}:eY .andNot .int (.int k a) (.int k b)=some (.int k (k.wrap (jk k.bits a&&&~~~jk k.bits b).toNat)):=by simp only[eY];rw[show mi .andNot .int (.int k a) (.int k b)=some (.int k (k.wrap (jk k.bits a&&&~~~jk k.bits b).toNat))from by simp[mi,qG,tK]]
def alj{w m:Nat}(c:m<32)(hw:w<ai)(hd:2^(m+1)∣w):eY .andNot .int (.int .u32 ((w+2^m:Nat):Int)) (.int .u32 ((2^m:Nat):Int))=some (.int .u32 (w:Int)):=by
 rw[adk,<-(Lc c hw hd).2];have b:w.testBit m=false:=by obtain⟨a,rfl⟩:=hd;rw[Nat.testBit_two_pow_mul];simp;omega
 have e:(jk 32 ((w|||2^m:Nat):Int)&&&~~~jk 32 ((2^m:Nat):Int))=BitVec.ofNat 32 w:=by rw[yA,yA];refine BitVec.eq_of_getLsbD_eq λ j d=>?_;simp only[BitVec.getLsbD_and,BitVec.getLsbD_not,BitVec.getLsbD_ofNat,d,decide_true,Bool.true_and,Nat.testBit_or,Nat.testBit_two_pow];by_cases h:m=j;subst h;simp[b];simp[h]
 show some (aa.int .u32 (jH.wrap ((jk 32 ((w|||2^m:Nat):Int)&&&~~~jk 32 ((2^m:Nat):Int)).toNat:Int)))=_;rw[e,BitVec.toNat_ofNat,kN];have:w<2^32:=hw;rw[dL this,dL hw]
def rt(s i:Nat):Nat:=s/2^i*2^i
def XR(s i:Nat):rt s i=rt s (i+1)+s/2^i%2*2^i:=by
 unfold rt;have h:=h8 (s/2^i) 2;rw[ll,<-eo]at h;conv=>lhs;rw[<-h]
 rw[fw,eo,dm 2,fT,dm 2]
def aoU(s i:Nat):rt s i<=s:=Nat.div_mul_le_self ..
def aoV(s i:Nat):s<rt s i+2^i:=by have h:=h8 s (2^i);have:=bG s (lQ i);unfold rt;rw[dm]at h;omega
def aoY(s:Nat):rt s 0=s:=by unfold rt;rw[kR,pL,nX]
def aoX{n s i:Nat}(h:jT n s)(a:(rt s (i+1)+2^i)*(rt s (i+1)+2^i)<=n):rt s i=rt s (i+1)+2^i:=by have e:=XR s i;have l:=XK h a;have u:=aoV s i;have m:=bG (s/2^i) (al:0<2);rcases Bx.1 m with h0|h1;have:s/2^i%2=0:=ac;rw[this]at e;omega;rw[h1]at e;omega
def aoW{n s i:Nat}(h:jT n s)(a:¬(rt s (i+1)+2^i)*(rt s (i+1)+2^i)<=n):rt s i=rt s (i+1):=by have e:=XR s i;have l:=aoU s i;have m:=bG (s/2^i) (al:0<2);rcases Bx.1 m with h0|h1;have:s/2^i%2=0:=ac;rw[this]at e;omega;rw[h1,Nat.one_mul]at e;exact(a (bx (kr ac ac) h.1)).elim
def WY(q m:Nat):2^(32*q+m)=ai^q*2^m:=by rw[iI,yM];rfl
def Rt{m a:Nat}(b:m<32):2^(m+1)∣(2^(m+1)*a)%ai:=by refine(Nat.dvd_mod_iff ?_).2 (Nat.dvd_mul_right _ _);rw[show ai=2^32 from rfl];exact Nat.pow_dvd_pow 2 ac
def adm{m a k:Nat}(b:m<32):au (2^(m+1)*a+2^m) k=if k=0 then au (2^(m+1)*a) 0+2^m else au (2^(m+1)*a) k:=by
 have hd:=Rt (a:=a) b;have d:=(Lc b (bG (2^(m+1)*a) fz) hd).1;have h:=h8 (2^(m+1)*a) ai;generalize 2^(m+1)*a=w at*;by_cases c:k=0;subst c;rw[if_pos rfl];unfold au;rw[kR,pL,pL];conv=>lhs;rw[<-h,my,Nat.mul_add_mod]
 exact dL d;rw[if_neg c];obtain⟨j,rfl⟩:∃j,k=j+1:=⟨k-1,ac⟩;have e:(w+2^m)/ai=w/ai:=by conv=>lhs;rw[<-h,my,Nat.mul_add_div fz,h6 d,j7]
 unfold au;rw[eo,dm,<-ll,<-ll,e]
def XP(s i:Nat):rt s (i+1)=ai^(i/32)*(2^(i%32+1)*(s/2^(i+1))):=by unfold rt;rw[<-fT,<-WY,dm];congr 2;have:=h8 i 32;omega
def XQ(i:Nat):2^i=ai^(i/32)*2^(i%32):=by rw[<-WY,h8]
def QL(s i j:Nat):au (rt s (i+1)+2^i) j=if j=i/32 then au (rt s (i+1)) (i/32)+2^(i%32)else au (rt s (i+1)) j:=by have b:=bG i (al:0<32);have f1:=XP s i;have f:=XQ i;have c:0<ai^(i/32):=E9 fz;have d:=λ X j=>y1 (a:=0) (p:=i/32) (X:=X) (j:=j) c;simp only[cI]at d;rw[f,f1,<-ej,d,d,d];generalize i/32=q at*;by_cases h:j<q;rw[if_pos h,if_neg ac,if_pos h];rw[if_neg h,if_neg (pM _),if_neg h,yK,adm b];by_cases e:j=q;subst e;rw[yK,if_pos rfl,if_pos rfl];rw[if_neg ac,if_neg e]
def aca(s i:Nat):2^(i%32+1)∣au (rt s (i+1)) (i/32):=by have b:=bG i (al:0<32);have c:0<ai^(i/32):=E9 fz;have d:=y1 (a:=0) (p:=i/32) (X:=2^(i%32+1)*(s/2^(i+1))) (j:=i/32) c;rw[cI,<-XP,if_neg (pM _),yK]at d;rw[d];unfold au;rw[kR,pL];exact Rt b
end Go.aA
namespace Go.Proofs.YtpcofcmencgkbaaGreat
section
variable(G:Nat->Option (List aa))
def aoN(ws:List Nat)(hw:kz ws)(b:ws.length<=4194304000000):ag ab G 179 [.bool false,.sl 1 (us ws)] (aS ((val ws:Nat):Int)):=aN [hc (mQ G ws hw ac)]
noncomputable abbrev uw(L i:Nat):aB->List (Nat×aa):=λ q=>[(1,.ref q.b 0 0),(2,.ref q.c 0 0),(3,.int .i64 0),(5,.ah q.a 1 0 L false),(6,.int .i64 (ra i))]
abbrev ux(z:Int)(L r:Nat):aB->List (bz×aJ):=λ q=>[(q.a,⟨us (cj L (au r)),1,false⟩),(q.b,⟨[aS z],2,false⟩),(q.c,⟨[.agg [.bool false,.ar]],2,false⟩)]
def aoT{s j b:Nat}(a:s<2^b)(c:j<b):rt s (j+1)+2^j<2^b:=by
 have e:2^b=2^(j+1)*2^(b-(j+1)):=by rw[<-iI];congr 1;omega
 have h:=uP (e▸a);have:=cr (2^(j+1)) h;rw[gB,dm (2^(b-(j+1))),<-e]at this;have p:2^(j+1)=2^j*2:=eo ..;have:=lQ j;unfold rt;omega
def apP{z:Int}{s L j b:Nat}(x:jT z.natAbs s)(I:af z.natAbs<=4194304000000)(bw:L<=200000000000)(A:j<b)(B:b<32*L)(r:s<2^b):lq ab G (aT (ao 250) 0) (ao 250).aH 200 .normal (uw L (j+1)) (ux z L (rt s (j+1))) (uw L j) (ux z L (rt s j)):=by
 have a:cV.wrap ((j:Int).tdiv 32)=((j/32:Nat):Int):=by rw[Fa ac,c0];omega
 have q:=bG j (al:0<32);have hd:=aca s j;have u:=cG (rt s (j+1)) (j/32);have D:=QL s j;have y:=aoX (i:=j) x;have E:=aoW (i:=j) x;have o:rt s (j+1)+2^j<ai^L:=gM (aoT r A) (by rw[show ai=2^32 from rfl,<-yM];exact dR al ac);have c:j/32<L:=ac;have t:j<=8388608000000:=ac;have g:=Ye q;have l:=alZ q u hd;have p:=alj q u hd;generalize rt s (j+1)=R at*;generalize C:R+2^j=cH at*;have H:kX L 0 L cH (au cH):=⟨ac,ac,o,λ i _=>by rw[cI]⟩;have F:=jF o;have v:=DY G (m:=cH*cH) (n:=z.natAbs) (bx (Bd _ _) ac);have g1:∀k,au cH k=if k=j/32 then au R (j/32)+2^(j%32)else au R k:=D;by_cases h:cH*cH<=z.natAbs;have d:decide (eg (cH*cH) z.natAbs>0)=false:=dZ (by unfold eg fi;split<;>(try split)<;>omega);rw[y h];exact hU [rf 23 j,hw 28 a,hw 31 a,et 32 [1] L (j/32) c,ik 33 [1] L (au R) c rfl,sH 35 .i64 j 32,ho 36 g,ho 37 l,et 38 [1] L (j/32) c,g6 38 [1] (f:=au R) (au cH) c (λ k _=>g1 k),sG (toV G H [1]),sG (toV G H [1]),sG (toT G H.short ac [1]),hc v,hb 47 d,k5 25 j t];have d:decide (eg (cH*cH) z.natAbs>0)=true:=fJ (by unfold eg fi;split<;>(try split)<;>omega);rw[E h];exact hU [rf 23 j,hw 28 a,hw 31 a,et 32 [1] L (j/32) c,ik 33 [1] L (au R) c rfl,sH 35 .i64 j 32,ho 36 g,ho 37 l,et 38 [1] L (j/32) c,g6 38 [1] (f:=au R) (au cH) c (λ k _=>g1 k),sG (toV G H [1]),sG (toV G H [1]),sG (toT G H.short ac [1]),hc v,hb 47 d,hw 50 a,hw 53 a,et 54 [1] L (j/32) c,ik 55 [1] L (au cH) c ((g1 _).trans (if_pos rfl)),sH 57 .i64 j 32,ho 58 g,ho 59 p,et 60 [1] L (j/32) c,g6 60 [1] (f:=au cH) (au R) c (λ k _=>if e:k=j/32 then by rw[if_pos e,e]else by rw[if_neg e,g1,if_neg e]),k5 25 j t]
def apQ(z:Int)(s b:Nat)(B:0<z)(f:af z.natAbs<=4194304000000)(r:jT z.natAbs s)(p:z.natAbs<2^b)(t:b<=6710886400000)(w:ag ab G 219 [aS z] (aS z))(o:ag ab G 282 [aS z] (.int .i64 (b:Int))):ag ab G 250 [aS z] (.aM [aS (s:Int),.int .i64 0]):=by
 have k:decide (z<0)=false:=dZ ac;have q:cV.wrap ((b:Int)+1)=((b+1:Nat):Int):=by rw[c0];omega
 have l:cV.wrap ((((b+1:Nat)):Int).tdiv 2)=(((b+1)/2:Nat):Int):=by rw[Fa ac,c0];omega
 have y:z.natAbs<2^((b+1)/2)*2^((b+1)/2):=by rw[<-iI];exact gM p (dR al ac)
 generalize D:(b+1)/2=m at*;have v:m<=3355443200001:=ac;have n:cV.wrap ((m:Int).tdiv 32)=((m/32:Nat):Int):=by rw[Fa ac,c0];omega
 have g:cV.wrap (((m/32:Nat):Int)+1)=((m/32+1:Nat):Int):=by rw[c0];omega
 have c:s<2^m:=wA λ h=>by have:=kr h h;have:=r.1;omega
 have bw:m/32+1<=200000000000:=ac;have d:m<32*(m/32+1):=ac;have e:s<ai^(m/32+1):=E7 c (by rw[show ai=2^32 from rfl,<-yM];exact uN al d);generalize m/32+1=L at*;have eU:rt s m=0:=by unfold rt;rw[h6 c,tu]
 have iv:=aoN G (eM s L) (y2 s L) (by rw[nk];omega);rw[uB,dL e]at iv;have rd:∀i,i<m->lq ab G (aT (ao 250) 0) (ao 250).aH 200 .normal (uw L (m-i)) (ux z L (rt s (m-i))) (uw L (m-(i+1))) (ux z L (rt s (m-(i+1)))):=λ i C=>by have⟨j,u⟩:∃j,m-i=j+1:=⟨m-i-1,ac⟩;rw[u,show m-(i+1)=j from ac];exact apP G r f bw (ac:j<m) d c
 have x:lq ab G (aT (ao 250) 0) (ao 250).aH 200 (.exit 0) (uw L (m-m)) (ux z L (rt s (m-m))) (uw L 0) (ux z L s):=by rw[yK,aoY];exact hU []
 exact bK [hc w,hb 10 k,hc o,hw 14 q,hw 15 l,hw 17 n,hw 18 g,sF 19 L (au (rt s m)) (λ j _=>by rw[eU];exact sc (E9 fz)),k5 21 m,vF (ao 250) 0 0 m ⟨[16,0],[0,0],[1,0],[4]⟩ (uw L m ⟨[16,0],[0,0],[1,0],[4]⟩) (ux z L (rt s m) ⟨[16,0],[0,0],[1,0],[4]⟩) (λ i=>uw L (m-i)) (λ i=>ux z L (rt s (m-i))) (.exit 0) (uw L 0) (ux z L s) rfl rfl rd x,ox [16,0] 1 (us (eM s L)) L (by rw[j2,nk]) (A:=[.bool false]) iv]
def least{p:Nat->Prop}:∀N,(∃i,i<N/\p i)->∃i,i<N/\p i/\∀j,j<i->¬p j|0,⟨i,h,_⟩=>absurd h (ew i)|N+1,⟨i,h,b⟩=>by by_cases e:∃j,j<N/\p j;have⟨j,h1,h2⟩:=least N e;exact⟨j,ac,h2⟩;exact⟨i,h,b,λ j c a=>e ⟨j,ac,a⟩⟩
end
section
variable(G:Nat->Option (List aa)){m n:Nat}
abbrev AR(i:Nat):aB->List (Nat×aa):=λ q=>[(2,.ref q.a 0 0),(3,.ref q.b 0 0),(4,.bool false),(5,.int .i64 (i:Int))]
abbrev AU(m n:Nat):aB->List (bz×aJ):=λ q=>[(q.a,⟨[aS (m:Int)],2,false⟩),(q.b,⟨[aS (n:Int)],2,false⟩)]
def XW(q:af m<=4194304000000):ag ab G 251 [aS (m:Int),aS (n:Int)] (.bool (decide (m=n))):=by
 have l:∀x:Nat,decide ((x:Int)<0)=false:=λ x=>dZ ac;have d:(decide ((m:Int)<0)!=decide ((n:Int)<0))=false:=by rw[l,l];rfl
 by_cases k:af m=af n;have b:((af m:Int)!=(af n:Int))=false:=by rw[k];exact bne_self_eq_false _
 have rd:∀i,i<af m->au m i=au n i->lq ab G (aT (ao 251) 0) (ao 251).aH 200 .normal (AR i) (AU m n) (AR (i+1)) (AU m n):=λ i a h=>hU [bw 23 m,fY 24 a,dU 30 a,dU 35 (k▸a),hb 37 (show((au m i:Int)!=(au n i:Int))=false by rw[h];exact bne_self_eq_false _),hI 26 a];by_cases c:m=n;subst c;rw[decide_eq_true rfl];exact bK [hb 10 d,bw 14 m,bw 17 m,hb 18 b,vF (ao 251) 0 0 (af m) ⟨[0,0],[1,0],[3],[4]⟩ (AR 0 ⟨[0,0],[1,0],[3],[4]⟩) (AU m m ⟨[0,0],[1,0],[3],[4]⟩) (λ i=>AR i) (λ _=>AU m m) (.exit 0) (λ _=>[]) (λ _=>[]) rfl rfl (λ i a=>rd i a rfl) (hU [bw 23 m,ij 24 (a2 (af m))])];have⟨i,a,h1,h2⟩:=least (p:=λ i=>au m i≠au n i) (af m) (by have⟨i,a,h1,_⟩:=Jl c (af m) (by rw[h6 (eS m),k,h6 (eS n)]);exact⟨i,a,h1⟩);rw[decide_eq_false c];exact bK [hb 10 d,bw 14 m,bw 17 n,hb 18 b,vF (ao 251) 0 0 i ⟨[0,0],[1,0],[3],[4]⟩ (AR 0 ⟨[0,0],[1,0],[3],[4]⟩) (AU m n ⟨[0,0],[1,0],[3],[4]⟩) (λ i=>AR i) (λ _=>AU m n) .ret (λ _=>[(4,.bool false)]) (λ _=>[]) rfl rfl (λ j o=>rd j ac (Classical.not_not.1 (h2 j o))) (hU [bw 23 m,fY 24 a,dU 30 a,dU 35 (k▸a),hb 37 (show((au m i:Int)!=(au n i:Int))=true from bne_iff_ne.2 ac)])];have b:((af m:Int)!=(af n:Int))=true:=bne_iff_ne.2 ac;rw[decide_eq_false λ e=>k (by rw[e])];exact bK [hb 10 d,bw 14 m,bw 17 n,hb 18 b]
end
section
variable(G:Nat->Option (List aa))
def adn(z:Int)(l:z.natAbs≠0)(j:af z.natAbs<=4194304000000):∃b:Nat,z.natAbs<2^b/\b<=32*af z.natAbs/\ag ab G 324 [aS z] (.int .i64 (b:Int)):=by
 have⟨k,f⟩:∃k,af z.natAbs=k+1:=⟨af z.natAbs-1,by have:=@gL z.natAbs;omega⟩;have h0:=lP (se f);have d:=cG z.natAbs k;have i:=Ca d h0;have h2:=(ze d h0).1;have e:=pW z.natAbs k;have g:=eS z.natAbs;rw[f]at g;rw[h6 g,j5,cI]at e;have c:k<af z.natAbs:=ac;have a:cV.wrap ((af z.natAbs:Int)-1)=(k:Int):=by rw[c0];omega
 refine⟨32*k+ey (au z.natAbs k),?_,ac,aN [hc (jD (oK G) z.natAbs ac),bw 8 z.natAbs,hb 9 (show((af z.natAbs:Int)==0)=false by rw[beq_eq_false_iff_ne];omega),bw 11 z.natAbs,hw 12 a,hw 13 (show cV.wrap (32*(k:Int))=((32*k:Nat):Int)by rw[c0];omega),bw 16 z.natAbs,hw 17 a,dU 18 c,hc (Vb G (au z.natAbs k) d),hw 21 (show cV.wrap (((32*k:Nat):Int)+(ey (au z.natAbs k):Int))=((32*k+ey (au z.natAbs k):Nat):Int)by rw[c0];omega)]⟩;rw[iI,yM];have h3:z.natAbs/ai^k<2^ey (au z.natAbs k):=by rw[e];exact h2
 rw[dm];exact(mm (fR k)).1 h3
def amT(n:Nat):af (2^n)=n/32+1:=by
 have h:=XQ n;have c:=bG n (al:0<32);have d:au (2^n) (n/32)=2^(n%32):=by have:=y1 (a:=0) (p:=n/32) (X:=2^(n%32)) (j:=n/32) (E9 fz);rw[cI,<-h,if_neg (pM _),yK]at this;rw[this];unfold au;rw[kR,pL];exact dL (uN al c)
 refine abr (jF ?_) (wA λ b=>?_);rw[show ai=2^32 from rfl,<-yM];exact uN al ac;rw[pV b]at d;have:=lQ (n%32);omega
def apm(n:Nat)(k:n<=10000000000000):ag ab G 325 [.int .i64 (n:Int)] (W (2^n)):=by
 have h:=amT n;have d:=bG n (al:0<32);have c:cV.wrap ((n:Int).tdiv 32)=((n/32:Nat):Int):=by rw[Fa ac,c0];omega
 have i:cV.wrap (((n/32:Nat):Int)+1)=((n/32+1:Nat):Int):=by rw[c0];omega
 have g:∀j,au (2^n) j=if j=n/32 then 2^(n%32)else 0:=λ j=>by
   have:=QL 0 n j;have z:rt 0 (n+1)=0:=by unfold rt;rw[Nat.zero_div,tu]
   have b:∀j,au 0 j=0:=λ j=>by unfold au;rw[Nat.zero_div];rfl
   rwa[z,cI,b,b,cI]at this
 have e:W (2^n)=.sl 1 (us (cj (n/32+1) (au (2^n)))):=by show aa.sl 1 (us (digits (2^n)))=_;rw[Ly,h];rfl
 rw[e];exact ag.Pg hN [hw 5 c,hw 6 i,sF 7 (n/32+1) (λ _=>0) (λ _ _=>rfl),hw 10 c,sH 12 .i64 n 32,ho 13 (Ye d),et 14 [4,0] (n/32+1) (n/32) ac,g6 14 [4,0] (L:=n/32+1) (f:=λ _=>0) (au (2^n)) (nb (n/32)) (λ j _=>g j)] 4 (u3 _ _)
def gI(n x:Nat):Nat->Nat|0=>x|i+1=>(gI n x i+n/gI n x i)/2
def Du{n s x:Nat}(h:jT n s)(h0:0<s)(a:s<=x):∀i,(∀j,j<i->gI n x (j+1)<gI n x j)->s<=gI n x i/\(gI n x i-s)*2^i<=x-s/\gI n x i<=x
 |0,_=>⟨a,by show(x-s)*2^0<=_;omega,a2 _⟩|i+1,hd=>by
   have⟨h1,h2,h3⟩:=Du h h0 a i λ j f=>hd j ac;have b:=hd i;have c:=ald h (ac:0<gI n x i);have e:gI n x (i+1)=(gI n x i+n/gI n x i)/2:=rfl;rw[e]at b⊢;generalize gI n x i=y at*;have d:n/y<=s:=by have:n/y<=n/(s+1):=Nat.div_le_div_left ac ac;have:=(mm (ac:0<s+1)).2 h.2;omega
   refine⟨c,bx ?_ h2,ac⟩;rw[eo,dm (2^i),<-fT];exact cr _ ac
def aln{n s t:Nat}(h:jT n s)(h0:0<s)(d:s<=2^t):∃N,N<=t/\(∀i,i<N->gI n (2^t) (i+1)<gI n (2^t) i)/\gI n (2^t) N<=gI n (2^t) (N+1)/\gI n (2^t) N=s:=by have⟨N,h1,h2,h3⟩:=least (p:=λ i=>gI n (2^t) i<=gI n (2^t) (i+1)) (t+1) (Classical.byContradiction λ e=>by have hd:∀j,j<t+1->gI n (2^t) (j+1)<gI n (2^t) j:=λ j b=>wA λ c=>e ⟨j,b,c⟩;have⟨f,g,_⟩:=Du h h0 d t λ j b=>hd j ac;have⟨b1,_,_⟩:=Du h h0 d (t+1) hd;have:=hd t;have:1*2^t<=(gI n (2^t) t-s)*2^t:=cr _ ac;omega);have hd:∀j,j<N->gI n (2^t) (j+1)<gI n (2^t) j:=λ j b=>wA (h3 j b);have:=Du h h0 d N hd;exact⟨N,ac,hd,h2,alc h ac this.1 h2⟩
abbrev xO(x:Nat):aB->List (Nat×aa):=λ q=>[(1,.ref q.a 0 0),(2,.ref q.b 0 0),(3,.int .i64 0),(5,W x)]
abbrev xP(z:Int):aB->List (bz×aJ):=λ q=>[(q.a,⟨[aS z],2,false⟩),(q.b,⟨[.agg [.bool false,.ar]],2,false⟩)]
def alm{z:Int}{x y:Nat}(e:(x+z.natAbs/x)/2=y)(d:ag ab G 262 [W z.natAbs] (W z.natAbs))(i:ag ab G 303 [W z.natAbs,W x] (.aM [W (z.natAbs/x),W (z.natAbs%x)]))(g:ag ab G 305 [W x,W (z.natAbs/x)] (W (x+z.natAbs/x)))(c:ag ab G 326 [W (x+z.natAbs/x)] (W ((x+z.natAbs/x)/2)))(f:ag ab G 266 [W y,W x] (.int .i64 (eg y x)))(h:y<x):lq ab G (aT (ao 320) 0) (ao 320).aH 200 .normal (xO x) (xP z) (xO y) (xP z):=by rw[e]at c;have b:decide (eg y x≥0)=false:=dZ (by unfold eg fi;rw[if_pos ac];decide);exact hU [hc d,hc i,hc g,hc c,hc f,hb 38 b]
def jG:aa:=.agg [.bool false,.ar,.bool false,.ar]
instance:bg jG:=by unfold jG;infer_instance
def arJ{k j:Nat}(h:k<32*j):af (2^k)<=j:=jF (by have a:ai=2^32:=rfl;rw[a,<-yM];exact uN al h)
def agM(m:Nat)(b:af m<=4194304000000):ag ab G 326 [W m] (W (m/2)):=by
 have c:ag ab G 262 [.sl 1 (us (cj (af m) (jx (m/2^1) (af m))))] (W (m/2^1)):=by rw[tB (g:=au (m/2^1)) λ j d=>GU d];have:=oK G (eM (m/2^1) (af m)) (y2 _ _) (by rw[nk];omega);rwa[uB,dL (gN (h7 _ _) (eS _))]at this
 have h:ag ab G 326 [W m] (W (m/2^1)):=bK [hc (YF G (s:=1) al b),hc c];exact h
def ado(z:Int)(j:z.natAbs≠0)(i:af z.natAbs<=4194304000000):∃b:Nat,z.natAbs<2^b/\b<=32*af z.natAbs/\ag ab G 282 [aS z] (.int .i64 (b:Int)):=by
 have⟨k,a⟩:∃k,af z.natAbs=k+1:=⟨af z.natAbs-1,by have:=@gL z.natAbs;omega⟩;have g:=lP (se a);have d:=cG z.natAbs k;have hb:=Ca d g;have h:=(ze d g).1;have e:=pW z.natAbs k;have c:=eS z.natAbs;rw[a]at c;rw[h6 c,j5,cI]at e;refine⟨32*k+ey (au z.natAbs k),?_,ac,aN [hc (jD (mQ G) z.natAbs ac),hc (U2 G z.natAbs k a ac)]⟩;rw[iI,yM];have h3:z.natAbs/ai^k<2^ey (au z.natAbs k):=by rw[e];exact h
 rw[dm];exact(mm (fR k)).1 h3
def ahZ(z:Int)(s:Nat)(L:0<z)(hw:af z.natAbs<=201326592000)(p:jT z.natAbs s):ag ab G 320 [aS z] (.aM [aS (s:Int),.int .i64 0]):=by
 have w:z.natAbs≠0:=ac;have⟨b,hb,O,H⟩:=adn G z w ac;have m:=zz G z ac;rw[Int.sign_eq_one_of_pos L]at m;have J:af (2^(b/2+1))<=100663296002:=arJ ac;have d:∀n,n<=2^(b/2+1)->af n<=100663296002:=λ n h=>bx (fv h) J;have r:∀n,af (z.natAbs/n)<=201326592000:=λ n=>bx (fv (h7 _ _)) hw;have f:∀n,n<=2^(b/2+1)->af (n+z.natAbs/n)<=201326592001:=λ n h=>EC (bx (d n h) ac) (r n);have k:∀n,n<=2^(b/2+1)->af ((n+z.natAbs/n)/2)<=201326592001:=λ n h=>bx (fv (h7 _ _)) (f n h);have K:af s<=201326592000:=bx (fv (by have:=p.1;exact bx (Bv s) this)) hw;have h0:0<s:=lP λ e=>by have:=p.2;rw[e]at this;omega
 have c:s<=2^(b/2+1):=ku λ t=>by have h1:=kr (h9 t) (h9 t);rw[<-iI]at h1;have h2:=dR (n:=2) al (ac:b<=b/2+1+(b/2+1));have:=p.1;omega
 have⟨N,hN,hd,o,l⟩:=aln p h0 c;have lC:=λ i(F:i<=N)=>Du p h0 c i λ j Q=>hd j ac;have y:=jD (s9 G) z.natAbs ac;have B:=λ n(h0:0<n)(h:n<=2^(b/2+1))=>Lu G z.natAbs n ac ac (by have:=d n h;omega);have C:=λ n(h:n<=2^(b/2+1))=>NT G n (z.natAbs/n) (by have:=d n h;omega) (by have:=r n;omega);have E:=λ n(h:n<=2^(b/2+1))=>agM G (n+z.natAbs/n) (by have:=f n h;omega);have A:=λ n(h:n<=2^(b/2+1))=>Le G ((n+z.natAbs/n)/2) n (by have:=k n h;omega) (by have:=d n h;omega);have iv:=vT G false s ac;have M:=apm G (b/2+1) ac;have v:cV.wrap ((b:Int).tdiv 2)=((b/2:Nat):Int):=by rw[Fa ac,c0];omega
 have x:cV.wrap (((b/2:Nat):Int)+1)=((b/2+1:Nat):Int):=by rw[c0];omega
 have rd:∀i,i<N->lq ab G (aT (ao 320) 0) (ao 320).aH 200 .normal (xO (gI z.natAbs (2^(b/2+1)) i)) (xP z) (xO (gI z.natAbs (2^(b/2+1)) (i+1))) (xP z):=λ i F=>by have⟨P,_,jz⟩:=lC i ac;exact alm G rfl y (B _ ac jz) (C _ jz) (E _ jz) (A _ jz) (hd i F)
 have I:lq ab G (aT (ao 320) 0) (ao 320).aH 200 .ret (xO (gI z.natAbs (2^(b/2+1)) N)) (xP z) (λ q=>[(2,.ref q.b 0 0),(3,.int .i64 0)]) (λ q=>[(q.a,⟨[aS z],2,false⟩),(q.b,⟨[aS (s:Int)],2,false⟩)]):=by
   have e:gI z.natAbs (2^(b/2+1)) (N+1)=(s+z.natAbs/s)/2:=by show(gI z.natAbs (2^(b/2+1)) N+_/gI z.natAbs (2^(b/2+1)) N)/2=_;rw[l]
   rw[l,e]at o;rw[l];have u:decide (eg ((s+z.natAbs/s)/2) s≥0)=true:=fJ (by unfold eg fi;split<;>(try split)<;>omega);exact hU [hc y,hc (B s h0 c),hc (C s c),hc (E s c),hc (A s c),Go.aA.hb 38 u,hc iv]
 exact bK [hc m,hc H,Go.aA.hw 19 v,Go.aA.hw 20 x,hc M,vF (ao 320) 0 0 N ⟨[0,0],[1,0],[3],[4]⟩ (xO (2^(b/2+1)) ⟨[0,0],[1,0],[3],[4]⟩) (xP z ⟨[0,0],[1,0],[3],[4]⟩) (λ i=>xO (gI z.natAbs (2^(b/2+1)) i)) (λ _=>xP z) .ret (λ q=>[(2,.ref q.b 0 0),(3,.int .i64 0)]) (λ q=>[(q.a,⟨[aS z],2,false⟩),(q.b,⟨[aS (s:Int)],2,false⟩)]) rfl rfl rd I]
def D5(n:Nat):∃s,jT n s:=by induction n with|zero=>exact⟨0,by unfold jT;decide⟩|succ n a=>
   have⟨s,h1,b⟩:=a;by_cases h:n+1<(s+1)*(s+1);exact⟨s,ac,h⟩;refine⟨s+1,ac,?_⟩;have:(s+1+1)*(s+1+1)=(s+1)*(s+1)+2*(s+1)+1:=by rw[fw,ej];omega
   omega
def A0(r:Rat):(r*r).num=r.num*r.num/\(r*r).den=r.den*r.den:=by
 have a:=Nat.Coprime.mul_left r.reduced r.reduced;have hc:(r.num*r.num).natAbs.Coprime (r.den*r.den):=by rw[nV];exact Nat.Coprime.mul_right a a
 have hd:r.den*r.den≠0:=Nat.mul_ne_zero r.den_nz r.den_nz;have e:r*r=⟨r.num*r.num,r.den*r.den,hd,hc⟩:=by rw[Rat.mk_eq_divInt,N8,<-yC];simp
 rw[e];exact⟨rfl,rfl⟩
def Yx{q:Rat}{s t:Nat}(b:(s:Int)*s=q.num)(a:(t:Int)*t=(q.den:Int)):((s:Int):Rat)/((t:Int):Rat)*(((s:Int):Rat)/((t:Int):Rat))=q:=by
 have f:((t:Int):Rat)≠0:=by
   intro e;have:(t:Int)=0:=by exact_mod_cast e
   rw[this]at a;have:=q.den_pos;omega
 have h:((q.num:Int):Rat)/(((q.den:Nat):Int):Rat)=q:=by rw[<-yC];exact Rat.num_divInt_den q
 have d:((q.num:Int):Rat)=((s:Int):Rat)*((s:Int):Rat):=by rw[<-b];exact yG ..
 have c:(((q.den:Nat):Int):Rat)=((t:Int):Rat)*((t:Int):Rat):=by rw[<-a];exact yG ..
 refine Eq.trans ?_ h;rw[d,c];generalize((s:Int):Rat)=x at*;generalize((t:Int):Rat)=y at*;grind
def AD(z:Int)(s:Nat)(d:0<z)(hw:af z.natAbs<=201326592000)(a:jT z.natAbs s):ag ab G 309 [aS z] (.aM [aS (s:Int),.bool (decide ((s:Int)*s=z))]):=by
 have f:af s<=201326592000:=bx (fv (by have:=a.1;exact bx (Bv s) this)) hw;have h1:=ahZ G z s d hw a;have c:=Vm G (s:Int) (s:Int) (by simpa using(ac:af s<=4194304000000)) (by simpa using(ac:af s<=4194304000000));have h3:=RB G ((s:Int)*s) z (by rw[nV];have:=Bd s s;simp only[gO];omega) ac;have e:(fi ((s:Int)*s) z==0)=decide ((s:Int)*s=z):=by unfold fi;by_cases h:(s:Int)*s=z;rw[if_neg ac,if_neg ac,decide_eq_true h];rfl;rw[decide_eq_false h];split;rfl;rw[if_pos ac];rfl
 exact aN [hc h1,hc c,hc h3,hb 20 e]
def anf(q r:Rat)(j:0<q.num)(g:cO 201326592000 q)(d:r*r=q)(m:0<r.num):ag ab G 299 [aZ q] (.aM [aZ r,.bool true]):=by
 have c:q.num=r.num*r.num:=by rw[<-d];exact(A0 r).1
 have e:q.den=r.den*r.den:=by rw[<-d];exact(A0 r).2
 have f:∀n:Nat,jT (n*n) n:=λ n=>⟨a2 _,r6 (nb n) (nb n)⟩;have a:=AD G q.num r.num.natAbs j g.1 (by rw[c,nV];exact f _);have b:=AD G (q.den:Int) r.den (by have:=q.den_pos;omega) (by simpa using g.2) (by rw[gO,e];exact f _);have l:((r.num.natAbs:Int)*(r.num.natAbs:Int)=q.num):=by rw[c,Fb ac]
 have i:((r.den:Int)*(r.den:Int)=(q.den:Int)):=by rw[e];simp
 rw[decide_eq_true l]at a;rw[decide_eq_true i]at b;have k:(r.num.natAbs:Int)=r.num:=Fb ac;rw[k]at a;exact ans q.num q.den r.num r.den a b
def ane(q:Rat)(g:0<q.num)(e:cO 201326592000 q)(i:∀r:Rat,r*r≠q):ag ab G 299 [aZ q] (.aM [.agg [.bool false,.ar,.bool false,.ar],.bool false]):=by have⟨s,h1⟩:=D5 q.num.natAbs;have⟨t,h⟩:=D5 q.den;have a:=AD G q.num s g e.1 h1;have c:=AD G (q.den:Int) t (by have:=q.den_pos;omega) (by simpa using e.2) (by simpa using h);by_cases b:((s:Int)*s=q.num);by_cases d:((t:Int)*t=(q.den:Int));exfalso;exact i (((s:Int):Rat)/((t:Int):Rat)) (Yx b d);rw[decide_eq_true b]at a;rw[decide_eq_false d]at c;exact aN [hc a,hc c];rw[decide_eq_false b]at a;exact aN [hc a,hc c]
def EL(z:Int)(s:Nat)(d:0<z)(hw:af z.natAbs<=201326592000)(c:jT z.natAbs s):ag ab G 250 [aS z] (.aM [aS (s:Int),.int .i64 0]):=by have⟨b,h1,h2,h3⟩:=ado G z ac ac;exact apQ G z s b d ac c h1 ac (MP G z ac) h3
def EK(z:Int)(s:Nat)(f:0<z)(hw:af z.natAbs<=201326592000)(d:jT z.natAbs s):ag ab G 177 [aS (s:Int),aS (s:Int)] (aS ((s*s:Nat):Int))/\ag ab G 251 [aS ((s*s:Nat):Int),aS z] (.bool (decide ((s:Int)*s=z))):=by have c:af s<=201326592000:=bx (fv (by have:=d.1;exact bx (Bv s) this)) hw;have b:af (s*s)<=402653184000:=bx (Bd s s) ac;have h1:=z0 G (s:Int) (s:Int) (by rw[gO];omega) (by rw[gO];omega);have h2:=XW G (m:=s*s) (n:=z.natAbs) ac;rw[Fb ac]at h2;have e:decide (s*s=z.natAbs)=decide ((s:Int)*s=z):=decide_eq_decide.2 ⟨λ h=>by have:=congrArg (λ x:Nat=>(x:Int)) h;simp only[pI]at this;omega,λ h=>by rw[<-h,nV];rfl⟩;rw[e]at h2;exact⟨by rw[pI];exact h1,h2⟩
def asy(q r:Rat)(c:0<q.num)(a:cO 201326592000 q)(i:r*r=q)(w:0<r.num):ag ab G 215 [aZ q] (.aM [aZ r,.bool true]):=by
 have e:q.num=r.num*r.num:=by rw[<-i];exact(A0 r).1
 have b:q.den=r.den*r.den:=by rw[<-i];exact(A0 r).2
 have m:∀n:Nat,jT (n*n) n:=λ n=>⟨a2 _,r6 (nb n) (nb n)⟩;have f:jT q.num.natAbs r.num.natAbs:=by rw[e,nV];exact m _
 have d:jT (q.den:Int).natAbs r.den:=by rw[gO,b];exact m _
 have j:0<(q.den:Int):=by have:=q.den_pos;omega
 have p:=EL G q.num r.num.natAbs c a.1 f;have v:=EL G (q.den:Int) r.den j (by simpa using a.2) d;have⟨o,g⟩:=EK G q.num r.num.natAbs c a.1 f;have⟨s,h⟩:=EK G (q.den:Int) r.den j (by simpa using a.2) d;have t:((r.num.natAbs:Int)*(r.num.natAbs:Int)=q.num):=by rw[e,Fb ac]
 have u:((r.den:Int)*(r.den:Int)=(q.den:Int)):=by rw[b];simp
 rw[decide_eq_true t]at g;rw[decide_eq_true u]at h;have k:(r.num.natAbs:Int)=r.num:=Fb ac;rw[k]at p o;exact aN [hb 10 (dZ ac:decide (q.num<0)=false),hc p,hc v,hc o,hc g,hc s,hc h]
def asx(q:Rat)(g:0<q.num)(c:cO 201326592000 q)(o:∀r:Rat,r*r≠q):ag ab G 215 [aZ q] (.aM [jG,.bool false]):=by
 have⟨s,h1⟩:=D5 q.num.natAbs;have⟨t,m⟩:=D5 (q.den:Int).natAbs;have i:0<(q.den:Int):=by have:=q.den_pos;omega
 have l:=EL G q.num s g c.1 h1;have f:=EL G (q.den:Int) t i (by simpa using c.2) m;have⟨k,b⟩:=EK G q.num s g c.1 h1;have⟨n,h⟩:=EK G (q.den:Int) t i (by simpa using c.2) m;have a:decide (q.num<0)=false:=dZ ac;by_cases d:((s:Int)*s=q.num);by_cases e:((t:Int)*t=(q.den:Int));exfalso;exact o (((s:Int):Rat)/((t:Int):Rat)) (Yx d e);rw[decide_eq_true d]at b;rw[decide_eq_false e]at h;exact aN [hb 10 a,hc l,hc f,hc k,hc b,hc n,hc h];rw[decide_eq_false d]at b;exact aN [hb 10 a,hc l,hc f,hc k,hc b]
theorem alK(b:Rat):1/b=b⁻¹:=by rw[Rat.div_def,Rat.one_mul]
def JX:aa:=.agg [.bool false,.ar]
instance:bg JX:=by unfold JX;infer_instance
theorem ml{n k:Nat}(h:n<4294967296:=by decide)(hk:1<=k:=by decide):af n<=k:=bx (jF (k:=1) (by rw[Qn];exact h)) hk
theorem aqW{σ:aQ}{c:aa}[bg c]:View σ (.aM [.agg [.bool false,.ar],c]) (.aM [aS 0,c]):=by rw[show aS 0=.agg [.bool false,.sl 1 []]from an];exact mq (bZ (View.agg (bZ (fx (Bt _)) (bZ (e8 1) eH))) (bZ (fx bg.pure) eH))
theorem anK(b:Rat)(h:b≠0)(hb:cO 419430400000 b):ag ab G 227 [aZ b] (aZ b⁻¹):=anB (UD G) b h hb
theorem ah1:ag ab G 320 [aS 0] (.aM [aS 0,.int .i64 0]):=ag.yf hN [hc (zz G 0 ml)] [] (.aM [.agg [.bool false,.ar],.int .i64 0]) an (fun σ _=>aqW)
theorem ana:ag ab G 309 [aS 0] (.aM [aS 0,.bool true]):=aN [hc (ah1 G),hc (zT G 0 0 ml ml),hc (Us G 0 0 ml ml)] an
theorem ah0(z:Int)(h:z<0)(hw:af z.natAbs<=419430400000):ag ab G 320 [aS z] (.aM [JX,.int .i64 7]):=by have hs:=zz G z ac;rw[Int.sign_eq_neg_one_of_neg h]at hs;exact aN [hc hs] an
theorem am9(z:Int)(h:z<0)(hw:af z.natAbs<=419430400000):ag ab G 309 [aS z] (.aM [JX,.bool false]):=aN [hc (ah0 G z h hw)] an
theorem anc(q r:Rat)(hs:cO 201326592000 q)(hr:r*r=q)(h0:0<=r):ag ab G 299 [aZ q] (.aM [aZ r,.bool true]):=by
 have aoH:=E1.2 h0;have e1:q.num=r.num*r.num:=by rw[<-hr];exact(A0 r).1
 by_cases e:r.num=0
 . obtain rfl:=m9.1 e;obtain rfl:q=0:=by rw[<-hr,Kq]
   have oa:=AD G 1 1 al ml (by unfold jT;decide);exact aN [hc (ana G),hc oa] an
 .refine anf G q r ?_ hs hr ac;rw[e1];exact Int.mul_pos ac ac
theorem anb(q:Rat)(hs:cO 201326592000 q)(hr:∀r:Rat,r*r≠q):ag ab G 299 [aZ q] (.aM [jG,.bool false]):=by
 rcases abt q.num 0 with h|h|h;.obtain⟨t,h2⟩:=D5 q.den;have oa:=AD G (q.den:Int) t (by have:=q.den_pos;omega) (by simpa using hs.2) (by simpa using h2);exact aN [hc (am9 G q.num h (by have:=hs.1;omega)),hc oa] an
 .exact absurd (by rw[m9.1 h,Kq]) (hr 0)
 .exact ane G q h hs hr
theorem am6:ag ab G 311 [.int .i64 1,.int .i64 2] (aZ (1/2)):=by have n1:∀n:Nat,n<100->ag ab G 327 [aS (n:Int)] (aS (n:Int)):=fun n hn=>aN [hc (jD (s9 G) n (by have:=yo n ac;omega)),hc (Cf G n (by have:=yo n ac;omega)),hc (vT G false n (by have:=yo n ac;omega))] an;have m:=Hq G 1 2 al ml ml;have hm:ag ab G 321 [aS 1,aS 2] (.aM [aZ (1/2),.int .i64 0]):=aN [hc (n1 1 al),hc (n1 2 al),hc (Xg G 2),hc m] an;exact aN [hc (GD G 1 al al),hc (GD G 2 al al),hc hm] an
theorem as7:ag ab G 250 [aS 0] (.aM [aS 0,.int .i64 0]):=by
 have hb:ag ab G 282 [aS 0] (.int .i64 0):=by have hl:ag ab G 255 [W 0] (.int .i64 0):=aN [] an;exact aN [hc (jD (El G) 0 ml),hc hl] an
 have t:=mQ G [0] (fun w hw=>by rw[bU.1 hw];decide) al;have hg:ag ab G 179 [.bool false,.sl 1 (us [0])] (aS 0):=aN [hc t] an;have hv:dy (bB [([16],⟨us [0],1,false⟩)]) [.bool false,.ah [16] 1 0 1 false] [.bool false,.sl 1 (us [0])]:=bZ (fx (Bt _)) (bZ (nc (av:=⟨us [0],1,false⟩) (by simp[bB]) rfl (by simp[us]) (jJ fun c hc=>by simp[us,flat,aa.cells]at hc;subst hc;exact cd.int _ _) rfl (fun d hd=>by simp[us]at hd;subst hd;rfl)) eH);exact aN [hc (MP G 0 ml),hc hb,vx [([16],⟨us [0],1,false⟩)] hg hv] an
theorem ast:ag ab G 177 [aS 0,aS 0] (aS 0)/\ag ab G 251 [aS 0,aS 0] (.bool true):=by have h2:=XW G (m:=0) (n:=0) ml;exact⟨z0 G 0 0 ml ml,by simpa using h2⟩
theorem asw(q r:Rat)(hs:cO 201326592000 q)(hr:r*r=q)(h0:0<=r):ag ab G 215 [aZ q] (.aM [aZ r,.bool true]):=by
 have aoH:=E1.2 h0;have e1:q.num=r.num*r.num:=by rw[<-hr];exact(A0 r).1
 by_cases e:r.num=0
 . obtain rfl:=m9.1 e;obtain rfl:q=0:=by rw[<-hr,Kq]
   have r1:jT (1:Int).natAbs 1:=by unfold jT;decide
   have oa:=EL G 1 1 al ml r1;obtain⟨Vn,s2⟩:=EK G 1 1 al ml r1;obtain⟨Vl,s1⟩:=ast G;exact aN [hc (as7 G),hc oa,hc Vl,hc s1,hc Vn,hc s2] an
 .refine asy G q r ?_ hs hr ac;rw[e1];exact Int.mul_pos ac ac
theorem asv(q:Rat)(hs:cO 201326592000 q)(hr:∀r:Rat,r*r≠q):ag ab G 215 [aZ q] (.aM [jG,.bool false]):=by
 rcases abt q.num 0 with h|h|h;.exact aN [hb 10 (decide_eq_true h)] an
 .exact absurd (by rw[m9.1 h,Kq]) (hr 0)
 .exact asx G q h hs hr
end
end Go.Proofs.YtpcofcmencgkbaaGreat
