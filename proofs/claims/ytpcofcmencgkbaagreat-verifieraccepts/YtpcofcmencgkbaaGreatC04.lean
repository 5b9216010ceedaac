/- For the claim of VerifierAccepts: parts FD, CI21, CI23, KD, KE, VL31, CR1, CR5, CR6, CR7, CR9, CR10, RQ, CN1, CQ1, CN2, CQ2, CQ7, PUN, CQC, QVL, VL41, WK2, ZKS, LP1, LP2, LP3, RE1. -/
import Derived.Test.YtpcofcmencgkbaaGreatC03
import Derived.Lib.ItoaNum
import Derived.Lib.IndexMore
import Derived.Sort.KeysCollected
import Derived.Sort.Walk0
import Derived.Lib.SlicesCompact
import Derived.KernelRfl
set_option linter.defProp false
set_option linter.unusedSectionVars false
set_option linter.unusedSimpArgs false
set_option linter.unusedVariables false
set_option maxRecDepth 100000
open Bool renaming and_eq_true->gj,or_eq_true->yF
open Classical renaming choose->r5,choose_spec->oR
open Go.IntKind renaming i64->cV,u64->da,wrap_i64->c0,wrap_u64->iy
open Go.Proofs.Tryz renaming prog->ab
open Go.aA renaming hb->eB
open Go.aA.cd renaming bool->Bt
open Go.aA.aQ renaming app->mz,of->bB
open Go.aA.e5 renaming to->nW
open Go.aA.bA renaming jC->uL
open Go.aA.View renaming pure->fx
open Go.aA.dy renaming cons->bZ,pure->jJ
open Go.aA.gD renaming view->qM
open Go.aA.e6 renaming same->ji
open Int renaming fdiv_eq_ediv_of_nonneg->yz,le_of_lt->P5,lt_or_le->Qa,mul_ediv_cancel_left->J7,mul_fdiv_add_fmod->aaQ,mul_fdiv_cancel_left->J8,mul_ne_zero->aaX,mul_neg->J4,mul_nonneg->Qb,mul_one->Ka,natAbs_add_le->P8,natAbs_ediv_le_natAbs->aa1,natAbs_mul->nV,natAbs_natCast->gO,natAbs_neg->aaY,natCast_add->aaR,natCast_ediv->J5,natCast_mul->pI,natCast_nonneg->uJ,neg_mul_neg->aaV,ofNat_dvd->E0,ofNat_dvd_left->yD,sign_eq_neg_one_of_neg->J6,sign_eq_one_of_pos->r4,sign_mul->J9
open List renaming all_eq_true->ek,append_inj'->aa2,drop_zero->nY,filter_append->ks,getLast?_eq_getElem?->aaU,length_append->cy,length_eq_one_iff->aa0,lookup->dC,lookup_cons->jh,map_append->dW,map_cons->mw,mem_cons->cp,mem_flatMap->g3,mem_map->bd,mem_of_mem_take->gZ,mem_singleton->bU,nil_sublist->nZ,nodup_cons->h5,nodup_nil->gA,not_mem_nil->ct,range->aR,range_succ->gz,replicate->bI,suffix_append->aa3,suffix_refl->wM,take_of_length_le->jI
open Nat renaming add_mul->fw,div_add_mod->h8,div_le_self->h7,div_lt_iff_lt_mul->mm,eq_zero_or_pos->EW,gcd->cJ,gcd_dvd_left->Br,gcd_dvd_right->tn,gcd_pos_of_pos_right->EX,le_add_right->pH,le_div_iff_mul_le->yB,le_mul_of_pos_right->r0,le_of_ble_eq_true->EU,le_of_dvd->EZ,le_of_lt->h9,le_refl->a2,le_trans->bx,lt_of_lt_of_le->gM,lt_of_mul_lt_mul_right->P7,mod_eq_of_lt->dL,mod_lt->bG,mul_add->ej,mul_assoc->fT,mul_comm->dm,mul_div_cancel_left->P9,mul_le_mul->kr,mul_le_mul_left->fS,mul_le_mul_right->cr,mul_one->nX,mul_zero->j5,one_mul->P6,pos_of_ne_zero->lP,pow_le_pow_right->dR,pow_lt_pow_iff_right->aaT,pow_succ->eo,sub_le->EY,two_pow_pos->lQ,zero_le->dF
open Ne renaming symm->dS
open Option.some renaming injEq->bf
open Prod.mk renaming injEq->c5
open Quotient renaming lift₂->aa4
open Rat renaming divInt_eq_div->yC,divInt_ofNat->aaW,div_def->yE,intCast_add->aaZ,mul_pos->fM,num_eq_zero->m9
open Go.aA Go.Proofs Go.Lib
namespace Go.aA
def LU{a b q r:Int}(hb:0<b)(h:a=b*q+r)(c:0<=r)(h1:r<b):a.fdiv b=q/\a.fmod b=r:=by have:=(Int.ediv_emod_unique (a:=a) (b:=b) (r:=r) (q:=q) hb).2 ⟨ac,c,h1⟩;rw[yz _ (P5 hb),Int.fmod_eq_emod_of_nonneg _ (P5 hb)];exact this
def afG(a b:Int):a.fdiv b=(-a).fdiv (-b)/\a.fmod b=-((-a).fmod (-b)):=by have h1:(-a).fdiv (-b)=a.fdiv b:=Int.neg_fdiv_neg a b;refine⟨h1.symm,?_⟩;have d:=aaQ a b;have c:=aaQ (-a) (-b);rw[h1,Int.neg_mul]at c;omega
def aeW{m n:Nat}(a:n≠0):((m:Int).fdiv n=(m/n:Nat)/\(m:Int).fmod n=(m%n:Nat))/\(m%n=0->(-(m:Int)).fdiv n=-((m/n:Nat):Int)/\(-(m:Int)).fmod n=0)/\(0<m%n->(-(m:Int)).fdiv n=-((m/n+1:Nat):Int)/\(-(m:Int)).fmod n=((n-m%n:Nat):Int)):=by
 have b:m%n<n:=bG _ (lP a);have e:(m:Int)=(n:Int)*((m/n:Nat):Int)+((m%n:Nat):Int):=by rw[<-pI,<-aaR,h8]
 generalize m/n=q at*;generalize m%n=r at*;refine⟨LU ac e ac ac,λ h=>LU ac ?_ ac ac,λ h=>LU ac ?_ ac ac⟩;rw[J4];omega;rw[J4,aaR,Int.mul_add];omega
def St(a b:Int)(hb:b≠0):eE (mF a b) (Gq a b)=a.fdiv b/\eE (decide (b<0)) (Gr a b)=a.fmod b:=by
 have o:b.natAbs≠0:=ac;have⟨⟨n,p⟩,k,l⟩:=aeW (m:=a.natAbs) o;unfold Gq Gr;by_cases h1:b<0;have g:-b=(b.natAbs:Int):=ac;have⟨q,r⟩:=afG a b;rw[q,r,g];by_cases h:a<0;have d:-a=(a.natAbs:Int):=ac;have hd:mF a b=false:=by simp[mF,h1,h]
 rw[d,n,p,hd];simp[eE,h1];have d:-a=-(a.natAbs:Int):=ac;have hd:mF a b=true:=by simp[mF,h1,h]
 rw[d,hd];by_cases c:0<a.natAbs%b.natAbs;rw[(l c).1,(l c).2,if_pos ⟨rfl,c⟩,if_pos ⟨rfl,c⟩];simp[eE,h1];have f:a.natAbs%b.natAbs=0:=ac;rw[(k f).1,(k f).2,if_neg (λ e=>c e.2),if_neg (λ e=>c e.2),f];simp[eE,h1];have g:b=(b.natAbs:Int):=ac;have i:decide (b<0)=false:=dZ h1;by_cases h:a<0;have d:a=-(a.natAbs:Int):=ac;have hd:mF a b=true:=by simp[mF,h1,h]
 rw[hd,i];by_cases c:0<a.natAbs%b.natAbs;have q1:=(l c).1;have j:=(l c).2;rw[<-d,<-g]at q1 j;rw[q1,j,if_pos ⟨rfl,c⟩,if_pos ⟨rfl,c⟩];exact⟨rfl,rfl⟩;have f:a.natAbs%b.natAbs=0:=ac;have q1:=(k f).1;have j:=(k f).2;rw[<-d,<-g]at q1 j;rw[q1,j,if_neg (λ e=>c e.2),if_neg (λ e=>c e.2),f];exact⟨rfl,rfl⟩;have d:a=(a.natAbs:Int):=ac;have hd:mF a b=false:=by simp[mF,h1,h]
 rw[<-d,<-g]at n p;rw[n,p,hd,i];simp[eE]
def u1(neg:Bool)(ws:List Nat):aa:=.agg [.bool neg,.sl 1 (us ws)]
def sP(neg:Bool)(ws:List Nat):Bool:=if ws=[]then !neg else decide (ws[ws.length-1]?.getD 0≠0)
def Dc{n:Nat}(h:af n<=2):n<18446744073709551616:=by have h1:=sS n;have a:ai^af n<=ai^2:=dR fz h;have b:ai^2=18446744073709551616:=al;omega
section
variable{b M h l v' V num u2 u' U:Nat}
def UI(a:V=(h*b+l)*M+v'):V=h*(b*M)+l*M+v':=by rw[a,fw,fT]
def aiV(a:U=(num*b+u2)*M+u'):U=num*(b*M)+u2*M+u':=by rw[a,fw,fT]
def ai1(a:u2<b)(h1:u'<M):u2*M+u'<b*M:=by have:(u2+1)*M<=b*M:=cr _ a;rw[fw]at this;omega
def UL(d:0<h)(g:V=(h*b+l)*M+v')(e:U=(num*b+u2)*M+u')(j:u2<b)(h1:u'<M):U/V<=num/h:=by
 have i:=ai1 j h1;have n:=UI g;have k:=aiV e;have a:0<V:=by have:1*(b*M)<=h*(b*M):=cr _ d;omega
 refine Nat.le_of_lt_succ ((mm a).2 ?_);have f:num+1<=(num/h+1)*h:=by rw[dm];exact Nat.lt_mul_div_succ num d
 have m:(num/h+1)*(h*(b*M))<=(num/h+1)*V:=fS _ ac;have c:(num+1)*(b*M)<=(num/h+1)*h*(b*M):=cr _ f;rw[fT]at c;rw[fw]at c;show U<(num/h+1)*V;omega
def aiX{q r:Nat}(g:V=(h*b+l)*M+v')(k:U=(num*b+u2)*M+u')(h1:u'<M)(f:q*h+r=num)(j:r*b+u2<q*l):U/V<=q-1:=by
 have d:num*b+u2+1<=q*(h*b+l):=by rw[<-f,fw,ej,<-fT];omega
 have i:(num*b+u2+1)*M<=q*(h*b+l)*M:=cr _ d;have a:U<q*V:=by rw[g,ej,<-fT];rw[fw]at i;omega
 have c:0<V:=by rcases EW V with e|e;rw[e]at a;simp at a;exact e
 have:=(mm c).2 a;omega
def UM{q r:Nat}(k:0<h)(d:V=(h*b+l)*M+v')(w:U=(num*b+u2)*M+u')(m:v'<M)(a:q<b)(i:q*h+r=num)(p:q*l<=r*b+u2):q<=U/V+1:=by
 have j:q*(h*b+l)<=num*b+u2:=by rw[<-i,fw,ej,<-fT];omega
 have s:q*(h*b+l)*M<=(num*b+u2)*M:=cr _ j;have n:q*v'<=b*M:=by have x:q*v'<=b*v':=cr _ (h9 a);have t:b*v'<=b*M:=fS _ (h9 m);omega
 have u:=UI d;have o:1*(b*M)<=h*(b*M):=cr _ k;have v:q*V<=U+V:=by
   have:q*V=q*(h*b+l)*M+q*v':=by rw[d,ej,<-fT]
   omega
 rcases EW q with e|e;rw[e];exact dF _;have f:(q-1)*V<=U:=by
   have:q*V=(q-1)*V+V:=by have:=Nat.sub_add_cancel e;calc q*V=(q-1+1)*V:=by rw[this]
       _=(q-1)*V+V:=by rw[fw,P6]
   omega
 have c:0<V:=by have g:0<M:=ac;have:0<b*M:=Nat.mul_pos ac g;omega
 have:=(yB c).2 f;omega
def aiW{q r:Nat}(e:num<(h+1)*b)(c:l<b)(f:q*h+r=num)(d:b<=r):q<b/\q*l<=r*b+u2:=by
 have a:q<b:=by
   rw[fw,P6]at e;have h1:q*h<b*h:=by rw[dm b h];omega
   exact P7 h1
 refine⟨a,?_⟩;have h1:q*l<=b*b:=kr (h9 a) (h9 c);have g:b*b<=r*b:=cr _ d;omega
def ai0{q:Nat}(a:0<V)(d:U/V<=q)(c:q<=U/V+1):(U<q*V/\q=U/V+1\/q*V<=U/\q=U/V):=by by_cases h:U<q*V;left;have:=(mm a).2 h;exact⟨h,ac⟩;right;have:=(yB a).2 (Nat.le_of_not_lt h);exact⟨ac,ac⟩
def Ca{x:Nat}(h:x<ai)(c:0<x):1<=ey x/\ey x<=32:=by
 have⟨a,b⟩:=ze h c;constructor;rcases EW (ey x)with e|e;rw[e]at a;simp at a;omega;exact e;have d:2^ey x<2^33:=by unfold ai at h;omega
 have:=(aaT (al:1<2)).1 d;omega
def Wj{n x k:Nat}(p:af n=k+1)(c:(digits n)[k]?=some x):0<x/\x<ai/\n*2^(32-ey x)<ai^(k+1)/\af (n*2^(32-ey x))=k+1/\32-ey x<=31:=by
 have b:=xi n x (List.mem_of_getElem? c);have a:0<x:=by rcases Sp (n:=n)with h|⟨w,h,q⟩;rw[h]at c;simp at c;rw[aaU,show(digits n).length-1=k from by show af n-1=k;omega,c]at h;simp only[bf]at h;omega
 have⟨l,j⟩:=Ca b a;have d:=(ze b a).1;have e:=aq2 c;rw[jI (show(digits n).length<=k+1 from by show af n<=k+1;omega),we]at e;have i:=yj (arE (xi n) k);rw[List.length_take,Nat.min_eq_left (show k<=(digits n).length from by show k<=af n;omega)]at i;have m:n+1<=ai^k*2^ey x:=by have:ai^k*(x+1)<=ai^k*2^ey x:=fS _ d;rw[ej]at this;omega
 have o:(n+1)*2^(32-ey x)<=ai^(k+1):=by have:=cr (2^(32-ey x)) m;rw[fT,<-Nat.pow_add,show ey x+(32-ey x)=32 from ac]at this;rw[eo];exact this
 have g:=lQ (32-ey x);have f:n*2^(32-ey x)<ai^(k+1):=by rw[fw]at o;omega
 refine⟨a,b,f,?_,ac⟩;have r:=jF f;have s:af n<=af (n*2^(32-ey x)):=fv (r0 _ g);omega
def aiU{x R V:Nat}(b:x<ai)(a:R<V):x+ai*R<ai*V/\(x+ai*R)/V<ai:=by
 have:ai*(R+1)<=ai*V:=fS _ a;have h:x+ai*R<ai*V:=by rw[ej]at this;omega
 exact⟨h,Nat.div_lt_of_lt_mul (by rw[dm V];exact h)⟩
def aiY{num u2 M u' h l v' V D:Nat}(c:l<ai)(g:v'<M)(f:V=(h*ai+l)*M+v')(e:D=(num*ai+u2)*M+u')(b:D<ai*V):num<(h+1)*ai:=by
 have h1:V<(h+1)*ai*M:=by have:(h*ai+l+1)*M<=(h+1)*ai*M:=cr _ (by rw[fw];omega);rw[fw,P6]at this;omega
 have i:num*(ai*M)<=D:=by have:num*ai*M<=(num*ai+u2)*M:=cr _ ac;rw[fT]at this;omega
 have d:ai*V<(h+1)*ai*(ai*M):=by have:=Nat.mul_lt_mul_of_pos_left h1 fz;rw[Nat.mul_left_comm]at this;exact this
 exact P7 (a:=ai*M) ac
def UN{m s V N k c A R:Nat}(b:V=N*2^s)(a:ai^(k-1)<=N)(e:m<ai^(c+(k-1)))(g:m*2^s=A+ai^c*R):R<V:=by
 rcases Nat.lt_or_ge R V with h|h;exact h;exfalso;have h1:ai^c*V<=ai^c*R:=fS _ h;have d:ai^c*(ai^(k-1)*2^s)<=ai^c*V:=by rw[b];exact fS _ (cr _ a)
 rw[<-fT,<-Nat.pow_add]at d;have f:=Nat.mul_lt_mul_of_pos_right e (lQ s);omega
def UJ{q r num h l u2 M u' v' V D:Nat}(s:l<ai)(b:v'<M)(m:u'<M)(u:0<h)(j:V=(h*ai+l)*M+v')(g:D=(num*ai+u2)*M+u')(f:D<ai*V)(t:D/V<ai)(n:q*h+r=num)(v:D/V<=q)(o:ai<=q\/r*ai+u2<q*l):1<=q/\D/V<=q-1/\(q-1)*h+(r+h)=num/\(ai<=r+h->q-1<ai/\q-1<=D/V+1):=by
 have i:1<=q:=by rcases EW q with e|e;subst e;rcases o with h1|h1;unfold ai at h1;omega;simp at h1;exact e
 have d:D/V<=q-1:=by rcases o with h1|h1;omega;exact aiX j g m n h1
 have k:(q-1)*h+(r+h)=num:=by obtain⟨p,rfl⟩:∃p,q=p+1:=⟨q-1,ac⟩;rw[fw]at n;simp only[Nat.add_sub_cancel];omega
 refine⟨i,d,k,λ hb=>?_⟩;have⟨a,c⟩:=aiW (u2:=u2) (aiY s b j g f) s k hb;exact⟨a,UM u j g b a k c⟩
def UK{m n s O r:Nat}(b:n≠0)(h:m*2^s=O*(n*2^s)+r)(a:r<n*2^s):O=m/n/\r/2^s=m%n/\af r<=af (n*2^s):=by
 have c:=lQ s;have h1:r=(m-O*n)*2^s:=by rw[Nat.sub_mul,fT];omega
 have e:m-O*n<n:=by rw[h1]at a;exact P7 a
 have g:O*n<=m:=by
   have:O*n*2^s<=m*2^s:=by rw[fT];omega
   exact Nat.le_of_mul_le_mul_right this c
 have f:(m-O*n)+n*O=m:=by rw[dm n];omega
 have d:m/n=O/\m%n=m-O*n:=(Nat.div_mod_unique (lP b)).2 ⟨f,e⟩;refine⟨d.1.symm,?_,fv (h9 a)⟩;rw[h1,Nat.mul_div_cancel _ c,d.2]
def Yt{a:List Nat}{i:Nat}(h:a.length=i+1):∃b x,a=b++[x]/\b.length=i:=by refine⟨a.take i,a[i]' ac,?_,by simp;omega⟩;rw[<-List.take_succ_eq_append_getElem,jI ac]
end
section
variable{P:Program}{G:Nat->Option (List aa)}{π:Id}{Q:cn->dD->Prop}{s:dD}
def bA.z7{α:Type}{x:cD}{s:dD}(st:α->dD)(l:α->Prop)(m:α->Nat)(x0:α)(hw:bN G π s (st x0))(h0:l x0)(h:∀a,l a->bA P G π x (QY G π st l m a Q) (st a)):bA P G π (.loop x) Q s:=by
 refine bA.hZ hw ?_;intro c i own E w a R hm dM;cases c<;>simp only[gF,bf,reduceCtorEq]at i;case loop bQ=>cases h1:gF P bQ with|none=>simp[h1]at i|some qE=>simp only[h1,Option.map_some,bf,cD.loop.injEq]at i;subst i;refine Z0 (α:=α) (λ g a' w'=>l g/\∃E',g4 own π E E' w w'/\pX G π own E' w' (st g) a') m (x:=x0) ⟨h0,E,g4.refl own π E w,hm⟩ ?_;rintro g oa yn⟨t,BX,d,v⟩;refine(h g t) bQ h1 own BX yn oa _ v ?_;intro e s' E' w' a' n f b;cases e with|normal=>obtain⟨g',u,r,o⟩:=n;obtain⟨acd,p,q⟩:=o own E' w' a' b;exact⟨g',⟨u,acd,(d.trans f).trans p,q⟩,r⟩|exit id=>exact dM (.exit id) s' E' w' a' n (d.trans f) b|ret=>exact dM .ret s' E' w' a' n (d.trans f) b
 case region=>exfalso;revert i;unfold p9;(repeat' split)<;>simp
 all_goals(exfalso;revert i;(repeat' split)<;>simp)
def apD{id:Id}{k len l h:Nat}(h1:l<h)(a:h<=len):gi k (.ah id k 0 len false) (some (.int .i64 (l:Int))) (some (.int .i64 (h:Int))) none=some (.ah id k l (h-l) false):=by rcases EW l with rfl|b;simp[gi,gh,jf,a];simp[gi,gh,jf,a,h9 h1,Nat.ne_of_gt b,Nat.ne_of_lt h1]
def apE{id:Id}{k len h:Nat}(a:h<=len):gi k (.ah id k 0 len false) none (some (.int .i64 (h:Int))) none=some (.ah id k 0 h false):=by simp[gi,gh,jf,a]
def ach(neg:Bool)(n:Nat):aS (eE neg n)=.agg [.bool (neg&&decide (0<n)),W n]:=by cases neg;simp only[aS,eE];simp<;>omega;simp only[aS,eE];simp<;>omega
def anu(a:Nat)(b:a<ai):eY .quo .int (.int .u32 (a:Int)) (.int .u32 2)=some (.int .u32 ((a/2:Nat):Int)):=by rw[Rs al];show some (aa.int .u32 (IntKind.u32.wrap ((a/2:Nat):Int)))=_;rw[kN,dL (by unfold ai at*;omega)]
def Rr{x y s:Nat}(e:s<=32)(d:x<ai):((ai*y+x)/2^s)%ai=x/2^s+2^(32-s)*(y%2^s):=by
 have a:=Jn e;have hd:x/2^s<2^(32-s):=by rw[mm (lQ _),a];exact d
 have c:(ai*y+x)/2^s=2^(32-s)*y+x/2^s:=by rw[<-a,dm (2^(32-s)),fT,Nat.mul_add_div (lQ _)]
 have b:y%2^s<2^s:=bG _ (lQ _);have h1:2^(32-s)*(y%2^s+1)<=2^(32-s)*2^s:=fS _ b;rw[ej,a]at h1;have f:2^(32-s)*y=ai*(y/2^s)+2^(32-s)*(y%2^s):=by
   have:=h8 y (2^s);conv=>lhs;rw[<-this]
   rw[ej,<-fT,a]
 rw[c,f,show ai*(y/2^s)+2^(32-s)*(y%2^s)+x/2^s=(x/2^s+2^(32-s)*(y%2^s))+ai*(y/2^s)from ac,Nat.add_mul_mod_self_left,dL ac]
def al0(x y:Nat)(a:x<ai)(c:y<ai):eY .or .int (.int .u64 (x:Int)) (.int .u64 ((ai*y:Nat):Int))=some (.int .u64 ((ai*y+x:Nat):Int)):=by rw[NQ _ _ (by unfold ai at*;omega) (by unfold ai at*;omega),Nat.or_comm];have:=Nat.two_pow_add_eq_or_of_lt (i:=32) (b:=x) (by unfold ai at a;omega) y;rw[show ai=2^32 from rfl,this]
def Yf(x s:Nat)(d:s<=64):eY .shr .int (.int .u64 (x:Int)) (.int .i64 (s:Int))=some (.int .u64 ((x/2^s:Nat):Int)):=by
 rw[B9 ac];have a:min (s:Int).toNat da.bits=s:=by show min (s:Int).toNat 64=s;rw[Int.toNat_natCast];omega
 have b:(x:Int).fdiv (2^s)=((x/2^s:Nat):Int):=by
   have c:(2:Int)^s=((2^s:Nat):Int):=by rw[Int.natCast_pow];rfl
   rw[c,yz _ (uJ _)];exact(J5 _ _).symm
 rw[a,b]
def trimmed(b:List Nat)(h:kz b):∃z,b=digits (val b)++zs z:=by induction c:b.length generalizing b with|zero=>obtain rfl:b=[]:=List.length_eq_zero_iff.1 c;exact⟨0,by simp[val,jt,zs]⟩|succ k f=>
   obtain⟨e,w,rfl,g⟩:=Yt c;by_cases a:w=0;subst a;have⟨z,d⟩:=f e (λ w a=>h w (by simp[a])) g;refine⟨z+1,?_⟩;rw[Pu];conv=>lhs;rw[d]
   rw[List.append_assoc];congr 1;simp[zs,List.replicate_succ'];exact⟨0,by rw[LA h (.inr ⟨w,am,a⟩)];simp[zs]⟩
def apC{id:Id}{k off len h:Nat}(a:h<=len):gi k (.ah id k off len false) none (some (.int .i64 (h:Int))) none=some (.ah id k off h false):=by simp[gi,gh,jf,a]
def an0{num h V D x0 M u' l v':Nat}(c:0<h)(e:V=(h*ai+l)*M+v')(d:D=(num*ai+x0)*M+u')(b:x0<ai)(hu:u'<M)(a:D/V<ai):D/V<=min (num/h) (ai-1):=by have:=UL c e d b hu;omega
def X5{a b:Int}(h:decide (a<0)=decide (b<0)):eE (decide (a<0)) (a.natAbs+b.natAbs)=a+b:=by unfold eE;by_cases h1:a<0<;>by_cases c:b<0<;>simp[h1,c]at h⊢<;>omega
def I6{a b:Int}(h:¬decide (a<0)=decide (b<0))(d:b.natAbs<=a.natAbs):eE (decide (a<0)) (a.natAbs-b.natAbs)=a+b:=by unfold eE;by_cases h1:a<0<;>by_cases c:b<0<;>simp[h1,c]at h⊢<;>omega
def arG(a b:Int):af (a+b).natAbs<=af a.natAbs+af b.natAbs+1:=by have h1:(a+b).natAbs<=a.natAbs+b.natAbs:=P8 a b;have c:af (a.natAbs+b.natAbs)<=af a.natAbs+af b.natAbs+1:=jF (by have h:=sS a.natAbs;have d:=sS b.natAbs;have f:ai^af a.natAbs<=ai^(af a.natAbs+af b.natAbs):=dR fz ac;have g:ai^af b.natAbs<=ai^(af a.natAbs+af b.natAbs):=dR fz ac;have e:ai^(af a.natAbs+af b.natAbs)*2<=ai^(af a.natAbs+af b.natAbs)*ai:=fS _ al;rw[eo];omega);exact bx (fv h1) c
def arL{ws:List Nat}(a:kz ws):af (val ws)<=ws.length:=jF (yj a)
def aiv(neg:Bool){ws:List Nat}(g:kz ws):(decide (af (val ws)=ws.length)&&(!neg||decide (0<ws.length)))=sP neg ws:=by unfold sP;by_cases f:ws=[];subst f;simp[af,val,jt];rw[if_neg f];have a:0<ws.length:=List.length_pos_iff.2 f;rw[fJ a,Bool.or_true,Bool.and_true];have⟨k,i⟩:∃k,ws.length=k+1:=⟨ws.length-1,ac⟩;obtain⟨b,x,rfl,hb⟩:=Yt i;have e:(b++[x])[(b++[x]).length-1]?.getD 0=x:=am;rw[e];by_cases c:x=0;rw[dZ (show¬x≠0 from λ h=>h c),c,Pu];exact dZ (by have:=arL (λ w d=>g w (by simp[d]):kz b);simp;omega);rw[fJ c];exact fJ (by rw[af,LA g (.inr ⟨x,am,c⟩)])
def aZ(q:Rat):aa:=ic q.num q.den
def cO(k:Nat)(q:Rat):Prop:=af q.num.natAbs<=k/\af q.den<=k
def cO.mono{j k:Nat}{q:Rat}(h:cO j q)(a:j<=k:=by omega):cO k q:=⟨bx h.1 a,bx h.2 a⟩
def m4(a b:Int):af (a*b).natAbs<=af a.natAbs+af b.natAbs:=by rw[nV];exact Bd _ _
def afZ(a b:Int):Int.gcd a b=cJ a.natAbs b.natAbs:=rfl
def Vg(a b:Int)(hb:b≠0):ic (a.fdiv (if b<0 then-((cJ a.natAbs b.natAbs:Nat):Int)else(cJ a.natAbs b.natAbs:Nat))) (b.fdiv (if b<0 then-((cJ a.natAbs b.natAbs:Nat):Int)else(cJ a.natAbs b.natAbs:Nat)))=aZ ((a:Rat)/(b:Rat)):=by
 rw[<-yC];unfold aZ;rw[Rat.num_divInt,Rat.den_divInt,if_neg hb,afZ,Nat.gcd_comm b.natAbs a.natAbs];have e:0<cJ a.natAbs b.natAbs:=EX _ ac;have⟨x,l⟩:((cJ a.natAbs b.natAbs:Nat):Int)∣a:=yD.2 (Br _ _);have⟨y,k⟩:((cJ a.natAbs b.natAbs:Nat):Int)∣b:=yD.2 (tn _ _);generalize m:cJ a.natAbs b.natAbs=g at*;have c:(g:Int)≠0:=ac;have d:b.natAbs/g=y.natAbs:=by rw[k,nV,gO,P9 _ e]
 rw[d];by_cases h:b<0;have i:y<0:=by rcases Qa y 0 with h1|h1;exact h1;have:=Qb (uJ g) h1;omega
 rw[if_pos h,J6 h];have f:a.fdiv (-(g:Int))=-1*a/(g:Int):=by rw[l,show-1*((g:Int)*x)=(g:Int)*(-x)from by rw[J4];omega,J7 _ c,show(g:Int)*x=-(g:Int)*(-x)from by rw[aaV]];exact J8 _ ac
 have j:b.fdiv (-(g:Int))=(y.natAbs:Int):=by
   rw[show(y.natAbs:Int)=-y from ac];conv=>lhs;rw[k]
   rw[show(g:Int)*y=-(g:Int)*(-y)from by rw[aaV]];exact J8 _ ac
 rw[f,j];have i:0<y:=by rcases Qa 0 y with h1|h1;exact h1;have:=Qb (uJ g) (ac:0<=-y);rw[J4]at this;omega
 rw[if_neg h,r4 ac];have f:a.fdiv (g:Int)=1*a/(g:Int):=by rw[l,Int.one_mul,J7 _ c];exact J8 _ c
 have j:b.fdiv (g:Int)=(y.natAbs:Int):=by
   rw[show(y.natAbs:Int)=y from ac];conv=>lhs;rw[k]
   exact J8 _ c
 rw[f,j]
def ang(a b:Rat):a+b=((a.num*b.den+b.num*a.den:Int):Rat)/((a.den*b.den:Int):Rat):=by rw[<-yC,Rat.add_def',<-aaW];simp
def N8(a b:Rat):a*b=((a.num*b.num:Int):Rat)/((a.den*b.den:Int):Rat):=by rw[<-yC,Rat.mul_def',<-aaW];simp
def anh(a b:Rat):a/b=((a.num*b.den:Int):Rat)/((a.den*b.num:Int):Rat):=by
 rw[yE,Rat.inv_def];conv=>lhs;lhs;rw[<-Rat.num_divInt_den a]
 rw[Rat.divInt_mul_divInt,yC]
def zp(q:Rat):(0:Int)<q.den:=by have:=q.den_nz;omega
def Lw(q:Rat):(q.den:Int)≠0:=by have:=zp q;omega
def VU(a b:Rat):(a.den*b.den:Int)≠0:=aaX (Lw a) (Lw b)
def cO.neg{k:Nat}{a:Rat}(h:cO k a):cO k (-a):=⟨by rw[Rat.neg_num,aaY];exact h.1,h.2⟩
def EC{m n k:Nat}(a:af m<=k)(b:af n<=k):af (m+n)<=k+1:=by refine jF ?_;have h1:=gM (sS m) (dR fz a);have d:=gM (sS n) (dR fz b);rw[eo];have:2<=ai:=al;have c:ai^k*2<=ai^k*ai:=fS _ this;omega
def cO.zero:cO 1 0:=⟨by simp[af,jt],ED⟩
def dw(q:Rat):Int:=q.num.sign
def anr{q:Rat}:dw q=0↔q=0:=by unfold dw;rw[Int.sign_eq_zero_iff_zero,m9]
def AE(a b:Rat):Int:=fi (a.num*b.den) (b.num*a.den)
def anm{a b:Rat}:AE a b=0↔a=b:=by rw[Rat.eq_iff_mul_eq_mul];unfold AE;rcases o6 (a.num*b.den) (b.num*a.den)with⟨h1,c⟩|⟨h1,c⟩|⟨h1,c⟩<;>rw[h1]<;>constructor<;>intro h<;>first|omega|rfl|(simp at h)
def anl{a b:Rat}(h:dw a≠dw b):AE a b=if dw a<dw b then-1 else 1:=by have key:=R8 (y:=a.num*b.den) (z:=b.num*a.den) (by rw[J9,J9,r4 (zp a),r4 (zp b),Ka,Ka];exact h);unfold AE;rw[<-key,J9,J9,r4 (zp a),r4 (zp b),Ka,Ka];unfold dw at h⊢;unfold fi;split;rfl;rw[if_pos ac]
def wZ{z d:Int}{q:Rat}(h1:q.num=z)(a:(q.den:Int)=d):aa.agg [.bool (decide (z<0)),W z.natAbs,.bool (decide (d<0)),W d.natAbs]=aZ q:=by subst h1;subst a;rfl
def BZ(P:Program)(G:Nat->Option (List aa))(f:FuncId):Prop:=∀a b:Int,af a.natAbs<=1677721600000->af b.natAbs<=1677721600000->ag P G f [aS a,aS b] (aS (a+b))
def wT(P:Program)(G:Nat->Option (List aa))(f:FuncId):Prop:=∀a b:Int,af a.natAbs<=1677721600000->af b.natAbs<=1677721600000->ag P G f [aS a,aS b] (aS (a*b))
def B0(P:Program)(G:Nat->Option (List aa))(f:FuncId):Prop:=∀a:Int,af a.natAbs<=1677721600000->ag P G f [aS a] (aS (-a))
def FG(P:Program)(G:Nat->Option (List aa))(f:FuncId):Prop:=∀a:Int,af a.natAbs<=1677721600000->ag P G f [aS a] (.int .i64 a.sign)
def QQ(P:Program)(G:Nat->Option (List aa))(f:FuncId):Prop:=∀a b:Int,af a.natAbs<=1677721600000->af b.natAbs<=1677721600000->ag P G f [aS a,aS b] (.int .i64 (fi a b))
def y4(P:Program)(G:Nat->Option (List aa))(f:FuncId):Prop:=∀z:Int,ag P G f [aS z] (.bool (decide (z=1)))
def KO(P:Program)(G:Nat->Option (List aa))(f:FuncId):Prop:=∀a b:Int,b≠0->af a.natAbs<=1677721600001->af b.natAbs<=1677721600000->ag P G f [aS a,aS b] (aZ ((a:Rat)/(b:Rat)))
def FM(P:Program)(G:Nat->Option (List aa))(f:FuncId):Prop:=∀a b:Rat,cO 419430400000 a->cO 419430400000 b->ag P G f [aZ a,aZ b] (aZ (a+b))
def KS(P:Program)(G:Nat->Option (List aa))(f:FuncId):Prop:=∀a b:Rat,cO 419430400000 a->cO 419430400000 b->ag P G f [aZ a,aZ b] (aZ (a*b))
def FN(P:Program)(G:Nat->Option (List aa))(f:FuncId):Prop:=∀a:Rat,cO 419430400000 a->ag P G f [aZ a] (aZ (-a))
def KT(P:Program)(G:Nat->Option (List aa))(f:FuncId):Prop:=∀a:Rat,cO 419430400000 a->ag P G f [aZ a] (.int .i64 (dw a))
def Q2(P:Program)(G:Nat->Option (List aa))(f:FuncId):Prop:=∀a b:Rat,cO 419430400000 a->cO 419430400000 b->ag P G f [aZ a,aZ b] (.int .i64 (AE a b))
def Q3(P:Program)(G:Nat->Option (List aa))(f:FuncId):Prop:=∀a b:Rat,b≠0->cO 419430400000 a->cO 419430400000 b->ag P G f [aZ a,aZ b] (.aM [aZ (a/b),.int .i64 0])
def KV(P:Program)(G:Nat->Option (List aa))(f:FuncId):Prop:=∀a:Rat,cO 419430400000 a->ag P G f [aZ a] (.bool true)
def Q4(P:Program)(G:Nat->Option (List aa))(f:FuncId):Prop:=∀a:Int,-9223372036854775808<=a->a<9223372036854775808->ag P G f [.int .i64 a] (aZ (a:Rat))
def g8(n:Nat):af ((n:Nat):Int).natAbs=af n:=rfl
def zo{q:Rat}(h:(q.den:Int)=1):q=(q.num:Rat):=Rat.ext rfl (by rw[Rat.den_intCast];omega)
def ani(a:Int)(b:Nat)(hb:b≠0):aZ ((a:Rat)/((b:Int):Rat))=ic (a/(cJ a.natAbs b:Nat)) ((b:Int)/(cJ a.natAbs b:Nat)):=by have h:=Vg a b ac;rw[if_neg ac,gO,yz _ (uJ _),yz _ (uJ _)]at h;exact h.symm
def acx(a b:Rat):(a+b).num=(a.num*((b.den/cJ a.den b.den:Nat):Int)+b.num*((a.den/cJ a.den b.den:Nat):Int))/(cJ (a.num*((b.den/cJ a.den b.den:Nat):Int)+b.num*((a.den/cJ a.den b.den:Nat):Int)).natAbs (cJ a.den b.den):Nat)/\(a+b).den=a.den/cJ a.den b.den*(b.den/cJ (a.num*((b.den/cJ a.den b.den:Nat):Int)+b.num*((a.den/cJ a.den b.den:Nat):Int)).natAbs (cJ a.den b.den)):=by
 show(Rat.add a b).num=_/\(Rat.add a b).den=_;unfold Rat.add;dsimp only;split;rename_i h;simp[h];unfold Rat.maybeNormalize;have hd:∀x:Nat,cJ x (cJ a.den b.den)∣b.den:=λ x=>Nat.dvd_trans (tn _ _) (tn _ _);split;rename_i h;have e:∀(N:Int)(k x y:Nat),k=1->N=N/(k:Int)/\x*y=x*(y/k):=by intro N k x y c;subst c;simp
 exact e _ _ _ _ h;refine⟨rfl,?_⟩;exact Nat.mul_div_assoc _ (hd _)
def akw(a b:Rat):(a*b).num=a.num/(cJ a.num.natAbs b.den:Nat)*(b.num/(cJ b.num.natAbs a.den:Nat))/\(a*b).den=a.den/cJ b.num.natAbs a.den*(b.den/cJ a.num.natAbs b.den):=by show(Rat.mul a b).num=_/\(Rat.mul a b).den=_;unfold Rat.mul;simp
def QR(P:Program)(G:Nat->Option (List aa))(f:FuncId):Prop:=∀z:Int,af z.natAbs<=4194304000000->ag P G f [aS z] (aS z)
def y3(P:Program)(G:Nat->Option (List aa))(f:FuncId):Prop:=∀a b:Int,af a.natAbs<=1677721600001->af b.natAbs<=1677721600000->ag P G f [aS a,aS b] (aS (cJ a.natAbs b.natAbs:Nat))
def FF(P:Program)(G:Nat->Option (List aa))(f:FuncId):Prop:=∀a b:Int,0<b->b∣a->af a.natAbs<=1677721600001->af b.natAbs<=1677721600000->ag P G f [aS a,aS b] (aS (a/b))
def KU(q:Rat):∀c∈(aZ q).cells,cd c:=by intro c a;simp only[aZ,ic,aa.cells,cp,ct,or_false]at a;rcases a with rfl|rfl|rfl|rfl;exact Bt _;exact w4 _;exact Bt _;exact w4 _
def JP(q:Rat):decide ((af q.num.natAbs:Int)=0)=decide (q=0):=by have h1:=gL (n:=q.num.natAbs);have a:=m9 (q:=q);congr 1;apply propext;rw[<-a];omega
def three(a b:Int)(h:¬(a=1/\b=1)):(decide (a=1)=true/\decide (b=1)=false)\/(decide (a=1)=false/\decide (b=1)=false)\/(decide (a=1)=false/\decide (b=1)=true):=by by_cases h1:a=1<;>by_cases c:b=1<;>simp_all
def acg(P:Program)(G:Nat->Option (List aa))(f:FuncId):Prop:=∀(a:Int)(b:Nat),b≠0->b<=1000->-1000<=a->a<=1000->ag P G f [.int .i64 a,.int .i64 (b:Int)] (aZ ((a:Rat)/((b:Int):Rat)))
def LV(ws:List Nat)(ρ:Id->Id):bD ρ (us ws)=us ws:=by rw[ga];unfold us;rw[List.map_map];rfl
theorem bg.rows{α:Type}{f:α->aa}{k:Nat}(h:∀x,bg (f x))(a:∀x,∀d∈(f x).cells,cd d)(l:List α):bg (.sl k (l.map f)):=bg.slice (by intro c hc;simp only[flat,g3,bd]at hc;have⟨_,⟨x,_,rfl⟩,hc⟩:=hc;exact a x c hc) (by intro c hc ρ;obtain⟨x,_,rfl⟩:=bd.1 hc;exact(h x).fix ρ)
instance{ws:List Nat}:bg (.sl 1 (us ws)):=⟨Zy ws,λ ρ=>by show aa.sl 1 (bD ρ (us ws))=_;rw[LV]⟩
instance{i:IntKind}{n:Int}:bg (.sl 1 [.int i n]):=bg.slice (by intro c hc;simp[flat,aa.cells]at hc;subst hc;exact cd.int _ _) (by intro c hc ρ;simp at hc;subst hc;rfl)
instance{n:Nat}:bg (W n):=⟨w4 n,λ ρ=>by show aa.sl 1 (bD ρ (us (digits n)))=_;rw[LV];rfl⟩
instance{z:Int}:bg (aS z):=by unfold aS;infer_instance
instance{q:Rat}:bg (aZ q):=by unfold aZ ic;infer_instance
def aoe{ρ:Id->Id}{c:aa}{l:List aa}:bD ρ (c::l)=c.aY ρ::bD ρ l:=rfl
def aof{ρ:Id->Id}:bD ρ []=[]:=rfl
def aog{ρ:Id->Id}{n:Nat}:bD ρ (bI n .top)=bI n .top:=by rw[ga,List.map_replicate];rfl
def bg.fixed{c:aa}[h:bg c]{ρ:Id->Id}:c.aY ρ=c:=h.fix ρ
def rK{ρ:Id->Id}{l:List aa}{k:Nat}{b:Bool}:aJ.aY ρ ⟨l,k,b⟩=⟨bD ρ l,k,b⟩:=rfl
def rI{ρ:Id->Id}{x:Id×aJ}{K:List (Id×aJ)}:ft ρ (x::K)=(ρ x.1,x.2.aY ρ)::ft ρ K:=rfl
def rJ{ρ:Id->Id}:ft ρ []=[]:=rfl
end
section
variable{P:Program}{G:Nat->Option (List aa)}
def vx{f:FuncId}{args args':List aa}{r:aa}(S:List (Id×aJ))(h:ag P G f args' r)(hv:dy (bB S) args args'):aV P G:=.rel f args S (λ _=>{val:=r,rd:=S.map (·.1),up:=nw S}) (λ p _=>cv.alI h hv) (λ p x a=>bd.2 ⟨x,a,rfl⟩)
def anq(q:Rat):decide (dw q=0)=decide (q=0):=by congr 1;exact propext anr
def apG{i:Nat}(h:i<=1000):cO 1 (((i:Nat):Int):Rat):=⟨jF (by rw[Nat.pow_one];show i<ai;unfold ai;omega),ED⟩
def aiu(z:Int):sP (decide (z<0)) (digits z.natAbs)=true:=by unfold sP;by_cases h:digits z.natAbs=[];rw[if_pos h];have:=Lz.1 h;have:¬z<0:=ac;simp[this];rw[if_neg h];have⟨w,h1,a⟩:=(Sp (n:=z.natAbs)).resolve_left h;rw[aaU]at h1;rw[h1];simpa using a
def QS{f:FuncId}(h:∀neg ws,kz ws->ws.length<=9223372036854775807->ag P G f [u1 neg ws] (.bool (sP neg ws)))(z:Int)(a:af z.natAbs<=4194304000000):ag P G f [aS z] (.bool true):=by have:=h (decide (z<0)) (digits z.natAbs) (xi _) (by unfold af at a;omega);rw[aiu]at this;exact this
def Xi{f j fs d i:FuncId}(h:lp P f (PK j fs d i))(hv:∀z:Int,af z.natAbs<=4194304000000->ag P G j [aS z] (.bool true))(l:FG P G fs)(k:y3 P G d)(ho:y4 P G i):KV P G f:=λ q a=>by have h1:=hv q.num (by have:=a.1;omega);have m:=hv q.den (by have:=a.2;rw[gO];omega);have g:=l q.den (by have:=a.2;rw[gO];omega);have c:=k q.num q.den (by have:=a.1;omega) (by have:=a.2;rw[gO];omega);have b:=ho ((cJ q.num.natAbs (q.den:Int).natAbs:Nat):Int);rw[gO]at c b;have e:cJ q.num.natAbs q.den=1:=q.reduced;rw[e]at c b;rw[r4 (zp q)]at g;exact ag.jC h [hc h1,hc m,hc g,hc c,hc b]
def mv(q a i:Id):Id:=if i=q then a else i
def Af{q a:Id}:mv q a q=a:=if_pos rfl
def oH{q a i:Id}(h:i≠q):mv q a i=i:=if_neg h
def bN.move{π q:Id}{t:List aa}{σ D:aQ}{n m:Nat}(v:n<=m)(L:∀j,D j=none\/∃i b,σ i=some b/\mv q (m::π) i=j/\D j=some (b.aY (mv q (m::π)))):bN G π ⟨t,σ,n⟩ ⟨bD (mv q (m::π)) t,D,m+1⟩:=λ own E w a hm=>by
 have⟨F,p,l,u⟩:=hm;have Y:E.μ (m::π)=none:=(l.mono v).at (a2 _) (wM _);let E':Env:=⟨λ j=>if j=m::π then E.μ q else E.μ j,E.ok⟩;have f:∀i,i≠m::π->E'.μ i=E.μ i:=λ i h=>if_neg h;have o:∀i x,E.μ i=some x->E'.μ i=some x:=λ i x h=>(f i λ e=>by rw[e,Y]at h;cases h).trans h;have r:∀i x,E.μ i=some x->E'.μ (mv q (m::π) i)=some x:=λ i x h=>by by_cases e:i=q;subst e;rw[Af];exact(if_pos rfl).trans h;rw[oH e];exact o i x h
 have B:Adv own E E' w w:=⟨⟨o,λ b hb=>hb,λ b hb=>rfl⟩,rfl,rfl,rfl,a2 _,λ k Q _=>rfl,λ b hb=>.inl hb⟩;refine⟨E',⟨B,λ i I=>f i λ e=>I (by rw[e];exact List.suffix_cons _ _)⟩,⟨bq.aY (E:=E) (E':=E') r (λ _ h=>h) _ _ F,⟨p.hR,λ j av d=>?_,λ j W x y d M J V U=>?_,p.jX,p.new⟩,λ j d S=>?_,u⟩⟩;have d:D j=some av:=d;rcases L j with h1|⟨i,b,h1,C,T⟩;rw[h1]at d;cases d;rw[T]at d;cases d;subst C;have⟨g,N,A,ty,c⟩:=p.blk i b h1;refine⟨g,N,A,ty,r _ _ c.μ,c.heap,c.size,?_,c.most,c.own,c.ok,c.no,IP c.k,?_⟩;rw[show(b.aY (mv q (m::π))).els.length=b.els.length from mS];exact c.len;rw[show(b.aY (mv q (m::π))).els=bD (mv q (m::π)) b.els from rfl,IM];exact eK.aY r (λ b hb=>hb) c.row;have X:∀k b,σ k=some b->QJ E own w k b:=λ k b h=>p.blk k b h;have⟨i,b,h1,C,_⟩:=(L j).resolve_left d;have⟨K,b',mI,z,_⟩:=(L W).resolve_left M;have⟨g,N,A,ty,c⟩:=p.blk i b h1;have⟨g',oZ,O,Z,s⟩:=p.blk K b' mI;have e:=r _ _ c.μ;have R:=r _ _ s.μ;rw[C,V]at e;rw[z,U]at R;refine p.inj i K x y (by show σ i≠none;rw[h1];simp) (by show σ K≠none;rw[mI];simp) ?_ (by rw[c.μ,e]) (by rw[s.μ,R]);rintro rfl;exact J (C.symm.trans z);have H:j≠m::π:=λ e=>S m (Nat.lt_succ_self _) (e▸wM _);exact(f j H).trans (l.mono v j d λ k Q=>S k (Nat.lt_succ_of_lt Q))
def bN.VN{π q:Id}{t:List aa}{K:List (Id×aJ)}{n m:Nat}(c:n<=m)(hd:(K.map (·.1)).Nodup):bN G π ⟨t,bB K,n⟩ ⟨bD (mv q (m::π)) t,bB (ft (mv q (m::π)) K),m+1⟩:=bN.move c λ j=>by cases h:(ft (mv q (m::π)) K).lookup j with|none=>exact .inl h|some b=>right;have⟨z,d,a⟩:=bd.1 (qj h);simp only[c5]at a;exact⟨z.1,z.2,xN hd d,a.1,by rw[a.2];exact h⟩
def jn.same:∀t:List aa,jn t t|[]=>trivial|_::cs=>⟨.inr rfl,jn.same cs⟩
def bN.toT{π:Id}{s:dD}{t:List aa}{K:List (Id×aJ)}{n:Nat}(hd:(K.map (·.1)).Nodup)(h:bN G π s ⟨t,bB K,n⟩):bN G π s ⟨t,nW (b8 K),n⟩:=h.trans (bN.forget (jn.same t) (λ j=>by cases a:nW (b8 K) j with|none=>exact .inl rfl|some b=>right;exact(xN hd (CW a)).symm) (a2 n))
instance{n:Bool}{w:List Nat}:bg (u1 n w):=by unfold u1;infer_instance
instance{a b:Int}:bg (ic a b):=by unfold ic;infer_instance
end
end Go.aA
namespace Go.Proofs.YtpcofcmencgkbaaGreat
section
variable{G:Nat->Option (List aa)}
def anj(r:y4 ab G 291)(t:BZ ab G 294)(ho:ag ab G 189 [] (aS 1))(i:wT ab G 236)(x:KO ab G 295):FM ab G 276:=λ a b u hb=>by
 have j:=r a.den;have o:=r b.den;have E:=m4 a.num b.den;have w:=m4 b.num a.den;have n:=m4 a.den b.den;rw[g8]at E w n;rw[g8]at n;have A:=u.1;have D:=u.2;have z:=hb.1;have y:=hb.2;have q:=i a.num b.den ac (by rw[g8];omega);have s:=i b.num a.den ac (by rw[g8];omega);have p:=i a.den b.den (by rw[g8];omega) (by rw[g8];omega);have v:=t (a.num*b.den) (b.num*a.den) ac ac;have f:af (a.num*b.den+b.num*a.den).natAbs<=1677721600001:=bx (fv (P8 _ _)) (EC (k:=1677721600000) ac ac);have m:=x (a.num*b.den+b.num*a.den) (a.den*b.den) (VU a b) f ac;rw[<-ang]at m;have C:=t a.num b.num ac ac;by_cases e:(a.den:Int)=1;have g:decide ((a.den:Int)=1)=true:=fJ e;by_cases d:(b.den:Int)=1;have l:decide ((b.den:Int)=1)=true:=fJ d;have B:a+b=((a.num+b.num:Int):Rat):=by rw[aaZ,<-zo e,<-zo d]
 rw[B];exact aN [hc j,eB 9 g,hc o,eB 13 l,hc C,hc ho];have l:decide ((b.den:Int)=1)=false:=dZ d;exact aN [hc j,eB 9 g,hc o,eB 13 l,hc q,hc s,hc v,hc p,hc m];have g:decide ((a.den:Int)=1)=false:=dZ e;exact aN [hc j,eB 9 g,hc q,hc s,hc v,hc p,hc m]
def anp(b:B0 ab G 281):FN ab G 248:=λ q c=>by have h1:=b q.num (by have:=c.1;omega);exact aN [hc h1]
def ann(n:∀z:Int,ag ab G 308 [aS z] (.bool (decide (z=0))))(g:wT ab G 236)(m:KO ab G 295):Q3 ab G 296:=λ a b f h hb=>by have d:b.num≠0:=λ e=>f (m9.1 e);have i:=n b.num;have q:decide (b.num=0)=false:=dZ d;rw[q]at i;have l:=m4 a.num b.den;have u:=m4 a.den b.num;rw[g8]at l u;have o:=h.1;have s:=h.2;have k:=hb.1;have r:=hb.2;have p:=g a.num b.den ac (by rw[g8];omega);have t:=g a.den b.num (by rw[g8];omega) ac;have j:=m (a.num*b.den) (a.den*b.num) (aaX (Lw a) d) ac ac;rw[<-anh]at j;exact aN [hc i,hc p,hc t,hc j]
def anz(a:Int)(b:Nat)(f:b≠0)(h1:ag ab G 127 [.int .i64 a] (aS a))(g:ag ab G 127 [.int .i64 (b:Int)] (aS (b:Int)))(d:ag ab G 137 [aS a,aS b] (aZ ((a:Rat)/((b:Int):Rat)))):ag ab G 95 [.int .i64 a,.int .i64 (b:Int)] (aZ ((a:Rat)/((b:Int):Rat))):=by have e:decide ((b:Int)=0)=false:=dZ ac;exact aN [hb 6 e,hc h1,hc g,hc d]
def anE(b:B0 ab G 187):FN ab G 203:=λ q c=>by have h1:=b q.num (by have:=c.1;omega);exact aN [hc h1]
def aoK(a b:Int)(hd:ag ab G 226 [aS a,aS b] (.aM [aS (a/b),aS 0,.int .i64 0])):ag ab G 178 [aS a,aS b] (aS (a/b)):=by exact aN [hc hd]
def aoz(d:lX ab G 179)(z:Int)(e:af z.natAbs<=4194304000000):ag ab G 187 [aS z] (aS (-z)):=by have b:=d (!decide (z<0)) z.natAbs ac;rw[rM]at b;have c:([0]:List Nat)≠[1]:=al;exact aN [hc b]
def aoA(d:lX ab G 179)(z:Int)(e:af z.natAbs<=4194304000000):ag ab G 219 [aS z] (aS z):=by have b:=d (decide (z<0)) z.natAbs ac;rw[I7]at b;have c:([0]:List Nat)≠[1]:=al;exact aN [hc b]
def alL(b:ag ab G 188 [.int .i64 1] (aS 1)):ag ab G 189 [] (aS 1):=by exact aN [hc b]
def aoP(a b:Int)(d:ag ab G 264 [aS a] (.int .i64 a.sign)):ag ab G 234 [ic a b] (.int .i64 a.sign):=by exact aN [hc d]
def aer(d:∀z:Int,af z.natAbs<=4194304000000->ag ab G 264 [aS z] (.int .i64 z.sign))(i:∀a b:Int,ag ab G 265 [.int .i64 a,.int .i64 b] (.int .i64 (fi a b)))(o:ig ab G 262)(s:∀m n,af m<=4194304000000->af n<=4194304000000->ag ab G 266 [W m,W n] (.int .i64 (eg m n)))(y z:Int)(l:af y.natAbs<=4194304000000)(k:af z.natAbs<=4194304000000):ag ab G 235 [aS y,aS z] (.int .i64 (fi y z)):=by
 have p:=d y l;have j:=d z k;by_cases g:y.sign=z.sign;have h:(y.sign !=z.sign)=false:=by simp[g]
 have r:cV.wrap (y.sign*eg y.natAbs z.natAbs)=fi y z:=by rw[aeq g,c0];rcases o6 y z with⟨e,_⟩|⟨e,_⟩|⟨e,_⟩<;>rw[e]<;>omega
 have q:=jD o y.natAbs ac;have t2:=jD o z.natAbs ac;have f:=s y.natAbs z.natAbs l k;rw[<-r];exact aN [hc p,hc j,hb 13 h,hc q,hc t2,hc f];have h:(y.sign !=z.sign)=true:=by simp[g]
 have f:=i y.sign z.sign;rw[R8 g]at f;exact aN [hc p,hc j,hb 13 h,hc f]
def aio(z:Int):ag ab G 291 [aS z] (.bool (decide (z=1))):=by
 have b:af 1=1:=by unfold af;rw[tP al,show 1/ai=0 from rfl,jt];rfl
 by_cases c:z<0;have a:(!decide (z<0))=false:=by rw[fJ c];rfl
 rw[dZ (ac:z≠1)];exact aN [hb 6 a];have a:(!decide (z<0))=true:=by rw[dZ c];rfl
 by_cases h1:af z.natAbs=1;have⟨w,hw⟩:=aa0.1 h1;have hv:z.natAbs=w:=by have:=we z.natAbs;rw[hw]at this;simp[val]at this;omega
 rw[show decide (z=1)=decide ((w:Int)=1)by congr 1;apply propext;omega];have e:aS z=.agg [.bool (decide (z<0)),.sl 1 (us [w])]:=by rw[<-hw];rfl
 rw[e];exact aN [hb 6 a];have f:decide ((af z.natAbs:Int)=1)=false:=dZ ac;rw[dZ (show z≠1 by intro e;rw[e]at h1;exact h1 b)];exact aN [hb 6 a,ho 9 (@eQ z.natAbs),hb 10 f]
def anF(z:Int):ag ab G 174 [aS z] (.bool (decide (z=1))):=by
 have b:af 1=1:=by unfold af;rw[tP al,show 1/ai=0 from rfl,jt];rfl
 by_cases h1:af z.natAbs=1;have⟨w,hw⟩:=aa0.1 h1;have hv:z.natAbs=w:=by have:=we z.natAbs;rw[hw]at this;simp[val]at this;omega
 have e:aS z=.agg [.bool (decide (z<0)),.sl 1 (us [w])]:=by rw[<-hw];rfl
 rw[e];by_cases f:w=1;have a:decide ((w:Int)=1)=true:=fJ ac;rw[show decide (z=1)=!decide (z<0)by by_cases d:z<0;rw[fJ d,dZ ac];rfl;rw[dZ d,fJ ac];rfl];exact aN [hb 14 a];have a:decide ((w:Int)=1)=false:=dZ ac;rw[dZ (ac:z≠1)];exact aN [hb 14 a];have g:decide ((af z.natAbs:Int)=1)=false:=dZ ac;rw[dZ (show z≠1 by intro e;rw[e]at h1;exact h1 b)];exact aN [ho 5 (@eQ z.natAbs),hb 6 g]
def anv(a b:Int)(e:ag ab G 291 [aS b] (.bool (decide (b=1))))(hd:ag ab G 319 [aS a,aS b] (.aM [aS (a.fdiv b),aS (a.fmod b),.int .i64 0])):ag ab G 307 [aS a,aS b] (aS (a.fdiv b)):=by by_cases h1:b=1;have d:decide (b=1)=true:=fJ h1;rw[show a.fdiv b=a by rw[h1,Int.fdiv_one]];exact aN [hc e,tT 9 d];have d:decide (b=1)=false:=dZ h1;exact aN [hc e,tT 9 d,hc hd]
def aop(hu:∀n,n<18446744073709551616->ag ab G 180 [.int .u64 ((n:Nat):Int)] (W n))(g:lX ab G 179)(a:Int)(h1:-9223372036854775808<=a)(i:a<9223372036854775808):ag ab G 127 [.int .i64 a] (aS a):=by have h:=yo a.natAbs;have b:=g (decide (a<0)) a.natAbs ac;rw[I7]at b;have c:=hu a.natAbs ac;by_cases f:a<0;have e:decide (a<0)=true:=fJ f;rw[e]at b;rw[<-show da.wrap (0-(da.wrap a))=(a.natAbs:Int)by rw[iy,iy];omega]at c;exact aN [hb 4 e,hc c,hc b];have e:decide (a<0)=false:=dZ f;rw[e]at b;rw[<-show da.wrap a=(a.natAbs:Int)by rw[iy];omega]at c;exact aN [hb 4 e,hc c,hc b]
def anS(u:∀z:Int,af z.natAbs<=4194304000000->ag ab G 219 [aS z] (aS z))(w:∀m n,af m<=4194304000000->af n<=4194304000000->ag ab G 220 [W m,W n] (W (m+n)))(r:lX ab G 179)(v:∀m n,af m<=4194304000000->af n<=4194304000000->ag ab G 221 [W m,W n] (.int .i64 (eg m n)))(t:∀m n,n<=m->af m<=4194304000000->ag ab G 222 [W m,W n] (W (m-n)))(a b:Int)(h:af a.natAbs<=4194304000000)(i:af b.natAbs<=4194304000000):ag ab G 175 [aS a,aS b] (aS (a+b)):=by
 have s:=u a h;have o:=u b i;have x:af (a.natAbs+b.natAbs)<=4194304000001:=EC h i;have q:=w a.natAbs b.natAbs h i;have k:=v a.natAbs b.natAbs h i;by_cases f:decide (a<0)=decide (b<0);have l:(decide (a<0)==decide (b<0))=true:=by rw[f];exact beq_self_eq_true _
 have c:=r (decide (a<0)) (a.natAbs+b.natAbs) ac;rw[X5 f]at c;exact aN [hc s,hc o,hb 13 l,hc q,hc c];have l:(decide (a<0)==decide (b<0))=false:=by simpa using f
 by_cases j:b.natAbs<=a.natAbs;have p:decide (0<=eg a.natAbs b.natAbs)=true:=fJ (by simp only[eg,fi];rw[if_neg ac];split<;>decide);have g:=t a.natAbs b.natAbs j h;have c:=r (decide (a<0)) (a.natAbs-b.natAbs) (by have:=fv (EY a.natAbs b.natAbs);omega);rw[I6 f j]at c;exact aN [hc s,hc o,hb 13 l,hc k,hb 27 p,hc g,hc c];have p:decide (0<=eg a.natAbs b.natAbs)=false:=dZ (by simp only[eg,fi];rw[if_pos ac];decide);have g:=t b.natAbs a.natAbs ac i;have c:=r (decide (b<0)) (b.natAbs-a.natAbs) (by have:=fv (EY b.natAbs a.natAbs);omega);rw[I6 (λ e=>f e.symm) ac,Int.add_comm]at c;exact aN [hc s,hc o,hb 13 l,hc k,hb 27 p,hc g,hc c]
def aox(g:∀z:Int,af z.natAbs<=4194304000000->ag ab G 219 [aS z] (aS z))(i:∀m n,af m<=4194304000000->af n<=4194304000000->ag ab G 225 [W m,W n] (W (m*n)))(j:lX ab G 179)(a b:Int)(h:af a.natAbs<=4194304000000)(f:af b.natAbs<=4194304000000):ag ab G 177 [aS a,aS b] (aS (a*b)):=by have l:=g a h;have k:=g b f;have e:=i a.natAbs b.natAbs h f;have d:=j (!(decide (a<0)==decide (b<0))) (a.natAbs*b.natAbs) (by have:=Bd a.natAbs b.natAbs;omega);rw[X6]at d;exact aN [hc l,hc k,hc e,hc d]
def ajE(a b g:Int)(i:ag ab G 292 [aS a,aS b] (aS g))(j:ag ab G 281 [aS g] (aS (-g)))(e:∀x y:Int,(x=a\/x=b)->(y=g\/y=-g)->ag ab G 307 [aS x,aS y] (aS (x.fdiv y))):ag ab G 295 [aS a,aS b] (ic (a.fdiv (if b<0 then-g else g)) (b.fdiv (if b<0 then-g else g))):=by by_cases d:b<0;have q1:=e a (-g) (.inl rfl) (.inr rfl);have f:=e b (-g) (.inr rfl) (.inr rfl);rw[if_pos d];have h:=fJ d;exact aN [hc i,hb 10 h,hc j,hc q1,hc f];have q1:=e a g (.inl rfl) (.inl rfl);have f:=e b g (.inr rfl) (.inl rfl);rw[if_neg d];have h:=dZ d;exact aN [hc i,hb 10 h,hc q1,hc f]
def aoy(a b c d:Int)(x:aa){x1 cu:Int}(p:x=ic x1 cu)(n:∀z,ag ab G 291 [aS z] (.bool (decide (z=1))))(g:ag ab G 236 [aS a,aS c] (aS (a*c)))(h:ag ab G 236 [aS b,aS d] (aS (b*d)))(q:ag ab G 189 [] (aS 1))(m:ag ab G 295 [aS (a*c),aS (b*d)] x):ag ab G 284 [ic a b,ic c d] (if b=1/\d=1 then ic (a*c) 1 else x):=by subst p;have l:=n b;have o:=n d;by_cases j:b=1;have i:=fJ j;by_cases hd:d=1;have k:=fJ hd;rw[if_pos ⟨j,hd⟩];unfold ic;exact aN [hc l,hb 8 i,hc o,hb 12 k,hc g,hc q];have k:=dZ hd;rw[if_neg λ e=>hd e.2];unfold ic;exact aN [hc l,hb 8 i,hc o,hb 12 k,hc g,hc h,hc m];have i:=dZ j;rw[if_neg λ e=>j e.1];unfold ic;exact aN [hc l,hb 8 i,hc g,hc h,hc m]
def apt(g:ig ab G 262):lX ab G 229:=λ neg n f=>by
 have c:=jD g n f;have d:=@eQ n;have j:=gL (n:=n);by_cases h:n=0;have b:decide ((af n:Int)=0)=true:=fJ ac;have e:aS (eE neg n)=.agg [.bool false,.sl 1 []]:=by rw[h];cases neg<;>simp[aS,eE,W,jt,us]
 rw[e];refine ag.yf hN [hc c,ho 8 d,hb 9 b] [] (.agg [.bool false,.ar]) an λ _ _=>View.agg (bZ (fx (Bt _)) (bZ (View.ar 1) dy.nil));have b:decide ((af n:Int)=0)=false:=dZ ac;have i:aS (eE neg n)=.agg [.bool neg,W n]:=by cases neg<;>simp only[aS,eE]<;>simp<;>omega
 rw[i];exact aN [hc c,ho 8 d,hb 9 b]
def aoQ(c:ig ab G 223):lX ab G 179:=λ neg n d=>by
 have b:=jD c n d;have f:=@eQ n;have g:=gL (n:=n);have e:decide ((0:Int)<(af n:Int))=decide (0<n):=by congr 1;apply propext;omega
 rw[ach,<-e];cases neg;exact aN [hc b];exact aN [hc b,ho 10 f]
def ank(l:KT ab G 234)(k:wT ab G 236)(q:QQ ab G 235):Q2 ab G 195:=λ a b h i=>by
 have h1:=l a h;have j:=l b i;have m:=m4 a.num b.den;have u:=m4 b.num a.den;rw[g8]at m u;have p:=h.1;have t:=h.2;have o:=i.1;have r:=i.2;have n:=k a.num b.den ac (by rw[g8];omega);have s:=k b.num a.den ac (by rw[g8];omega);have v:=q (a.num*b.den) (b.num*a.den) ac ac;by_cases f:dw a=dw b;have d:(dw a !=dw b)=false:=by simp[f]
 exact aN [hc h1,hc j,hb 13 d,hc n,hc s,hc v];have d:(dw a !=dw b)=true:=by simp[f]
 rw[anl f];by_cases e:dw a<dw b;have g:decide (dw a<dw b)=true:=fJ e;rw[if_pos e];exact aN [hc h1,hc j,hb 13 d,hb 16 g];have g:decide (dw a<dw b)=false:=dZ e;rw[if_neg e];exact aN [hc h1,hc j,hb 13 d,hb 16 g]
def anC(l:y3 ab G 176)(j:FG ab G 186)(g:FF ab G 178)(a:Int)(b:Nat)(f:b≠0)(o:af a.natAbs<=1677721600000)(e:af b<=1677721600000):ag ab G 137 [aS a,aS b] (aZ ((a:Rat)/((b:Int):Rat))):=by have h1:=l a b ac e;rw[gO]at h1;have h:=j b e;rw[r4 ac]at h;have m:0<cJ a.natAbs b:=EX _ ac;have d:af (((cJ a.natAbs b:Nat):Int)).natAbs<=1677721600000:=bx (fv (EZ ac (tn _ _))) e;have i:=g a (cJ a.natAbs b:Nat) ac (yD.2 (Br _ _)) ac d;have k:=g b (cJ a.natAbs b:Nat) ac (yD.2 (by rw[gO];exact tn _ _)) (by rw[g8];omega) d;rw[ani a b f];have n:decide ((1:Int)<0)=false:=rfl;exact aN [hc h1,hc h,hc i,hc k]
def aov(g:ig ab G 223)(neg:Bool)(ws:List Nat)(hw:kz ws)(i:ws.length<=9223372036854775807):ag ab G 249 [u1 neg ws] (.bool (sP neg ws)):=by
 have a:m2 false (.sl 1 (us ws))=some (.int .i64 ws.length):=by simp[m2,j2]
 have e:=g ws hw i;have f:=@eQ (val ws);rw[<-aiv neg hw];have j:decide ((af (val ws):Int)=(ws.length:Int))=decide (af (val ws)=ws.length):=by congr 1;apply propext;omega
 have h:decide ((0:Int)<(ws.length:Int))=decide (0<ws.length):=by congr 1;apply propext;omega
 rw[<-j,<-h];by_cases c:(af (val ws):Int)=(ws.length:Int);have b:decide ((af (val ws):Int)=(ws.length:Int))=true:=fJ c;rw[b];cases neg;exact aN [hc e,ho 6 f,ho 9 a,hb 10 b];exact aN [hc e,ho 6 f,ho 9 a,hb 10 b,ho 18 a];have b:decide ((af (val ws):Int)=(ws.length:Int))=false:=dZ c;rw[b];exact aN [hc e,ho 6 f,ho 9 a,hb 10 b]
def ah2(s:ig ab G 262)(t:∀m n,af m<=4194304000000->af n<=4194304000000->ag ab G 305 [W m,W n] (W (m+n)))(q:lX ab G 229)(v:∀m n,af m<=4194304000000->af n<=4194304000000->ag ab G 266 [W m,W n] (.int .i64 (eg m n)))(r:∀m n,n<=m->af m<=4194304000000->ag ab G 306 [W m,W n] (W (m-n))):BZ ab G 294:=λ a b x u=>by
 have i:=jD s a.natAbs ac;have h:=jD s b.natAbs ac;have o:=t a.natAbs b.natAbs ac ac;have j:=v a.natAbs b.natAbs ac ac;have w:af (a.natAbs+b.natAbs)<=1677721600001:=EC x u;by_cases f:decide (a<0)=decide (b<0);have l:(decide (a<0)==decide (b<0))=true:=by rw[f];exact beq_self_eq_true _
 have d:=q (decide (a<0)) (a.natAbs+b.natAbs) ac;rw[X5 f]at d;exact aN [hc i,hc h,hb 17 l,hc o,hc d];have l:(decide (a<0)==decide (b<0))=false:=by simpa using f
 by_cases k:b.natAbs<=a.natAbs;have p:decide (eg a.natAbs b.natAbs<0)=false:=dZ (by simp only[eg,fi];rw[if_neg ac];split<;>decide);have g:=r a.natAbs b.natAbs k ac;have d:=q (decide (a<0)) (a.natAbs-b.natAbs) (by have:=fv (EY a.natAbs b.natAbs);omega);rw[I6 f k]at d;exact aN [hc i,hc h,hb 17 l,hc j,hb 27 p,hc g,hc d];have p:decide (eg a.natAbs b.natAbs<0)=true:=fJ (by simp only[eg,fi];rw[if_pos ac];decide);have g:=r b.natAbs a.natAbs ac ac;have d:=q (decide (b<0)) (b.natAbs-a.natAbs) (by have:=fv (EY b.natAbs a.natAbs);omega);rw[I6 (λ e=>f e.symm) ac,Int.add_comm]at d;exact aN [hc i,hc h,hb 17 l,hc j,hb 27 p,hc g,hc d]
def anx(h:y4 ab G 174)(I:BZ ab G 175)(V:y3 ab G 176)(r:wT ab G 177)(H:FF ab G 178):FM ab G 123:=λ a b Z hB=>by
 have w:=h a.den;have T:=h b.den;have j:=JP a;have o:=@eQ a.num.natAbs;have p:=@eQ b.num.natAbs;have n:=JP b;have atB:=Z.1;have s:=Z.2;have k6:=hB.1;have M:=hB.2;have⟨U,J⟩:=acx a b;by_cases a0:a=0;rw[fJ a0]at j;rw[show a+b=b from by rw[a0,Rat.zero_add]];exact aN [ho 14 o,hb 15 j] an;rw[dZ a0]at j;by_cases R:b=0;rw[fJ R]at n;rw[show a+b=a from by rw[R,Rat.add_zero]];exact aN [ho 14 o,hb 15 j,ho 20 p,hb 21 n] an;rw[dZ R]at n;by_cases f:(a.den:Int)=1/\(b.den:Int)=1;have i:=fJ f.1;have m:=fJ f.2;have h1:=I a.num b.num ac ac;have X:a+b=((a.num+b.num:Int):Rat):=by rw[aaZ,<-zo f.1,<-zo f.2]
 have e:=wZ (z:=a.num+b.num) (d:=a.den) (q:=a+b) (by rw[X];rfl) (by rw[X,f.1];rfl);rw[<-e];exact aN [ho 14 o,hb 15 j,ho 20 p,hb 21 n,hc w,hb 26 i,hc T,hb 30 m,hc h1] an;have l:ag ab G 176 [aS a.den,aS b.den] (aS (cJ a.den b.den:Nat)):=V a.den b.den (by rw[g8];omega) (by rw[g8];omega);have w1:=m4 a.num b.den;have yn:=m4 b.num a.den;have ZY:=m4 a.den b.den;rw[g8]at w1 yn ZY;rw[g8]at ZY;have F:=h (cJ a.den b.den:Nat);have u:0<cJ a.den b.den:=Nat.gcd_pos_of_pos_left _ a.den_pos;generalize t:cJ a.den b.den=g at*;by_cases g1:g=1;.subst g1;have o4:=h 1;have P:decide ((1:Int)=1)=true:=rfl;have B:=r a.num b.den ac (by rw[g8];omega);have C:=r b.num a.den ac (by rw[g8];omega);have D:=r a.den b.den (by rw[g8];omega) (by rw[g8];omega);have v:=I (a.num*b.den) (b.num*a.den) ac ac;simp only[Nat.div_one,Nat.gcd_one_right,Int.natCast_one,Int.ediv_one]at U J;have e:=wZ (z:=a.num*b.den+b.num*a.den) (d:=a.den*b.den) (q:=a+b) U (by rw[J];exact pI _ _);rw[<-e];rcases three _ _ f with⟨i,m⟩|⟨i,m⟩|⟨i,m⟩;exact aN [ho 14 o,hb 15 j,ho 20 p,hb 21 n,hc w,hb 26 i,hc T,hb 30 m,hc l,hc F,hc B,hc C,hc v,hc D] an;all_goals exact aN [ho 14 o,hb 15 j,ho 20 p,hb 21 n,hc w,hb 26 i,hc l,hc F,hc B,hc C,hc v,hc D] an
 have P:decide ((g:Int)=1)=false:=dZ ac;have E:g∣a.den:=t▸Br _ _;have A:g∣b.den:=t▸tn _ _;have K:af ((g:Nat):Int).natAbs<=419430400000:=bx (fv (EZ a.den_pos E)) s;have q1:=H a.den g ac (E0.2 E) (by rw[g8];omega) ac;have O:=H b.den g ac (E0.2 A) (by rw[g8];omega) ac;rw[<-J5]at q1 O;have auc:af (((a.den/g:Nat):Int)).natAbs<=419430400000:=bx (fv (h7 _ _)) s;have aud:af (((b.den/g:Nat):Int)).natAbs<=419430400000:=bx (fv (h7 _ _)) M;generalize a.den/g=x at*;generalize b.den/g=y at*;have B:=r a.num y ac ac;have C:=r b.num x ac ac;have v1:=m4 a.num y;have v2:=m4 b.num x;have v:=I (a.num*y) (b.num*x) ac ac;have v3:af (a.num*y+b.num*x).natAbs<=838860800001:=bx (fv (P8 _ _)) (EC (k:=838860800000) ac ac);generalize a.num*y+b.num*x=N at*;have g2:=V N g ac ac;rw[gO]at g2;have hp:0<cJ N.natAbs g:=EX _ u;have Hf:af (((cJ N.natAbs g:Nat):Int)).natAbs<=419430400000:=bx (fv (EZ u (tn _ _))) K;have S:((cJ N.natAbs g:Nat):Int)∣N:=yD.2 (Br _ _);have L:cJ N.natAbs g∣b.den:=Nat.dvd_trans (tn _ _) A;generalize cJ N.natAbs g=k at*;have Y:=H N k ac S ac ac;have Q:=H b.den k ac (E0.2 L) (by rw[g8];omega) ac;rw[<-J5]at Q;have D:=r x ((b.den/k:Nat):Int) ac (bx (fv (h7 _ _)) ac);have e:=wZ (z:=N/k) (d:=x*((b.den/k:Nat):Int)) (q:=a+b) U (by rw[J];exact pI _ _);rw[<-e];rcases three _ _ f with⟨i,m⟩|⟨i,m⟩|⟨i,m⟩;exact aN [ho 14 o,hb 15 j,ho 20 p,hb 21 n,hc w,hb 26 i,hc T,hb 30 m,hc l,hc F,tT 45 P,hc q1,hc O,hc B,hc C,hc v,hc g2,hc Y,hc Q,hc D];all_goals exact aN [ho 14 o,hb 15 j,ho 20 p,hb 21 n,hc w,hb 26 i,hc l,hc F,tT 45 P,hc q1,hc O,hc B,hc C,hc v,hc g2,hc Y,hc Q,hc D]
def anD(x:ag ab G 89 [.int .i64 0] (aZ 0))(i:y4 ab G 174)(r:wT ab G 177)(H:y3 ab G 176)(o:FF ab G 178):KS ab G 124:=λ a b I D=>by
 have y:=i a.den;have C:=i b.den;have j:=JP a;have m:=@eQ a.num.natAbs;have p:=@eQ b.num.natAbs;have n:=JP b;have N:=I.1;have w:=I.2;have M:=D.1;have t:=D.2;have⟨P,L⟩:=akw a b;by_cases u:a=0\/b=0
 . rw[show a*b=0 from by rcases u with e|e<;>rw[e]<;>simp[Rat.zero_mul,Rat.mul_zero]];have O:(decide (a=0)=true/\decide (b=0)=true)\/(decide (a=0)=true/\decide (b=0)=false)\/(decide (a=0)=false/\decide (b=0)=true):=by by_cases R:a=0<;>by_cases V:b=0<;>simp_all
   rcases O with⟨h,_⟩|⟨h,_⟩|⟨h,l⟩;all_goals rw[h]at j
   exact aN [ho 10 m,hb 11 j,hc x] an;exact aN [ho 10 m,hb 11 j,hc x] an;rw[l]at n;exact aN [ho 10 m,hb 11 j,ho 16 p,hb 17 n,hc x] an
 rw[dZ (λ e=>u (.inl e))]at j;rw[dZ (λ e=>u (.inr e))]at n;by_cases f:(a.den:Int)=1/\(b.den:Int)=1;have h:=fJ f.1;have l:=fJ f.2;have h1:=r a.num b.num ac ac;have F:a*b=((a.num*b.num:Int):Rat):=by rw[Rat.intCast_mul,<-zo f.1,<-zo f.2]
 have e:=wZ (z:=a.num*b.num) (d:=a.den) (q:=a*b) (by rw[F];rfl) (by rw[F,f.1];rfl);rw[<-e];exact aN [ho 10 m,hb 11 j,ho 16 p,hb 17 n,hc y,hb 23 h,hc C,hb 27 l,hc h1];have g1:ag ab G 176 [aS a.num,aS b.den] (aS (cJ a.num.natAbs b.den:Nat)):=H a.num b.den ac (by rw[g8];omega);have g2:ag ab G 176 [aS b.num,aS a.den] (aS (cJ b.num.natAbs a.den:Nat)):=H b.num a.den ac (by rw[g8];omega);have T:0<cJ a.num.natAbs b.den:=EX _ b.den_pos;have Q:0<cJ b.num.natAbs a.den:=EX _ a.den_pos;have x1:((cJ a.num.natAbs b.den:Nat):Int)∣a.num:=yD.2 (Br _ _);have cu:((cJ b.num.natAbs a.den:Nat):Int)∣b.num:=yD.2 (Br _ _);have E:cJ a.num.natAbs b.den∣b.den:=tn _ _;have J:cJ b.num.natAbs a.den∣a.den:=tn _ _;generalize cJ a.num.natAbs b.den=g at*;generalize cJ b.num.natAbs a.den=k at*;have U:af ((g:Nat):Int).natAbs<=419430400000:=bx (fv (EZ b.den_pos E)) t;have S:af ((k:Nat):Int).natAbs<=419430400000:=bx (fv (EZ a.den_pos J)) w;have q1:=o a.num g ac x1 ac ac;have A:=o b.num k ac cu ac ac;have s:=o a.den k ac (E0.2 J) (by rw[g8];omega) ac;have v:=o b.den g ac (E0.2 E) (by rw[g8];omega) ac;rw[<-J5]at s v;have K:=r (a.num/g) (b.num/k) (bx (fv (aa1 _ _)) ac) (bx (fv (aa1 _ _)) ac);have B:=r ((a.den/k:Nat):Int) ((b.den/g:Nat):Int) (bx (fv (h7 _ _)) ac) (bx (fv (h7 _ _)) ac);have e:=wZ (z:=a.num/g*(b.num/k)) (d:=((a.den/k:Nat):Int)*((b.den/g:Nat):Int)) (q:=a*b) P (by rw[L];exact pI _ _);rw[<-e];rcases three _ _ f with⟨h,l⟩|⟨h,l⟩|⟨h,l⟩;exact aN [ho 10 m,hb 11 j,ho 16 p,hb 17 n,hc y,hb 23 h,hc C,hb 27 l,hc g1,hc g2,hc q1,hc A,hc K,hc s,hc v,hc B];all_goals exact aN [ho 10 m,hb 11 j,ho 16 p,hb 17 n,hc y,hb 23 h,hc g1,hc g2,hc q1,hc A,hc K,hc s,hc v,hc B]
def anB(j:B0 ab G 187)(a:Rat)(c:a≠0)(k:cO 419430400000 a):ag ab G 227 [aZ a] (aZ a⁻¹):=by have m:=k.1;have n:=k.2;have f:a.num≠0:=λ e=>c (m9.1 e);have i:=Rat.num_inv a;have l:=Rat.den_inv a;rw[if_neg f]at l;by_cases h:a.num<0;have g:=fJ h;have h1:=j a.num ac;have o:=j a.den (by rw[g8];omega);have e:=wZ (z:=-(a.den:Int)) (d:=-a.num) (q:=a⁻¹) (by rw[i,J6 h];omega) ac;rw[<-e];exact aN [hb 5 g,hc o,hc h1];have g:=dZ h;have e:=wZ (z:=(a.den:Int)) (d:=a.num) (q:=a⁻¹) (by rw[i,r4 ac];omega) ac;rw[<-e];exact aN [hb 5 g]
def an1(q:QR ab G 219)(hd:∀m n,n≠0->af m<=3774873600000->af n<=3774873600000->ag ab G 224 [W m,W n] (.aM [W (m/n),W (m%n)]))(x:lX ab G 179)(B:∀a b:Int,af a.natAbs<=4194304000000->af b.natAbs<=4194304000000->ag ab G 177 [aS a,aS b] (aS (a*b)))(j:∀a b:Int,af a.natAbs<=4194304000000->af b.natAbs<=4194304000000->ag ab G 259 [aS a,aS b] (aS (a-b)))(i:∀z:Int,af z.natAbs<=4194304000000->ag ab G 186 [aS z] (.int .i64 z.sign))(a b:Int)(g:0<b)(f:b∣a)(l:af a.natAbs<=3774873600000)(s:af b.natAbs<=3774873600000):ag ab G 226 [aS a,aS b] (.aM [aS (a/b),aS 0,.int .i64 0]):=by
 have h1:=q a ac;have C:=q b ac;have A:=hd a.natAbs b.natAbs ac l s;have e:a.natAbs/b.natAbs=(a/b).natAbs:=by obtain⟨c,rfl⟩:=f;rw[J7 _ ac,nV,P9 _ ac]
 have hw:af (a/b).natAbs<=3774873600000:=by rw[<-e];exact bx (fv (h7 _ _)) l
 have k:=x (decide (a<0)) (a.natAbs/b.natAbs) (by rw[e];omega);have v:eE (decide (a<0)) (a.natAbs/b.natAbs)=a/b:=by
   obtain⟨c,rfl⟩:=f;rw[J7 _ ac,nV,P9 _ ac];have:decide (b*c<0)=decide (c<0):=by congr 1;apply propext;constructor;intro h;rcases Qa c 0 with h1|h1;exact h1;have:=Qb (P5 g) h1;omega;intro h;exact Int.mul_neg_of_pos_of_neg g h
   rw[this,I7]
 rw[v]at k;have o:=B (a/b) b ac ac;rw[Int.ediv_mul_cancel f]at o;have p:=j a a ac ac;rw[Int.sub_self]at p;have w:ag ab G 186 [aS 0] (.int .i64 0):=i 0 (by simp[af,jt]);have r:=i b ac;rw[r4 g]at r;have u:af b.natAbs≠0:=λ e=>by have:=gL.1 e;omega
 have t:decide ((af b.natAbs:Int)=0)=false:=dZ ac;have D:=@eQ b.natAbs;have y:(!(decide (a<0)==decide (b<0)))=decide (a<0):=by rw[dZ (ac:¬b<0)];cases decide (a<0)<;>rfl
 have w0:cV.wrap ((0:Int)*1)=0:=al;rw[<-y]at k;exact aN [hc h1,hc C,ho 17 D,hb 18 t,hc A,hc k,hc o,hc p,hc w,hc r]
def aeS(w:ig ab G 262)(hd:∀m n,n≠0->af m<=3774873600000->af n<=3774873600000->ag ab G 303 [W m,W n] (.aM [W (m/n),W (m%n)]))(x:∀m n,af m<=4194304000000->af n<=4194304000000->ag ab G 305 [W m,W n] (W (m+n)))(D:∀m n,n<=m->af m<=4194304000000->ag ab G 306 [W m,W n] (W (m-n)))(j:lX ab G 229)(a b:Int)(y:b≠0)(z:af a.natAbs<=3774873600000)(E:af b.natAbs<=3774873600000):ag ab G 319 [aS a,aS b] (.aM [aS (eE (mF a b) (Gq a b)),aS (eE (decide (b<0)) (Gr a b)),.int .i64 0]):=by
 have f:b.natAbs≠0:=ac;have C:af b.natAbs≠0:=λ e=>f (gL.1 e);have k:decide ((af b.natAbs:Int)=0)=false:=dZ ac;have H:=arH a.natAbs b.natAbs;have I:=arI a.natAbs b.natAbs;have F:=arK (a.natAbs/b.natAbs);have K:af (b.natAbs-a.natAbs%b.natAbs)<=af b.natAbs:=fv (EY _ _);have J:=ED;have h:a.natAbs%b.natAbs<b.natAbs:=bG _ (lP f);have p:=x (a.natAbs/b.natAbs) 1 ac ac;have o:=D b.natAbs (a.natAbs%b.natAbs) (h9 h) ac;have l:=jD w b.natAbs ac;have t2:=jD w a.natAbs ac;have g:=hd a.natAbs b.natAbs f z E;have r:=@eQ b.natAbs;have v:=@eQ (a.natAbs%b.natAbs);have i:=gL (n:=a.natAbs%b.natAbs);have B:=j (decide (b<0)) (b.natAbs-a.natAbs%b.natAbs) ac;have u:=j (decide (b<0)) (a.natAbs%b.natAbs) ac;have s0:=j (mF a b) (a.natAbs/b.natAbs) ac;have A:=j (mF a b) (a.natAbs/b.natAbs+1) ac;unfold Gq Gr;by_cases d:mF a b=true;by_cases i:0<a.natAbs%b.natAbs;have q:decide ((0:Int)<(af (a.natAbs%b.natAbs):Int))=true:=fJ ac;rw[if_pos ⟨d,i⟩,if_pos ⟨d,i⟩];exact aN [hc l,ho 14 r,hb 15 k,hc t2,hc g,hb 31 d,ho 33 v,hb 34 q,vx [([33],⟨us [1],1,false⟩)] p (bZ (fx (w4 _)) (bZ (arf (t:=false)) dy.nil)),hc o,hc A,hc B];have q:decide ((0:Int)<(af (a.natAbs%b.natAbs):Int))=false:=dZ ac;rw[if_neg (λ e=>i e.2),if_neg (λ e=>i e.2)];exact aN [hc l,ho 14 r,hb 15 k,hc t2,hc g,hb 31 d,ho 33 v,hb 34 q,hc s0,hc u];have s:mF a b=false:=by simpa using d
 rw[if_neg (λ e=>d e.1),if_neg (λ e=>d e.1)];exact aN [hc l,ho 14 r,hb 15 k,hc t2,hc g,hb 31 s,hc s0,hc u]
def ans(a b m n:Int)(h1:ag ab G 309 [aS a] (.aM [aS m,.bool true]))(d:ag ab G 309 [aS b] (.aM [aS n,.bool true])):ag ab G 299 [ic a b] (.aM [ic m n,.bool true]):=by
 haveI:bg (ic m n):=by unfold ic;infer_instance
 exact aN [hc h1,hc d]
def aps(j:ig ab G 262)(z:Int)(k:af z.natAbs<=4194304000000):ag ab G 264 [aS z] (.int .i64 z.sign):=by
 have i:af z.natAbs=0↔z=0:=by rw[gL];omega
 have h:=jD j z.natAbs ac;have c:=@eQ z.natAbs;by_cases d:z=0;have b:decide ((af z.natAbs:Int)=0)=true:=fJ (by have:=i.2 d;omega);rw[show z.sign=0 by rw[d];rfl];exact aN [hc h,ho 7 c,hb 8 b];have b:decide ((af z.natAbs:Int)=0)=false:=dZ (by have:=λ e=>d (i.1 e);omega);by_cases f:z<0;have g:decide (z<0)=true:=fJ f;rw[J6 f];exact aN [hc h,ho 7 c,hb 8 b,hb 11 g];have g:decide (z<0)=false:=dZ f;rw[r4 ac];exact aN [hc h,ho 7 c,hb 8 b,hb 11 g]
def aoO(b:∀z:Int,af z.natAbs<=4194304000000->ag ab G 219 [aS z] (aS z))(z:Int)(j:af z.natAbs<=4194304000000):ag ab G 186 [aS z] (.int .i64 z.sign):=by
 have i:af z.natAbs=0↔z=0:=by rw[gL];omega
 have g:=b z j;have d:=@eQ z.natAbs;by_cases h:z=0;have c:decide ((af z.natAbs:Int)=0)=true:=fJ (by have:=i.2 h;omega);rw[show z.sign=0 by rw[h];rfl];exact aN [hc g,ho 7 d,hb 8 c];have c:decide ((af z.natAbs:Int)=0)=false:=dZ (by have:=λ e=>h (i.1 e);omega);by_cases b:z<0;have f:decide (z<0)=true:=fJ b;rw[J6 b];exact aN [hc g,ho 7 d,hb 8 c,hb 10 f];have f:decide (z<0)=false:=dZ b;rw[r4 ac];exact aN [hc g,ho 7 d,hb 8 c,hb 10 f]
def alb(h:ig ab G 262)(c:∀n,af n<=4194304000000->ag ab G 185 [W n] (W n))(e:lX ab G 229)(z:Int)(d:af z.natAbs<=4194304000000):ag ab G 281 [aS z] (aS (-z)):=by have b:=e (!decide (z<0)) z.natAbs ac;rw[rM]at b;have g:=jD h z.natAbs ac;have f:=c z.natAbs d;exact aN [hc g,hc f,hc b]
def akx(c:ig ab G 262)(d:∀m n,af m<=4194304000000->af n<=4194304000000->ag ab G 267 [W m,W n] (W (m*n)))(g:lX ab G 229)(y z:Int)(e:af y.natAbs<=4194304000000)(f:af z.natAbs<=4194304000000):ag ab G 236 [aS y,aS z] (aS (y*z)):=by have b:=g (!(decide (y<0)==decide (z<0))) (y.natAbs*z.natAbs) (by have:=Bd y.natAbs z.natAbs;omega);rw[X6]at b;have i:=jD c y.natAbs ac;have t2:=jD c z.natAbs ac;have h:=d y.natAbs z.natAbs e f;exact aN [hc i,hc t2,hc h,hc b]
def afR(hu:∀n,n<18446744073709551616->ag ab G 230 [.int .u64 ((n:Nat):Int)] (W n))(g:lX ab G 229)(a:Int)(h1:-9223372036854775808<=a)(i:a<9223372036854775808):ag ab G 188 [.int .i64 a] (aS a):=by have h:=yo a.natAbs;have d:=g (decide (a<0)) a.natAbs ac;rw[I7]at d;have b:=hu a.natAbs ac;by_cases f:a<0;have e:decide (a<0)=true:=fJ f;rw[<-show da.wrap (0-(da.wrap a))=(a.natAbs:Int)by rw[iy,iy];omega]at b;exact aN [hb 7 e,hc b,hc d];have e:decide (a<0)=false:=dZ f;rw[<-show da.wrap a=(a.natAbs:Int)by rw[iy];omega]at b;exact aN [hb 7 e,hc b,hc d]
def aoq(a:Int)(d:ag ab G 188 [.int .i64 a] (aS a))(c:ag ab G 189 [] (aS 1)):ag ab G 139 [.int .i64 a] (ic a 1):=by exact aN [hc d,hc c]
def anA(a:Int)(d:ag ab G 127 [.int .i64 a] (aS a))(c:ag ab G 127 [.int .i64 1] (aS 1)):ag ab G 89 [.int .i64 a] (ic a 1):=by exact aN [hc d,hc c]
def ajN(c:∀x,x<ai->ag ab G 322 [.int .u32 ((x:Nat):Int)] (.int .i64 (ey x:Int)))(x:Nat)(b:x<ai)(d:0<x):ag ab G 313 [.int .u32 (x:Int)] (.int .i64 ((32-ey x:Nat):Int)):=by
 have hb:ey x<=32:=by
   have h1:=(ze b d).2;have f:2^ey x<2^33:=by unfold ai at b;omega
   have:=(aaT (al:1<2)).1 f;omega
 have e:cV.wrap ((32:Int)-((ey x:Nat):Int))=((32-ey x:Nat):Int):=by rw[c0];omega
 have g:=c x b;rw[<-e];exact aN [hc g]
def aoR(i:∀z:Int,af z.natAbs<=4194304000000->ag ab G 187 [aS z] (aS (-z)))(h:∀a b:Int,af a.natAbs<=4194304000000->af b.natAbs<=4194304000000->ag ab G 175 [aS a,aS b] (aS (a+b)))(a b:Int)(f:af a.natAbs<=4194304000000)(d:af b.natAbs<=4194304000000):ag ab G 259 [aS a,aS b] (aS (a-b)):=by have e:=h a (-b) f (by rw[aaY];exact d);rw[<-Int.sub_eq_add_neg]at e;have g:=i b d;exact aN [hc g,hc e]
def aip(z:Int):ag ab G 308 [aS z] (.bool (decide (z=0))):=by
 have e:decide ((af z.natAbs:Int)=0)=decide (z=0):=by have:=gL (n:=z.natAbs);congr 1;apply propext;omega
 rw[<-e];exact aN [ho 5 (@eQ z.natAbs)]
end
end Go.Proofs.YtpcofcmencgkbaaGreat
namespace Go.aA
def fr(n:Nat)(l:List (Nat×aa)):List aa:=l.foldl (λ t x=>t.set x.1 x.2) (bI n .top)
def rH(ρ:Id->Id)(l:List (Nat×aa)):List (Nat×aa):=l.map λ x=>(x.1,x.2.aY ρ)
def o7{ρ:Id->Id}{n:Nat}{l:List (Nat×aa)}:bD ρ (fr n l)=fr n (rH ρ l):=by
 have h:∀(l:List (Nat×aa))(t:List aa),bD ρ (l.foldl (λ t x=>t.set x.1 x.2) t)=(rH ρ l).foldl (λ t x=>t.set x.1 x.2) (bD ρ t):=λ l=>by induction l with|nil=>exact λ t=>rfl|cons x l a=>intro t;show bD ρ (l.foldl _ (t.set x.1 x.2))=(rH ρ l).foldl _ ((bD ρ t).set x.1 (x.2.aY ρ));rw[a,ga,ga,List.map_set]
 show bD ρ (l.foldl _ _)=_;rw[h,aog];rfl
class hL(l:List (Nat×aa)):Prop where fix:∀ρ,rH ρ l=l
instance:hL []:=⟨λ _=>rfl⟩
instance{k:Nat}{c:aa}{l:List (Nat×aa)}[h:bg c][g:hL l]:hL ((k,c)::l):=⟨λ ρ=>by show(k,c.aY ρ)::rH ρ l=_;rw[h.fix,g.fix]⟩
def hL.fr{n:Nat}{l:List (Nat×aa)}[h:hL l]{ρ:Id->Id}:bD ρ (fr n l)=fr n l:=by rw[o7,h.fix]
def cD.loops:cD->List cD|.seq a b=>a.loops++b.loops|.cond _ a b=>a.loops++b.loops|.block _ c=>c.loops|.loop c=>c::c.loops|_=>[]
def aT(aG:ee)(k:Nat):cD:=aG.body.loops.getD k .skip
def bj:Nat->Nat|0=>200|l+1=>10000*bj l
def lb(l s:Nat):Nat:=bj (l+1)*s+1000
def le(l s:Nat):Nat:=bj (l+1)*(s+1)
def Vk:∀l,200<=bj l|0=>a2 _|l+1=>by have:=Vk l;show 200<=10000*bj l;omega
def Dd{l s N:Nat}(h:N<=9000):lb l s+bj l*N+bj l<=le l s:=by have h1:bj l*N<=bj l*9000:=fS _ h;have b:=Vk l;have a:bj (l+1)=10000*bj l:=rfl;show bj (l+1)*s+1000+bj l*N+bj l<=bj (l+1)*(s+1);rw[ej,nX,a];omega
class cT(k:Nat)(c:aa):Prop where
 pu:bg c
 size:c.size=k
 cells:∀d∈c.cells,cd d
 one:c.cells.all aa.one=true
def kept(b:Nat->Bool)(x:Nat->aa)(i:Nat):List aa:=((aR i).filter b).map x
def UO{b:Nat->Bool}{x:Nat->aa}{i:Nat}(h:b i=true):kept b x (i+1)=kept b x i++[x i]:=by unfold kept;rw[gz,ks,dW];simp[h]
def ai4{b:Nat->Bool}{x:Nat->aa}{i:Nat}(h:b i=false):kept b x (i+1)=kept b x i:=by unfold kept;rw[gz,ks,dW];simp[h]
def ai3(b:Nat->Bool)(x:Nat->aa)(i:Nat):(kept b x i).length<=i:=by unfold kept;rw[List.length_map];have:=List.length_filter_le b (aR i);rwa[List.length_range]at this
def ai2{b:Nat->Bool}{x:Nat->aa}{p:aa->Prop}(h:∀i,p (x i)){i:Nat}:∀e∈kept b x i,p e:=λ e a=>by obtain⟨j,_,rfl⟩:=bd.1 a;exact h j
def bt(q:Id)(k:Nat)(l:List aa):aa:=if l=[]then .ar else .ah q k 0 l.length false
def a8(q:Id)(k:Nat)(l:List aa):List (Id×aJ):=if l=[]then []else [(q,⟨l,k,false⟩)]
def dP{q:Id}{k:Nat}{l:List aa}(h:l≠[]):bt q k l=.ah q k 0 l.length false:=if_neg h
def dK{q:Id}{k:Nat}{l:List aa}(h:l≠[]):a8 q k l=[(q,⟨l,k,false⟩)]:=if_neg h
def VM(q:Id)(k:Nat)(l:List aa):((a8 q k l).map (·.1)).Nodup:=by by_cases h:l=[];subst h;exact gA;rw[dK h];simp
def lO{F:List (Id×aJ)}:∀{t a:List aa}(k:Nat){v v':aa},e6 F t a->gD F v v'->e6 F (t.set k v) (a.set k v')|[],[],_,_,_,h,_=>h|_::_,_::_,0,_,_,h,hv=>⟨hv,h.2⟩|_::_,_::_,k+1,_,_,h,hv=>⟨h.1,lO k h.2 hv⟩|[],_::_,_,_,_,h,_=>h.elim|_::_,[],_,_,_,h,_=>h.elim
def pE{F:List (Id×aJ)}:∀(l:List (Nat×aa)){t a:List aa},e6 F t a->e6 F (l.foldl (λ t x=>t.set x.1 x.2) t) (l.foldl (λ t x=>t.set x.1 x.2) a)|[],_,_,h=>h|x::l,_,_,h=>pE l (lO x.1 h (gD.same F x.2))
def PD{q:Id}{k:Nat}{l:List aa}(h:∀e∈l,cT k e):gD (a8 q k l) (bt q k l) (.sl k l):=by by_cases a:l=[];subst a;exact qM (View.ar k);rw[dP a,dK a];refine qM (View.ah (av:=⟨l,k,false⟩) (by simp[bB]) rfl am ?_ rfl λ d hd=>(h d hd).size);rw[nY,jI (a2 _)];exact jJ λ c hc=>by have⟨e,b,hc⟩:=g3.1 hc;exact(h e b).cells c hc
section
variable{P:Program}{G:Nat->Option (List aa)}
def ag.Dw{f:FuncId}{args:List aa}{r:bR}{d:aa}{p:Id}(h:cv P G f args p [] r)(hv:View (mz (λ _=>none) r.up) r.val d):ag P G f args d:=by refine⟨h.1,λ w vs ok o q=>?_⟩;refine(h.2 _ _ w _ vs am o q (λ _ _=>rfl)).mono λ e w' s=>?_;obtain⟨v,E',rfl,i⟩:=s;refine⟨v,(E'.jv (mz (λ _=>none) r.up)).ok,rfl,?_,?_,hv _ _ _ _ _ i.inv i.rep⟩;have a:=i.jo;refine⟨⟨λ _ _ h=>(by cases h),λ b hb=>.inl (a.step.ok b hb),a.step.same⟩,a.os,a.tape,a.output,a.size,a.block,λ b hb=>?_⟩;rcases hb with hb|⟨id,av,k,N,l,c⟩;exact a.rC b hb;have⟨g,n,m,ty,j⟩:=i.inv.blk id av l;rw[j.μ]at c;simp only[bf,c5]at c;rw[<-c.1];exact .inr j.own;rintro b(hb|⟨id,av,k,N,l,c⟩);exact i.inv.hR b hb;have⟨g,n,m,ty,j⟩:=i.inv.blk id av l;rw[j.μ]at c;simp only[bf,c5]at c;rw[<-c.1];exact l0 j.heap
abbrev qu(aG:ee)(args:List aa)(a:List (aV P G)):u6 P G:=bY true 1000 aG.body [0] a ⟨args++bI (aG.aH-args.length) (.aM []),b8 [],0⟩
def ag.Pf{f:FuncId}{aG:ee}(h:lp P f aG)(a:List (aV P G)){args:List aa}{r:aa}[bn args][b:bg r](c:nI aG.results [] (qu aG args a)=nH r [] (qu aG args a)):ag P G f args r:=ag.Dw (p:=[0]) (cv.Zi h (λ _=>[]) a args [] r c (bn.fix _) rfl (b.fix _) gA) (fx b.pure)
def ag.oN{f:FuncId}{aG:ee}(h:lp P f aG)(a:List (aV P G))(K:List (Id×aJ))(eU:aa){args:List aa}{r:aa}[bn args](d:nI aG.results (K++rest K []) (qu aG args a)=nH eU (K++rest K []) (qu aG args a))(g:ft (bT 0 [0] λ _=>[]) K=K)(i:eU.aY (bT 0 [0] λ _=>[])=eU)(hd:(K.map (·.1)).Nodup)(hv:∀σ:aQ,(∀x∈K,σ x.1=some x.2)->View σ eU r):ag P G f args r:=by
 refine ag.Dw (p:=[0]) (cv.jC h (λ _=>[]) a args [] eU K d (bn.fix _) rfl i g gA hd) (hv _ λ x c=>?_);have key:∀(U:List (Id×aJ))(σ:aQ),(U.map (·.1)).Nodup->∀w∈U,σ.app (U.map λ x=>(x.1,some x.2)) w.1=some w.2:=by intro U;induction U with|nil=>intro σ _ w hw;simp at hw|cons u U j=>intro σ b w hw;simp only[mw,h5]at b;simp only[mw,mz];rcases cp.1 hw with rfl|hw;rw[aQ.F2,aQ.vQ];rintro x c e;obtain⟨v,hv,rfl⟩:=bd.1 c;exact b.1 (bd.2 ⟨v,hv,e⟩);exact j _ b.2 w hw
 exact key K _ hd x c
def Vi{c:cD}{n N w n0 l:Nat}{e:cn}{F:Nat->List (Nat×aa)}{b:List (Nat×aa)}[v:∀i,hL (F i)][hL b](f:∀i,i<N->List (aV P G))(m:List (aV P G))(k:e≠.normal)(h:∀i(g:i<N),hE [] (fr n (F (i+1))) w (bY true 1000 c [0] (f i g) ⟨fr n (F i),b8 [],0⟩)=hh .normal [] (fr n (F (i+1))) (bY true 1000 c [0] (f i g) ⟨fr n (F i),b8 [],0⟩))(u:hE [] (fr n b) w (bY true 1000 c [0] m ⟨fr n (F N),b8 [],0⟩)=hh e [] (fr n b) (bY true 1000 c [0] m ⟨fr n (F N),b8 [],0⟩))(q:n0+w*N+w<=l):bA P G [0] (.loop c) (λ t s'=>t=e/\bN G [0] s' ⟨fr n b,nW [],l⟩) ⟨fr n (F 0),bB [],n0⟩:=by
 refine bA.z7 (α:=Nat) (λ i=>⟨fr n (F i),bB [],n0+w*i⟩) (λ i=>i<=N) (λ i=>N-i) 0 (by rw[j5];exact bN.refl _ _ _) (dF _) ?_;intro i g;by_cases a:i<N;refine uL (λ _=>[]) (f i a) (fr n (F i)) [] .normal (fr n (F (i+1))) [] w (h i a) hL.fr rfl hL.fr rfl gA λ s hw=>⟨i+1,a,by simp only[];omega,?_⟩;have e:n0+w*i+w=n0+w*(i+1):=by rw[ej,nX];omega
 simp only[];rw[<-e];exact hw;obtain rfl:i=N:=ac;refine uL (λ _=>[]) m (fr n (F i)) [] e (fr n b) [] w u hL.fr rfl hL.fr rfl gA λ s hw=>?_;have p:bN G [0] s ⟨fr n b,nW [],l⟩:=bN.toT (K:=[]) gA (hw.trans (bN.slots (jn.same _) q));cases e with|normal=>exact(k rfl).elim|exit j=>exact⟨rfl,p⟩|ret=>exact⟨rfl,p⟩
def xF(aG:ee)(k l s N:Nat)(F:Nat->List (Nat×aa))(e:cn)(a:List (Nat×aa))[m:∀i,hL (F i)][hL a](d:∀i,i<N->List (aV P G))(b:List (aV P G))(j:N<=9000:=by omega)(h:∀i(f:i<N),hE [] (fr aG.aH (F (i+1))) (bj l) (bY true 1000 (aT aG k) [0] (d i f) ⟨fr aG.aH (F i),b8 [],0⟩)=hh .normal [] (fr aG.aH (F (i+1))) (bY true 1000 (aT aG k) [0] (d i f) ⟨fr aG.aH (F i),b8 [],0⟩):=by intros;kernel_rfl)(g:hE [] (fr aG.aH a) (bj l) (bY true 1000 (aT aG k) [0] b ⟨fr aG.aH (F N),b8 [],0⟩)=hh e [] (fr aG.aH a) (bY true 1000 (aT aG k) [0] b ⟨fr aG.aH (F N),b8 [],0⟩):=by kernel_rfl)(c:e≠.normal:=by simp):aV P G:=.iQ [0] (aT aG k) (fr aG.aH (F 0)) [] (lb l s) e (fr aG.aH a) [] (le l s) (Vi d b c h g (Dd j))
def sE(key k bytes q:Nat)(l:List aa)(x:aa)[d:cT k x](c:(l.length+1)*bytes<=140737488355328)(hb:0<bytes)(f:(l.all λ e=>e.cells.all aa.one)=true):aV P G:=.st key [([q,0],⟨[x],k,false⟩),([1],⟨l,k,false⟩)] (.append k bytes (.ah [1] k 0 l.length false) (.ah [q,0] k 0 1 false)) (λ p=>{val:=.ah p k 0 (l.length+1) false,rd:=[[1],[q,0]],up:=[([1],none),(p,some ⟨l++[x],k,false⟩)]}) (λ σ p a=>by have h:=a ([q,0],⟨[x],k,false⟩) am;have b:=a ([1],⟨l,k,false⟩) am;exact yl (σ:=σ) (p:=p) (id:=[1]) (k:=k) (bytes:=bytes) (len:=l.length) (x:=.ah [q,0] k 0 1 false) (els:=l) (ys:=[x]) (rd:=[[q,0]]) (by rw[zr h rfl am];rfl) am b rfl c (oD (by have:=r0 (l.length+1) hb;simp;omega)) (by simpa using d.one) f)
structure pZ(k bytes N:Nat)(l:List aa):Prop where
 len:(l.length+1)*bytes<=140737488355328
 one:(l.all fun e=>e.cells.all aa.one)=true
def kV(P:Program)(G:Nat->Option (List aa))(aG:ee)(k l:Nat)(e:cn)(F b:List (Nat×aa)):Prop:=∃a:List (aV P G),hE [] (fr aG.aH b) (bj l) (bY true 1000 (aT aG k) [0] a ⟨fr aG.aH F,b8 [],0⟩)=hh e [] (fr aG.aH b) (bY true 1000 (aT aG k) [0] a ⟨fr aG.aH F,b8 [],0⟩)
def rd{aG:ee}{k l:Nat}{e:cn}{F b:List (Nat×aa)}(a:List (aV P G))(h:hE [] (fr aG.aH b) (bj l) (bY true 1000 (aT aG k) [0] a ⟨fr aG.aH F,b8 [],0⟩)=hh e [] (fr aG.aH b) (bY true 1000 (aT aG k) [0] a ⟨fr aG.aH F,b8 [],0⟩):=by kernel_rfl):kV P G aG k l e F b:=⟨a,h⟩
noncomputable def gw(aG:ee)(k l s N:Nat)(F:Nat->List (Nat×aa))(e:cn)(c:List (Nat×aa))[j:∀i,hL (F i)][hL c](h:∀i,i<N->kV P G aG k l .normal (F i) (F (i+1)))(f:kV P G aG k l e (F N) c)(g:N<=9000:=by omega)(d:e≠.normal:=by simp):aV P G:=xF aG k l s N F e c (λ i b=>r5 (h i b)) (r5 f) g (λ i b=>oR (h i b)) (oR f) d
def BU(P:Program)(G:Nat->Option (List aa))(aG:ee)(k l N c bytes key so:Nat)(hb:0<bytes)(x:aa)[cT c x](F d:List (Nat×aa)):Prop:=∃(q a:Nat)(b:List (aV P G)->List (aV P G)),(hE [([a,0],⟨[x],c,false⟩)] (fr aG.aH ((so,.ah [a,0] c 0 1 false)::d)) (bj l) (bY true 1000 (aT aG k) [0] (b []) ⟨fr aG.aH ((so,.ar)::F),b8 [],0⟩)=hh .normal [([a,0],⟨[x],c,false⟩)] (fr aG.aH ((so,.ah [a,0] c 0 1 false)::d)) (bY true 1000 (aT aG k) [0] (b []) ⟨fr aG.aH ((so,.ar)::F),b8 [],0⟩))/\∀(l':List aa)(e:pZ c bytes N l'),hE [([a,0],⟨l'++[x],c,false⟩)] (fr aG.aH ((so,.ah [a,0] c 0 (l'.length+1) false)::d)) (bj l) (bY true 1000 (aT aG k) [0] (b [sE key c bytes q l' x e.len hb e.one]) ⟨fr aG.aH ((so,.ah [1] c 0 l'.length false)::F),b8 [([1],⟨l',c,false⟩)],0⟩)=hh .normal [([a,0],⟨l'++[x],c,false⟩)] (fr aG.aH ((so,.ah [a,0] c 0 (l'.length+1) false)::d)) (bY true 1000 (aT aG k) [0] (b [sE key c bytes q l' x e.len hb e.one]) ⟨fr aG.aH ((so,.ah [1] c 0 l'.length false)::F),b8 [([1],⟨l',c,false⟩)],0⟩)
def p4{aG:ee}{k l N c bytes key so:Nat}{hb:0<bytes}{x:aa}[cT c x]{F d:List (Nat×aa)}(q a:Nat)(b:List (aV P G)->List (aV P G))(f:hE [([a,0],⟨[x],c,false⟩)] (fr aG.aH ((so,.ah [a,0] c 0 1 false)::d)) (bj l) (bY true 1000 (aT aG k) [0] (b []) ⟨fr aG.aH ((so,.ar)::F),b8 [],0⟩)=hh .normal [([a,0],⟨[x],c,false⟩)] (fr aG.aH ((so,.ah [a,0] c 0 1 false)::d)) (bY true 1000 (aT aG k) [0] (b []) ⟨fr aG.aH ((so,.ar)::F),b8 [],0⟩):=by kernel_rfl)(h1:∀(l':List aa)(e:pZ c bytes N l'),hE [([a,0],⟨l'++[x],c,false⟩)] (fr aG.aH ((so,.ah [a,0] c 0 (l'.length+1) false)::d)) (bj l) (bY true 1000 (aT aG k) [0] (b [sE key c bytes q l' x e.len hb e.one]) ⟨fr aG.aH ((so,.ah [1] c 0 l'.length false)::F),b8 [([1],⟨l',c,false⟩)],0⟩)=hh .normal [([a,0],⟨l'++[x],c,false⟩)] (fr aG.aH ((so,.ah [a,0] c 0 (l'.length+1) false)::d)) (bY true 1000 (aT aG k) [0] (b [sE key c bytes q l' x e.len hb e.one]) ⟨fr aG.aH ((so,.ah [1] c 0 l'.length false)::F),b8 [([1],⟨l',c,false⟩)],0⟩):=by intros;kernel_rfl):BU P G aG k l N c bytes key so hb x F d:=⟨q,a,b,f,h1⟩
def y6(P:Program)(G:Nat->Option (List aa))(aG:ee)(k l c so:Nat)(e:cn)(F b:List (Nat×aa)):Prop:=∃a:List (aV P G),hE [] (fr aG.aH ((so,.ar)::b)) (bj l) (bY true 1000 (aT aG k) [0] a ⟨fr aG.aH ((so,.ar)::F),b8 [],0⟩)=hh e [] (fr aG.aH ((so,.ar)::b)) (bY true 1000 (aT aG k) [0] a ⟨fr aG.aH ((so,.ar)::F),b8 [],0⟩)/\∀l':List aa,hE [([1],⟨l',c,false⟩)] (fr aG.aH ((so,.ah [1] c 0 l'.length false)::b)) (bj l) (bY true 1000 (aT aG k) [0] a ⟨fr aG.aH ((so,.ah [1] c 0 l'.length false)::F),b8 [([1],⟨l',c,false⟩)],0⟩)=hh e [([1],⟨l',c,false⟩)] (fr aG.aH ((so,.ah [1] c 0 l'.length false)::b)) (bY true 1000 (aT aG k) [0] a ⟨fr aG.aH ((so,.ah [1] c 0 l'.length false)::F),b8 [([1],⟨l',c,false⟩)],0⟩)
def rN{aG:ee}{k l c so:Nat}{e:cn}{F b:List (Nat×aa)}(a:List (aV P G))(d:hE [] (fr aG.aH ((so,.ar)::b)) (bj l) (bY true 1000 (aT aG k) [0] a ⟨fr aG.aH ((so,.ar)::F),b8 [],0⟩)=hh e [] (fr aG.aH ((so,.ar)::b)) (bY true 1000 (aT aG k) [0] a ⟨fr aG.aH ((so,.ar)::F),b8 [],0⟩):=by kernel_rfl)(h1:∀l':List aa,hE [([1],⟨l',c,false⟩)] (fr aG.aH ((so,.ah [1] c 0 l'.length false)::b)) (bj l) (bY true 1000 (aT aG k) [0] a ⟨fr aG.aH ((so,.ah [1] c 0 l'.length false)::F),b8 [([1],⟨l',c,false⟩)],0⟩)=hh e [([1],⟨l',c,false⟩)] (fr aG.aH ((so,.ah [1] c 0 l'.length false)::b)) (bY true 1000 (aT aG k) [0] a ⟨fr aG.aH ((so,.ah [1] c 0 l'.length false)::F),b8 [([1],⟨l',c,false⟩)],0⟩):=by intros;kernel_rfl):y6 P G aG k l c so e F b:=⟨a,d,h1⟩
def ajG{aG:ee}{u l N n0 E k bytes key so:Nat}{e:cn}{F:Nat->List (Nat×aa)}{r:List (Nat×aa)}[hF:∀i,hL (F i)][hL r]{b:Nat->Bool}{x:Nat->aa}[hx:∀i,cT k (x i)](hb:0<bytes)(S:e≠.normal)(h1:∀i,i<N->b i=true->BU P G aG u l N k bytes key so hb (x i) (F i) (F (i+1)))(I:∀i,i<N->b i=false->y6 P G aG u l k so .normal (F i) (F (i+1)))(h3:y6 P G aG u l k so e (F N) r)(V:n0+bj l*N+bj l<=E)(bp:(N+1)*bytes<=140737488355328):bA P G [0] (.loop (aT aG u)) (λ O s'=>O=e/\bN G [0] s' ⟨fr aG.aH ((so,.sl k (kept b x N))::r),nW [],E⟩) ⟨fr aG.aH ((so,.ar)::F 0),bB [],n0⟩:=by
 have⟨J,jR,T⟩:=h3;revert V;generalize C:bj l=w;intro V;rw[C]at jR T;have B:∀i,∀e∈kept b x i,cT k e:=λ i=>ai2 hx;have p:∀i ρ,bD ρ (kept b x i)=kept b x i:=λ i ρ=>by rw[ga];exact(List.map_congr_left λ c hc=>(B i c hc).pu.fix ρ).trans (List.map_id _)
 have d:∀{i:Nat}{ρ:Id->Id}{o:aa},bD ρ (fr aG.aH ((so,o)::F i))=fr aG.aH ((so,o.aY ρ)::F i):=λ{i ρ o}=>by rw[o7];show fr aG.aH ((so,o.aY ρ)::rH ρ (F i))=_;rw[(hF i).fix]
 have D:∀{ρ:Id->Id}{o:aa},bD ρ (fr aG.aH ((so,o)::r))=fr aG.aH ((so,o.aY ρ)::r):=λ{ρ o}=>by rw[o7];show fr aG.aH ((so,o.aY ρ)::rH ρ r)=_;rw[hL.fix]
 have R:∀i,i<N->pZ k bytes N (kept b x i):=λ i X=>⟨by have:=ai3 b x i;exact bx (cr _ ac) bp,ek.2 λ e J=>(B i e J).one⟩;refine bA.z7 (α:=Nat×Nat) (λ z=>⟨fr aG.aH ((so,bt [z.2,0] k (kept b x z.1))::F z.1),bB (a8 [z.2,0] k (kept b x z.1)),n0+w*z.1⟩) (λ z=>z.1<=N) (λ z=>N-z.1) (0,0) (by rw[j5];exact bN.refl _ _ _) (dF _) ?_;rintro⟨i,j⟩X;simp only[]at X⊢;have step:n0+w*i+w=n0+w*(i+1):=by rw[ej,nX];omega
 generalize hm:n0+w*i=m at*;by_cases n:i<N;cases v:b i with|true=>
   have⟨q,a,hs,QG,Z⟩:=h1 i n v;rw[C]at QG Z;by_cases g:kept b x i=[];have f:=UO (x:=x) v;rw[g,List.nil_append]at f;rw[g];refine uL (λ _=>[]) (hs []) (fr aG.aH ((so,.ar)::F i)) [] .normal (fr aG.aH ((so,.ah [a,0] k 0 1 false)::F (i+1))) [([a,0],⟨[x i],k,false⟩)] w QG d rfl rfl rfl gA λ s hw=>⟨(i+1,m+a),n,by simp only[];omega,?_⟩;rw[d]at hw;have Q:ft (bT m [0] λ _=>[]) [([a,0],(⟨[x i],k,false⟩:aJ))]=[([m+a,0],⟨[x i],k,false⟩)]:=by rw[rI,rJ];show [(bT m [0] _ ([]++[a,0]),_)]=_;rw[jb,rK,aoe,aof,(hx i).pu.fix];rfl
   have L:aa.aY (bT m [0] λ _=>[]) (.ah [a,0] k 0 1 false)=.ah [m+a,0] k 0 1 false:=by show aa.ah (bT m [0] _ ([]++[a,0])) _ _ _ _=_;rw[jb];rfl
   rw[Q,L,step]at hw;simp only[f];rw[dP am,dK am];exact hw;have f:=UO (x:=x) v;have h:=p i;have t:=R i n;have M:∀ρ,bD ρ (kept b x i++[x i])=kept b x i++[x i]:=λ ρ=>by rw[<-f];exact p (i+1) ρ
   rw[dP g,dK g];refine uL (λ _=>[j,0]) (hs [sE key k bytes q (kept b x i) (x i) t.len hb t.one]) (fr aG.aH ((so,.ah [1] k 0 (kept b x i).length false)::F i)) [([1],⟨kept b x i,k,false⟩)] .normal (fr aG.aH ((so,.ah [a,0] k 0 ((kept b x i).length+1) false)::F (i+1))) [([a,0],⟨kept b x i++[x i],k,false⟩)] w (Z _ t) d (by rw[rI,rJ,rK,h];try rfl) rfl rfl am λ s hw=>⟨(i+1,m+a),n,by simp only[];omega,?_⟩;rw[d]at hw;have Q:ft (bT m [0] λ _=>[j,0]) [([a,0],(⟨kept b x i++[x i],k,false⟩:aJ))]=[([m+a,0],⟨kept b x i++[x i],k,false⟩)]:=by rw[rI,rJ];show [(bT m [0] _ ([]++[a,0]),_)]=_;rw[jb,rK,M];rfl
   have L:aa.aY (bT m [0] λ _=>[j,0]) (.ah [a,0] k 0 ((kept b x i).length+1) false)=.ah [m+a,0] k 0 ((kept b x i).length+1) false:=by show aa.ah (bT m [0] _ ([]++[a,0])) _ _ _ _=_;rw[jb];rfl
   rw[Q,L,step]at hw;simp only[f];rw[dP am,dK am,cy,List.length_singleton];exact hw|false=>obtain⟨Y,QH,QI⟩:=I i n v;rw[C]at QH QI;have f:=ai4 (x:=x) v;by_cases g:kept b x i=[];rw[g]at f⊢;refine uL (λ _=>[]) Y (fr aG.aH ((so,.ar)::F i)) [] .normal (fr aG.aH ((so,.ar)::F (i+1))) [] w QH d rfl d rfl gA λ s hw=>⟨(i+1,j),n,by simp only[];omega,?_⟩;rw[step]at hw;simp only[f];exact hw;have h:=p i;rw[dP g,dK g];refine uL (λ _=>[j,0]) Y (fr aG.aH ((so,.ah [1] k 0 (kept b x i).length false)::F i)) [([1],⟨kept b x i,k,false⟩)] .normal (fr aG.aH ((so,.ah [1] k 0 (kept b x i).length false)::F (i+1))) [([1],⟨kept b x i,k,false⟩)] w (QI _) d (by rw[rI,rJ,rK,h];try rfl) d (by rw[rI,rJ,rK,h];try rfl) am λ s hw=>⟨(i+1,j),n,by simp only[];omega,?_⟩;rw[step]at hw;simp only[f];rw[dP g,dK g];exact hw
 obtain rfl:i=N:=ac;have H:∀(q':Id)s,bN G [0] s ⟨fr aG.aH ((so,bt q' k (kept b x i))::r),bB (a8 q' k (kept b x i)),m+w⟩->bN G [0] s ⟨fr aG.aH ((so,.sl k (kept b x i))::r),nW [],E⟩:=λ q' s hw=>hw.trans (bN.nw (a8 q' k (kept b x i)) (λ y hy=>xN (VM _ _ _) hy) (pE r (lO so (ji _ _) (PD (B i)))) (λ _=>.inl rfl) ac);have A:∀s,bN G [0] s ⟨fr aG.aH ((so,.sl k (kept b x i))::r),nW [],E⟩->QY G [0] (λ z:Nat×Nat=>(⟨fr aG.aH ((so,bt [z.2,0] k (kept b x z.1))::F z.1),bB (a8 [z.2,0] k (kept b x z.1)),n0+w*z.1⟩:dD)) (λ z=>z.1<=i) (λ z=>i-z.1) (i,j) (λ O s'=>O=e/\bN G [0] s' ⟨fr aG.aH ((so,.sl k (kept b x i))::r),nW [],E⟩) e s:=λ s I=>by cases e with|normal=>exact(S rfl).elim|exit j=>exact⟨rfl,I⟩|ret=>exact⟨rfl,I⟩
 by_cases g:kept b x i=[];have h0:bt [j,0] k (kept b x i)=.ar:=by rw[g];rfl
 have h1:a8 [j,0] k (kept b x i)=[]:=by rw[g];rfl
 rw[h0,h1];refine uL (λ _=>[]) J (fr aG.aH ((so,.ar)::F i)) [] e (fr aG.aH ((so,.ar)::r)) [] w jR d rfl D rfl gA λ s hw=>A s (H [j,0] s ?_);rw[h0,h1];exact hw;have h:=p i;rw[dP g,dK g];refine uL (λ _=>[j,0]) J (fr aG.aH ((so,.ah [1] k 0 (kept b x i).length false)::F i)) [([1],⟨kept b x i,k,false⟩)] e (fr aG.aH ((so,.ah [1] k 0 (kept b x i).length false)::r)) [([1],⟨kept b x i,k,false⟩)] w (T _) d (by rw[rI,rJ,rK,h];try rfl) D (by rw[rI,rJ,rK,h];try rfl) am λ s hw=>A s (H [j,0] s ?_);rw[dP g,dK g];exact hw
noncomputable def ajF(aG:ee)(k l s N c bytes key so:Nat)(b:Nat->Bool)(x:Nat->aa)(L:List aa)(F:Nat->List (Nat×aa))(e:cn)(a:List (Nat×aa))(hb:0<bytes/\bytes<=10000)[n:∀i,hL (F i)][hL a][m:∀i,cT c (x i)](h1:∀i,i<N->b i=true->BU P G aG k l N c bytes key so hb.1 (x i) (F i) (F (i+1)))(j:∀i,i<N->b i=false->y6 P G aG k l c so .normal (F i) (F (i+1)))(h:y6 P G aG k l c so e (F N) a)(g:kept b x N=L)(f:N<=9000:=by omega)(d:e≠.normal:=by simp):aV P G:=.iQ [0] (aT aG k) (fr aG.aH ((so,.ar)::F 0)) [] (lb l s) e (fr aG.aH ((so,.sl c L)::a)) [] (le l s) (g▸ajG hb.1 d h1 j h (Dd f) (by have:=kr (ac:N+1<=9001) hb.2;omega))
noncomputable def ue(aG:ee)(k l s N c bytes key so:Nat)(x:Nat->aa)(L:List aa)(F:Nat->List (Nat×aa))(e:cn)(a:List (Nat×aa))(hb:0<bytes/\bytes<=10000)[m:∀i,hL (F i)][hL a][n:∀i,cT c (x i)](h1:∀i,i<N->BU P G aG k l N c bytes key so hb.1 (x i) (F i) (F (i+1)))(f:y6 P G aG k l c so e (F N) a)(g:(aR N).map x=L)(d:N<=9000:=by omega)(b:e≠.normal:=by simp):aV P G:=ajF aG k l s N c bytes key so (λ _=>true) x L F e a hb (λ i j _=>h1 i j) (λ _ _ h=>by cases h) f (by unfold kept;rw[List.filter_eq_self.2 λ _ _=>rfl];exact g) d b
def bA.To{c:cD}{n n0 so kk:Nat}{i:Id}{el:aa}{cs:List aa}{F:List (Nat×aa)}{Q:cn->dD->Prop}[a:bn cs](hc:el.cells=cs)(h:bA P G [0] (.loop c) Q ⟨fr n ((so,.cE cs 0)::F),bB [],n0⟩):bA P G [0] (.loop c) Q ⟨fr n ((so,.ref i 0 0)::F),bB [(i,⟨[el],kk,false⟩)],n0⟩:=by subst hc;exact bA.hZ (bN.nw [(i,⟨[el],kk,false⟩)] (λ y b=>xN am b) (pE F (lO so (ji _ _) (qM (View.ref (av:=⟨[el],kk,false⟩) (by simp[bB]) rfl (jJ a.pure))))) (λ _=>.inl rfl) (a2 _)) h
noncomputable def z8(aG:ee)(k l s N so kk:Nat)(i:Id)(el:aa)(cs:List aa)(F:Nat->List (Nat×aa))(e:cn)(d:List (Nat×aa))[m:bn cs][n:∀j,hL (F j)][hL d](h:∀j,j<N->kV P G aG k l .normal ((so,.cE cs 0)::F j) ((so,.cE cs 0)::F (j+1)))(f:kV P G aG k l e ((so,.cE cs 0)::F N) d)(hc:el.cells=cs:=by rfl)(g:N<=9000:=by omega)(c:e≠.normal:=by simp):aV P G:=.iQ [0] (aT aG k) (fr aG.aH ((so,.ref i 0 0)::F 0)) [(i,⟨[el],kk,false⟩)] (lb l s) e (fr aG.aH d) [] (le l s) (bA.To hc (Vi (F:=λ j=>(so,.cE cs 0)::F j) (λ j b=>r5 (h j b)) (r5 f) c (λ j b=>oR (h j b)) (oR f) (Dd g)))
structure aB where
 a:Id
 b:Id
 c:Id
 d:Id
end
end Go.aA
namespace Go.aA.aB
def map(ρ:Id->Id)(q:aB):aB:=⟨ρ q.a,ρ q.b,ρ q.c,ρ q.d⟩
def l(q:aB):List Id:=[q.a,q.b,q.c,q.d]
def s:aB:=⟨[1],[2],[3],[4]⟩
def fin(E:Nat):aB:=⟨[E,0],[E+1,0],[E+2,0],[E+3,0]⟩
end Go.aA.aB
namespace Go.aA
class ky(f:aB->aa):Prop where nat:∀ρ q,(f q).aY ρ=f (q.map ρ)
class qT(f:aB->List aa):Prop where nat:∀ρ q,bD ρ (f q)=f (q.map ρ)
class gq(f:aB->List (Nat×aa)):Prop where nat:∀ρ q,rH ρ (f q)=f (q.map ρ)
class pY(f:aB->aJ):Prop where nat:∀ρ q,(f q).aY ρ=f (q.map ρ)
class dI(f:aB->List (Id×aJ)):Prop where nat:∀ρ q,ft ρ (f q)=f (q.map ρ)sub:∀q,((f q).map (·.1)).Sublist q.l
instance atW{c:aa}[h:bg c]:ky (λ _=>c):=⟨λ ρ _=>h.fix ρ⟩
instance{k o n:Nat}{t:Bool}:ky (λ q=>.ah q.a k o n t):=⟨λ _ _=>rfl⟩
instance{k o n:Nat}{t:Bool}:ky (λ q=>.ah q.b k o n t):=⟨λ _ _=>rfl⟩
instance{k o n:Nat}{t:Bool}:ky (λ q=>.ah q.c k o n t):=⟨λ _ _=>rfl⟩
instance{k o n:Nat}{t:Bool}:ky (λ q=>.ah q.d k o n t):=⟨λ _ _=>rfl⟩
instance{e o:Nat}:ky (λ q=>.ref q.a e o):=⟨λ _ _=>rfl⟩
instance{e o:Nat}:ky (λ q=>.ref q.b e o):=⟨λ _ _=>rfl⟩
instance{e o:Nat}:ky (λ q=>.ref q.c e o):=⟨λ _ _=>rfl⟩
instance{e o:Nat}:ky (λ q=>.ref q.d e o):=⟨λ _ _=>rfl⟩
def HW{ρ:Id->Id}{q:Id}{k:Nat}{l:List aa}:(bt q k l).aY ρ=bt (ρ q) k l:=by unfold bt;split<;>rfl
instance{k:Nat}{l:List aa}:ky (λ q=>bt q.a k l):=⟨λ _ _=>HW⟩
instance{k:Nat}{l:List aa}:ky (λ q=>bt q.b k l):=⟨λ _ _=>HW⟩
instance{k:Nat}{l:List aa}:ky (λ q=>bt q.c k l):=⟨λ _ _=>HW⟩
instance atY{l:List aa}[h:bn l]:qT (λ _=>l):=⟨λ ρ _=>h.fix ρ⟩
instance(priority:=900){f:aB->aa}{g:aB->List aa}[h:ky f][k:qT g]:qT (λ q=>f q::g q):=⟨λ ρ q=>by show(f q).aY ρ::bD ρ (g q)=_;rw[h.nat,k.nat]⟩
instance(priority:=900){f g:aB->List aa}[h:qT f][k:qT g]:qT (λ q=>f q++g q):=⟨λ ρ q=>by show bD ρ (f q++g q)=_;rw[IL,h.nat,k.nat]⟩
instance(priority:=900){f:aB->List aa}[h:qT f]:ky (λ q=>.agg (f q)):=⟨λ ρ q=>by show aa.agg (bD ρ (f q))=_;rw[h.nat]⟩
instance(priority:=900){f:aB->List aa}[h:qT f]:ky (λ q=>.aM (f q)):=⟨λ ρ q=>by show aa.aM (bD ρ (f q))=_;rw[h.nat]⟩
instance:gq (λ _=>[]):=⟨λ _ _=>rfl⟩
instance{k:Nat}{f:aB->aa}{g:aB->List (Nat×aa)}[h:ky f][j:gq g]:gq (λ q=>(k,f q)::g q):=⟨λ ρ q=>by show(k,(f q).aY ρ)::rH ρ (g q)=_;rw[h.nat,j.nat]⟩
instance(priority:=800)atX{l:List (Nat×aa)}[h:hL l]:gq (λ _=>l):=⟨λ ρ _=>h.fix ρ⟩
instance{f:aB->List aa}{k:Nat}{b:Bool}[h:qT f]:pY (λ q=>⟨f q,k,b⟩):=⟨λ ρ q=>by show aJ.mk (bD ρ (f q)) k b=_;rw[h.nat]⟩
instance:dI (λ _=>[]):=⟨λ _ _=>rfl,λ _=>nZ _⟩
section
variable{x y z:aB->aJ}[hx:pY x][hy:pY y][hz:pY z]
instance:dI (λ q=>[(q.a,x q)]):=⟨λ ρ q=>by show [(ρ q.a,(x q).aY ρ)]=_;rw[hx.nat];rfl,λ q=>.cons_cons _ (nZ _)⟩
instance:dI (λ q=>[(q.b,x q)]):=⟨λ ρ q=>by show [(ρ q.b,(x q).aY ρ)]=_;rw[hx.nat];rfl,λ q=>.cons _ (.cons_cons _ (nZ _))⟩
instance:dI (λ q=>[(q.c,x q)]):=⟨λ ρ q=>by show [(ρ q.c,(x q).aY ρ)]=_;rw[hx.nat];rfl,λ q=>.cons _ (.cons _ (.cons_cons _ (nZ _)))⟩
instance:dI (λ q=>[(q.a,x q),(q.b,y q)]):=⟨λ ρ q=>by show [(ρ q.a,(x q).aY ρ),(ρ q.b,(y q).aY ρ)]=_;rw[hx.nat,hy.nat];rfl,λ q=>.cons_cons _ (.cons_cons _ (nZ _))⟩
instance:dI (λ q=>[(q.b,x q),(q.c,y q)]):=⟨λ ρ q=>by show [(ρ q.b,(x q).aY ρ),(ρ q.c,(y q).aY ρ)]=_;rw[hx.nat,hy.nat];rfl,λ q=>.cons _ (.cons_cons _ (.cons_cons _ (nZ _)))⟩
instance:dI (λ q=>[(q.a,x q),(q.c,y q)]):=⟨λ ρ q=>by show [(ρ q.a,(x q).aY ρ),(ρ q.c,(y q).aY ρ)]=_;rw[hx.nat,hy.nat];rfl,λ q=>.cons_cons _ (.cons _ (.cons_cons _ (nZ _)))⟩
instance:dI (λ q=>[(q.a,x q),(q.b,y q),(q.c,z q)]):=⟨λ ρ q=>by show [(ρ q.a,(x q).aY ρ),(ρ q.b,(y q).aY ρ),(ρ q.c,(z q).aY ρ)]=_;rw[hx.nat,hy.nat,hz.nat];rfl,λ q=>.cons_cons _ (.cons_cons _ (.cons_cons _ (nZ _)))⟩
end
def AM{ρ:Id->Id}{K L:List (Id×aJ)}:ft ρ (K++L)=ft ρ K++ft ρ L:=dW
def Aa{ρ:Id->Id}{q:Id}{k:Nat}{l:List aa}[h:bn l]:ft ρ (a8 q k l)=a8 (ρ q) k l:=by unfold a8;split;rfl;show [(ρ q,aJ.mk (bD ρ l) k false)]=_;rw[h.fix]
def xG{q:Id}{k:Nat}{l:List aa}{K:List (Id×aJ)}{L:List Id}(h:(K.map (·.1)).Sublist L):((a8 q k l++K).map (·.1)).Sublist (q::L):=by unfold a8;split;exact .cons _ h;exact .cons_cons _ h
section
variable{y z:aB->aJ}[hy:pY y][hz:pY z]{k:Nat}{l:List aa}[hl:bn l]{k':Nat}{l':List aa}[atJ:bn l']
instance:dI (λ q=>a8 q.a k l++[]):=⟨λ ρ q=>by show ft ρ (a8 q.a k l++[])=_;rw[AM,Aa];rfl,λ q=>xG (nZ _)⟩
instance:dI (λ q=>a8 q.a k l++[(q.b,y q)]):=⟨λ ρ q=>by show ft ρ (a8 q.a k l++_)=_;rw[AM,Aa];show _++[(ρ q.b,(y q).aY ρ)]=_;rw[hy.nat];rfl,λ q=>xG (.cons_cons _ (nZ _))⟩
instance:dI (λ q=>a8 q.a k l++[(q.b,y q),(q.c,z q)]):=⟨λ ρ q=>by show ft ρ (a8 q.a k l++_)=_;rw[AM,Aa];show _++[(ρ q.b,(y q).aY ρ),(ρ q.c,(z q).aY ρ)]=_;rw[hy.nat,hz.nat];rfl,λ q=>xG (.cons_cons _ (.cons_cons _ (nZ _)))⟩
instance:dI (λ q=>a8 q.a k l++(a8 q.b k' l'++[])):=⟨λ ρ q=>by show ft ρ (a8 q.a k l++_)=_;rw[AM,Aa,AM,Aa];rfl,λ q=>xG (xG (nZ _))⟩
end
structure fh(m:Nat)(q:aB):Prop where
 nd:q.l.Nodup
 old:∀i∈q.l,∀j,m<=j->¬[j,0]<:+i
def zX:Id->Bool|[k+1]=>Nat.ble k 3|_=>false
def zW(w:Nat):Id->Bool|[]=>false|a::i=>match i with|[]=>false|b::c=>match c with|[]=>Nat.beq b 0&&Nat.blt a w|_::_=>zW w (b::c)
def rB:List Id->Bool|[]=>true|i::l=>(l.all λ j=>!mN i j)&&rB l
def kJ(w:Nat)(τ:aB):Bool:=rB τ.l&&τ.l.all λ i=>zX i||zW w i
def Hz{i:Id}(h:zX i=true):i=[1]\/i=[2]\/i=[3]\/i=[4]:=by
 unfold zX at h;split at h;.next k=>have:k<=3:=EU h;have:k=0\/k=1\/k=2\/k=3:=ac;rcases this with rfl|rfl|rfl|rfl;exact .inl rfl;exact .inr (.inl rfl);exact .inr (.inr (.inl rfl));exact .inr (.inr (.inr rfl))
 cases h
def ub{w:Nat}:∀{i:Id},zW w i=true->∃l a,a<w/\i=l++[a,0]|[a,b],h=>by have d:(Nat.beq b 0&&Nat.blt a w)=true:=h;rw[gj]at d;have h1:b=0:=Nat.eq_of_beq_eq_true d.1;subst h1;exact⟨[],a,EU d.2,rfl⟩|a::b::c::i,h=>by have⟨l,x,f,e⟩:=ub (i:=b::c::i) h;exact⟨a::l,x,f,by rw[e];rfl⟩
def vM:∀{l:List Id},rB l=true->l.Nodup|[],_=>gA|i::l,h=>by have a:((l.all λ j=>!mN i j)&&rB l)=true:=h;rw[gj]at a;refine h5.2 ⟨λ b=>?_,vM a.2⟩;have:=ek.1 a.1 i b;rw[sM.2 rfl]at this;cases this
def I3{m a j:Nat}{l:Id}(h:[j,0]<:+l++[m+a,0]):j=m+a:=by have⟨t,e⟩:=h;have:=(aa2 e rfl).2;simpa using this
def X3{k j:Nat}:¬[j,0]<:+[k]:=λ h=>by have:=h.length_le;simp at this
def aB.κ(q:aB):Nat->Id|1=>q.a|2=>q.b|3=>q.c|4=>q.d|k=>[k]
def aB.sT(q:aB)(m:Nat):aB.s.map (bT m [0] q.κ)=q:=rfl
def fh.start{m:Nat}{q:aB}(h:kJ m q=true):fh m q:=by unfold kJ at h;rw[gj]at h;refine⟨vM h.1,λ i c j e b=>?_⟩;have:=ek.1 h.2 i c;rw[yF]at this;rcases this with h1|h1;rcases Hz h1 with rfl|rfl|rfl|rfl<;>exact X3 b;obtain⟨l,a,d,rfl⟩:=ub h1;have:j=0+a:=I3 (m:=0) (by rwa[Nat.zero_add]);omega
def fh.next{m w:Nat}{q τ:aB}(g:fh m q)(h:kJ w τ=true):fh (m+w) (τ.map (bT m [0] q.κ)):=by
 unfold kJ at h;rw[gj]at h;have t:(τ.map (bT m [0] q.κ)).l=τ.l.map (bT m [0] q.κ):=rfl;have B:=g.nd;simp only[aB.l,h5,cp,ct,or_false,not_or]at B;have c:∀i,zX i=true->bT m [0] q.κ i∈q.l:=λ i d=>by rcases Hz d with rfl|rfl|rfl|rfl<;>simp[bT,aB.κ,aB.l]
 have A:∀i j,zX i=true->zX j=true->bT m [0] q.κ i=bT m [0] q.κ j->i=j:=λ i j d n e=>by rcases Hz d with rfl|rfl|rfl|rfl<;>rcases Hz n with rfl|rfl|rfl|rfl<;>simp only[bT,aB.κ]at e<;>first|rfl|(exfalso;grind)
 have r:∀i∈τ.l,∀j∈τ.l,bT m [0] q.κ i=bT m [0] q.κ j->i=j:=λ i d j n e=>by have h1:=ek.1 h.2 i d;have f:=ek.1 h.2 j n;rw[yF]at h1 f;rcases h1 with h1|h1<;>rcases f with f|f;exact A i j h1 f e;obtain⟨l,a,k,rfl⟩:=ub f;rw[jb]at e;exact(g.old _ (c i h1) (m+a) (pH _ _) (e▸aa3 _ _)).elim;obtain⟨l,a,k,rfl⟩:=ub h1;rw[jb]at e;exact(g.old _ (c j f) (m+a) (pH _ _) (e▸aa3 _ _)).elim;obtain⟨l,a,k,rfl⟩:=ub h1;obtain⟨l',a',z,rfl⟩:=ub f;rw[jb,jb]at e;have⟨y,v⟩:=aa2 e rfl;simp only[List.cons.injEq,and_true]at v;rw[y,show a=a' from ac]
 refine⟨?_,λ i d j n p=>?_⟩;rw[t];have s:=vM h.1;unfold List.Nodup at s⊢;rw[List.pairwise_map];refine List.Pairwise.imp_of_mem ?_ s;exact λ{a b}k hb o e=>o (r a k b hb e);rw[t]at d;obtain⟨x,u,rfl⟩:=bd.1 d;have h1:=ek.1 h.2 x u;rw[yF]at h1;rcases h1 with h1|h1;exact g.old _ (c x h1) j ac p;obtain⟨l,a,k,rfl⟩:=ub h1;rw[jb]at p;have:=I3 p;omega
section
variable{P:Program}{G:Nat->Option (List aa)}
def bb(P:Program)(G:Nat->Option (List aa))(c:cD)(n w:Nat)(e:cn)(A:aB->List (Nat×aa))(bC:aB->List (Id×aJ))(B:aB->List (Nat×aa))(bO:aB->List (Id×aJ)):Prop:=∀(q:aB)(m:Nat),fh m q->bA P G [0] c (λ a s'=>a=e/\∃q',fh (m+w) q'/\bN G [0] s' ⟨fr n (B q'),bB (bO q'),m+w⟩) ⟨fr n (A q),bB (bC q),m⟩
def dI.nd{K:aB->List (Id×aJ)}[h:dI K]{m:Nat}{q:aB}(g:fh m q):((K q).map (·.1)).Nodup:=g.nd.sublist (h.sub q)
def a9{c:cD}{n w:Nat}{e:cn}{A B:aB->List (Nat×aa)}{bC bO:aB->List (Id×aJ)}[gq A][gq B][dI bC][dI bO](τ:aB)(a:List (aV P G))(h:hE (bO τ) (fr n (B τ)) w (bY true 1000 c [0] a ⟨fr n (A aB.s),b8 (bC aB.s),0⟩)=hh e (bO τ) (fr n (B τ)) (bY true 1000 c [0] a ⟨fr n (A aB.s),b8 (bC aB.s),0⟩):=by kernel_rfl)(b:kJ w τ=true:=by kernel_rfl):bb P G c n w e A bC B bO:=λ q m g=>by refine uL q.κ a (fr n (A aB.s)) (bC aB.s) e (fr n (B τ)) (bO τ) w h (by rw[o7,gq.nat,aB.sT]) (by rw[dI.nat,aB.sT]) rfl rfl (dI.nd g) λ s hw=>⟨rfl,τ.map (bT m [0] q.κ),g.next b,?_⟩;rw[o7,gq.nat,dI.nat]at hw;exact hw
def bb.hZ{c:cD}{n w:Nat}{e:cn}{A B b:aB->List (Nat×aa)}{bC bO a:aB->List (Id×aJ)}(h:bb P G c n w e A bC B bO)(k:∀q m,fh m q->bN G [0] ⟨fr n (B q),bB (bO q),m⟩ ⟨fr n (b q),bB (a q),m⟩):bb P G c n w e A bC b a:=λ q m g=>(h q m g).mono λ i s'⟨h1,q',d,f⟩=>⟨h1,q',d,f.trans (k q' _ d)⟩
def bN.fin{n m E:Nat}{T:aB->List (Nat×aa)}{K:aB->List (Id×aJ)}[gq T][dI K]{q:aB}(g:fh m q)(J:m<=E):bN G [0] ⟨fr n (T q),bB (K q),m⟩ ⟨fr n (T (aB.fin E)),bB (K (aB.fin E)),E+4⟩:=by
 have f:∀{q q':aB}{m E:Nat}(i:Id),m<=E->q.l.Nodup->q.map (mv i [E,0])=q'->bN G [0] ⟨fr n (T q),bB (K q),m⟩ ⟨fr n (T q'),bB (K q'),E+1⟩:=λ{q q' m E}i M A e=>by have:=bN.VN (G:=G) (π:=[0]) (q:=i) (t:=fr n (T q)) (K:=K q) M (A.sublist (dI.sub q));rw[o7,gq.nat,dI.nat,e]at this;exact this
 have A:=g.nd;have v:=g.old;simp only[aB.l,h5,cp,ct,or_false,not_or]at A;simp only[aB.l,cp,ct,or_false,forall_eq_or_imp,forall_eq]at v;have⟨U,O,pq,D⟩:=v;have r:∀{i:Id}{j:Nat},(∀j,m<=j->¬[j,0]<:+i)->m<=j->[j,0]≠i:=λ h Q e=>h _ Q (e▸wM _);have⟨⟨B,H,C⟩,⟨x,s⟩,p,_⟩:=A;have⟨a,b,c,d⟩:=q;simp only at*;have L:=f (q:=⟨a,b,c,d⟩) (q':=⟨[E,0],b,c,d⟩) (m:=m) (E:=E) a J g.nd (by simp only[aB.map,Af,oH (dS B),oH (dS H),oH (dS C)]);have w:=r O (ac:m<=E);have o:=r pq (ac:m<=E);have k:=r D (ac:m<=E);have z:=r pq (ac:m<=E+1);have rj:=r D (ac:m<=E+1);have u:=r D (ac:m<=E+2);have y:([E,0]:Id)≠[E+1,0]:=am;have F:([E,0]:Id)≠[E+2,0]:=am;have I:([E+1,0]:Id)≠[E+2,0]:=am;have N:=f (q:=⟨[E,0],b,c,d⟩) (q':=⟨[E,0],[E+1,0],c,d⟩) (m:=E+1) (E:=E+1) b (a2 _) (by simp only[aB.l,h5,cp,ct,or_false,not_or];exact⟨⟨w,o,k⟩,⟨x,s⟩,p,not_false,gA⟩) (by simp only[aB.map,Af,oH w,oH (dS x),oH (dS s)]);have R:=f (q:=⟨[E,0],[E+1,0],c,d⟩) (q':=⟨[E,0],[E+1,0],[E+2,0],d⟩) (m:=E+2) (E:=E+2) c (a2 _) (by simp only[aB.l,h5,cp,ct,or_false,not_or];exact⟨⟨y,o,k⟩,⟨z,rj⟩,p,not_false,gA⟩) (by simp only[aB.map,Af,oH o,oH z,oH (dS p)]);have S:=f (q:=⟨[E,0],[E+1,0],[E+2,0],d⟩) (q':=aB.fin E) (m:=E+3) (E:=E+3) d (a2 _) (by simp only[aB.l,h5,cp,ct,or_false,not_or];exact⟨⟨y,F,k⟩,⟨I,rj⟩,u,not_false,gA⟩) (by simp only[aB.map,Af,oH k,oH rj,oH u];rfl);exact((L.trans N).trans R).trans S
def Da{c:cD}{n N w n0 E:Nat}{e:cn}{d:aB}{T:Nat->aB->List (Nat×aa)}{K:Nat->aB->List (Id×aJ)}{dx:aB->List (Nat×aa)}{cC:aB->List (Id×aJ)}[gq dx][dI cC](u:fh n0 d)(B:∀i,i<N->bb P G c n w .normal (T i) (K i) (T (i+1)) (K (i+1)))(x:bb P G c n w e (T N) (K N) dx cC)(o:e≠.normal)(A:n0+w*N+w<=E):bA P G [0] (.loop c) (λ k s'=>k=e/\bN G [0] s' ⟨fr n (dx (aB.fin E)),nW (b8 (cC (aB.fin E))),E+4⟩) ⟨fr n (T 0 d),bB (K 0 d),n0⟩:=by
 refine bA.z7 (α:=Nat×aB) (λ z=>⟨fr n (T z.1 z.2),bB (K z.1 z.2),n0+w*z.1⟩) (λ z=>z.1<=N/\fh (n0+w*z.1) z.2) (λ z=>N-z.1) (0,d) (by rw[j5];exact bN.refl _ _ _) ⟨dF _,by rw[j5];exact u⟩ ?_;rintro⟨i,q⟩⟨v,p⟩;simp only[]at v p⊢;by_cases a:i<N;refine(B i a q _ p).mono λ k s' r=>?_;obtain⟨rfl,q',h,b⟩:=r;have e:n0+w*i+w=n0+w*(i+1):=by rw[ej,nX];omega
 rw[e]at h b;exact⟨(i+1,q'),⟨a,h⟩,by simp only[];omega,b⟩;obtain rfl:i=N:=ac;refine(x q _ p).mono λ k s' r=>?_;obtain⟨rfl,q',h,b⟩:=r;have m:(aB.fin E).l.Nodup:=by simp[aB.fin,aB.l]
 have s:=bN.toT (m.sublist (dI.sub (f:=cC) _)) (b.trans (bN.fin h A));cases k with|normal=>exact(o rfl).elim|exit j=>exact⟨rfl,s⟩|ret=>exact⟨rfl,s⟩
noncomputable def dz(aG:ee)(k l s N:Nat)(a:aB)(T:Nat->aB->List (Nat×aa))(K:Nat->aB->List (Id×aJ))(e:cn)(dx:aB->List (Nat×aa))(cC:aB->List (Id×aJ))[gq dx][dI cC](d:∀i,i<N->bb P G (aT aG k) aG.aH (bj l) .normal (T i) (K i) (T (i+1)) (K (i+1)))(g:bb P G (aT aG k) aG.aH (bj l) e (T N) (K N) dx cC)(f:kJ (lb l s) a=true:=by kernel_rfl)(c:N<=9000:=by omega)(b:e≠.normal:=by simp):aV P G:=.iQ [0] (aT aG k) (fr aG.aH (T 0 a)) (K 0 a) (lb l s) e (fr aG.aH (dx (aB.fin (le l s)))) (b8 (cC (aB.fin (le l s)))) (le l s+4) (Da (fh.start f) d g b (Dd c))
def kc{c:cD}{n w k bytes key so N:Nat}{hb:0<bytes}{A B:aB->List (Nat×aa)}{bC bO:aB->List (Id×aJ)}{l:List aa}{x:aa}[i:cT k x][gq A][gq B][dI (λ q=>a8 q.a k l++bC q)][dI (λ q=>a8 q.a k (l++[x])++bO q)](d:l≠[])(b:pZ k bytes N l)(q:Nat)(τ:aB)(e:List (aV P G)->List (aV P G))(h1:hE ([(τ.a,⟨l++[x],k,false⟩)]++bO τ) (fr n ((so,.ah τ.a k 0 (l.length+1) false)::B τ)) w (bY true 1000 c [0] (e [sE key k bytes q l x b.len hb b.one]) ⟨fr n ((so,.ah [1] k 0 l.length false)::A aB.s),b8 ([([1],⟨l,k,false⟩)]++bC aB.s),0⟩)=hh .normal ([(τ.a,⟨l++[x],k,false⟩)]++bO τ) (fr n ((so,.ah τ.a k 0 (l.length+1) false)::B τ)) (bY true 1000 c [0] (e [sE key k bytes q l x b.len hb b.one]) ⟨fr n ((so,.ah [1] k 0 l.length false)::A aB.s),b8 ([([1],⟨l,k,false⟩)]++bC aB.s),0⟩):=by kernel_rfl)(h:kJ w τ=true:=by kernel_rfl):bb P G c n w .normal (λ q=>(so,bt q.a k l)::A q) (λ q=>a8 q.a k l++bC q) (λ q=>(so,bt q.a k (l++[x]))::B q) (λ q=>a8 q.a k (l++[x])++bO q):=by
 have g:∀p,bt p k (l++[x])=.ah p k 0 (l.length+1) false:=λ p=>by rw[dP am,cy];rfl
 have f:∀p,a8 p k (l++[x])=[(p,⟨l++[x],k,false⟩)]:=λ p=>dK am;refine a9 τ (e [sE key k bytes q l x b.len hb b.one]) ?_ h;simp only[g,f,dP d,dK d];exact h1
def Rh{c:cD}{n w k so:Nat}{A B:aB->List (Nat×aa)}{bC bO:aB->List (Id×aJ)}{x:aa}[h:cT k x][gq A][gq B][dI (λ q=>a8 q.a k []++bC q)][dI (λ q=>a8 q.a k [x]++bO q)](τ:aB)(b:List (aV P G))(g:hE ([(τ.a,⟨[x],k,false⟩)]++bO τ) (fr n ((so,.ah τ.a k 0 1 false)::B τ)) w (bY true 1000 c [0] b ⟨fr n ((so,.ar)::A aB.s),b8 (bC aB.s),0⟩)=hh .normal ([(τ.a,⟨[x],k,false⟩)]++bO τ) (fr n ((so,.ah τ.a k 0 1 false)::B τ)) (bY true 1000 c [0] b ⟨fr n ((so,.ar)::A aB.s),b8 (bC aB.s),0⟩):=by kernel_rfl)(e:kJ w τ=true:=by kernel_rfl):bb P G c n w .normal (λ q=>(so,bt q.a k [])::A q) (λ q=>a8 q.a k []++bC q) (λ q=>(so,bt q.a k [x])::B q) (λ q=>a8 q.a k [x]++bO q):=by have d:∀p,bt p k [x]=.ah p k 0 1 false:=λ p=>dP am;have f:∀p,a8 p k [x]=[(p,⟨[x],k,false⟩)]:=λ p=>dK am;refine a9 τ b ?_ e;simp only[d,f];exact g
def qW{c:cD}{n w k bytes key so N:Nat}{hb:0<bytes}{A B:aB->List (Nat×aa)}{bC bO:aB->List (Id×aJ)}{l:List aa}{x:aa}[i:cT k x][bn l][gq A][gq B][h1:dI (λ q=>a8 q.a k l++bC q)][g:dI (λ q=>a8 q.a k (l++[x])++bO q)](d:pZ k bytes N l)(q:Nat)(τ:aB)(b:List (aV P G)->List (aV P G))(eU:l=[]->hE ([(τ.a,⟨[x],k,false⟩)]++bO τ) (fr n ((so,.ah τ.a k 0 1 false)::B τ)) w (bY true 1000 c [0] (b []) ⟨fr n ((so,.ar)::A aB.s),b8 (bC aB.s),0⟩)=hh .normal ([(τ.a,⟨[x],k,false⟩)]++bO τ) (fr n ((so,.ah τ.a k 0 1 false)::B τ)) (bY true 1000 c [0] (b []) ⟨fr n ((so,.ar)::A aB.s),b8 (bC aB.s),0⟩):=by intros;kernel_rfl)(h:l≠[]->hE ([(τ.a,⟨l++[x],k,false⟩)]++bO τ) (fr n ((so,.ah τ.a k 0 (l.length+1) false)::B τ)) w (bY true 1000 c [0] (b [sE key k bytes q l x d.len hb d.one]) ⟨fr n ((so,.ah [1] k 0 l.length false)::A aB.s),b8 ([([1],⟨l,k,false⟩)]++bC aB.s),0⟩)=hh .normal ([(τ.a,⟨l++[x],k,false⟩)]++bO τ) (fr n ((so,.ah τ.a k 0 (l.length+1) false)::B τ)) (bY true 1000 c [0] (b [sE key k bytes q l x d.len hb d.one]) ⟨fr n ((so,.ah [1] k 0 l.length false)::A aB.s),b8 ([([1],⟨l,k,false⟩)]++bC aB.s),0⟩):=by intros;kernel_rfl)(f:kJ w τ=true:=by kernel_rfl):bb P G c n w .normal (λ q=>(so,bt q.a k l)::A q) (λ q=>a8 q.a k l++bC q) (λ q=>(so,bt q.a k (l++[x]))::B q) (λ q=>a8 q.a k (l++[x])++bO q):=by by_cases e:l=[];subst e;haveI:dI (λ q=>a8 q.a k [x]++bO q):=g;exact Rh τ (b []) (eU rfl) f;exact kc e d q τ b (h e) f
def j1{c:cD}{n w k so:Nat}{e:cn}{A B:aB->List (Nat×aa)}{bC bO:aB->List (Id×aJ)}{l:List aa}[gq A][gq B][dI (λ q=>a8 q.a k l++bC q)][dI (λ q=>a8 q.a k l++bO q)](τ:aB)(b:List (aV P G))(g:l=[]->hE (bO τ) (fr n ((so,.ar)::B τ)) w (bY true 1000 c [0] b ⟨fr n ((so,.ar)::A aB.s),b8 (bC aB.s),0⟩)=hh e (bO τ) (fr n ((so,.ar)::B τ)) (bY true 1000 c [0] b ⟨fr n ((so,.ar)::A aB.s),b8 (bC aB.s),0⟩):=by intros;kernel_rfl)(h1:l≠[]->hE ([(τ.a,⟨l,k,false⟩)]++bO τ) (fr n ((so,.ah τ.a k 0 l.length false)::B τ)) w (bY true 1000 c [0] b ⟨fr n ((so,.ah [1] k 0 l.length false)::A aB.s),b8 ([([1],⟨l,k,false⟩)]++bC aB.s),0⟩)=hh e ([(τ.a,⟨l,k,false⟩)]++bO τ) (fr n ((so,.ah τ.a k 0 l.length false)::B τ)) (bY true 1000 c [0] b ⟨fr n ((so,.ah [1] k 0 l.length false)::A aB.s),b8 ([([1],⟨l,k,false⟩)]++bC aB.s),0⟩):=by intros;kernel_rfl)(d:kJ w τ=true:=by kernel_rfl):bb P G c n w e (λ q=>(so,bt q.a k l)::A q) (λ q=>a8 q.a k l++bC q) (λ q=>(so,bt q.a k l)::B q) (λ q=>a8 q.a k l++bO q):=by
 by_cases h:l=[];refine a9 τ b ?_ d;have f1:∀p,bt p k l=.ar:=λ p=>by rw[h];rfl
 have f:∀p,a8 p k l=[]:=λ p=>by rw[h];rfl
 simp only[f1,f];exact g h;refine a9 τ b ?_ d;simp only[dP h,dK h];exact h1 h
def ard{F:List (Id×aJ)}{q:Id}{k n:Nat}{t:Bool}{l:List aa}(h:bB F q=some ⟨l,k,false⟩)(b:n<=l.length)(a:∀e∈l,cT k e):gD F (.ah q k 0 n t) (.sl k (l.take n)):=by refine qM (View.ah (av:=⟨l,k,false⟩) h rfl (by simpa using b) ?_ (by simp;omega) λ d hd=>(a d (gZ hd)).size);rw[nY];exact jJ λ c hc=>by have⟨e,f,hc⟩:=g3.1 hc;exact(a e (gZ f)).cells c hc
def wh{F:List (Id×aJ)}{q:Id}{k:Nat}{t:Bool}{l:List aa}(h:bB F q=some ⟨l,k,false⟩)(a:∀e∈l,cT k e):gD F (.ah q k 0 l.length t) (.sl k l):=by have:=ard (t:=t) h (a2 _) a;rwa[jI (a2 _)]at this
def bN.CB{n m:Nat}{B:List (Nat×aa)}{K:List (Id×aJ)}{a:List (Nat×aa)}(hd:(K.map (·.1)).Nodup)(h:e6 K (fr n B) (fr n a)):bN G [0] ⟨fr n B,bB K,m⟩ ⟨fr n a,bB [],m⟩:=bN.nw K (λ y b=>xN hd b) h (λ _=>.inl rfl) (a2 _)
def e6.app{F:List (Id×aJ)}:∀{a b c d:List aa},e6 F a b->e6 F c d->e6 F (a++c) (b++d)|[],[],_,_,_,h=>h|_::_,_::_,_,_,h,k=>⟨h.1,e6.app h.2 k⟩|[],_::_,_,_,h,_=>h.elim|_::_,[],_,_,h,_=>h.elim
def y0.same{F:List (Id×aJ)}{i:Id}{av:aJ}(a:∀x∈F,x.1≠i)(b:∀e∈av.els,e.size=av.k):y0 F i av av:=⟨rfl,.inl rfl,λ _=>a,rfl,b,ji _ _⟩
def bN.GR{n m so ln c lC:Nat}{t:Bool}{F:List (Nat×aa)}{q:aB}{L row:List aa}(g:fh m q)(u:∀e∈L,e.size=1)(r:∀e∈row,cT c e)(k:lC=row.length):bN G [0] ⟨fr n ((so,.ah q.a 1 0 ln false)::F),bB [(q.a,⟨L++[.ah q.b c 0 lC t],1,false⟩),(q.b,⟨row,c,false⟩)],m⟩ ⟨fr n ((so,.ah q.a 1 0 ln false)::F),bB [(q.a,⟨L++[.sl c row],1,false⟩)],m⟩:=by
 subst k;have d:q.a≠q.b:=λ e=>by have:=g.nd;simp[aB.l]at this;exact this.1.1 e
 have f:(q.b==q.a)=false:=by simpa using dS d
 have v:∀e∈L++[aa.sl c row],e.size=1:=λ e s=>by rcases List.mem_append.1 s with h|h;exact u e h;rw[bU.1 h];rfl
 refine bN.nw [(q.b,⟨row,c,false⟩)] (λ y p=>?_) (ji _ _) (λ i=>?_) (a2 _);rw[bU.1 p];show dC _ _=_;rw[jh,f];simp[dC];by_cases j:i=q.a;subst j;refine .inr ⟨⟨L++[.ah q.b c 0 row.length t],1,false⟩,⟨L++[.sl c row],1,false⟩,by simp[bB,dC],by simp[bB,dC],rfl,.inl rfl,λ _ x o=>by rw[bU.1 o];exact dS d,am,v,?_⟩;show e6 _ (flat (L++[_])) (flat (L++[_]));rw[show∀y,flat (L++[y])=flat L++y.cells from λ y=>by simp[flat]];rw[show∀y,flat (L++[y])=flat L++y.cells from λ y=>by simp[flat]];exact e6.app (ji _ _) ⟨wh (by simp[bB,dC]) r,trivial⟩;refine .inl ?_;have:(i==q.a)=false:=by simpa using j
 show dC _ _=_;rw[jh,this];rfl
def bb.re{c:cD}{n w so k:Nat}{e:cn}{A:aB->List (Nat×aa)}{bC:aB->List (Id×aJ)}{B:List (Nat×aa)}{l:List aa}(h:bb P G c n w e A bC (λ q=>(so,bt q.a k l)::B) (λ q=>a8 q.a k l++[]))(b:∀e∈l,cT k e):bb P G c n w e A bC (λ _=>(so,.sl k l)::B) (λ _=>[]):=h.hZ λ q m g=>by rw[List.append_nil];exact bN.CB (VM _ _ _) (pE B (lO so (ji _ _) (PD b)))
def bb.afU{c:cD}{n w so k ln:Nat}{e:cn}{t:Bool}{A:aB->List (Nat×aa)}{bC:aB->List (Id×aJ)}{B:List (Nat×aa)}{l:List aa}(h:bb P G c n w e A bC (λ q=>(so,.ah q.a k 0 ln t)::B) (λ q=>[(q.a,⟨l,k,false⟩)]))(d:ln=l.length)(b:∀e∈l,cT k e):bb P G c n w e A bC (λ _=>(so,.sl k l)::B) (λ _=>[]):=h.hZ λ q m g=>by subst d;exact bN.CB am (pE B (lO so (ji _ _) (wh (by simp[bB,dC]) b)))
structure eJ where
 f:Nat->Rat
 c:∀e:Rat,0<e->∃N,∀m n,N<=m->N<=n->f m-f n<e
end
end Go.aA
namespace Go.aA.eJ
def adt(f:Nat->Rat)(N:Nat):∃B:Rat,0<B/\∀n,n<N->-B<f n/\f n<B:=by induction N with|zero=>exact⟨1,al,λ n h=>ac⟩|succ N a=>have⟨B,g,h⟩:=a;by_cases d:0<=f N;refine⟨B+f N+1,ap,λ n b=>?_⟩;by_cases e:n=N;subst e;grind;have:=h n;grind;refine⟨B-f N+1,ap,λ n b=>?_⟩;by_cases e:n=N;subst e;grind;have:=h n;grind
def Cb(a:eJ):∃B:Rat,0<B/\∀n,-B<a.f n/\a.f n<B:=by have⟨N,b⟩:=a.c 1 al;have⟨B,e,h⟩:=adt a.f (N+1);refine⟨B+1,ap,λ n=>?_⟩;by_cases d:n<N+1;have:=h n d;grind;have h1:=b n N ac (a2 _);have g:=b N n (a2 _);have:=h N;grind
def um{x d B e:Rat}(h1:-B<x)(h:x<B)(g:-e<d)(b:d<e):x*d<B*e:=by have i:0<(B-x)*(e+d):=fM ap ap;have a:0<(B+x)*(e-d):=fM ap ap;grind
def fF(a b:eJ):Prop:=∀e:Rat,0<e->∃N,∀n,N<=n->a.f n-b.f n<e/\b.f n-a.f n<e
def SU{a b:eJ}(h:∀n,a.f n=b.f n):fF a b:=λ e d=>⟨0,λ n _=>by rw[h n];grind⟩
instance:Setoid eJ:=⟨fF,λ a=>SU λ _=>rfl,λ h e g=>by have⟨N,b⟩:=h e g;exact⟨N,λ n d=>⟨(b n d).2,(b n d).1⟩⟩,λ h k e g=>by obtain⟨N,b⟩:=h (e/2) ap;have⟨M,i⟩:=k (e/2) ap;refine⟨N+M,λ n d=>?_⟩;have h1:=b n ac;have j:=i n ac;grind⟩
def add(a b:eJ):eJ:=⟨λ n=>a.f n+b.f n,λ e i=>by have⟨N,d⟩:=a.c (e/2) ap;obtain⟨M,g⟩:=b.c (e/2) ap;refine⟨N+M,λ m n h k=>?_⟩;have h1:=d m n ac ac;have j:=g m n ac ac;grind⟩
def neg(a:eJ):eJ:=⟨λ n=>-a.f n,λ e d=>by have⟨N,b⟩:=a.c e d;refine⟨N,λ m n h g=>?_⟩;have h1:=b n m;grind⟩
def const(q:Rat):eJ:=⟨λ _=>q,λ e a=>⟨0,λ m n _ _=>ap⟩⟩
def mul(a b:eJ):eJ:=⟨λ n=>a.f n*b.f n,λ e k=>by
 have⟨A,p,g⟩:=a.Cb;obtain⟨B,q,h⟩:=b.Cb;have hd:0<e/(A+B):=by rw[yE];exact fM k (Rat.inv_pos.2 ap)
 have⟨N,j⟩:=a.c (e/(A+B)) hd;obtain⟨M,i⟩:=b.c (e/(A+B)) hd;refine⟨N+M,λ m n r v=>?_⟩;have h1:=j m n ac ac;have o:=i m n ac ac;have mI:=j n m ac ac;have l:=i n m ac ac;have s:=um (g m).1 (g m).2 (d:=b.f m-b.f n) (e:=e/(A+B)) ap o;have u:=um (h n).1 (h n).2 (d:=a.f m-a.f n) (e:=e/(A+B)) ap h1;have t:A*(e/(A+B))+B*(e/(A+B))=e:=ap;grind⟩
def acw{a a' b d:eJ}(h:a ≈ a')(k:b ≈ d):add a b ≈ add a' d:=λ e j=>by have⟨N,g⟩:=h (e/2) ap;have⟨M,i⟩:=k (e/2) ap;refine⟨N+M,λ n l=>?_⟩;have h1:=g n;have m:=i n;simp only[add];grind
def ala{a a':eJ}(h:a ≈ a'):neg a ≈ neg a':=λ e d=>by have⟨N,b⟩:=h e d;refine⟨N,λ n g=>?_⟩;have h1:=b n g;simp only[neg];grind
def akv{a a' b g:eJ}(h:a ≈ a')(k:b ≈ g):mul a b ≈ mul a' g:=λ e q=>by
 have⟨A,r,j⟩:=a.Cb;have⟨B,o,i⟩:=g.Cb;have hd:0<e/(A+B):=by rw[yE];exact fM q (Rat.inv_pos.2 ap)
 have⟨N,m⟩:=h (e/(A+B)) hd;have⟨M,p⟩:=k (e/(A+B)) hd;refine⟨N+M,λ n s=>?_⟩;have h1:=m n ac;have l:=p n ac;have w:=um (j n).1 (j n).2 (d:=b.f n-g.f n) (e:=e/(A+B)) ap l.1;have v:=um (i n).1 (i n).2 (d:=a.f n-a'.f n) (e:=e/(A+B)) ap h1.1;have t:=um (j n).1 (j n).2 (d:=g.f n-b.f n) (e:=e/(A+B)) ap l.2;have u:=um (i n).1 (i n).2 (d:=a'.f n-a.f n) (e:=e/(A+B)) ap h1.2;have x:A*(e/(A+B))+B*(e/(A+B))=e:=ap;simp only[mul];grind
end Go.aA.eJ
namespace Go.aA
def az:Type:=Quotient (inferInstance:Setoid eJ)
end Go.aA
namespace Go.aA.az
def mk(a:eJ):az:=Quotient.mk _ a
def sound{a b:eJ}(h:a ≈ b):mk a=mk b:=Quotient.sound h
def ex(x:az):∃a,x=mk a:=by induction x using Quotient.ind with|_ a=>exact⟨a,rfl⟩
instance:Add az:=⟨aa4 (λ a b=>mk (a.add b)) λ _ _ _ _ h k=>sound (eJ.acw h k)⟩
instance:Mul az:=⟨aa4 (λ a b=>mk (a.mul b)) λ _ _ _ _ h k=>sound (eJ.akv h k)⟩
instance:Neg az:=⟨Quotient.lift (λ a=>mk a.neg) λ _ _ h=>sound (eJ.ala h)⟩
instance:Sub az:=⟨λ a b=>a+-b⟩
def ofRat(q:Rat):az:=mk (eJ.const q)
instance:NatCast az:=⟨λ n=>ofRat n⟩
instance:IntCast az:=⟨λ n=>ofRat n⟩
instance(n:Nat):OfNat az n:=⟨ofRat n⟩
def same{a b:eJ}(h:∀n,a.f n=b.f n):mk a=mk b:=sound (eJ.SU h)
def NL(n:Nat):(OfNat.ofNat n:az)=ofRat n:=rfl
def npow(a:az):Nat->az|0=>1|n+1=>npow a n*a
instance:HPow az Nat az:=⟨npow⟩
instance:SMul Nat az:=⟨λ n a=>(n:az)*a⟩
instance:SMul Int az:=⟨λ n a=>(n:az)*a⟩
def ofRat_add(p q:Rat):ofRat p+ofRat q=ofRat (p+q):=same λ _=>rfl
def ofRat_mul(p q:Rat):ofRat p*ofRat q=ofRat (p*q):=same λ _=>rfl
def ofRat_neg(p:Rat):-ofRat p=ofRat (-p):=same λ _=>rfl
def uh(a b:az):a*b=b*a:=by obtain⟨a,rfl⟩:=ex a;obtain⟨b,rfl⟩:=ex b;exact same λ n=>Rat.mul_comm _ _
def akc(a b c:az):a*b*c=a*(b*c):=by obtain⟨a,rfl⟩:=ex a;obtain⟨b,rfl⟩:=ex b;obtain⟨c,rfl⟩:=ex c;exact same λ n=>Rat.mul_assoc _ _ _
def M8(a:az):a*1=a:=by obtain⟨a,rfl⟩:=ex a;exact same λ n=>Rat.mul_one _
def M9(a:az):a*0=0:=by obtain⟨a,rfl⟩:=ex a;exact same λ n=>Rat.mul_zero _
def U1(a b c:az):a*(b+c)=a*b+a*c:=by obtain⟨a,rfl⟩:=ex a;obtain⟨b,rfl⟩:=ex b;obtain⟨c,rfl⟩:=ex c;exact same λ n=>Rat.mul_add _ _ _
def acu(a b:az):a+b=b+a:=by obtain⟨a,rfl⟩:=ex a;obtain⟨b,rfl⟩:=ex b;exact same λ n=>Rat.add_comm _ _
def acs(a b c:az):a+b+c=a+(b+c):=by obtain⟨a,rfl⟩:=ex a;obtain⟨b,rfl⟩:=ex b;obtain⟨c,rfl⟩:=ex c;exact same λ n=>Rat.add_assoc _ _ _
def acv(a:az):a+0=a:=by obtain⟨a,rfl⟩:=ex a;exact same λ n=>Rat.add_zero _
def ak6(a:az):-a+a=0:=by obtain⟨a,rfl⟩:=ex a;exact same λ n=>by show-a.f n+a.f n=0;grind
def intCast_neg(i:Int):((-i:Int):az)=-(i:az):=by show ofRat _=-ofRat _;rw[ofRat_neg,Rat.intCast_neg]
instance ring:Lean.Grind.CommRing az where
 nsmul:=inferInstance;npow:=inferInstance;zsmul:=inferInstance;add_zero:=acv;add_comm:=acu;add_assoc:=acs;mul_assoc:=akc;mul_one:=M8;one_mul a:=by rw[uh,M8]
 left_distrib:=U1;right_distrib a b c:=by rw[uh,U1,uh c,uh c]
 zero_mul a:=by rw[uh,M9]
 mul_zero:=M9;pow_zero _:=rfl;pow_succ _ _:=rfl;ofNat_succ n:=by rw[NL,NL,NL,ofRat_add];congr 1;exact Rat.natCast_add _ _
 ofNat_eq_natCast _:=rfl;nsmul_eq_natCast_mul _ _:=rfl;neg_add_cancel:=ak6;sub_eq_add_neg _ _:=rfl;neg_zsmul i a:=by show((-i:Int):az)*a=-((i:az)*a);rw[intCast_neg];obtain⟨a,rfl⟩:=ex a;exact same λ n=>by show-(i:Rat)*a.f n=-((i:Rat)*a.f n);grind
 zsmul_natCast_eq_nsmul n a:=by show((n:Int):az)*a=(n:az)*a;congr 1
 intCast_ofNat n:=rfl;intCast_neg:=intCast_neg;mul_comm:=uh
end Go.aA.az
