/- For the claim of VerifierKernel: parts FD, CI21, CI23, KD, KE, VL31, CR1, CR5, CR6, CR7, CR9, CR10, RQ, CN1, CQ1, CN2, CQ2, CQ7, PUN, CQC, QVL, VL41, WK2, ZKS, LP1, LP2, LP3, RE1. -/
import Derived.Test.YtpcofcmencgkbaaGreatC03
import Derived.Lib.ItoaNum
import Derived.Lib.IndexMore
import Derived.Sort.KeysCollected
import Derived.Sort.Walk0
import Derived.Lib.SlicesCompact
import Derived.KernelRfl
set_option linter.defProp false
set_option linter.unusedSectionVars false
set_option linter.unusedSimpArgs false
set_option linter.unusedVariables false
set_option maxRecDepth 100000
open Bool renaming and_eq_true->gU,or_eq_true->xX
open Classical renaming choose->qS,choose_spec->nR
open Go.IntKind renaming i64->cO,u64->cY,wrap_i64->cU,wrap_u64->h5
open Go.Proofs.Tryz renaming prog->ab
open Go.ay renaming hb->cW
open Go.ay.cb renaming bool->AB
open Go.ay.aL renaming app->lS,of->bU
open Go.ay.eP renaming to->m8
open Go.ay.bo renaming kV->tK
open Go.ay.View renaming pure->fk
open Go.ay.dc renaming cons->bZ,pure->my
open Go.ay.gZ renaming view->vp
open Go.ay.fm renaming same->lM
open Int renaming fdiv_eq_ediv_of_nonneg->xR,le_of_lt->O6,lt_or_le->Pb,mul_ediv_cancel_left->Jl,mul_fdiv_add_fmod->Zt,mul_fdiv_cancel_left->Jm,mul_ne_zero->ZA,mul_neg->Ji,mul_nonneg->Pc,mul_one->Jo,natAbs_add_le->O9,natAbs_ediv_le_natAbs->ZE,natAbs_mul->m7,natAbs_natCast->gB,natAbs_neg->ZB,natCast_add->Zu,natCast_ediv->Jj,natCast_mul->oF,natCast_nonneg->vn,neg_mul_neg->Zy,ofNat_dvd->D5,ofNat_dvd_left->xV,sign_eq_neg_one_of_neg->Jk,sign_eq_one_of_pos->qR,sign_mul->Jn
open List renaming all_eq_true->dY,append_inj'->ZF,drop_zero->sn,filter_append->lL,getLast?_eq_getElem?->Zx,length_append->cP,length_eq_one_iff->ZD,lookup->hJ,lookup_cons->mr,map_append->gI,map_cons->lP,mem_cons->ct,mem_flatMap->kD,mem_map->bp,mem_of_mem_take->gK,mem_singleton->cq,nil_sublist->na,nodup_cons->hZ,nodup_nil->gW,not_mem_nil->cS,range->a8,range_succ->ix,replicate->bM,suffix_append->ZG,suffix_refl->vF,take_of_length_le->kc
open Nat renaming add_mul->eX,div_add_mod->hE,div_le_self->h6,div_lt_iff_lt_mul->lK,eq_zero_or_pos->D1,gcd->cz,gcd_dvd_left->Az,gcd_dvd_right->sk,gcd_pos_of_pos_right->D2,le_add_right->nP,le_div_iff_mul_le->xT,le_mul_of_pos_right->tI,le_of_ble_eq_true->D0,le_of_dvd->D4,le_of_lt->hH,le_refl->a2,le_trans->bx,lt_of_lt_of_le->gz,lt_of_mul_lt_mul_right->O8,mod_eq_of_lt->dX,mod_lt->bA,mul_add->dW,mul_assoc->fu,mul_comm->c9,mul_div_cancel_left->Pa,mul_le_mul->jd,mul_le_mul_left->fK,mul_le_mul_right->ck,mul_one->m9,mul_zero->jy,one_mul->O7,pos_of_ne_zero->kX,pow_le_pow_right->dT,pow_lt_pow_iff_right->Zw,pow_succ->ea,sub_le->D3,two_pow_pos->lJ,zero_le->dL
open Ne renaming symm->fE
open Option.some renaming injEq->a9
open Prod.mk renaming injEq->cN
open Quotient renaming lift₂->ZH
open Rat renaming divInt_eq_div->xU,divInt_ofNat->Zz,div_def->xW,intCast_add->ZC,mul_pos->fF,num_eq_zero->mw
open Go.ay Go.Proofs Go.Lib
namespace Go.ay
def K1{a b q r:Int}(hb:0<b)(h:a=b*q+r)(c:0<=r)(h1:r<b):a.fdiv b=q/\a.fmod b=r:=by have:=(Int.ediv_emod_unique (a:=a) (b:=b) (r:=r) (q:=q) hb).2 ⟨ac,c,h1⟩;rw[xR _ (O6 hb),Int.fmod_eq_emod_of_nonneg _ (O6 hb)];exact this
def adY(a b:Int):a.fdiv b=(-a).fdiv (-b)/\a.fmod b=-((-a).fmod (-b)):=by have h1:(-a).fdiv (-b)=a.fdiv b:=Int.neg_fdiv_neg a b;refine⟨h1.symm,?_⟩;have d:=Zt a b;have c:=Zt (-a) (-b);rw[h1,Int.neg_mul]at c;omega
def adi{m n:Nat}(a:n≠0):((m:Int).fdiv n=(m/n:Nat)/\(m:Int).fmod n=(m%n:Nat))/\(m%n=0->(-(m:Int)).fdiv n=-((m/n:Nat):Int)/\(-(m:Int)).fmod n=0)/\(0<m%n->(-(m:Int)).fdiv n=-((m/n+1:Nat):Int)/\(-(m:Int)).fmod n=((n-m%n:Nat):Int)):=by
 have b:m%n<n:=bA _ (kX a);have e:(m:Int)=(n:Int)*((m/n:Nat):Int)+((m%n:Nat):Int):=by rw[<-oF,<-Zu,hE]
 generalize m/n=q at*;generalize m%n=r at*;refine⟨K1 ac e ac ac,λ h=>K1 ac ?_ ac ac,λ h=>K1 ac ?_ ac ac⟩;rw[Ji];omega;rw[Ji,Zu,Int.mul_add];omega
def Rp(a b:Int)(hb:b≠0):ez (lY a b) (FD a b)=a.fdiv b/\ez (decide (b<0)) (FE a b)=a.fmod b:=by
 have o:b.natAbs≠0:=ac;have⟨⟨n,p⟩,k,l⟩:=adi (m:=a.natAbs) o;unfold FD FE;by_cases h1:b<0;have g:-b=(b.natAbs:Int):=ac;have⟨q,r⟩:=adY a b;rw[q,r,g];by_cases h:a<0;have d:-a=(a.natAbs:Int):=ac;have hd:lY a b=false:=by simp[lY,h1,h]
 rw[d,n,p,hd];simp[ez,h1];have d:-a=-(a.natAbs:Int):=ac;have hd:lY a b=true:=by simp[lY,h1,h]
 rw[d,hd];by_cases c:0<a.natAbs%b.natAbs;rw[(l c).1,(l c).2,if_pos ⟨rfl,c⟩,if_pos ⟨rfl,c⟩];simp[ez,h1];have f:a.natAbs%b.natAbs=0:=ac;rw[(k f).1,(k f).2,if_neg (λ e=>c e.2),if_neg (λ e=>c e.2),f];simp[ez,h1];have g:b=(b.natAbs:Int):=ac;have i:decide (b<0)=false:=dQ h1;by_cases h:a<0;have d:a=-(a.natAbs:Int):=ac;have hd:lY a b=true:=by simp[lY,h1,h]
 rw[hd,i];by_cases c:0<a.natAbs%b.natAbs;have q1:=(l c).1;have j:=(l c).2;rw[<-d,<-g]at q1 j;rw[q1,j,if_pos ⟨rfl,c⟩,if_pos ⟨rfl,c⟩];exact⟨rfl,rfl⟩;have f:a.natAbs%b.natAbs=0:=ac;have q1:=(k f).1;have j:=(k f).2;rw[<-d,<-g]at q1 j;rw[q1,j,if_neg (λ e=>c e.2),if_neg (λ e=>c e.2),f];exact⟨rfl,rfl⟩;have d:a=(a.natAbs:Int):=ac;have hd:lY a b=false:=by simp[lY,h1,h]
 rw[<-d,<-g]at n p;rw[n,p,hd,i];simp[ez]
def tZ(neg:Bool)(ws:List Nat):aa:=.agg [.bool neg,.sl 1 (us ws)]
def rM(neg:Bool)(ws:List Nat):Bool:=if ws=[]then !neg else decide (ws[ws.length-1]?.getD 0≠0)
def Cj{n:Nat}(h:af n<=2):n<18446744073709551616:=by have h1:=rQ n;have a:ah^af n<=ah^2:=dT fl h;have b:ah^2=18446744073709551616:=al;omega
section
variable{b M h l v' V num u2 u' U:Nat}
def Tr(a:V=(h*b+l)*M+v'):V=h*(b*M)+l*M+v':=by rw[a,eX,fu]
def ahd(a:U=(num*b+u2)*M+u'):U=num*(b*M)+u2*M+u':=by rw[a,eX,fu]
def ahj(a:u2<b)(h1:u'<M):u2*M+u'<b*M:=by have:(u2+1)*M<=b*M:=ck _ a;rw[eX]at this;omega
def Tu(d:0<h)(g:V=(h*b+l)*M+v')(e:U=(num*b+u2)*M+u')(j:u2<b)(h1:u'<M):U/V<=num/h:=by
 have i:=ahj j h1;have n:=Tr g;have k:=ahd e;have a:0<V:=by have:1*(b*M)<=h*(b*M):=ck _ d;omega
 refine Nat.le_of_lt_succ ((lK a).2 ?_);have f:num+1<=(num/h+1)*h:=by rw[c9];exact Nat.lt_mul_div_succ num d
 have m:(num/h+1)*(h*(b*M))<=(num/h+1)*V:=fK _ ac;have c:(num+1)*(b*M)<=(num/h+1)*h*(b*M):=ck _ f;rw[fu]at c;rw[eX]at c;show U<(num/h+1)*V;omega
def ahf{q r:Nat}(g:V=(h*b+l)*M+v')(k:U=(num*b+u2)*M+u')(h1:u'<M)(f:q*h+r=num)(j:r*b+u2<q*l):U/V<=q-1:=by
 have d:num*b+u2+1<=q*(h*b+l):=by rw[<-f,eX,dW,<-fu];omega
 have i:(num*b+u2+1)*M<=q*(h*b+l)*M:=ck _ d;have a:U<q*V:=by rw[g,dW,<-fu];rw[eX]at i;omega
 have c:0<V:=by rcases D1 V with e|e;rw[e]at a;simp at a;exact e
 have:=(lK c).2 a;omega
def Tv{q r:Nat}(k:0<h)(d:V=(h*b+l)*M+v')(w:U=(num*b+u2)*M+u')(m:v'<M)(a:q<b)(i:q*h+r=num)(p:q*l<=r*b+u2):q<=U/V+1:=by
 have j:q*(h*b+l)<=num*b+u2:=by rw[<-i,eX,dW,<-fu];omega
 have s:q*(h*b+l)*M<=(num*b+u2)*M:=ck _ j;have n:q*v'<=b*M:=by have x:q*v'<=b*v':=ck _ (hH a);have t:b*v'<=b*M:=fK _ (hH m);omega
 have u:=Tr d;have o:1*(b*M)<=h*(b*M):=ck _ k;have v:q*V<=U+V:=by
   have:q*V=q*(h*b+l)*M+q*v':=by rw[d,dW,<-fu]
   omega
 rcases D1 q with e|e;rw[e];exact dL _;have f:(q-1)*V<=U:=by
   have:q*V=(q-1)*V+V:=by have:=Nat.sub_add_cancel e;calc q*V=(q-1+1)*V:=by rw[this]
       _=(q-1)*V+V:=by rw[eX,O7]
   omega
 have c:0<V:=by have g:0<M:=ac;have:0<b*M:=Nat.mul_pos ac g;omega
 have:=(xT c).2 f;omega
def ahe{q r:Nat}(e:num<(h+1)*b)(c:l<b)(f:q*h+r=num)(d:b<=r):q<b/\q*l<=r*b+u2:=by
 have a:q<b:=by
   rw[eX,O7]at e;have h1:q*h<b*h:=by rw[c9 b h];omega
   exact O8 h1
 refine⟨a,?_⟩;have h1:q*l<=b*b:=jd (hH a) (hH c);have g:b*b<=r*b:=ck _ d;omega
def ahi{q:Nat}(a:0<V)(d:U/V<=q)(c:q<=U/V+1):(U<q*V/\q=U/V+1\/q*V<=U/\q=U/V):=by by_cases h:U<q*V;left;have:=(lK a).2 h;exact⟨h,ac⟩;right;have:=(xT a).2 (Nat.le_of_not_lt h);exact⟨ac,ac⟩
def Bk{x:Nat}(h:x<ah)(c:0<x):1<=ek x/\ek x<=32:=by
 have⟨a,b⟩:=yy h c;constructor;rcases D1 (ek x)with e|e;rw[e]at a;simp at a;omega;exact e;have d:2^ek x<2^33:=by unfold ah at h;omega
 have:=(Zw (al:1<2)).1 d;omega
def U2{n x k:Nat}(p:af n=k+1)(c:(digits n)[k]?=some x):0<x/\x<ah/\n*2^(32-ek x)<ah^(k+1)/\af (n*2^(32-ek x))=k+1/\32-ek x<=31:=by
 have b:=wu n x (List.mem_of_getElem? c);have a:0<x:=by rcases Rl (n:=n)with h|⟨w,h,q⟩;rw[h]at c;simp at c;rw[Zx,show(digits n).length-1=k from by show af n-1=k;omega,c]at h;simp only[a9]at h;omega
 have⟨l,j⟩:=Bk b a;have d:=(yy b a).1;have e:=aoA c;rw[kc (show(digits n).length<=k+1 from by show af n<=k+1;omega),vf]at e;have i:=xD (api (wu n) k);rw[List.length_take,Nat.min_eq_left (show k<=(digits n).length from by show k<=af n;omega)]at i;have m:n+1<=ah^k*2^ek x:=by have:ah^k*(x+1)<=ah^k*2^ek x:=fK _ d;rw[dW]at this;omega
 have o:(n+1)*2^(32-ek x)<=ah^(k+1):=by have:=ck (2^(32-ek x)) m;rw[fu,<-Nat.pow_add,show ek x+(32-ek x)=32 from ac]at this;rw[ea];exact this
 have g:=lJ (32-ek x);have f:n*2^(32-ek x)<ah^(k+1):=by rw[eX]at o;omega
 refine⟨a,b,f,?_,ac⟩;have r:=ja f;have s:af n<=af (n*2^(32-ek x)):=fj (tI _ g);omega
def ahc{x R V:Nat}(b:x<ah)(a:R<V):x+ah*R<ah*V/\(x+ah*R)/V<ah:=by
 have:ah*(R+1)<=ah*V:=fK _ a;have h:x+ah*R<ah*V:=by rw[dW]at this;omega
 exact⟨h,Nat.div_lt_of_lt_mul (by rw[c9 V];exact h)⟩
def ahg{num u2 M u' h l v' V D:Nat}(c:l<ah)(g:v'<M)(f:V=(h*ah+l)*M+v')(e:D=(num*ah+u2)*M+u')(b:D<ah*V):num<(h+1)*ah:=by
 have h1:V<(h+1)*ah*M:=by have:(h*ah+l+1)*M<=(h+1)*ah*M:=ck _ (by rw[eX];omega);rw[eX,O7]at this;omega
 have i:num*(ah*M)<=D:=by have:num*ah*M<=(num*ah+u2)*M:=ck _ ac;rw[fu]at this;omega
 have d:ah*V<(h+1)*ah*(ah*M):=by have:=Nat.mul_lt_mul_of_pos_left h1 fl;rw[Nat.mul_left_comm]at this;exact this
 exact O8 (a:=ah*M) ac
def Tw{m s V N k c A R:Nat}(b:V=N*2^s)(a:ah^(k-1)<=N)(e:m<ah^(c+(k-1)))(g:m*2^s=A+ah^c*R):R<V:=by
 rcases Nat.lt_or_ge R V with h|h;exact h;exfalso;have h1:ah^c*V<=ah^c*R:=fK _ h;have d:ah^c*(ah^(k-1)*2^s)<=ah^c*V:=by rw[b];exact fK _ (ck _ a)
 rw[<-fu,<-Nat.pow_add]at d;have f:=Nat.mul_lt_mul_of_pos_right e (lJ s);omega
def Ts{q r num h l u2 M u' v' V D:Nat}(s:l<ah)(b:v'<M)(m:u'<M)(u:0<h)(j:V=(h*ah+l)*M+v')(g:D=(num*ah+u2)*M+u')(f:D<ah*V)(t:D/V<ah)(n:q*h+r=num)(v:D/V<=q)(o:ah<=q\/r*ah+u2<q*l):1<=q/\D/V<=q-1/\(q-1)*h+(r+h)=num/\(ah<=r+h->q-1<ah/\q-1<=D/V+1):=by
 have i:1<=q:=by rcases D1 q with e|e;subst e;rcases o with h1|h1;unfold ah at h1;omega;simp at h1;exact e
 have d:D/V<=q-1:=by rcases o with h1|h1;omega;exact ahf j g m n h1
 have k:(q-1)*h+(r+h)=num:=by obtain⟨p,rfl⟩:∃p,q=p+1:=⟨q-1,ac⟩;rw[eX]at n;simp only[Nat.add_sub_cancel];omega
 refine⟨i,d,k,λ hb=>?_⟩;have⟨a,c⟩:=ahe (u2:=u2) (ahg s b j g f) s k hb;exact⟨a,Tv u j g b a k c⟩
def Tt{m n s O r:Nat}(b:n≠0)(h:m*2^s=O*(n*2^s)+r)(a:r<n*2^s):O=m/n/\r/2^s=m%n/\af r<=af (n*2^s):=by
 have c:=lJ s;have h1:r=(m-O*n)*2^s:=by rw[Nat.sub_mul,fu];omega
 have e:m-O*n<n:=by rw[h1]at a;exact O8 a
 have g:O*n<=m:=by
   have:O*n*2^s<=m*2^s:=by rw[fu];omega
   exact Nat.le_of_mul_le_mul_right this c
 have f:(m-O*n)+n*O=m:=by rw[c9 n];omega
 have d:m/n=O/\m%n=m-O*n:=(Nat.div_mod_unique (kX b)).2 ⟨f,e⟩;refine⟨d.1.symm,?_,fj (hH a)⟩;rw[h1,Nat.mul_div_cancel _ c,d.2]
def W0{a:List Nat}{i:Nat}(h:a.length=i+1):∃b x,a=b++[x]/\b.length=i:=by refine⟨a.take i,a[i]' ac,?_,by simp;omega⟩;rw[<-List.take_succ_eq_append_getElem,kc ac]
end
section
variable{P:Program}{G:Nat->Option (List aa)}{π:Id}{Q:cf->du->Prop}{s:du}
def bo.zo{α:Type}{x:cw}{s:du}(st:α->du)(l:α->Prop)(m:α->Nat)(x0:α)(hw:bP G π s (st x0))(h0:l x0)(h:∀a,l a->bo P G π x (PX G π st l m a Q) (st a)):bo P G π (.loop x) Q s:=by
 refine bo.j9 hw ?_;intro c i own E w a R hm dE;cases c<;>simp only[gi,a9,reduceCtorEq]at i;case loop bH=>cases h1:gi P bH with|none=>simp[h1]at i|some tA=>simp only[h1,Option.map_some,a9,cw.loop.injEq]at i;subst i;refine YE (α:=α) (λ g a' w'=>l g/\∃E',gL own π E E' w w'/\oU G π own E' w' (st g) a') m (x:=x0) ⟨h0,E,gL.refl own π E w,hm⟩ ?_;rintro g nk xG⟨t,A8,d,v⟩;refine(h g t) bH h1 own A8 xG nk _ v ?_;intro e s' E' w' a' n f b;cases e with|normal=>obtain⟨g',u,r,o⟩:=n;obtain⟨aaQ,p,q⟩:=o own E' w' a' b;exact⟨g',⟨u,aaQ,(d.trans f).trans p,q⟩,r⟩|exit id=>exact dE (.exit id) s' E' w' a' n (d.trans f) b|ret=>exact dE .ret s' E' w' a' n (d.trans f) b
 case region=>exfalso;revert i;unfold o5;(repeat' split)<;>simp
 all_goals(exfalso;revert i;(repeat' split)<;>simp)
def anl{id:Id}{k len l h:Nat}(h1:l<h)(a:h<=len):gv k (.ai id k 0 len false) (some (.int .i64 (l:Int))) (some (.int .i64 (h:Int))) none=some (.ai id k l (h-l) false):=by rcases D1 l with rfl|b;simp[gv,gu,iZ,a];simp[gv,gu,iZ,a,hH h1,Nat.ne_of_gt b,Nat.ne_of_lt h1]
def anm{id:Id}{k len h:Nat}(a:h<=len):gv k (.ai id k 0 len false) none (some (.int .i64 (h:Int))) none=some (.ai id k 0 h false):=by simp[gv,gu,iZ,a]
def aaU(neg:Bool)(n:Nat):aM (ez neg n)=.agg [.bool (neg&&decide (0<n)),W n]:=by cases neg;simp only[aM,ez];simp<;>omega;simp only[aM,ez];simp<;>omega
def alc(a:Nat)(b:a<ah):eS .quo .int (.int .u32 (a:Int)) (.int .u32 2)=some (.int .u32 ((a/2:Nat):Int)):=by rw[Qr al];show some (aa.int .u32 (IntKind.u32.wrap ((a/2:Nat):Int)))=_;rw[j8,dX (by unfold ah at*;omega)]
def Qp{x y s:Nat}(e:s<=32)(d:x<ah):((ah*y+x)/2^s)%ah=x/2^s+2^(32-s)*(y%2^s):=by
 have a:=Iw e;have hd:x/2^s<2^(32-s):=by rw[lK (lJ _),a];exact d
 have c:(ah*y+x)/2^s=2^(32-s)*y+x/2^s:=by rw[<-a,c9 (2^(32-s)),fu,Nat.mul_add_div (lJ _)]
 have b:y%2^s<2^s:=bA _ (lJ _);have h1:2^(32-s)*(y%2^s+1)<=2^(32-s)*2^s:=fK _ b;rw[dW,a]at h1;have f:2^(32-s)*y=ah*(y/2^s)+2^(32-s)*(y%2^s):=by
   have:=hE y (2^s);conv=>lhs;rw[<-this]
   rw[dW,<-fu,a]
 rw[c,f,show ah*(y/2^s)+2^(32-s)*(y%2^s)+x/2^s=(x/2^s+2^(32-s)*(y%2^s))+ah*(y/2^s)from ac,Nat.add_mul_mod_self_left,dX ac]
def aj0(x y:Nat)(a:x<ah)(c:y<ah):eS .or .int (.int .u64 (x:Int)) (.int .u64 ((ah*y:Nat):Int))=some (.int .u64 ((ah*y+x:Nat):Int)):=by rw[MT _ _ (by unfold ah at*;omega) (by unfold ah at*;omega),Nat.or_comm];have:=Nat.two_pow_add_eq_or_of_lt (i:=32) (b:=x) (by unfold ah at a;omega) y;rw[show ah=2^32 from rfl,this]
def WQ(x s:Nat)(d:s<=64):eS .shr .int (.int .u64 (x:Int)) (.int .i64 (s:Int))=some (.int .u64 ((x/2^s:Nat):Int)):=by
 rw[Bj ac];have a:min (s:Int).toNat cY.bits=s:=by show min (s:Int).toNat 64=s;rw[Int.toNat_natCast];omega
 have b:(x:Int).fdiv (2^s)=((x/2^s:Nat):Int):=by
   have c:(2:Int)^s=((2^s:Nat):Int):=by rw[Int.natCast_pow];rfl
   rw[c,xR _ (vn _)];exact(Jj _ _).symm
 rw[a,b]
def trimmed(b:List Nat)(h:jV b):∃z,b=digits (val b)++zs z:=by induction c:b.length generalizing b with|zero=>obtain rfl:b=[]:=List.length_eq_zero_iff.1 c;exact⟨0,by simp[val,iQ,zs]⟩|succ k f=>
   obtain⟨e,w,rfl,g⟩:=W0 c;by_cases a:w=0;subst a;have⟨z,d⟩:=f e (λ w a=>h w (by simp[a])) g;refine⟨z+1,?_⟩;rw[Ow];conv=>lhs;rw[d]
   rw[List.append_assoc];congr 1;simp[zs,List.replicate_succ'];exact⟨0,by rw[KL h (.inr ⟨w,am,a⟩)];simp[zs]⟩
def ank{id:Id}{k off len h:Nat}(a:h<=len):gv k (.ai id k off len false) none (some (.int .i64 (h:Int))) none=some (.ai id k off h false):=by simp[gv,gu,iZ,a]
def alK{num h V D x0 M u' l v':Nat}(c:0<h)(e:V=(h*ah+l)*M+v')(d:D=(num*ah+x0)*M+u')(b:x0<ah)(hu:u'<M)(a:D/V<ah):D/V<=min (num/h) (ah-1):=by have:=Tu c e d b hu;omega
def WE{a b:Int}(h:decide (a<0)=decide (b<0)):ez (decide (a<0)) (a.natAbs+b.natAbs)=a+b:=by unfold ez;by_cases h1:a<0<;>by_cases c:b<0<;>simp[h1,c]at h⊢<;>omega
def Ib{a b:Int}(h:¬decide (a<0)=decide (b<0))(d:b.natAbs<=a.natAbs):ez (decide (a<0)) (a.natAbs-b.natAbs)=a+b:=by unfold ez;by_cases h1:a<0<;>by_cases c:b<0<;>simp[h1,c]at h⊢<;>omega
def apk(a b:Int):af (a+b).natAbs<=af a.natAbs+af b.natAbs+1:=by have h1:(a+b).natAbs<=a.natAbs+b.natAbs:=O9 a b;have c:af (a.natAbs+b.natAbs)<=af a.natAbs+af b.natAbs+1:=ja (by have h:=rQ a.natAbs;have d:=rQ b.natAbs;have f:ah^af a.natAbs<=ah^(af a.natAbs+af b.natAbs):=dT fl ac;have g:ah^af b.natAbs<=ah^(af a.natAbs+af b.natAbs):=dT fl ac;have e:ah^(af a.natAbs+af b.natAbs)*2<=ah^(af a.natAbs+af b.natAbs)*ah:=fK _ al;rw[ea];omega);exact bx (fj h1) c
def apq{ws:List Nat}(a:jV ws):af (val ws)<=ws.length:=ja (xD a)
def agN(neg:Bool){ws:List Nat}(g:jV ws):(decide (af (val ws)=ws.length)&&(!neg||decide (0<ws.length)))=rM neg ws:=by unfold rM;by_cases f:ws=[];subst f;simp[af,val,iQ];rw[if_neg f];have a:0<ws.length:=List.length_pos_iff.2 f;rw[fB a,Bool.or_true,Bool.and_true];have⟨k,i⟩:∃k,ws.length=k+1:=⟨ws.length-1,ac⟩;obtain⟨b,x,rfl,hb⟩:=W0 i;have e:(b++[x])[(b++[x]).length-1]?.getD 0=x:=am;rw[e];by_cases c:x=0;rw[dQ (show¬x≠0 from λ h=>h c),c,Ow];exact dQ (by have:=apq (λ w d=>g w (by simp[d]):jV b);simp;omega);rw[fB c];exact fB (by rw[af,KL g (.inr ⟨x,am,c⟩)])
def aW(q:Rat):aa:=hO q.num q.den
def cE(k:Nat)(q:Rat):Prop:=af q.num.natAbs<=k/\af q.den<=k
def cE.mono{j k:Nat}{q:Rat}(h:cE j q)(a:j<=k:=by omega):cE k q:=⟨bx h.1 a,bx h.2 a⟩
def mm(a b:Int):af (a*b).natAbs<=af a.natAbs+af b.natAbs:=by rw[m7];exact Ai _ _
def aeh(a b:Int):Int.gcd a b=cz a.natAbs b.natAbs:=rfl
def T2(a b:Int)(hb:b≠0):hO (a.fdiv (if b<0 then-((cz a.natAbs b.natAbs:Nat):Int)else(cz a.natAbs b.natAbs:Nat))) (b.fdiv (if b<0 then-((cz a.natAbs b.natAbs:Nat):Int)else(cz a.natAbs b.natAbs:Nat)))=aW ((a:Rat)/(b:Rat)):=by
 rw[<-xU];unfold aW;rw[Rat.num_divInt,Rat.den_divInt,if_neg hb,aeh,Nat.gcd_comm b.natAbs a.natAbs];have e:0<cz a.natAbs b.natAbs:=D2 _ ac;have⟨x,l⟩:((cz a.natAbs b.natAbs:Nat):Int)∣a:=xV.2 (Az _ _);have⟨y,k⟩:((cz a.natAbs b.natAbs:Nat):Int)∣b:=xV.2 (sk _ _);generalize m:cz a.natAbs b.natAbs=g at*;have c:(g:Int)≠0:=ac;have d:b.natAbs/g=y.natAbs:=by rw[k,m7,gB,Pa _ e]
 rw[d];by_cases h:b<0;have i:y<0:=by rcases Pb y 0 with h1|h1;exact h1;have:=Pc (vn g) h1;omega
 rw[if_pos h,Jk h];have f:a.fdiv (-(g:Int))=-1*a/(g:Int):=by rw[l,show-1*((g:Int)*x)=(g:Int)*(-x)from by rw[Ji];omega,Jl _ c,show(g:Int)*x=-(g:Int)*(-x)from by rw[Zy]];exact Jm _ ac
 have j:b.fdiv (-(g:Int))=(y.natAbs:Int):=by
   rw[show(y.natAbs:Int)=-y from ac];conv=>lhs;rw[k]
   rw[show(g:Int)*y=-(g:Int)*(-y)from by rw[Zy]];exact Jm _ ac
 rw[f,j];have i:0<y:=by rcases Pb 0 y with h1|h1;exact h1;have:=Pc (vn g) (ac:0<=-y);rw[Ji]at this;omega
 rw[if_neg h,qR ac];have f:a.fdiv (g:Int)=1*a/(g:Int):=by rw[l,Int.one_mul,Jl _ c];exact Jm _ c
 have j:b.fdiv (g:Int)=(y.natAbs:Int):=by
   rw[show(y.natAbs:Int)=y from ac];conv=>lhs;rw[k]
   exact Jm _ c
 rw[f,j]
def akY(a b:Rat):a+b=((a.num*b.den+b.num*a.den:Int):Rat)/((a.den*b.den:Int):Rat):=by rw[<-xU,Rat.add_def',<-Zz];simp
def Nd(a b:Rat):a*b=((a.num*b.num:Int):Rat)/((a.den*b.den:Int):Rat):=by rw[<-xU,Rat.mul_def',<-Zz];simp
def akZ(a b:Rat):a/b=((a.num*b.den:Int):Rat)/((a.den*b.num:Int):Rat):=by
 rw[xW,Rat.inv_def];conv=>lhs;lhs;rw[<-Rat.num_divInt_den a]
 rw[Rat.divInt_mul_divInt,xU]
def yI(q:Rat):(0:Int)<q.den:=by have:=q.den_nz;omega
def KG(q:Rat):(q.den:Int)≠0:=by have:=yI q;omega
def Uz(a b:Rat):(a.den*b.den:Int)≠0:=ZA (KG a) (KG b)
def cE.neg{k:Nat}{a:Rat}(h:cE k a):cE k (-a):=⟨by rw[Rat.neg_num,ZB];exact h.1,h.2⟩
def DC{m n k:Nat}(a:af m<=k)(b:af n<=k):af (m+n)<=k+1:=by refine ja ?_;have h1:=gz (rQ m) (dT fl a);have d:=gz (rQ n) (dT fl b);rw[ea];have:2<=ah:=al;have c:ah^k*2<=ah^k*ah:=fK _ this;omega
def cE.zero:cE 1 0:=⟨by simp[af,iQ],DD⟩
def dm(q:Rat):Int:=q.num.sign
def ak9{q:Rat}:dm q=0↔q=0:=by unfold dm;rw[Int.sign_eq_zero_iff_zero,mw]
def zP(a b:Rat):Int:=e5 (a.num*b.den) (b.num*a.den)
def ak4{a b:Rat}:zP a b=0↔a=b:=by rw[Rat.eq_iff_mul_eq_mul];unfold zP;rcases n6 (a.num*b.den) (b.num*a.den)with⟨h1,c⟩|⟨h1,c⟩|⟨h1,c⟩<;>rw[h1]<;>constructor<;>intro h<;>first|omega|rfl|(simp at h)
def ak3{a b:Rat}(h:dm a≠dm b):zP a b=if dm a<dm b then-1 else 1:=by have key:=Q3 (y:=a.num*b.den) (z:=b.num*a.den) (by rw[Jn,Jn,qR (yI a),qR (yI b),Jo,Jo];exact h);unfold zP;rw[<-key,Jn,Jn,qR (yI a),qR (yI b),Jo,Jo];unfold dm at h⊢;unfold e5;split;rfl;rw[if_pos ac]
def vS{z d:Int}{q:Rat}(h1:q.num=z)(a:(q.den:Int)=d):aa.agg [.bool (decide (z<0)),W z.natAbs,.bool (decide (d<0)),W d.natAbs]=aW q:=by subst h1;subst a;rfl
def A9(P:Program)(G:Nat->Option (List aa))(f:FuncId):Prop:=∀a b:Int,af a.natAbs<=1677721600000->af b.natAbs<=1677721600000->ag P G f [aM a,aM b] (aM (a+b))
def vN(P:Program)(G:Nat->Option (List aa))(f:FuncId):Prop:=∀a b:Int,af a.natAbs<=1677721600000->af b.natAbs<=1677721600000->ag P G f [aM a,aM b] (aM (a*b))
def Ba(P:Program)(G:Nat->Option (List aa))(f:FuncId):Prop:=∀a:Int,af a.natAbs<=1677721600000->ag P G f [aM a] (aM (-a))
def ER(P:Program)(G:Nat->Option (List aa))(f:FuncId):Prop:=∀a:Int,af a.natAbs<=1677721600000->ag P G f [aM a] (.int .i64 a.sign)
def PQ(P:Program)(G:Nat->Option (List aa))(f:FuncId):Prop:=∀a b:Int,af a.natAbs<=1677721600000->af b.natAbs<=1677721600000->ag P G f [aM a,aM b] (.int .i64 (e5 a b))
def yk(P:Program)(G:Nat->Option (List aa))(f:FuncId):Prop:=∀z:Int,ag P G f [aM z] (.bool (decide (z=1)))
def JZ(P:Program)(G:Nat->Option (List aa))(f:FuncId):Prop:=∀a b:Int,b≠0->af a.natAbs<=1677721600001->af b.natAbs<=1677721600000->ag P G f [aM a,aM b] (aW ((a:Rat)/(b:Rat)))
def EY(P:Program)(G:Nat->Option (List aa))(f:FuncId):Prop:=∀a b:Rat,cE 419430400000 a->cE 419430400000 b->ag P G f [aW a,aW b] (aW (a+b))
def J3(P:Program)(G:Nat->Option (List aa))(f:FuncId):Prop:=∀a b:Rat,cE 419430400000 a->cE 419430400000 b->ag P G f [aW a,aW b] (aW (a*b))
def EZ(P:Program)(G:Nat->Option (List aa))(f:FuncId):Prop:=∀a:Rat,cE 419430400000 a->ag P G f [aW a] (aW (-a))
def J4(P:Program)(G:Nat->Option (List aa))(f:FuncId):Prop:=∀a:Rat,cE 419430400000 a->ag P G f [aW a] (.int .i64 (dm a))
def P1(P:Program)(G:Nat->Option (List aa))(f:FuncId):Prop:=∀a b:Rat,cE 419430400000 a->cE 419430400000 b->ag P G f [aW a,aW b] (.int .i64 (zP a b))
def P2(P:Program)(G:Nat->Option (List aa))(f:FuncId):Prop:=∀a b:Rat,b≠0->cE 419430400000 a->cE 419430400000 b->ag P G f [aW a,aW b] (.aJ [aW (a/b),.int .i64 0])
def J6(P:Program)(G:Nat->Option (List aa))(f:FuncId):Prop:=∀a:Rat,cE 419430400000 a->ag P G f [aW a] (.bool true)
def P3(P:Program)(G:Nat->Option (List aa))(f:FuncId):Prop:=∀a:Int,-9223372036854775808<=a->a<9223372036854775808->ag P G f [.int .i64 a] (aW (a:Rat))
def gR(n:Nat):af ((n:Nat):Int).natAbs=af n:=rfl
def yH{q:Rat}(h:(q.den:Int)=1):q=(q.num:Rat):=Rat.ext rfl (by rw[Rat.den_intCast];omega)
def ak0(a:Int)(b:Nat)(hb:b≠0):aW ((a:Rat)/((b:Int):Rat))=hO (a/(cz a.natAbs b:Nat)) ((b:Int)/(cz a.natAbs b:Nat)):=by have h:=T2 a b ac;rw[if_neg ac,gB,xR _ (vn _),xR _ (vn _)]at h;exact h.symm
def aa7(a b:Rat):(a+b).num=(a.num*((b.den/cz a.den b.den:Nat):Int)+b.num*((a.den/cz a.den b.den:Nat):Int))/(cz (a.num*((b.den/cz a.den b.den:Nat):Int)+b.num*((a.den/cz a.den b.den:Nat):Int)).natAbs (cz a.den b.den):Nat)/\(a+b).den=a.den/cz a.den b.den*(b.den/cz (a.num*((b.den/cz a.den b.den:Nat):Int)+b.num*((a.den/cz a.den b.den:Nat):Int)).natAbs (cz a.den b.den)):=by
 show(Rat.add a b).num=_/\(Rat.add a b).den=_;unfold Rat.add;dsimp only;split;rename_i h;simp[h];unfold Rat.maybeNormalize;have hd:∀x:Nat,cz x (cz a.den b.den)∣b.den:=λ x=>Nat.dvd_trans (sk _ _) (sk _ _);split;rename_i h;have e:∀(N:Int)(k x y:Nat),k=1->N=N/(k:Int)/\x*y=x*(y/k):=by intro N k x y c;subst c;simp
 exact e _ _ _ _ h;refine⟨rfl,?_⟩;exact Nat.mul_div_assoc _ (hd _)
def aiL(a b:Rat):(a*b).num=a.num/(cz a.num.natAbs b.den:Nat)*(b.num/(cz b.num.natAbs a.den:Nat))/\(a*b).den=a.den/cz b.num.natAbs a.den*(b.den/cz a.num.natAbs b.den):=by show(Rat.mul a b).num=_/\(Rat.mul a b).den=_;unfold Rat.mul;simp
def PR(P:Program)(G:Nat->Option (List aa))(f:FuncId):Prop:=∀z:Int,af z.natAbs<=4194304000000->ag P G f [aM z] (aM z)
def yj(P:Program)(G:Nat->Option (List aa))(f:FuncId):Prop:=∀a b:Int,af a.natAbs<=1677721600001->af b.natAbs<=1677721600000->ag P G f [aM a,aM b] (aM (cz a.natAbs b.natAbs:Nat))
def EP(P:Program)(G:Nat->Option (List aa))(f:FuncId):Prop:=∀a b:Int,0<b->b∣a->af a.natAbs<=1677721600001->af b.natAbs<=1677721600000->ag P G f [aM a,aM b] (aM (a/b))
def J5(q:Rat):∀c∈(aW q).cells,cb c:=by intro c a;simp only[aW,hO,aa.cells,ct,cS,or_false]at a;rcases a with rfl|rfl|rfl|rfl;exact AB _;exact vV _;exact AB _;exact vV _
def I2(q:Rat):decide ((af q.num.natAbs:Int)=0)=decide (q=0):=by have h1:=gw (n:=q.num.natAbs);have a:=mw (q:=q);congr 1;apply propext;rw[<-a];omega
def three(a b:Int)(h:¬(a=1/\b=1)):(decide (a=1)=true/\decide (b=1)=false)\/(decide (a=1)=false/\decide (b=1)=false)\/(decide (a=1)=false/\decide (b=1)=true):=by by_cases h1:a=1<;>by_cases c:b=1<;>simp_all
def aaT(P:Program)(G:Nat->Option (List aa))(f:FuncId):Prop:=∀(a:Int)(b:Nat),b≠0->b<=1000->-1000<=a->a<=1000->ag P G f [.int .i64 a,.int .i64 (b:Int)] (aW ((a:Rat)/((b:Int):Rat)))
def K2(ws:List Nat)(ρ:Id->Id):br ρ (us ws)=us ws:=by rw[fS];unfold us;rw[List.map_map];rfl
theorem bg.rows{α:Type}{f:α->aa}{k:Nat}(h:∀x,bg (f x))(a:∀x,∀d∈(f x).cells,cb d)(l:List α):bg (.sl k (l.map f)):=bg.slice (by intro c hc;simp only[flat,kD,bp]at hc;have⟨_,⟨x,_,rfl⟩,hc⟩:=hc;exact a x c hc) (by intro c hc ρ;obtain⟨x,_,rfl⟩:=bp.1 hc;exact(h x).fix ρ)
instance{ws:List Nat}:bg (.sl 1 (us ws)):=⟨X9 ws,λ ρ=>by show aa.sl 1 (br ρ (us ws))=_;rw[K2]⟩
instance{i:IntKind}{n:Int}:bg (.sl 1 [.int i n]):=bg.slice (by intro c hc;simp[flat,aa.cells]at hc;subst hc;exact cb.int _ _) (by intro c hc ρ;simp at hc;subst hc;rfl)
instance{n:Nat}:bg (W n):=⟨vV n,λ ρ=>by show aa.sl 1 (br ρ (us (digits n)))=_;rw[K2];rfl⟩
instance{z:Int}:bg (aM z):=by unfold aM;infer_instance
instance{q:Rat}:bg (aW q):=by unfold aW hO;infer_instance
def alW{ρ:Id->Id}{c:aa}{l:List aa}:br ρ (c::l)=c.aU ρ::br ρ l:=rfl
def alX{ρ:Id->Id}:br ρ []=[]:=rfl
def alY{ρ:Id->Id}{n:Nat}:br ρ (bM n .top)=bM n .top:=by rw[fS,List.map_replicate];rfl
def bg.fixed{c:aa}[h:bg c]{ρ:Id->Id}:c.aU ρ=c:=h.fix ρ
def qx{ρ:Id->Id}{l:List aa}{k:Nat}{b:Bool}:aG.aU ρ ⟨l,k,b⟩=⟨br ρ l,k,b⟩:=rfl
def qv{ρ:Id->Id}{x:Id×aG}{K:List (Id×aG)}:fh ρ (x::K)=(ρ x.1,x.2.aU ρ)::fh ρ K:=rfl
def qw{ρ:Id->Id}:fh ρ []=[]:=rfl
end
section
variable{P:Program}{G:Nat->Option (List aa)}
def uI{f:FuncId}{args args':List aa}{r:aa}(S:List (Id×aG))(h:ag P G f args' r)(hv:dc (bU S) args args'):aR P G:=.rel f args S (λ _=>{val:=r,rd:=S.map (·.1),up:=l1 S}) (λ p _=>cj.ajT h hv) (λ p x a=>bp.2 ⟨x,a,rfl⟩)
def ak8(q:Rat):decide (dm q=0)=decide (q=0):=by congr 1;exact propext ak9
def ano{i:Nat}(h:i<=1000):cE 1 (((i:Nat):Int):Rat):=⟨ja (by rw[Nat.pow_one];show i<ah;unfold ah;omega),DD⟩
def agM(z:Int):rM (decide (z<0)) (digits z.natAbs)=true:=by unfold rM;by_cases h:digits z.natAbs=[];rw[if_pos h];have:=KJ.1 h;have:¬z<0:=ac;simp[this];rw[if_neg h];have⟨w,h1,a⟩:=(Rl (n:=z.natAbs)).resolve_left h;rw[Zx]at h1;rw[h1];simpa using a
def PS{f:FuncId}(h:∀neg ws,jV ws->ws.length<=9223372036854775807->ag P G f [tZ neg ws] (.bool (rM neg ws)))(z:Int)(a:af z.natAbs<=4194304000000):ag P G f [aM z] (.bool true):=by have:=h (decide (z<0)) (digits z.natAbs) (wu _) (by unfold af at a;omega);rw[agM]at this;exact this
def VR{f j fs d i:FuncId}(h:kE P f (OM j fs d i))(hv:∀z:Int,af z.natAbs<=4194304000000->ag P G j [aM z] (.bool true))(l:ER P G fs)(k:yj P G d)(ho:yk P G i):J6 P G f:=λ q a=>by have h1:=hv q.num (by have:=a.1;omega);have m:=hv q.den (by have:=a.2;rw[gB];omega);have g:=l q.den (by have:=a.2;rw[gB];omega);have c:=k q.num q.den (by have:=a.1;omega) (by have:=a.2;rw[gB];omega);have b:=ho ((cz q.num.natAbs (q.den:Int).natAbs:Nat):Int);rw[gB]at c b;have e:cz q.num.natAbs q.den=1:=q.reduced;rw[e]at c b;rw[qR (yI q)]at g;exact ag.kV h [hc h1,hc m,hc g,hc c,hc b]
def mv(q a i:Id):Id:=if i=q then a else i
def zx{q a:Id}:mv q a q=a:=if_pos rfl
def nE{q a i:Id}(h:i≠q):mv q a i=i:=if_neg h
def bP.move{π q:Id}{t:List aa}{σ D:aL}{n m:Nat}(v:n<=m)(L:∀j,D j=none\/∃i b,σ i=some b/\mv q (m::π) i=j/\D j=some (b.aU (mv q (m::π)))):bP G π ⟨t,σ,n⟩ ⟨br (mv q (m::π)) t,D,m+1⟩:=λ own E w a hm=>by
 have⟨F,p,l,u⟩:=hm;have Y:E.μ (m::π)=none:=(l.mono v).at (a2 _) (vF _);let E':Env:=⟨λ j=>if j=m::π then E.μ q else E.μ j,E.ok⟩;have f:∀i,i≠m::π->E'.μ i=E.μ i:=λ i h=>if_neg h;have o:∀i x,E.μ i=some x->E'.μ i=some x:=λ i x h=>(f i λ e=>by rw[e,Y]at h;cases h).trans h;have r:∀i x,E.μ i=some x->E'.μ (mv q (m::π) i)=some x:=λ i x h=>by by_cases e:i=q;subst e;rw[zx];exact(if_pos rfl).trans h;rw[nE e];exact o i x h
 have B:Adv own E E' w w:=⟨⟨o,λ b hb=>hb,λ b hb=>rfl⟩,rfl,rfl,rfl,a2 _,λ k Q _=>rfl,λ b hb=>.inl hb⟩;refine⟨E',⟨B,λ i I=>f i λ e=>I (by rw[e];exact List.suffix_cons _ _)⟩,⟨bc.aU (E:=E) (E':=E') r (λ _ h=>h) _ _ F,⟨p.g6,λ j aq d=>?_,λ j W x y d M J V U=>?_,p.jq,p.new⟩,λ j d S=>?_,u⟩⟩;have d:D j=some aq:=d;rcases L j with h1|⟨i,b,h1,C,T⟩;rw[h1]at d;cases d;rw[T]at d;cases d;subst C;have⟨g,N,A,ty,c⟩:=p.blk i b h1;refine⟨g,N,A,ty,r _ _ c.μ,c.heap,c.size,?_,c.most,c.own,c.ok,c.no,HX c.k,?_⟩;rw[show(b.aU (mv q (m::π))).els.length=b.els.length from mb];exact c.len;rw[show(b.aU (mv q (m::π))).els=br (mv q (m::π)) b.els from rfl,HW];exact ew.aU r (λ b hb=>hb) c.row;have X:∀k b,σ k=some b->PI E own w k b:=λ k b h=>p.blk k b h;have⟨i,b,h1,C,_⟩:=(L j).resolve_left d;have⟨K,b',l2,z,_⟩:=(L W).resolve_left M;have⟨g,N,A,ty,c⟩:=p.blk i b h1;have⟨g',n4,O,Z,s⟩:=p.blk K b' l2;have e:=r _ _ c.μ;have R:=r _ _ s.μ;rw[C,V]at e;rw[z,U]at R;refine p.inj i K x y (by show σ i≠none;rw[h1];simp) (by show σ K≠none;rw[l2];simp) ?_ (by rw[c.μ,e]) (by rw[s.μ,R]);rintro rfl;exact J (C.symm.trans z);have H:j≠m::π:=λ e=>S m (Nat.lt_succ_self _) (e▸vF _);exact(f j H).trans (l.mono v j d λ k Q=>S k (Nat.lt_succ_of_lt Q))
def bP.Us{π q:Id}{t:List aa}{K:List (Id×aG)}{n m:Nat}(c:n<=m)(hd:(K.map (·.1)).Nodup):bP G π ⟨t,bU K,n⟩ ⟨br (mv q (m::π)) t,bU (fh (mv q (m::π)) K),m+1⟩:=bP.move c λ j=>by cases h:(fh (mv q (m::π)) K).lookup j with|none=>exact .inl h|some b=>right;have⟨z,d,a⟩:=bp.1 (pg h);simp only[cN]at a;exact⟨z.1,z.2,w7 hd d,a.1,by rw[a.2];exact h⟩
def iN.same:∀t:List aa,iN t t|[]=>trivial|_::cs=>⟨.inr rfl,iN.same cs⟩
def bP.toT{π:Id}{s:du}{t:List aa}{K:List (Id×aG)}{n:Nat}(hd:(K.map (·.1)).Nodup)(h:bP G π s ⟨t,bU K,n⟩):bP G π s ⟨t,m8 (b5 K),n⟩:=h.trans (bP.forget (iN.same t) (λ j=>by cases a:m8 (b5 K) j with|none=>exact .inl rfl|some b=>right;exact(w7 hd (B3 a)).symm) (a2 n))
instance{n:Bool}{w:List Nat}:bg (tZ n w):=by unfold tZ;infer_instance
instance{a b:Int}:bg (hO a b):=by unfold hO;infer_instance
end
end Go.ay
namespace Go.Proofs.YtpcofcmencgkbaaGreat
section
variable{G:Nat->Option (List aa)}
def ak1(r:yk ab G 291)(t:A9 ab G 294)(ho:ag ab G 189 [] (aM 1))(i:vN ab G 236)(x:JZ ab G 295):EY ab G 276:=λ a b u hb=>by
 have j:=r a.den;have o:=r b.den;have E:=mm a.num b.den;have w:=mm b.num a.den;have n:=mm a.den b.den;rw[gR]at E w n;rw[gR]at n;have A:=u.1;have D:=u.2;have z:=hb.1;have y:=hb.2;have q:=i a.num b.den ac (by rw[gR];omega);have s:=i b.num a.den ac (by rw[gR];omega);have p:=i a.den b.den (by rw[gR];omega) (by rw[gR];omega);have v:=t (a.num*b.den) (b.num*a.den) ac ac;have f:af (a.num*b.den+b.num*a.den).natAbs<=1677721600001:=bx (fj (O9 _ _)) (DC (k:=1677721600000) ac ac);have m:=x (a.num*b.den+b.num*a.den) (a.den*b.den) (Uz a b) f ac;rw[<-akY]at m;have C:=t a.num b.num ac ac;by_cases e:(a.den:Int)=1;have g:decide ((a.den:Int)=1)=true:=fB e;by_cases d:(b.den:Int)=1;have l:decide ((b.den:Int)=1)=true:=fB d;have B:a+b=((a.num+b.num:Int):Rat):=by rw[ZC,<-yH e,<-yH d]
 rw[B];exact aI [hc j,cW 9 g,hc o,cW 13 l,hc C,hc ho];have l:decide ((b.den:Int)=1)=false:=dQ d;exact aI [hc j,cW 9 g,hc o,cW 13 l,hc q,hc s,hc v,hc p,hc m];have g:decide ((a.den:Int)=1)=false:=dQ e;exact aI [hc j,cW 9 g,hc q,hc s,hc v,hc p,hc m]
def ak7(b:Ba ab G 281):EZ ab G 248:=λ q c=>by have h1:=b q.num (by have:=c.1;omega);exact aI [hc h1]
def ak5(n:∀z:Int,ag ab G 308 [aM z] (.bool (decide (z=0))))(g:vN ab G 236)(m:JZ ab G 295):P2 ab G 296:=λ a b f h hb=>by have d:b.num≠0:=λ e=>f (mw.1 e);have i:=n b.num;have q:decide (b.num=0)=false:=dQ d;rw[q]at i;have l:=mm a.num b.den;have u:=mm a.den b.num;rw[gR]at l u;have o:=h.1;have s:=h.2;have k:=hb.1;have r:=hb.2;have p:=g a.num b.den ac (by rw[gR];omega);have t:=g a.den b.num (by rw[gR];omega) ac;have j:=m (a.num*b.den) (a.den*b.num) (ZA (KG a) d) ac ac;rw[<-akZ]at j;exact aI [hc i,hc p,hc t,hc j]
def alg(a:Int)(b:Nat)(f:b≠0)(h1:ag ab G 127 [.int .i64 a] (aM a))(g:ag ab G 127 [.int .i64 (b:Int)] (aM (b:Int)))(d:ag ab G 137 [aM a,aM b] (aW ((a:Rat)/((b:Int):Rat)))):ag ab G 95 [.int .i64 a,.int .i64 (b:Int)] (aW ((a:Rat)/((b:Int):Rat))):=by have e:decide ((b:Int)=0)=false:=dQ ac;exact aI [hb 6 e,hc h1,hc g,hc d]
def alm(b:Ba ab G 187):EZ ab G 203:=λ q c=>by have h1:=b q.num (by have:=c.1;omega);exact aI [hc h1]
def amt(a b:Int)(hd:ag ab G 226 [aM a,aM b] (.aJ [aM (a/b),aM 0,.int .i64 0])):ag ab G 178 [aM a,aM b] (aM (a/b)):=by exact aI [hc hd]
def amj(d:ld ab G 179)(z:Int)(e:af z.natAbs<=4194304000000):ag ab G 187 [aM z] (aM (-z)):=by have b:=d (!decide (z<0)) z.natAbs ac;rw[qz]at b;have c:([0]:List Nat)≠[1]:=al;exact aI [hc b]
def amk(d:ld ab G 179)(z:Int)(e:af z.natAbs<=4194304000000):ag ab G 219 [aM z] (aM z):=by have b:=d (decide (z<0)) z.natAbs ac;rw[Ic]at b;have c:([0]:List Nat)≠[1]:=al;exact aI [hc b]
def ajW(b:ag ab G 188 [.int .i64 1] (aM 1)):ag ab G 189 [] (aM 1):=by exact aI [hc b]
def amy(a b:Int)(d:ag ab G 264 [aM a] (.int .i64 a.sign)):ag ab G 234 [hO a b] (.int .i64 a.sign):=by exact aI [hc d]
def acQ(d:∀z:Int,af z.natAbs<=4194304000000->ag ab G 264 [aM z] (.int .i64 z.sign))(i:∀a b:Int,ag ab G 265 [.int .i64 a,.int .i64 b] (.int .i64 (e5 a b)))(o:hP ab G 262)(s:∀m n,af m<=4194304000000->af n<=4194304000000->ag ab G 266 [W m,W n] (.int .i64 (dU m n)))(y z:Int)(l:af y.natAbs<=4194304000000)(k:af z.natAbs<=4194304000000):ag ab G 235 [aM y,aM z] (.int .i64 (e5 y z)):=by
 have p:=d y l;have j:=d z k;by_cases g:y.sign=z.sign;have h:(y.sign !=z.sign)=false:=by simp[g]
 have r:cO.wrap (y.sign*dU y.natAbs z.natAbs)=e5 y z:=by rw[acP g,cU];rcases n6 y z with⟨e,_⟩|⟨e,_⟩|⟨e,_⟩<;>rw[e]<;>omega
 have q:=iY o y.natAbs ac;have t2:=iY o z.natAbs ac;have f:=s y.natAbs z.natAbs l k;rw[<-r];exact aI [hc p,hc j,hb 13 h,hc q,hc t2,hc f];have h:(y.sign !=z.sign)=true:=by simp[g]
 have f:=i y.sign z.sign;rw[Q3 g]at f;exact aI [hc p,hc j,hb 13 h,hc f]
def agG(z:Int):ag ab G 291 [aM z] (.bool (decide (z=1))):=by
 have b:af 1=1:=by unfold af;rw[sU al,show 1/ah=0 from rfl,iQ];rfl
 by_cases c:z<0;have a:(!decide (z<0))=false:=by rw[fB c];rfl
 rw[dQ (ac:z≠1)];exact aI [hb 6 a];have a:(!decide (z<0))=true:=by rw[dQ c];rfl
 by_cases h1:af z.natAbs=1;have⟨w,hw⟩:=ZD.1 h1;have hv:z.natAbs=w:=by have:=vf z.natAbs;rw[hw]at this;simp[val]at this;omega
 rw[show decide (z=1)=decide ((w:Int)=1)by congr 1;apply propext;omega];have e:aM z=.agg [.bool (decide (z<0)),.sl 1 (us [w])]:=by rw[<-hw];rfl
 rw[e];exact aI [hb 6 a];have f:decide ((af z.natAbs:Int)=1)=false:=dQ ac;rw[dQ (show z≠1 by intro e;rw[e]at h1;exact h1 b)];exact aI [hb 6 a,ho 9 (@eH z.natAbs),hb 10 f]
def aln(z:Int):ag ab G 174 [aM z] (.bool (decide (z=1))):=by
 have b:af 1=1:=by unfold af;rw[sU al,show 1/ah=0 from rfl,iQ];rfl
 by_cases h1:af z.natAbs=1;have⟨w,hw⟩:=ZD.1 h1;have hv:z.natAbs=w:=by have:=vf z.natAbs;rw[hw]at this;simp[val]at this;omega
 have e:aM z=.agg [.bool (decide (z<0)),.sl 1 (us [w])]:=by rw[<-hw];rfl
 rw[e];by_cases f:w=1;have a:decide ((w:Int)=1)=true:=fB ac;rw[show decide (z=1)=!decide (z<0)by by_cases d:z<0;rw[fB d,dQ ac];rfl;rw[dQ d,fB ac];rfl];exact aI [hb 14 a];have a:decide ((w:Int)=1)=false:=dQ ac;rw[dQ (ac:z≠1)];exact aI [hb 14 a];have g:decide ((af z.natAbs:Int)=1)=false:=dQ ac;rw[dQ (show z≠1 by intro e;rw[e]at h1;exact h1 b)];exact aI [ho 5 (@eH z.natAbs),hb 6 g]
def ald(a b:Int)(e:ag ab G 291 [aM b] (.bool (decide (b=1))))(hd:ag ab G 319 [aM a,aM b] (.aJ [aM (a.fdiv b),aM (a.fmod b),.int .i64 0])):ag ab G 307 [aM a,aM b] (aM (a.fdiv b)):=by by_cases h1:b=1;have d:decide (b=1)=true:=fB h1;rw[show a.fdiv b=a by rw[h1,Int.fdiv_one]];exact aI [hc e,sY 9 d];have d:decide (b=1)=false:=dQ h1;exact aI [hc e,sY 9 d,hc hd]
def al7(hu:∀n,n<18446744073709551616->ag ab G 180 [.int .u64 ((n:Nat):Int)] (W n))(g:ld ab G 179)(a:Int)(h1:-9223372036854775808<=a)(i:a<9223372036854775808):ag ab G 127 [.int .i64 a] (aM a):=by have h:=xH a.natAbs;have b:=g (decide (a<0)) a.natAbs ac;rw[Ic]at b;have c:=hu a.natAbs ac;by_cases f:a<0;have e:decide (a<0)=true:=fB f;rw[e]at b;rw[<-show cY.wrap (0-(cY.wrap a))=(a.natAbs:Int)by rw[h5,h5];omega]at c;exact aI [hb 4 e,hc c,hc b];have e:decide (a<0)=false:=dQ f;rw[e]at b;rw[<-show cY.wrap a=(a.natAbs:Int)by rw[h5];omega]at c;exact aI [hb 4 e,hc c,hc b]
def alA(u:∀z:Int,af z.natAbs<=4194304000000->ag ab G 219 [aM z] (aM z))(w:∀m n,af m<=4194304000000->af n<=4194304000000->ag ab G 220 [W m,W n] (W (m+n)))(r:ld ab G 179)(v:∀m n,af m<=4194304000000->af n<=4194304000000->ag ab G 221 [W m,W n] (.int .i64 (dU m n)))(t:∀m n,n<=m->af m<=4194304000000->ag ab G 222 [W m,W n] (W (m-n)))(a b:Int)(h:af a.natAbs<=4194304000000)(i:af b.natAbs<=4194304000000):ag ab G 175 [aM a,aM b] (aM (a+b)):=by
 have s:=u a h;have o:=u b i;have x:af (a.natAbs+b.natAbs)<=4194304000001:=DC h i;have q:=w a.natAbs b.natAbs h i;have k:=v a.natAbs b.natAbs h i;by_cases f:decide (a<0)=decide (b<0);have l:(decide (a<0)==decide (b<0))=true:=by rw[f];exact beq_self_eq_true _
 have c:=r (decide (a<0)) (a.natAbs+b.natAbs) ac;rw[WE f]at c;exact aI [hc s,hc o,hb 13 l,hc q,hc c];have l:(decide (a<0)==decide (b<0))=false:=by simpa using f
 by_cases j:b.natAbs<=a.natAbs;have p:decide (0<=dU a.natAbs b.natAbs)=true:=fB (by simp only[dU,e5];rw[if_neg ac];split<;>decide);have g:=t a.natAbs b.natAbs j h;have c:=r (decide (a<0)) (a.natAbs-b.natAbs) (by have:=fj (D3 a.natAbs b.natAbs);omega);rw[Ib f j]at c;exact aI [hc s,hc o,hb 13 l,hc k,hb 27 p,hc g,hc c];have p:decide (0<=dU a.natAbs b.natAbs)=false:=dQ (by simp only[dU,e5];rw[if_pos ac];decide);have g:=t b.natAbs a.natAbs ac i;have c:=r (decide (b<0)) (b.natAbs-a.natAbs) (by have:=fj (D3 b.natAbs a.natAbs);omega);rw[Ib (λ e=>f e.symm) ac,Int.add_comm]at c;exact aI [hc s,hc o,hb 13 l,hc k,hb 27 p,hc g,hc c]
def amh(g:∀z:Int,af z.natAbs<=4194304000000->ag ab G 219 [aM z] (aM z))(i:∀m n,af m<=4194304000000->af n<=4194304000000->ag ab G 225 [W m,W n] (W (m*n)))(j:ld ab G 179)(a b:Int)(h:af a.natAbs<=4194304000000)(f:af b.natAbs<=4194304000000):ag ab G 177 [aM a,aM b] (aM (a*b)):=by have l:=g a h;have k:=g b f;have e:=i a.natAbs b.natAbs h f;have d:=j (!(decide (a<0)==decide (b<0))) (a.natAbs*b.natAbs) (by have:=Ai a.natAbs b.natAbs;omega);rw[WG]at d;exact aI [hc l,hc k,hc e,hc d]
def ahY(a b g:Int)(i:ag ab G 292 [aM a,aM b] (aM g))(j:ag ab G 281 [aM g] (aM (-g)))(e:∀x y:Int,(x=a\/x=b)->(y=g\/y=-g)->ag ab G 307 [aM x,aM y] (aM (x.fdiv y))):ag ab G 295 [aM a,aM b] (hO (a.fdiv (if b<0 then-g else g)) (b.fdiv (if b<0 then-g else g))):=by by_cases d:b<0;have q1:=e a (-g) (.inl rfl) (.inr rfl);have f:=e b (-g) (.inr rfl) (.inr rfl);rw[if_pos d];have h:=fB d;exact aI [hc i,hb 10 h,hc j,hc q1,hc f];have q1:=e a g (.inl rfl) (.inl rfl);have f:=e b g (.inr rfl) (.inl rfl);rw[if_neg d];have h:=dQ d;exact aI [hc i,hb 10 h,hc q1,hc f]
def ami(a b c d:Int)(x:aa){x1 bE:Int}(p:x=hO x1 bE)(n:∀z,ag ab G 291 [aM z] (.bool (decide (z=1))))(g:ag ab G 236 [aM a,aM c] (aM (a*c)))(h:ag ab G 236 [aM b,aM d] (aM (b*d)))(q:ag ab G 189 [] (aM 1))(m:ag ab G 295 [aM (a*c),aM (b*d)] x):ag ab G 284 [hO a b,hO c d] (if b=1/\d=1 then hO (a*c) 1 else x):=by subst p;have l:=n b;have o:=n d;by_cases j:b=1;have i:=fB j;by_cases hd:d=1;have k:=fB hd;rw[if_pos ⟨j,hd⟩];unfold hO;exact aI [hc l,hb 8 i,hc o,hb 12 k,hc g,hc q];have k:=dQ hd;rw[if_neg λ e=>hd e.2];unfold hO;exact aI [hc l,hb 8 i,hc o,hb 12 k,hc g,hc h,hc m];have i:=dQ j;rw[if_neg λ e=>j e.1];unfold hO;exact aI [hc l,hb 8 i,hc g,hc h,hc m]
def anb(g:hP ab G 262):ld ab G 229:=λ neg n f=>by
 have c:=iY g n f;have d:=@eH n;have j:=gw (n:=n);by_cases h:n=0;have b:decide ((af n:Int)=0)=true:=fB ac;have e:aM (ez neg n)=.agg [.bool false,.sl 1 []]:=by rw[h];cases neg<;>simp[aM,ez,W,iQ,us]
 rw[e];refine ag.xz hN [hc c,ho 8 d,hb 9 b] [] (.agg [.bool false,.aH]) an λ _ _=>View.agg (bZ (fk (AB _)) (bZ (View.aH 1) dc.nil));have b:decide ((af n:Int)=0)=false:=dQ ac;have i:aM (ez neg n)=.agg [.bool neg,W n]:=by cases neg<;>simp only[aM,ez]<;>simp<;>omega
 rw[i];exact aI [hc c,ho 8 d,hb 9 b]
def amz(c:hP ab G 223):ld ab G 179:=λ neg n d=>by
 have b:=iY c n d;have f:=@eH n;have g:=gw (n:=n);have e:decide ((0:Int)<(af n:Int))=decide (0<n):=by congr 1;apply propext;omega
 rw[aaU,<-e];cases neg;exact aI [hc b];exact aI [hc b,ho 10 f]
def ak2(l:J4 ab G 234)(k:vN ab G 236)(q:PQ ab G 235):P1 ab G 195:=λ a b h i=>by
 have h1:=l a h;have j:=l b i;have m:=mm a.num b.den;have u:=mm b.num a.den;rw[gR]at m u;have p:=h.1;have t:=h.2;have o:=i.1;have r:=i.2;have n:=k a.num b.den ac (by rw[gR];omega);have s:=k b.num a.den ac (by rw[gR];omega);have v:=q (a.num*b.den) (b.num*a.den) ac ac;by_cases f:dm a=dm b;have d:(dm a !=dm b)=false:=by simp[f]
 exact aI [hc h1,hc j,hb 13 d,hc n,hc s,hc v];have d:(dm a !=dm b)=true:=by simp[f]
 rw[ak3 f];by_cases e:dm a<dm b;have g:decide (dm a<dm b)=true:=fB e;rw[if_pos e];exact aI [hc h1,hc j,hb 13 d,hb 16 g];have g:decide (dm a<dm b)=false:=dQ e;rw[if_neg e];exact aI [hc h1,hc j,hb 13 d,hb 16 g]
def alj(l:yj ab G 176)(j:ER ab G 186)(g:EP ab G 178)(a:Int)(b:Nat)(f:b≠0)(o:af a.natAbs<=1677721600000)(e:af b<=1677721600000):ag ab G 137 [aM a,aM b] (aW ((a:Rat)/((b:Int):Rat))):=by have h1:=l a b ac e;rw[gB]at h1;have h:=j b e;rw[qR ac]at h;have m:0<cz a.natAbs b:=D2 _ ac;have d:af (((cz a.natAbs b:Nat):Int)).natAbs<=1677721600000:=bx (fj (D4 ac (sk _ _))) e;have i:=g a (cz a.natAbs b:Nat) ac (xV.2 (Az _ _)) ac d;have k:=g b (cz a.natAbs b:Nat) ac (xV.2 (by rw[gB];exact sk _ _)) (by rw[gR];omega) d;rw[ak0 a b f];have n:decide ((1:Int)<0)=false:=rfl;exact aI [hc h1,hc h,hc i,hc k]
def amf(g:hP ab G 223)(neg:Bool)(ws:List Nat)(hw:jV ws)(i:ws.length<=9223372036854775807):ag ab G 249 [tZ neg ws] (.bool (rM neg ws)):=by
 have a:mj false (.sl 1 (us ws))=some (.int .i64 ws.length):=by simp[mj,jw]
 have e:=g ws hw i;have f:=@eH (val ws);rw[<-agN neg hw];have j:decide ((af (val ws):Int)=(ws.length:Int))=decide (af (val ws)=ws.length):=by congr 1;apply propext;omega
 have h:decide ((0:Int)<(ws.length:Int))=decide (0<ws.length):=by congr 1;apply propext;omega
 rw[<-j,<-h];by_cases c:(af (val ws):Int)=(ws.length:Int);have b:decide ((af (val ws):Int)=(ws.length:Int))=true:=fB c;rw[b];cases neg;exact aI [hc e,ho 6 f,ho 9 a,hb 10 b];exact aI [hc e,ho 6 f,ho 9 a,hb 10 b,ho 18 a];have b:decide ((af (val ws):Int)=(ws.length:Int))=false:=dQ c;rw[b];exact aI [hc e,ho 6 f,ho 9 a,hb 10 b]
def ago(s:hP ab G 262)(t:∀m n,af m<=4194304000000->af n<=4194304000000->ag ab G 305 [W m,W n] (W (m+n)))(q:ld ab G 229)(v:∀m n,af m<=4194304000000->af n<=4194304000000->ag ab G 266 [W m,W n] (.int .i64 (dU m n)))(r:∀m n,n<=m->af m<=4194304000000->ag ab G 306 [W m,W n] (W (m-n))):A9 ab G 294:=λ a b x u=>by
 have i:=iY s a.natAbs ac;have h:=iY s b.natAbs ac;have o:=t a.natAbs b.natAbs ac ac;have j:=v a.natAbs b.natAbs ac ac;have w:af (a.natAbs+b.natAbs)<=1677721600001:=DC x u;by_cases f:decide (a<0)=decide (b<0);have l:(decide (a<0)==decide (b<0))=true:=by rw[f];exact beq_self_eq_true _
 have d:=q (decide (a<0)) (a.natAbs+b.natAbs) ac;rw[WE f]at d;exact aI [hc i,hc h,hb 17 l,hc o,hc d];have l:(decide (a<0)==decide (b<0))=false:=by simpa using f
 by_cases k:b.natAbs<=a.natAbs;have p:decide (dU a.natAbs b.natAbs<0)=false:=dQ (by simp only[dU,e5];rw[if_neg ac];split<;>decide);have g:=r a.natAbs b.natAbs k ac;have d:=q (decide (a<0)) (a.natAbs-b.natAbs) (by have:=fj (D3 a.natAbs b.natAbs);omega);rw[Ib f k]at d;exact aI [hc i,hc h,hb 17 l,hc j,hb 27 p,hc g,hc d];have p:decide (dU a.natAbs b.natAbs<0)=true:=fB (by simp only[dU,e5];rw[if_pos ac];decide);have g:=r b.natAbs a.natAbs ac ac;have d:=q (decide (b<0)) (b.natAbs-a.natAbs) (by have:=fj (D3 b.natAbs a.natAbs);omega);rw[Ib (λ e=>f e.symm) ac,Int.add_comm]at d;exact aI [hc i,hc h,hb 17 l,hc j,hb 27 p,hc g,hc d]
def alf(h:yk ab G 174)(I:A9 ab G 175)(V:yj ab G 176)(r:vN ab G 177)(H:EP ab G 178):EY ab G 123:=λ a b Z hB=>by
 have w:=h a.den;have T:=h b.den;have j:=I2 a;have o:=@eH a.num.natAbs;have p:=@eH b.num.natAbs;have n:=I2 b;have arb:=Z.1;have s:=Z.2;have kq:=hB.1;have M:=hB.2;have⟨U,J⟩:=aa7 a b;by_cases a0:a=0;rw[fB a0]at j;rw[show a+b=b from by rw[a0,Rat.zero_add]];exact aI [ho 14 o,hb 15 j] an;rw[dQ a0]at j;by_cases R:b=0;rw[fB R]at n;rw[show a+b=a from by rw[R,Rat.add_zero]];exact aI [ho 14 o,hb 15 j,ho 20 p,hb 21 n] an;rw[dQ R]at n;by_cases f:(a.den:Int)=1/\(b.den:Int)=1;have i:=fB f.1;have m:=fB f.2;have h1:=I a.num b.num ac ac;have X:a+b=((a.num+b.num:Int):Rat):=by rw[ZC,<-yH f.1,<-yH f.2]
 have e:=vS (z:=a.num+b.num) (d:=a.den) (q:=a+b) (by rw[X];rfl) (by rw[X,f.1];rfl);rw[<-e];exact aI [ho 14 o,hb 15 j,ho 20 p,hb 21 n,hc w,hb 26 i,hc T,hb 30 m,hc h1] an;have l:ag ab G 176 [aM a.den,aM b.den] (aM (cz a.den b.den:Nat)):=V a.den b.den (by rw[gR];omega) (by rw[gR];omega);have w1:=mm a.num b.den;have xG:=mm b.num a.den;have YC:=mm a.den b.den;rw[gR]at w1 xG YC;rw[gR]at YC;have F:=h (cz a.den b.den:Nat);have u:0<cz a.den b.den:=Nat.gcd_pos_of_pos_left _ a.den_pos;generalize t:cz a.den b.den=g at*;by_cases g1:g=1;.subst g1;have o4:=h 1;have P:decide ((1:Int)=1)=true:=rfl;have B:=r a.num b.den ac (by rw[gR];omega);have C:=r b.num a.den ac (by rw[gR];omega);have D:=r a.den b.den (by rw[gR];omega) (by rw[gR];omega);have v:=I (a.num*b.den) (b.num*a.den) ac ac;simp only[Nat.div_one,Nat.gcd_one_right,Int.natCast_one,Int.ediv_one]at U J;have e:=vS (z:=a.num*b.den+b.num*a.den) (d:=a.den*b.den) (q:=a+b) U (by rw[J];exact oF _ _);rw[<-e];rcases three _ _ f with⟨i,m⟩|⟨i,m⟩|⟨i,m⟩;exact aI [ho 14 o,hb 15 j,ho 20 p,hb 21 n,hc w,hb 26 i,hc T,hb 30 m,hc l,hc F,hc B,hc C,hc v,hc D] an;all_goals exact aI [ho 14 o,hb 15 j,ho 20 p,hb 21 n,hc w,hb 26 i,hc l,hc F,hc B,hc C,hc v,hc D] an
 have P:decide ((g:Int)=1)=false:=dQ ac;have E:g∣a.den:=t▸Az _ _;have A:g∣b.den:=t▸sk _ _;have K:af ((g:Nat):Int).natAbs<=419430400000:=bx (fj (D4 a.den_pos E)) s;have q1:=H a.den g ac (D5.2 E) (by rw[gR];omega) ac;have O:=H b.den g ac (D5.2 A) (by rw[gR];omega) ac;rw[<-Jj]at q1 O;have arM:af (((a.den/g:Nat):Int)).natAbs<=419430400000:=bx (fj (h6 _ _)) s;have arN:af (((b.den/g:Nat):Int)).natAbs<=419430400000:=bx (fj (h6 _ _)) M;generalize a.den/g=x at*;generalize b.den/g=y at*;have B:=r a.num y ac ac;have C:=r b.num x ac ac;have v1:=mm a.num y;have v2:=mm b.num x;have v:=I (a.num*y) (b.num*x) ac ac;have v3:af (a.num*y+b.num*x).natAbs<=838860800001:=bx (fj (O9 _ _)) (DC (k:=838860800000) ac ac);generalize a.num*y+b.num*x=N at*;have g2:=V N g ac ac;rw[gB]at g2;have hp:0<cz N.natAbs g:=D2 _ u;have Gt:af (((cz N.natAbs g:Nat):Int)).natAbs<=419430400000:=bx (fj (D4 u (sk _ _))) K;have S:((cz N.natAbs g:Nat):Int)∣N:=xV.2 (Az _ _);have L:cz N.natAbs g∣b.den:=Nat.dvd_trans (sk _ _) A;generalize cz N.natAbs g=k at*;have Y:=H N k ac S ac ac;have Q:=H b.den k ac (D5.2 L) (by rw[gR];omega) ac;rw[<-Jj]at Q;have D:=r x ((b.den/k:Nat):Int) ac (bx (fj (h6 _ _)) ac);have e:=vS (z:=N/k) (d:=x*((b.den/k:Nat):Int)) (q:=a+b) U (by rw[J];exact oF _ _);rw[<-e];rcases three _ _ f with⟨i,m⟩|⟨i,m⟩|⟨i,m⟩;exact aI [ho 14 o,hb 15 j,ho 20 p,hb 21 n,hc w,hb 26 i,hc T,hb 30 m,hc l,hc F,sY 45 P,hc q1,hc O,hc B,hc C,hc v,hc g2,hc Y,hc Q,hc D];all_goals exact aI [ho 14 o,hb 15 j,ho 20 p,hb 21 n,hc w,hb 26 i,hc l,hc F,sY 45 P,hc q1,hc O,hc B,hc C,hc v,hc g2,hc Y,hc Q,hc D]
def alk(x:ag ab G 89 [.int .i64 0] (aW 0))(i:yk ab G 174)(r:vN ab G 177)(H:yj ab G 176)(o:EP ab G 178):J3 ab G 124:=λ a b I D=>by
 have y:=i a.den;have C:=i b.den;have j:=I2 a;have m:=@eH a.num.natAbs;have p:=@eH b.num.natAbs;have n:=I2 b;have N:=I.1;have w:=I.2;have M:=D.1;have t:=D.2;have⟨P,L⟩:=aiL a b;by_cases u:a=0\/b=0
 . rw[show a*b=0 from by rcases u with e|e<;>rw[e]<;>simp[Rat.zero_mul,Rat.mul_zero]];have O:(decide (a=0)=true/\decide (b=0)=true)\/(decide (a=0)=true/\decide (b=0)=false)\/(decide (a=0)=false/\decide (b=0)=true):=by by_cases R:a=0<;>by_cases V:b=0<;>simp_all
   rcases O with⟨h,_⟩|⟨h,_⟩|⟨h,l⟩;all_goals rw[h]at j
   exact aI [ho 10 m,hb 11 j,hc x] an;exact aI [ho 10 m,hb 11 j,hc x] an;rw[l]at n;exact aI [ho 10 m,hb 11 j,ho 16 p,hb 17 n,hc x] an
 rw[dQ (λ e=>u (.inl e))]at j;rw[dQ (λ e=>u (.inr e))]at n;by_cases f:(a.den:Int)=1/\(b.den:Int)=1;have h:=fB f.1;have l:=fB f.2;have h1:=r a.num b.num ac ac;have F:a*b=((a.num*b.num:Int):Rat):=by rw[Rat.intCast_mul,<-yH f.1,<-yH f.2]
 have e:=vS (z:=a.num*b.num) (d:=a.den) (q:=a*b) (by rw[F];rfl) (by rw[F,f.1];rfl);rw[<-e];exact aI [ho 10 m,hb 11 j,ho 16 p,hb 17 n,hc y,hb 23 h,hc C,hb 27 l,hc h1];have g1:ag ab G 176 [aM a.num,aM b.den] (aM (cz a.num.natAbs b.den:Nat)):=H a.num b.den ac (by rw[gR];omega);have g2:ag ab G 176 [aM b.num,aM a.den] (aM (cz b.num.natAbs a.den:Nat)):=H b.num a.den ac (by rw[gR];omega);have T:0<cz a.num.natAbs b.den:=D2 _ b.den_pos;have Q:0<cz b.num.natAbs a.den:=D2 _ a.den_pos;have x1:((cz a.num.natAbs b.den:Nat):Int)∣a.num:=xV.2 (Az _ _);have bE:((cz b.num.natAbs a.den:Nat):Int)∣b.num:=xV.2 (Az _ _);have E:cz a.num.natAbs b.den∣b.den:=sk _ _;have J:cz b.num.natAbs a.den∣a.den:=sk _ _;generalize cz a.num.natAbs b.den=g at*;generalize cz b.num.natAbs a.den=k at*;have U:af ((g:Nat):Int).natAbs<=419430400000:=bx (fj (D4 b.den_pos E)) t;have S:af ((k:Nat):Int).natAbs<=419430400000:=bx (fj (D4 a.den_pos J)) w;have q1:=o a.num g ac x1 ac ac;have A:=o b.num k ac bE ac ac;have s:=o a.den k ac (D5.2 J) (by rw[gR];omega) ac;have v:=o b.den g ac (D5.2 E) (by rw[gR];omega) ac;rw[<-Jj]at s v;have K:=r (a.num/g) (b.num/k) (bx (fj (ZE _ _)) ac) (bx (fj (ZE _ _)) ac);have B:=r ((a.den/k:Nat):Int) ((b.den/g:Nat):Int) (bx (fj (h6 _ _)) ac) (bx (fj (h6 _ _)) ac);have e:=vS (z:=a.num/g*(b.num/k)) (d:=((a.den/k:Nat):Int)*((b.den/g:Nat):Int)) (q:=a*b) P (by rw[L];exact oF _ _);rw[<-e];rcases three _ _ f with⟨h,l⟩|⟨h,l⟩|⟨h,l⟩;exact aI [ho 10 m,hb 11 j,ho 16 p,hb 17 n,hc y,hb 23 h,hc C,hb 27 l,hc g1,hc g2,hc q1,hc A,hc K,hc s,hc v,hc B];all_goals exact aI [ho 10 m,hb 11 j,ho 16 p,hb 17 n,hc y,hb 23 h,hc g1,hc g2,hc q1,hc A,hc K,hc s,hc v,hc B]
def ali(j:Ba ab G 187)(a:Rat)(c:a≠0)(k:cE 419430400000 a):ag ab G 227 [aW a] (aW a⁻¹):=by have m:=k.1;have n:=k.2;have f:a.num≠0:=λ e=>c (mw.1 e);have i:=Rat.num_inv a;have l:=Rat.den_inv a;rw[if_neg f]at l;by_cases h:a.num<0;have g:=fB h;have h1:=j a.num ac;have o:=j a.den (by rw[gR];omega);have e:=vS (z:=-(a.den:Int)) (d:=-a.num) (q:=a⁻¹) (by rw[i,Jk h];omega) ac;rw[<-e];exact aI [hb 5 g,hc o,hc h1];have g:=dQ h;have e:=vS (z:=(a.den:Int)) (d:=a.num) (q:=a⁻¹) (by rw[i,qR ac];omega) ac;rw[<-e];exact aI [hb 5 g]
def alL(q:PR ab G 219)(hd:∀m n,n≠0->af m<=3774873600000->af n<=3774873600000->ag ab G 224 [W m,W n] (.aJ [W (m/n),W (m%n)]))(x:ld ab G 179)(B:∀a b:Int,af a.natAbs<=4194304000000->af b.natAbs<=4194304000000->ag ab G 177 [aM a,aM b] (aM (a*b)))(j:∀a b:Int,af a.natAbs<=4194304000000->af b.natAbs<=4194304000000->ag ab G 259 [aM a,aM b] (aM (a-b)))(i:∀z:Int,af z.natAbs<=4194304000000->ag ab G 186 [aM z] (.int .i64 z.sign))(a b:Int)(g:0<b)(f:b∣a)(l:af a.natAbs<=3774873600000)(s:af b.natAbs<=3774873600000):ag ab G 226 [aM a,aM b] (.aJ [aM (a/b),aM 0,.int .i64 0]):=by
 have h1:=q a ac;have C:=q b ac;have A:=hd a.natAbs b.natAbs ac l s;have e:a.natAbs/b.natAbs=(a/b).natAbs:=by obtain⟨c,rfl⟩:=f;rw[Jl _ ac,m7,Pa _ ac]
 have hw:af (a/b).natAbs<=3774873600000:=by rw[<-e];exact bx (fj (h6 _ _)) l
 have k:=x (decide (a<0)) (a.natAbs/b.natAbs) (by rw[e];omega);have v:ez (decide (a<0)) (a.natAbs/b.natAbs)=a/b:=by
   obtain⟨c,rfl⟩:=f;rw[Jl _ ac,m7,Pa _ ac];have:decide (b*c<0)=decide (c<0):=by congr 1;apply propext;constructor;intro h;rcases Pb c 0 with h1|h1;exact h1;have:=Pc (O6 g) h1;omega;intro h;exact Int.mul_neg_of_pos_of_neg g h
   rw[this,Ic]
 rw[v]at k;have o:=B (a/b) b ac ac;rw[Int.ediv_mul_cancel f]at o;have p:=j a a ac ac;rw[Int.sub_self]at p;have w:ag ab G 186 [aM 0] (.int .i64 0):=i 0 (by simp[af,iQ]);have r:=i b ac;rw[qR g]at r;have u:af b.natAbs≠0:=λ e=>by have:=gw.1 e;omega
 have t:decide ((af b.natAbs:Int)=0)=false:=dQ ac;have D:=@eH b.natAbs;have y:(!(decide (a<0)==decide (b<0)))=decide (a<0):=by rw[dQ (ac:¬b<0)];cases decide (a<0)<;>rfl
 have w0:cO.wrap ((0:Int)*1)=0:=al;rw[<-y]at k;exact aI [hc h1,hc C,ho 17 D,hb 18 t,hc A,hc k,hc o,hc p,hc w,hc r]
def ade(w:hP ab G 262)(hd:∀m n,n≠0->af m<=3774873600000->af n<=3774873600000->ag ab G 303 [W m,W n] (.aJ [W (m/n),W (m%n)]))(x:∀m n,af m<=4194304000000->af n<=4194304000000->ag ab G 305 [W m,W n] (W (m+n)))(D:∀m n,n<=m->af m<=4194304000000->ag ab G 306 [W m,W n] (W (m-n)))(j:ld ab G 229)(a b:Int)(y:b≠0)(z:af a.natAbs<=3774873600000)(E:af b.natAbs<=3774873600000):ag ab G 319 [aM a,aM b] (.aJ [aM (ez (lY a b) (FD a b)),aM (ez (decide (b<0)) (FE a b)),.int .i64 0]):=by
 have f:b.natAbs≠0:=ac;have C:af b.natAbs≠0:=λ e=>f (gw.1 e);have k:decide ((af b.natAbs:Int)=0)=false:=dQ ac;have H:=apl a.natAbs b.natAbs;have I:=apm a.natAbs b.natAbs;have F:=apo (a.natAbs/b.natAbs);have K:af (b.natAbs-a.natAbs%b.natAbs)<=af b.natAbs:=fj (D3 _ _);have J:=DD;have h:a.natAbs%b.natAbs<b.natAbs:=bA _ (kX f);have p:=x (a.natAbs/b.natAbs) 1 ac ac;have o:=D b.natAbs (a.natAbs%b.natAbs) (hH h) ac;have l:=iY w b.natAbs ac;have t2:=iY w a.natAbs ac;have g:=hd a.natAbs b.natAbs f z E;have r:=@eH b.natAbs;have v:=@eH (a.natAbs%b.natAbs);have i:=gw (n:=a.natAbs%b.natAbs);have B:=j (decide (b<0)) (b.natAbs-a.natAbs%b.natAbs) ac;have u:=j (decide (b<0)) (a.natAbs%b.natAbs) ac;have s0:=j (lY a b) (a.natAbs/b.natAbs) ac;have A:=j (lY a b) (a.natAbs/b.natAbs+1) ac;unfold FD FE;by_cases d:lY a b=true;by_cases i:0<a.natAbs%b.natAbs;have q:decide ((0:Int)<(af (a.natAbs%b.natAbs):Int))=true:=fB ac;rw[if_pos ⟨d,i⟩,if_pos ⟨d,i⟩];exact aI [hc l,ho 14 r,hb 15 k,hc t2,hc g,hb 31 d,ho 33 v,hb 34 q,uI [([33],⟨us [1],1,false⟩)] p (bZ (fk (vV _)) (bZ (aoN (t:=false)) dc.nil)),hc o,hc A,hc B];have q:decide ((0:Int)<(af (a.natAbs%b.natAbs):Int))=false:=dQ ac;rw[if_neg (λ e=>i e.2),if_neg (λ e=>i e.2)];exact aI [hc l,ho 14 r,hb 15 k,hc t2,hc g,hb 31 d,ho 33 v,hb 34 q,hc s0,hc u];have s:lY a b=false:=by simpa using d
 rw[if_neg (λ e=>d e.1),if_neg (λ e=>d e.1)];exact aI [hc l,ho 14 r,hb 15 k,hc t2,hc g,hb 31 s,hc s0,hc u]
def ala(a b m n:Int)(h1:ag ab G 309 [aM a] (.aJ [aM m,.bool true]))(d:ag ab G 309 [aM b] (.aJ [aM n,.bool true])):ag ab G 299 [hO a b] (.aJ [hO m n,.bool true]):=by
 haveI:bg (hO m n):=by unfold hO;infer_instance
 exact aI [hc h1,hc d]
def ana(j:hP ab G 262)(z:Int)(k:af z.natAbs<=4194304000000):ag ab G 264 [aM z] (.int .i64 z.sign):=by
 have i:af z.natAbs=0↔z=0:=by rw[gw];omega
 have h:=iY j z.natAbs ac;have c:=@eH z.natAbs;by_cases d:z=0;have b:decide ((af z.natAbs:Int)=0)=true:=fB (by have:=i.2 d;omega);rw[show z.sign=0 by rw[d];rfl];exact aI [hc h,ho 7 c,hb 8 b];have b:decide ((af z.natAbs:Int)=0)=false:=dQ (by have:=λ e=>d (i.1 e);omega);by_cases f:z<0;have g:decide (z<0)=true:=fB f;rw[Jk f];exact aI [hc h,ho 7 c,hb 8 b,hb 11 g];have g:decide (z<0)=false:=dQ f;rw[qR ac];exact aI [hc h,ho 7 c,hb 8 b,hb 11 g]
def amx(b:∀z:Int,af z.natAbs<=4194304000000->ag ab G 219 [aM z] (aM z))(z:Int)(j:af z.natAbs<=4194304000000):ag ab G 186 [aM z] (.int .i64 z.sign):=by
 have i:af z.natAbs=0↔z=0:=by rw[gw];omega
 have g:=b z j;have d:=@eH z.natAbs;by_cases h:z=0;have c:decide ((af z.natAbs:Int)=0)=true:=fB (by have:=i.2 h;omega);rw[show z.sign=0 by rw[h];rfl];exact aI [hc g,ho 7 d,hb 8 c];have c:decide ((af z.natAbs:Int)=0)=false:=dQ (by have:=λ e=>h (i.1 e);omega);by_cases b:z<0;have f:decide (z<0)=true:=fB b;rw[Jk b];exact aI [hc g,ho 7 d,hb 8 c,hb 10 f];have f:decide (z<0)=false:=dQ b;rw[qR ac];exact aI [hc g,ho 7 d,hb 8 c,hb 10 f]
def ajs(h:hP ab G 262)(c:∀n,af n<=4194304000000->ag ab G 185 [W n] (W n))(e:ld ab G 229)(z:Int)(d:af z.natAbs<=4194304000000):ag ab G 281 [aM z] (aM (-z)):=by have b:=e (!decide (z<0)) z.natAbs ac;rw[qz]at b;have g:=iY h z.natAbs ac;have f:=c z.natAbs d;exact aI [hc g,hc f,hc b]
def aiM(c:hP ab G 262)(d:∀m n,af m<=4194304000000->af n<=4194304000000->ag ab G 267 [W m,W n] (W (m*n)))(g:ld ab G 229)(y z:Int)(e:af y.natAbs<=4194304000000)(f:af z.natAbs<=4194304000000):ag ab G 236 [aM y,aM z] (aM (y*z)):=by have b:=g (!(decide (y<0)==decide (z<0))) (y.natAbs*z.natAbs) (by have:=Ai y.natAbs z.natAbs;omega);rw[WG]at b;have i:=iY c y.natAbs ac;have t2:=iY c z.natAbs ac;have h:=d y.natAbs z.natAbs e f;exact aI [hc i,hc t2,hc h,hc b]
def ad9(hu:∀n,n<18446744073709551616->ag ab G 230 [.int .u64 ((n:Nat):Int)] (W n))(g:ld ab G 229)(a:Int)(h1:-9223372036854775808<=a)(i:a<9223372036854775808):ag ab G 188 [.int .i64 a] (aM a):=by have h:=xH a.natAbs;have d:=g (decide (a<0)) a.natAbs ac;rw[Ic]at d;have b:=hu a.natAbs ac;by_cases f:a<0;have e:decide (a<0)=true:=fB f;rw[<-show cY.wrap (0-(cY.wrap a))=(a.natAbs:Int)by rw[h5,h5];omega]at b;exact aI [hb 7 e,hc b,hc d];have e:decide (a<0)=false:=dQ f;rw[<-show cY.wrap a=(a.natAbs:Int)by rw[h5];omega]at b;exact aI [hb 7 e,hc b,hc d]
def al8(a:Int)(d:ag ab G 188 [.int .i64 a] (aM a))(c:ag ab G 189 [] (aM 1)):ag ab G 139 [.int .i64 a] (hO a 1):=by exact aI [hc d,hc c]
def alh(a:Int)(d:ag ab G 127 [.int .i64 a] (aM a))(c:ag ab G 127 [.int .i64 1] (aM 1)):ag ab G 89 [.int .i64 a] (hO a 1):=by exact aI [hc d,hc c]
def ah8(c:∀x,x<ah->ag ab G 322 [.int .u32 ((x:Nat):Int)] (.int .i64 (ek x:Int)))(x:Nat)(b:x<ah)(d:0<x):ag ab G 313 [.int .u32 (x:Int)] (.int .i64 ((32-ek x:Nat):Int)):=by
 have hb:ek x<=32:=by
   have h1:=(yy b d).2;have f:2^ek x<2^33:=by unfold ah at b;omega
   have:=(Zw (al:1<2)).1 f;omega
 have e:cO.wrap ((32:Int)-((ek x:Nat):Int))=((32-ek x:Nat):Int):=by rw[cU];omega
 have g:=c x b;rw[<-e];exact aI [hc g]
def amA(i:∀z:Int,af z.natAbs<=4194304000000->ag ab G 187 [aM z] (aM (-z)))(h:∀a b:Int,af a.natAbs<=4194304000000->af b.natAbs<=4194304000000->ag ab G 175 [aM a,aM b] (aM (a+b)))(a b:Int)(f:af a.natAbs<=4194304000000)(d:af b.natAbs<=4194304000000):ag ab G 259 [aM a,aM b] (aM (a-b)):=by have e:=h a (-b) f (by rw[ZB];exact d);rw[<-Int.sub_eq_add_neg]at e;have g:=i b d;exact aI [hc g,hc e]
def agH(z:Int):ag ab G 308 [aM z] (.bool (decide (z=0))):=by
 have e:decide ((af z.natAbs:Int)=0)=decide (z=0):=by have:=gw (n:=z.natAbs);congr 1;apply propext;omega
 rw[<-e];exact aI [ho 5 (@eH z.natAbs)]
end
end Go.Proofs.YtpcofcmencgkbaaGreat
namespace Go.ay
def fr(n:Nat)(l:List (Nat×aa)):List aa:=l.foldl (λ t x=>t.set x.1 x.2) (bM n .top)
def qu(ρ:Id->Id)(l:List (Nat×aa)):List (Nat×aa):=l.map λ x=>(x.1,x.2.aU ρ)
def n8{ρ:Id->Id}{n:Nat}{l:List (Nat×aa)}:br ρ (fr n l)=fr n (qu ρ l):=by
 have h:∀(l:List (Nat×aa))(t:List aa),br ρ (l.foldl (λ t x=>t.set x.1 x.2) t)=(qu ρ l).foldl (λ t x=>t.set x.1 x.2) (br ρ t):=λ l=>by induction l with|nil=>exact λ t=>rfl|cons x l a=>intro t;show br ρ (l.foldl _ (t.set x.1 x.2))=(qu ρ l).foldl _ ((br ρ t).set x.1 (x.2.aU ρ));rw[a,fS,fS,List.map_set]
 show br ρ (l.foldl _ _)=_;rw[h,alY];rfl
class gX(l:List (Nat×aa)):Prop where fix:∀ρ,qu ρ l=l
instance:gX []:=⟨λ _=>rfl⟩
instance{k:Nat}{c:aa}{l:List (Nat×aa)}[h:bg c][g:gX l]:gX ((k,c)::l):=⟨λ ρ=>by show(k,c.aU ρ)::qu ρ l=_;rw[h.fix,g.fix]⟩
def gX.fr{n:Nat}{l:List (Nat×aa)}[h:gX l]{ρ:Id->Id}:br ρ (fr n l)=fr n l:=by rw[n8,h.fix]
def cw.loops:cw->List cw|.seq a b=>a.loops++b.loops|.cond _ a b=>a.loops++b.loops|.block _ c=>c.loops|.loop c=>c::c.loops|_=>[]
def aZ(aB:dO)(k:Nat):cw:=aB.body.loops.getD k .skip
def bK:Nat->Nat|0=>200|l+1=>10000*bK l
def lb(l s:Nat):Nat:=bK (l+1)*s+1000
def le(l s:Nat):Nat:=bK (l+1)*(s+1)
def T8:∀l,200<=bK l|0=>a2 _|l+1=>by have:=T8 l;show 200<=10000*bK l;omega
def Ck{l s N:Nat}(h:N<=9000):lb l s+bK l*N+bK l<=le l s:=by have h1:bK l*N<=bK l*9000:=fK _ h;have b:=T8 l;have a:bK (l+1)=10000*bK l:=rfl;show bK (l+1)*s+1000+bK l*N+bK l<=bK (l+1)*(s+1);rw[dW,m9,a];omega
class cT(k:Nat)(c:aa):Prop where
 pu:bg c
 size:c.size=k
 cells:∀d∈c.cells,cb d
 one:c.cells.all aa.one=true
def kept(b:Nat->Bool)(x:Nat->aa)(i:Nat):List aa:=((a8 i).filter b).map x
def Tx{b:Nat->Bool}{x:Nat->aa}{i:Nat}(h:b i=true):kept b x (i+1)=kept b x i++[x i]:=by unfold kept;rw[ix,lL,gI];simp[h]
def ahm{b:Nat->Bool}{x:Nat->aa}{i:Nat}(h:b i=false):kept b x (i+1)=kept b x i:=by unfold kept;rw[ix,lL,gI];simp[h]
def ahl(b:Nat->Bool)(x:Nat->aa)(i:Nat):(kept b x i).length<=i:=by unfold kept;rw[List.length_map];have:=List.length_filter_le b (a8 i);rwa[List.length_range]at this
def ahk{b:Nat->Bool}{x:Nat->aa}{p:aa->Prop}(h:∀i,p (x i)){i:Nat}:∀e∈kept b x i,p e:=λ e a=>by obtain⟨j,_,rfl⟩:=bp.1 a;exact h j
def bX(q:Id)(k:Nat)(l:List aa):aa:=if l=[]then .aH else .ai q k 0 l.length false
def bu(q:Id)(k:Nat)(l:List aa):List (Id×aG):=if l=[]then []else [(q,⟨l,k,false⟩)]
def gQ{q:Id}{k:Nat}{l:List aa}(h:l≠[]):bX q k l=.ai q k 0 l.length false:=if_neg h
def gn{q:Id}{k:Nat}{l:List aa}(h:l≠[]):bu q k l=[(q,⟨l,k,false⟩)]:=if_neg h
def Ur(q:Id)(k:Nat)(l:List aa):((bu q k l).map (·.1)).Nodup:=by by_cases h:l=[];subst h;exact gW;rw[gn h];simp
def qG{F:List (Id×aG)}:∀{t a:List aa}(k:Nat){v v':aa},fm F t a->gZ F v v'->fm F (t.set k v) (a.set k v')|[],[],_,_,_,h,_=>h|_::_,_::_,0,_,_,h,hv=>⟨hv,h.2⟩|_::_,_::_,k+1,_,_,h,hv=>⟨h.1,qG k h.2 hv⟩|[],_::_,_,_,_,h,_=>h.elim|_::_,[],_,_,_,h,_=>h.elim
def vg{F:List (Id×aG)}:∀(l:List (Nat×aa)){t a:List aa},fm F t a->fm F (l.foldl (λ t x=>t.set x.1 x.2) t) (l.foldl (λ t x=>t.set x.1 x.2) a)|[],_,_,h=>h|x::l,_,_,h=>vg l (qG x.1 h (gZ.same F x.2))
def OE{q:Id}{k:Nat}{l:List aa}(h:∀e∈l,cT k e):gZ (bu q k l) (bX q k l) (.sl k l):=by by_cases a:l=[];subst a;exact vp (View.aH k);rw[gQ a,gn a];refine vp (View.ai (aq:=⟨l,k,false⟩) (by simp[bU]) rfl am ?_ rfl λ d hd=>(h d hd).size);rw[sn,kc (a2 _)];exact my λ c hc=>by have⟨e,b,hc⟩:=kD.1 hc;exact(h e b).cells c hc
section
variable{P:Program}{G:Nat->Option (List aa)}
def ag.xc{f:FuncId}{args:List aa}{r:bG}{d:aa}{p:Id}(h:cj P G f args p [] r)(hv:View (lS (λ _=>none) r.up) r.val d):ag P G f args d:=by refine⟨h.1,λ w vs ok o q=>?_⟩;refine(h.2 _ _ w _ vs am o q (λ _ _=>rfl)).mono λ e w' s=>?_;obtain⟨v,E',rfl,i⟩:=s;refine⟨v,(E'.iS (lS (λ _=>none) r.up)).ok,rfl,?_,?_,hv _ _ _ _ _ i.inv i.rep⟩;have a:=i.iO;refine⟨⟨λ _ _ h=>(by cases h),λ b hb=>.inl (a.step.ok b hb),a.step.same⟩,a.os,a.tape,a.output,a.size,a.block,λ b hb=>?_⟩;rcases hb with hb|⟨id,aq,k,N,l,c⟩;exact a.qm b hb;have⟨g,n,m,ty,j⟩:=i.inv.blk id aq l;rw[j.μ]at c;simp only[a9,cN]at c;rw[<-c.1];exact .inr j.own;rintro b(hb|⟨id,aq,k,N,l,c⟩);exact i.inv.g6 b hb;have⟨g,n,m,ty,j⟩:=i.inv.blk id aq l;rw[j.μ]at c;simp only[a9,cN]at c;rw[<-c.1];exact ll j.heap
abbrev py(aB:dO)(args:List aa)(a:List (aR P G)):ud P G:=bT true 1000 aB.body [0] a ⟨args++bM (aB.aK-args.length) (.aJ []),b5 [],0⟩
def ag.Of{f:FuncId}{aB:dO}(h:kE P f aB)(a:List (aR P G)){args:List aa}{r:aa}[bq args][b:bg r](c:mX aB.results [] (py aB args a)=mW r [] (py aB args a)):ag P G f args r:=ag.xc (p:=[0]) (cj.XS h (λ _=>[]) a args [] r c (bq.fix _) rfl (b.fix _) gW) (fk b.pure)
def ag.pF{f:FuncId}{aB:dO}(h:kE P f aB)(a:List (aR P G))(K:List (Id×aG))(eL:aa){args:List aa}{r:aa}[bq args](d:mX aB.results (K++rest K []) (py aB args a)=mW eL (K++rest K []) (py aB args a))(g:fh (bN 0 [0] λ _=>[]) K=K)(i:eL.aU (bN 0 [0] λ _=>[])=eL)(hd:(K.map (·.1)).Nodup)(hv:∀σ:aL,(∀x∈K,σ x.1=some x.2)->View σ eL r):ag P G f args r:=by
 refine ag.xc (p:=[0]) (cj.kV h (λ _=>[]) a args [] eL K d (bq.fix _) rfl i g gW hd) (hv _ λ x c=>?_);have key:∀(U:List (Id×aG))(σ:aL),(U.map (·.1)).Nodup->∀w∈U,σ.app (U.map λ x=>(x.1,some x.2)) w.1=some w.2:=by intro U;induction U with|nil=>intro σ _ w hw;simp at hw|cons u U j=>intro σ b w hw;simp only[lP,hZ]at b;simp only[lP,lS];rcases ct.1 hw with rfl|hw;rw[aL.Fb,aL.uY];rintro x c e;obtain⟨v,hv,rfl⟩:=bp.1 c;exact b.1 (bp.2 ⟨v,hv,e⟩);exact j _ b.2 w hw
 exact key K _ hd x c
def T5{c:cw}{n N w n0 l:Nat}{e:cf}{F:Nat->List (Nat×aa)}{b:List (Nat×aa)}[v:∀i,gX (F i)][gX b](f:∀i,i<N->List (aR P G))(m:List (aR P G))(k:e≠.normal)(h:∀i(g:i<N),gT [] (fr n (F (i+1))) w (bT true 1000 c [0] (f i g) ⟨fr n (F i),b5 [],0⟩)=gS .normal [] (fr n (F (i+1))) (bT true 1000 c [0] (f i g) ⟨fr n (F i),b5 [],0⟩))(u:gT [] (fr n b) w (bT true 1000 c [0] m ⟨fr n (F N),b5 [],0⟩)=gS e [] (fr n b) (bT true 1000 c [0] m ⟨fr n (F N),b5 [],0⟩))(q:n0+w*N+w<=l):bo P G [0] (.loop c) (λ t s'=>t=e/\bP G [0] s' ⟨fr n b,m8 [],l⟩) ⟨fr n (F 0),bU [],n0⟩:=by
 refine bo.zo (α:=Nat) (λ i=>⟨fr n (F i),bU [],n0+w*i⟩) (λ i=>i<=N) (λ i=>N-i) 0 (by rw[jy];exact bP.refl _ _ _) (dL _) ?_;intro i g;by_cases a:i<N;refine tK (λ _=>[]) (f i a) (fr n (F i)) [] .normal (fr n (F (i+1))) [] w (h i a) gX.fr rfl gX.fr rfl gW λ s hw=>⟨i+1,a,by simp only[];omega,?_⟩;have e:n0+w*i+w=n0+w*(i+1):=by rw[dW,m9];omega
 simp only[];rw[<-e];exact hw;obtain rfl:i=N:=ac;refine tK (λ _=>[]) m (fr n (F i)) [] e (fr n b) [] w u gX.fr rfl gX.fr rfl gW λ s hw=>?_;have p:bP G [0] s ⟨fr n b,m8 [],l⟩:=bP.toT (K:=[]) gW (hw.trans (bP.slots (iN.same _) q));cases e with|normal=>exact(k rfl).elim|exit j=>exact⟨rfl,p⟩|ret=>exact⟨rfl,p⟩
def wU(aB:dO)(k l s N:Nat)(F:Nat->List (Nat×aa))(e:cf)(a:List (Nat×aa))[m:∀i,gX (F i)][gX a](d:∀i,i<N->List (aR P G))(b:List (aR P G))(j:N<=9000:=by omega)(h:∀i(f:i<N),gT [] (fr aB.aK (F (i+1))) (bK l) (bT true 1000 (aZ aB k) [0] (d i f) ⟨fr aB.aK (F i),b5 [],0⟩)=gS .normal [] (fr aB.aK (F (i+1))) (bT true 1000 (aZ aB k) [0] (d i f) ⟨fr aB.aK (F i),b5 [],0⟩):=by intros;kernel_rfl)(g:gT [] (fr aB.aK a) (bK l) (bT true 1000 (aZ aB k) [0] b ⟨fr aB.aK (F N),b5 [],0⟩)=gS e [] (fr aB.aK a) (bT true 1000 (aZ aB k) [0] b ⟨fr aB.aK (F N),b5 [],0⟩):=by kernel_rfl)(c:e≠.normal:=by simp):aR P G:=.h9 [0] (aZ aB k) (fr aB.aK (F 0)) [] (lb l s) e (fr aB.aK a) [] (le l s) (T5 d b c h g (Ck j))
def rC(key k bytes q:Nat)(l:List aa)(x:aa)[d:cT k x](c:(l.length+1)*bytes<=140737488355328)(hb:0<bytes)(f:(l.all λ e=>e.cells.all aa.one)=true):aR P G:=.st key [([q,0],⟨[x],k,false⟩),([1],⟨l,k,false⟩)] (.append k bytes (.ai [1] k 0 l.length false) (.ai [q,0] k 0 1 false)) (λ p=>{val:=.ai p k 0 (l.length+1) false,rd:=[[1],[q,0]],up:=[([1],none),(p,some ⟨l++[x],k,false⟩)]}) (λ σ p a=>by have h:=a ([q,0],⟨[x],k,false⟩) am;have b:=a ([1],⟨l,k,false⟩) am;exact Aa (σ:=σ) (p:=p) (id:=[1]) (k:=k) (bytes:=bytes) (len:=l.length) (x:=.ai [q,0] k 0 1 false) (els:=l) (ys:=[x]) (rd:=[[q,0]]) (by rw[yK h rfl am];rfl) am b rfl c (pd (by have:=tI (l.length+1) hb;simp;omega)) (by simpa using d.one) f)
structure q9(k bytes N:Nat)(l:List aa):Prop where
 len:(l.length+1)*bytes<=140737488355328
 one:(l.all fun e=>e.cells.all aa.one)=true
def kj(P:Program)(G:Nat->Option (List aa))(aB:dO)(k l:Nat)(e:cf)(F b:List (Nat×aa)):Prop:=∃a:List (aR P G),gT [] (fr aB.aK b) (bK l) (bT true 1000 (aZ aB k) [0] a ⟨fr aB.aK F,b5 [],0⟩)=gS e [] (fr aB.aK b) (bT true 1000 (aZ aB k) [0] a ⟨fr aB.aK F,b5 [],0⟩)
def rd{aB:dO}{k l:Nat}{e:cf}{F b:List (Nat×aa)}(a:List (aR P G))(h:gT [] (fr aB.aK b) (bK l) (bT true 1000 (aZ aB k) [0] a ⟨fr aB.aK F,b5 [],0⟩)=gS e [] (fr aB.aK b) (bT true 1000 (aZ aB k) [0] a ⟨fr aB.aK F,b5 [],0⟩):=by kernel_rfl):kj P G aB k l e F b:=⟨a,h⟩
noncomputable def gm(aB:dO)(k l s N:Nat)(F:Nat->List (Nat×aa))(e:cf)(c:List (Nat×aa))[j:∀i,gX (F i)][gX c](h:∀i,i<N->kj P G aB k l .normal (F i) (F (i+1)))(f:kj P G aB k l e (F N) c)(g:N<=9000:=by omega)(d:e≠.normal:=by simp):aR P G:=wU aB k l s N F e c (λ i b=>qS (h i b)) (qS f) g (λ i b=>nR (h i b)) (nR f) d
def A5(P:Program)(G:Nat->Option (List aa))(aB:dO)(k l N c bytes key so:Nat)(hb:0<bytes)(x:aa)[cT c x](F d:List (Nat×aa)):Prop:=∃(q a:Nat)(b:List (aR P G)->List (aR P G)),(gT [([a,0],⟨[x],c,false⟩)] (fr aB.aK ((so,.ai [a,0] c 0 1 false)::d)) (bK l) (bT true 1000 (aZ aB k) [0] (b []) ⟨fr aB.aK ((so,.aH)::F),b5 [],0⟩)=gS .normal [([a,0],⟨[x],c,false⟩)] (fr aB.aK ((so,.ai [a,0] c 0 1 false)::d)) (bT true 1000 (aZ aB k) [0] (b []) ⟨fr aB.aK ((so,.aH)::F),b5 [],0⟩))/\∀(l':List aa)(e:q9 c bytes N l'),gT [([a,0],⟨l'++[x],c,false⟩)] (fr aB.aK ((so,.ai [a,0] c 0 (l'.length+1) false)::d)) (bK l) (bT true 1000 (aZ aB k) [0] (b [rC key c bytes q l' x e.len hb e.one]) ⟨fr aB.aK ((so,.ai [1] c 0 l'.length false)::F),b5 [([1],⟨l',c,false⟩)],0⟩)=gS .normal [([a,0],⟨l'++[x],c,false⟩)] (fr aB.aK ((so,.ai [a,0] c 0 (l'.length+1) false)::d)) (bT true 1000 (aZ aB k) [0] (b [rC key c bytes q l' x e.len hb e.one]) ⟨fr aB.aK ((so,.ai [1] c 0 l'.length false)::F),b5 [([1],⟨l',c,false⟩)],0⟩)
def ug{aB:dO}{k l N c bytes key so:Nat}{hb:0<bytes}{x:aa}[cT c x]{F d:List (Nat×aa)}(q a:Nat)(b:List (aR P G)->List (aR P G))(f:gT [([a,0],⟨[x],c,false⟩)] (fr aB.aK ((so,.ai [a,0] c 0 1 false)::d)) (bK l) (bT true 1000 (aZ aB k) [0] (b []) ⟨fr aB.aK ((so,.aH)::F),b5 [],0⟩)=gS .normal [([a,0],⟨[x],c,false⟩)] (fr aB.aK ((so,.ai [a,0] c 0 1 false)::d)) (bT true 1000 (aZ aB k) [0] (b []) ⟨fr aB.aK ((so,.aH)::F),b5 [],0⟩):=by kernel_rfl)(h1:∀(l':List aa)(e:q9 c bytes N l'),gT [([a,0],⟨l'++[x],c,false⟩)] (fr aB.aK ((so,.ai [a,0] c 0 (l'.length+1) false)::d)) (bK l) (bT true 1000 (aZ aB k) [0] (b [rC key c bytes q l' x e.len hb e.one]) ⟨fr aB.aK ((so,.ai [1] c 0 l'.length false)::F),b5 [([1],⟨l',c,false⟩)],0⟩)=gS .normal [([a,0],⟨l'++[x],c,false⟩)] (fr aB.aK ((so,.ai [a,0] c 0 (l'.length+1) false)::d)) (bT true 1000 (aZ aB k) [0] (b [rC key c bytes q l' x e.len hb e.one]) ⟨fr aB.aK ((so,.ai [1] c 0 l'.length false)::F),b5 [([1],⟨l',c,false⟩)],0⟩):=by intros;kernel_rfl):A5 P G aB k l N c bytes key so hb x F d:=⟨q,a,b,f,h1⟩
def yo(P:Program)(G:Nat->Option (List aa))(aB:dO)(k l c so:Nat)(e:cf)(F b:List (Nat×aa)):Prop:=∃a:List (aR P G),gT [] (fr aB.aK ((so,.aH)::b)) (bK l) (bT true 1000 (aZ aB k) [0] a ⟨fr aB.aK ((so,.aH)::F),b5 [],0⟩)=gS e [] (fr aB.aK ((so,.aH)::b)) (bT true 1000 (aZ aB k) [0] a ⟨fr aB.aK ((so,.aH)::F),b5 [],0⟩)/\∀l':List aa,gT [([1],⟨l',c,false⟩)] (fr aB.aK ((so,.ai [1] c 0 l'.length false)::b)) (bK l) (bT true 1000 (aZ aB k) [0] a ⟨fr aB.aK ((so,.ai [1] c 0 l'.length false)::F),b5 [([1],⟨l',c,false⟩)],0⟩)=gS e [([1],⟨l',c,false⟩)] (fr aB.aK ((so,.ai [1] c 0 l'.length false)::b)) (bT true 1000 (aZ aB k) [0] a ⟨fr aB.aK ((so,.ai [1] c 0 l'.length false)::F),b5 [([1],⟨l',c,false⟩)],0⟩)
def xu{aB:dO}{k l c so:Nat}{e:cf}{F b:List (Nat×aa)}(a:List (aR P G))(d:gT [] (fr aB.aK ((so,.aH)::b)) (bK l) (bT true 1000 (aZ aB k) [0] a ⟨fr aB.aK ((so,.aH)::F),b5 [],0⟩)=gS e [] (fr aB.aK ((so,.aH)::b)) (bT true 1000 (aZ aB k) [0] a ⟨fr aB.aK ((so,.aH)::F),b5 [],0⟩):=by kernel_rfl)(h1:∀l':List aa,gT [([1],⟨l',c,false⟩)] (fr aB.aK ((so,.ai [1] c 0 l'.length false)::b)) (bK l) (bT true 1000 (aZ aB k) [0] a ⟨fr aB.aK ((so,.ai [1] c 0 l'.length false)::F),b5 [([1],⟨l',c,false⟩)],0⟩)=gS e [([1],⟨l',c,false⟩)] (fr aB.aK ((so,.ai [1] c 0 l'.length false)::b)) (bT true 1000 (aZ aB k) [0] a ⟨fr aB.aK ((so,.ai [1] c 0 l'.length false)::F),b5 [([1],⟨l',c,false⟩)],0⟩):=by intros;kernel_rfl):yo P G aB k l c so e F b:=⟨a,d,h1⟩
def ah0{aB:dO}{u l N n0 E k bytes key so:Nat}{e:cf}{F:Nat->List (Nat×aa)}{r:List (Nat×aa)}[hF:∀i,gX (F i)][gX r]{b:Nat->Bool}{x:Nat->aa}[hx:∀i,cT k (x i)](hb:0<bytes)(S:e≠.normal)(h1:∀i,i<N->b i=true->A5 P G aB u l N k bytes key so hb (x i) (F i) (F (i+1)))(I:∀i,i<N->b i=false->yo P G aB u l k so .normal (F i) (F (i+1)))(h3:yo P G aB u l k so e (F N) r)(V:n0+bK l*N+bK l<=E)(aX:(N+1)*bytes<=140737488355328):bo P G [0] (.loop (aZ aB u)) (λ O s'=>O=e/\bP G [0] s' ⟨fr aB.aK ((so,.sl k (kept b x N))::r),m8 [],E⟩) ⟨fr aB.aK ((so,.aH)::F 0),bU [],n0⟩:=by
 have⟨J,jk,T⟩:=h3;revert V;generalize C:bK l=w;intro V;rw[C]at jk T;have B:∀i,∀e∈kept b x i,cT k e:=λ i=>ahk hx;have p:∀i ρ,br ρ (kept b x i)=kept b x i:=λ i ρ=>by rw[fS];exact(List.map_congr_left λ c hc=>(B i c hc).pu.fix ρ).trans (List.map_id _)
 have d:∀{i:Nat}{ρ:Id->Id}{o:aa},br ρ (fr aB.aK ((so,o)::F i))=fr aB.aK ((so,o.aU ρ)::F i):=λ{i ρ o}=>by rw[n8];show fr aB.aK ((so,o.aU ρ)::qu ρ (F i))=_;rw[(hF i).fix]
 have D:∀{ρ:Id->Id}{o:aa},br ρ (fr aB.aK ((so,o)::r))=fr aB.aK ((so,o.aU ρ)::r):=λ{ρ o}=>by rw[n8];show fr aB.aK ((so,o.aU ρ)::qu ρ r)=_;rw[gX.fix]
 have R:∀i,i<N->q9 k bytes N (kept b x i):=λ i X=>⟨by have:=ahl b x i;exact bx (ck _ ac) aX,dY.2 λ e J=>(B i e J).one⟩;refine bo.zo (α:=Nat×Nat) (λ z=>⟨fr aB.aK ((so,bX [z.2,0] k (kept b x z.1))::F z.1),bU (bu [z.2,0] k (kept b x z.1)),n0+w*z.1⟩) (λ z=>z.1<=N) (λ z=>N-z.1) (0,0) (by rw[jy];exact bP.refl _ _ _) (dL _) ?_;rintro⟨i,j⟩X;simp only[]at X⊢;have step:n0+w*i+w=n0+w*(i+1):=by rw[dW,m9];omega
 generalize hm:n0+w*i=m at*;by_cases n:i<N;cases v:b i with|true=>
   have⟨q,a,hs,PF,Z⟩:=h1 i n v;rw[C]at PF Z;by_cases g:kept b x i=[];have f:=Tx (x:=x) v;rw[g,List.nil_append]at f;rw[g];refine tK (λ _=>[]) (hs []) (fr aB.aK ((so,.aH)::F i)) [] .normal (fr aB.aK ((so,.ai [a,0] k 0 1 false)::F (i+1))) [([a,0],⟨[x i],k,false⟩)] w PF d rfl rfl rfl gW λ s hw=>⟨(i+1,m+a),n,by simp only[];omega,?_⟩;rw[d]at hw;have Q:fh (bN m [0] λ _=>[]) [([a,0],(⟨[x i],k,false⟩:aG))]=[([m+a,0],⟨[x i],k,false⟩)]:=by rw[qv,qw];show [(bN m [0] _ ([]++[a,0]),_)]=_;rw[iF,qx,alW,alX,(hx i).pu.fix];rfl
   have L:aa.aU (bN m [0] λ _=>[]) (.ai [a,0] k 0 1 false)=.ai [m+a,0] k 0 1 false:=by show aa.ai (bN m [0] _ ([]++[a,0])) _ _ _ _=_;rw[iF];rfl
   rw[Q,L,step]at hw;simp only[f];rw[gQ am,gn am];exact hw;have f:=Tx (x:=x) v;have h:=p i;have t:=R i n;have M:∀ρ,br ρ (kept b x i++[x i])=kept b x i++[x i]:=λ ρ=>by rw[<-f];exact p (i+1) ρ
   rw[gQ g,gn g];refine tK (λ _=>[j,0]) (hs [rC key k bytes q (kept b x i) (x i) t.len hb t.one]) (fr aB.aK ((so,.ai [1] k 0 (kept b x i).length false)::F i)) [([1],⟨kept b x i,k,false⟩)] .normal (fr aB.aK ((so,.ai [a,0] k 0 ((kept b x i).length+1) false)::F (i+1))) [([a,0],⟨kept b x i++[x i],k,false⟩)] w (Z _ t) d (by rw[qv,qw,qx,h];try rfl) rfl rfl am λ s hw=>⟨(i+1,m+a),n,by simp only[];omega,?_⟩;rw[d]at hw;have Q:fh (bN m [0] λ _=>[j,0]) [([a,0],(⟨kept b x i++[x i],k,false⟩:aG))]=[([m+a,0],⟨kept b x i++[x i],k,false⟩)]:=by rw[qv,qw];show [(bN m [0] _ ([]++[a,0]),_)]=_;rw[iF,qx,M];rfl
   have L:aa.aU (bN m [0] λ _=>[j,0]) (.ai [a,0] k 0 ((kept b x i).length+1) false)=.ai [m+a,0] k 0 ((kept b x i).length+1) false:=by show aa.ai (bN m [0] _ ([]++[a,0])) _ _ _ _=_;rw[iF];rfl
   rw[Q,L,step]at hw;simp only[f];rw[gQ am,gn am,cP,List.length_singleton];exact hw|false=>obtain⟨Y,PG,PH⟩:=I i n v;rw[C]at PG PH;have f:=ahm (x:=x) v;by_cases g:kept b x i=[];rw[g]at f⊢;refine tK (λ _=>[]) Y (fr aB.aK ((so,.aH)::F i)) [] .normal (fr aB.aK ((so,.aH)::F (i+1))) [] w PG d rfl d rfl gW λ s hw=>⟨(i+1,j),n,by simp only[];omega,?_⟩;rw[step]at hw;simp only[f];exact hw;have h:=p i;rw[gQ g,gn g];refine tK (λ _=>[j,0]) Y (fr aB.aK ((so,.ai [1] k 0 (kept b x i).length false)::F i)) [([1],⟨kept b x i,k,false⟩)] .normal (fr aB.aK ((so,.ai [1] k 0 (kept b x i).length false)::F (i+1))) [([1],⟨kept b x i,k,false⟩)] w (PH _) d (by rw[qv,qw,qx,h];try rfl) d (by rw[qv,qw,qx,h];try rfl) am λ s hw=>⟨(i+1,j),n,by simp only[];omega,?_⟩;rw[step]at hw;simp only[f];rw[gQ g,gn g];exact hw
 obtain rfl:i=N:=ac;have H:∀(q':Id)s,bP G [0] s ⟨fr aB.aK ((so,bX q' k (kept b x i))::r),bU (bu q' k (kept b x i)),m+w⟩->bP G [0] s ⟨fr aB.aK ((so,.sl k (kept b x i))::r),m8 [],E⟩:=λ q' s hw=>hw.trans (bP.l1 (bu q' k (kept b x i)) (λ y hy=>w7 (Ur _ _ _) hy) (vg r (qG so (lM _ _) (OE (B i)))) (λ _=>.inl rfl) ac);have A:∀s,bP G [0] s ⟨fr aB.aK ((so,.sl k (kept b x i))::r),m8 [],E⟩->PX G [0] (λ z:Nat×Nat=>(⟨fr aB.aK ((so,bX [z.2,0] k (kept b x z.1))::F z.1),bU (bu [z.2,0] k (kept b x z.1)),n0+w*z.1⟩:du)) (λ z=>z.1<=i) (λ z=>i-z.1) (i,j) (λ O s'=>O=e/\bP G [0] s' ⟨fr aB.aK ((so,.sl k (kept b x i))::r),m8 [],E⟩) e s:=λ s I=>by cases e with|normal=>exact(S rfl).elim|exit j=>exact⟨rfl,I⟩|ret=>exact⟨rfl,I⟩
 by_cases g:kept b x i=[];have h0:bX [j,0] k (kept b x i)=.aH:=by rw[g];rfl
 have h1:bu [j,0] k (kept b x i)=[]:=by rw[g];rfl
 rw[h0,h1];refine tK (λ _=>[]) J (fr aB.aK ((so,.aH)::F i)) [] e (fr aB.aK ((so,.aH)::r)) [] w jk d rfl D rfl gW λ s hw=>A s (H [j,0] s ?_);rw[h0,h1];exact hw;have h:=p i;rw[gQ g,gn g];refine tK (λ _=>[j,0]) J (fr aB.aK ((so,.ai [1] k 0 (kept b x i).length false)::F i)) [([1],⟨kept b x i,k,false⟩)] e (fr aB.aK ((so,.ai [1] k 0 (kept b x i).length false)::r)) [([1],⟨kept b x i,k,false⟩)] w (T _) d (by rw[qv,qw,qx,h];try rfl) D (by rw[qv,qw,qx,h];try rfl) am λ s hw=>A s (H [j,0] s ?_);rw[gQ g,gn g];exact hw
noncomputable def ahZ(aB:dO)(k l s N c bytes key so:Nat)(b:Nat->Bool)(x:Nat->aa)(L:List aa)(F:Nat->List (Nat×aa))(e:cf)(a:List (Nat×aa))(hb:0<bytes/\bytes<=10000)[n:∀i,gX (F i)][gX a][m:∀i,cT c (x i)](h1:∀i,i<N->b i=true->A5 P G aB k l N c bytes key so hb.1 (x i) (F i) (F (i+1)))(j:∀i,i<N->b i=false->yo P G aB k l c so .normal (F i) (F (i+1)))(h:yo P G aB k l c so e (F N) a)(g:kept b x N=L)(f:N<=9000:=by omega)(d:e≠.normal:=by simp):aR P G:=.h9 [0] (aZ aB k) (fr aB.aK ((so,.aH)::F 0)) [] (lb l s) e (fr aB.aK ((so,.sl c L)::a)) [] (le l s) (g▸ah0 hb.1 d h1 j h (Ck f) (by have:=jd (ac:N+1<=9001) hb.2;omega))
noncomputable def Cg(aB:dO)(k l s N c bytes key so:Nat)(x:Nat->aa)(L:List aa)(F:Nat->List (Nat×aa))(e:cf)(a:List (Nat×aa))(hb:0<bytes/\bytes<=10000)[m:∀i,gX (F i)][gX a][n:∀i,cT c (x i)](h1:∀i,i<N->A5 P G aB k l N c bytes key so hb.1 (x i) (F i) (F (i+1)))(f:yo P G aB k l c so e (F N) a)(g:(a8 N).map x=L)(d:N<=9000:=by omega)(b:e≠.normal:=by simp):aR P G:=ahZ aB k l s N c bytes key so (λ _=>true) x L F e a hb (λ i j _=>h1 i j) (λ _ _ h=>by cases h) f (by unfold kept;rw[List.filter_eq_self.2 λ _ _=>rfl];exact g) d b
def bo.Sh{c:cw}{n n0 so kk:Nat}{i:Id}{el:aa}{cs:List aa}{F:List (Nat×aa)}{Q:cf->du->Prop}[a:bq cs](hc:el.cells=cs)(h:bo P G [0] (.loop c) Q ⟨fr n ((so,.cr cs 0)::F),bU [],n0⟩):bo P G [0] (.loop c) Q ⟨fr n ((so,.ref i 0 0)::F),bU [(i,⟨[el],kk,false⟩)],n0⟩:=by subst hc;exact bo.j9 (bP.l1 [(i,⟨[el],kk,false⟩)] (λ y b=>w7 am b) (vg F (qG so (lM _ _) (vp (View.ref (aq:=⟨[el],kk,false⟩) (by simp[bU]) rfl (my a.pure))))) (λ _=>.inl rfl) (a2 _)) h
noncomputable def zp(aB:dO)(k l s N so kk:Nat)(i:Id)(el:aa)(cs:List aa)(F:Nat->List (Nat×aa))(e:cf)(d:List (Nat×aa))[m:bq cs][n:∀j,gX (F j)][gX d](h:∀j,j<N->kj P G aB k l .normal ((so,.cr cs 0)::F j) ((so,.cr cs 0)::F (j+1)))(f:kj P G aB k l e ((so,.cr cs 0)::F N) d)(hc:el.cells=cs:=by rfl)(g:N<=9000:=by omega)(c:e≠.normal:=by simp):aR P G:=.h9 [0] (aZ aB k) (fr aB.aK ((so,.ref i 0 0)::F 0)) [(i,⟨[el],kk,false⟩)] (lb l s) e (fr aB.aK d) [] (le l s) (bo.Sh hc (T5 (F:=λ j=>(so,.cr cs 0)::F j) (λ j b=>qS (h j b)) (qS f) c (λ j b=>nR (h j b)) (nR f) (Ck g)))
structure aD where
 a:Id
 b:Id
 c:Id
 d:Id
end
end Go.ay
namespace Go.ay.aD
def map(ρ:Id->Id)(q:aD):aD:=⟨ρ q.a,ρ q.b,ρ q.c,ρ q.d⟩
def l(q:aD):List Id:=[q.a,q.b,q.c,q.d]
def s:aD:=⟨[1],[2],[3],[4]⟩
def fin(E:Nat):aD:=⟨[E,0],[E+1,0],[E+2,0],[E+3,0]⟩
end Go.ay.aD
namespace Go.ay
class jU(f:aD->aa):Prop where nat:∀ρ q,(f q).aU ρ=f (q.map ρ)
class pV(f:aD->List aa):Prop where nat:∀ρ q,br ρ (f q)=f (q.map ρ)
class fW(f:aD->List (Nat×aa)):Prop where nat:∀ρ q,qu ρ (f q)=f (q.map ρ)
class oV(f:aD->aG):Prop where nat:∀ρ q,(f q).aU ρ=f (q.map ρ)
class dy(f:aD->List (Id×aG)):Prop where nat:∀ρ q,fh ρ (f q)=f (q.map ρ)sub:∀q,((f q).map (·.1)).Sublist q.l
instance ary{c:aa}[h:bg c]:jU (λ _=>c):=⟨λ ρ _=>h.fix ρ⟩
instance{k o n:Nat}{t:Bool}:jU (λ q=>.ai q.a k o n t):=⟨λ _ _=>rfl⟩
instance{k o n:Nat}{t:Bool}:jU (λ q=>.ai q.b k o n t):=⟨λ _ _=>rfl⟩
instance{k o n:Nat}{t:Bool}:jU (λ q=>.ai q.c k o n t):=⟨λ _ _=>rfl⟩
instance{k o n:Nat}{t:Bool}:jU (λ q=>.ai q.d k o n t):=⟨λ _ _=>rfl⟩
instance{e o:Nat}:jU (λ q=>.ref q.a e o):=⟨λ _ _=>rfl⟩
instance{e o:Nat}:jU (λ q=>.ref q.b e o):=⟨λ _ _=>rfl⟩
instance{e o:Nat}:jU (λ q=>.ref q.c e o):=⟨λ _ _=>rfl⟩
instance{e o:Nat}:jU (λ q=>.ref q.d e o):=⟨λ _ _=>rfl⟩
def He{ρ:Id->Id}{q:Id}{k:Nat}{l:List aa}:(bX q k l).aU ρ=bX (ρ q) k l:=by unfold bX;split<;>rfl
instance{k:Nat}{l:List aa}:jU (λ q=>bX q.a k l):=⟨λ _ _=>He⟩
instance{k:Nat}{l:List aa}:jU (λ q=>bX q.b k l):=⟨λ _ _=>He⟩
instance{k:Nat}{l:List aa}:jU (λ q=>bX q.c k l):=⟨λ _ _=>He⟩
instance arA{l:List aa}[h:bq l]:pV (λ _=>l):=⟨λ ρ _=>h.fix ρ⟩
instance(priority:=900){f:aD->aa}{g:aD->List aa}[h:jU f][k:pV g]:pV (λ q=>f q::g q):=⟨λ ρ q=>by show(f q).aU ρ::br ρ (g q)=_;rw[h.nat,k.nat]⟩
instance(priority:=900){f g:aD->List aa}[h:pV f][k:pV g]:pV (λ q=>f q++g q):=⟨λ ρ q=>by show br ρ (f q++g q)=_;rw[HV,h.nat,k.nat]⟩
instance(priority:=900){f:aD->List aa}[h:pV f]:jU (λ q=>.agg (f q)):=⟨λ ρ q=>by show aa.agg (br ρ (f q))=_;rw[h.nat]⟩
instance(priority:=900){f:aD->List aa}[h:pV f]:jU (λ q=>.aJ (f q)):=⟨λ ρ q=>by show aa.aJ (br ρ (f q))=_;rw[h.nat]⟩
instance:fW (λ _=>[]):=⟨λ _ _=>rfl⟩
instance{k:Nat}{f:aD->aa}{g:aD->List (Nat×aa)}[h:jU f][j:fW g]:fW (λ q=>(k,f q)::g q):=⟨λ ρ q=>by show(k,(f q).aU ρ)::qu ρ (g q)=_;rw[h.nat,j.nat]⟩
instance(priority:=800)arz{l:List (Nat×aa)}[h:gX l]:fW (λ _=>l):=⟨λ ρ _=>h.fix ρ⟩
instance{f:aD->List aa}{k:Nat}{b:Bool}[h:pV f]:oV (λ q=>⟨f q,k,b⟩):=⟨λ ρ q=>by show aG.mk (br ρ (f q)) k b=_;rw[h.nat]⟩
instance:dy (λ _=>[]):=⟨λ _ _=>rfl,λ _=>na _⟩
section
variable{x y z:aD->aG}[hx:oV x][hy:oV y][hz:oV z]
instance:dy (λ q=>[(q.a,x q)]):=⟨λ ρ q=>by show [(ρ q.a,(x q).aU ρ)]=_;rw[hx.nat];rfl,λ q=>.cons_cons _ (na _)⟩
instance:dy (λ q=>[(q.b,x q)]):=⟨λ ρ q=>by show [(ρ q.b,(x q).aU ρ)]=_;rw[hx.nat];rfl,λ q=>.cons _ (.cons_cons _ (na _))⟩
instance:dy (λ q=>[(q.c,x q)]):=⟨λ ρ q=>by show [(ρ q.c,(x q).aU ρ)]=_;rw[hx.nat];rfl,λ q=>.cons _ (.cons _ (.cons_cons _ (na _)))⟩
instance:dy (λ q=>[(q.a,x q),(q.b,y q)]):=⟨λ ρ q=>by show [(ρ q.a,(x q).aU ρ),(ρ q.b,(y q).aU ρ)]=_;rw[hx.nat,hy.nat];rfl,λ q=>.cons_cons _ (.cons_cons _ (na _))⟩
instance:dy (λ q=>[(q.b,x q),(q.c,y q)]):=⟨λ ρ q=>by show [(ρ q.b,(x q).aU ρ),(ρ q.c,(y q).aU ρ)]=_;rw[hx.nat,hy.nat];rfl,λ q=>.cons _ (.cons_cons _ (.cons_cons _ (na _)))⟩
instance:dy (λ q=>[(q.a,x q),(q.c,y q)]):=⟨λ ρ q=>by show [(ρ q.a,(x q).aU ρ),(ρ q.c,(y q).aU ρ)]=_;rw[hx.nat,hy.nat];rfl,λ q=>.cons_cons _ (.cons _ (.cons_cons _ (na _)))⟩
instance:dy (λ q=>[(q.a,x q),(q.b,y q),(q.c,z q)]):=⟨λ ρ q=>by show [(ρ q.a,(x q).aU ρ),(ρ q.b,(y q).aU ρ),(ρ q.c,(z q).aU ρ)]=_;rw[hx.nat,hy.nat,hz.nat];rfl,λ q=>.cons_cons _ (.cons_cons _ (.cons_cons _ (na _)))⟩
end
def zT{ρ:Id->Id}{K L:List (Id×aG)}:fh ρ (K++L)=fh ρ K++fh ρ L:=gI
def zt{ρ:Id->Id}{q:Id}{k:Nat}{l:List aa}[h:bq l]:fh ρ (bu q k l)=bu (ρ q) k l:=by unfold bu;split;rfl;show [(ρ q,aG.mk (br ρ l) k false)]=_;rw[h.fix]
def wW{q:Id}{k:Nat}{l:List aa}{K:List (Id×aG)}{L:List Id}(h:(K.map (·.1)).Sublist L):((bu q k l++K).map (·.1)).Sublist (q::L):=by unfold bu;split;exact .cons _ h;exact .cons_cons _ h
section
variable{y z:aD->aG}[hy:oV y][hz:oV z]{k:Nat}{l:List aa}[hl:bq l]{k':Nat}{l':List aa}[ark:bq l']
instance:dy (λ q=>bu q.a k l++[]):=⟨λ ρ q=>by show fh ρ (bu q.a k l++[])=_;rw[zT,zt];rfl,λ q=>wW (na _)⟩
instance:dy (λ q=>bu q.a k l++[(q.b,y q)]):=⟨λ ρ q=>by show fh ρ (bu q.a k l++_)=_;rw[zT,zt];show _++[(ρ q.b,(y q).aU ρ)]=_;rw[hy.nat];rfl,λ q=>wW (.cons_cons _ (na _))⟩
instance:dy (λ q=>bu q.a k l++[(q.b,y q),(q.c,z q)]):=⟨λ ρ q=>by show fh ρ (bu q.a k l++_)=_;rw[zT,zt];show _++[(ρ q.b,(y q).aU ρ),(ρ q.c,(z q).aU ρ)]=_;rw[hy.nat,hz.nat];rfl,λ q=>wW (.cons_cons _ (.cons_cons _ (na _)))⟩
instance:dy (λ q=>bu q.a k l++(bu q.b k' l'++[])):=⟨λ ρ q=>by show fh ρ (bu q.a k l++_)=_;rw[zT,zt,zT,zt];rfl,λ q=>wW (wW (na _))⟩
end
structure fL(m:Nat)(q:aD):Prop where
 nd:q.l.Nodup
 old:∀i∈q.l,∀j,m<=j->¬[j,0]<:+i
def zf:Id->Bool|[k+1]=>Nat.ble k 3|_=>false
def ze(w:Nat):Id->Bool|[]=>false|a::i=>match i with|[]=>false|b::c=>match c with|[]=>Nat.beq b 0&&Nat.blt a w|_::_=>ze w (b::c)
def pn:List Id->Bool|[]=>true|i::l=>(l.all λ j=>!l6 i j)&&pn l
def j4(w:Nat)(τ:aD):Bool:=pn τ.l&&τ.l.all λ i=>zf i||ze w i
def GR{i:Id}(h:zf i=true):i=[1]\/i=[2]\/i=[3]\/i=[4]:=by
 unfold zf at h;split at h;.next k=>have:k<=3:=D0 h;have:k=0\/k=1\/k=2\/k=3:=ac;rcases this with rfl|rfl|rfl|rfl;exact .inl rfl;exact .inr (.inl rfl);exact .inr (.inr (.inl rfl));exact .inr (.inr (.inr rfl))
 cases h
def s9{w:Nat}:∀{i:Id},ze w i=true->∃l a,a<w/\i=l++[a,0]|[a,b],h=>by have d:(Nat.beq b 0&&Nat.blt a w)=true:=h;rw[gU]at d;have h1:b=0:=Nat.eq_of_beq_eq_true d.1;subst h1;exact⟨[],a,D0 d.2,rfl⟩|a::b::c::i,h=>by have⟨l,x,f,e⟩:=s9 (i:=b::c::i) h;exact⟨a::l,x,f,by rw[e];rfl⟩
def tk:∀{l:List Id},pn l=true->l.Nodup|[],_=>gW|i::l,h=>by have a:((l.all λ j=>!l6 i j)&&pn l)=true:=h;rw[gU]at a;refine hZ.2 ⟨λ b=>?_,tk a.2⟩;have:=dY.1 a.1 i b;rw[rJ.2 rfl]at this;cases this
def H8{m a j:Nat}{l:Id}(h:[j,0]<:+l++[m+a,0]):j=m+a:=by have⟨t,e⟩:=h;have:=(ZF e rfl).2;simpa using this
def WC{k j:Nat}:¬[j,0]<:+[k]:=λ h=>by have:=h.length_le;simp at this
def aD.κ(q:aD):Nat->Id|1=>q.a|2=>q.b|3=>q.c|4=>q.d|k=>[k]
def aD.rR(q:aD)(m:Nat):aD.s.map (bN m [0] q.κ)=q:=rfl
def fL.start{m:Nat}{q:aD}(h:j4 m q=true):fL m q:=by unfold j4 at h;rw[gU]at h;refine⟨tk h.1,λ i c j e b=>?_⟩;have:=dY.1 h.2 i c;rw[xX]at this;rcases this with h1|h1;rcases GR h1 with rfl|rfl|rfl|rfl<;>exact WC b;obtain⟨l,a,d,rfl⟩:=s9 h1;have:j=0+a:=H8 (m:=0) (by rwa[Nat.zero_add]);omega
def fL.next{m w:Nat}{q τ:aD}(g:fL m q)(h:j4 w τ=true):fL (m+w) (τ.map (bN m [0] q.κ)):=by
 unfold j4 at h;rw[gU]at h;have t:(τ.map (bN m [0] q.κ)).l=τ.l.map (bN m [0] q.κ):=rfl;have B:=g.nd;simp only[aD.l,hZ,ct,cS,or_false,not_or]at B;have c:∀i,zf i=true->bN m [0] q.κ i∈q.l:=λ i d=>by rcases GR d with rfl|rfl|rfl|rfl<;>simp[bN,aD.κ,aD.l]
 have A:∀i j,zf i=true->zf j=true->bN m [0] q.κ i=bN m [0] q.κ j->i=j:=λ i j d n e=>by rcases GR d with rfl|rfl|rfl|rfl<;>rcases GR n with rfl|rfl|rfl|rfl<;>simp only[bN,aD.κ]at e<;>first|rfl|(exfalso;grind)
 have r:∀i∈τ.l,∀j∈τ.l,bN m [0] q.κ i=bN m [0] q.κ j->i=j:=λ i d j n e=>by have h1:=dY.1 h.2 i d;have f:=dY.1 h.2 j n;rw[xX]at h1 f;rcases h1 with h1|h1<;>rcases f with f|f;exact A i j h1 f e;obtain⟨l,a,k,rfl⟩:=s9 f;rw[iF]at e;exact(g.old _ (c i h1) (m+a) (nP _ _) (e▸ZG _ _)).elim;obtain⟨l,a,k,rfl⟩:=s9 h1;rw[iF]at e;exact(g.old _ (c j f) (m+a) (nP _ _) (e▸ZG _ _)).elim;obtain⟨l,a,k,rfl⟩:=s9 h1;obtain⟨l',a',z,rfl⟩:=s9 f;rw[iF,iF]at e;have⟨y,v⟩:=ZF e rfl;simp only[List.cons.injEq,and_true]at v;rw[y,show a=a' from ac]
 refine⟨?_,λ i d j n p=>?_⟩;rw[t];have s:=tk h.1;unfold List.Nodup at s⊢;rw[List.pairwise_map];refine List.Pairwise.imp_of_mem ?_ s;exact λ{a b}k hb o e=>o (r a k b hb e);rw[t]at d;obtain⟨x,u,rfl⟩:=bp.1 d;have h1:=dY.1 h.2 x u;rw[xX]at h1;rcases h1 with h1|h1;exact g.old _ (c x h1) j ac p;obtain⟨l,a,k,rfl⟩:=s9 h1;rw[iF]at p;have:=H8 p;omega
section
variable{P:Program}{G:Nat->Option (List aa)}
def bF(P:Program)(G:Nat->Option (List aa))(c:cw)(n w:Nat)(e:cf)(A:aD->List (Nat×aa))(bJ:aD->List (Id×aG))(B:aD->List (Nat×aa))(bS:aD->List (Id×aG)):Prop:=∀(q:aD)(m:Nat),fL m q->bo P G [0] c (λ a s'=>a=e/\∃q',fL (m+w) q'/\bP G [0] s' ⟨fr n (B q'),bU (bS q'),m+w⟩) ⟨fr n (A q),bU (bJ q),m⟩
def dy.nd{K:aD->List (Id×aG)}[h:dy K]{m:Nat}{q:aD}(g:fL m q):((K q).map (·.1)).Nodup:=g.nd.sublist (h.sub q)
def bn{c:cw}{n w:Nat}{e:cf}{A B:aD->List (Nat×aa)}{bJ bS:aD->List (Id×aG)}[fW A][fW B][dy bJ][dy bS](τ:aD)(a:List (aR P G))(h:gT (bS τ) (fr n (B τ)) w (bT true 1000 c [0] a ⟨fr n (A aD.s),b5 (bJ aD.s),0⟩)=gS e (bS τ) (fr n (B τ)) (bT true 1000 c [0] a ⟨fr n (A aD.s),b5 (bJ aD.s),0⟩):=by kernel_rfl)(b:j4 w τ=true:=by kernel_rfl):bF P G c n w e A bJ B bS:=λ q m g=>by refine tK q.κ a (fr n (A aD.s)) (bJ aD.s) e (fr n (B τ)) (bS τ) w h (by rw[n8,fW.nat,aD.rR]) (by rw[dy.nat,aD.rR]) rfl rfl (dy.nd g) λ s hw=>⟨rfl,τ.map (bN m [0] q.κ),g.next b,?_⟩;rw[n8,fW.nat,dy.nat]at hw;exact hw
def bF.j9{c:cw}{n w:Nat}{e:cf}{A B b:aD->List (Nat×aa)}{bJ bS a:aD->List (Id×aG)}(h:bF P G c n w e A bJ B bS)(k:∀q m,fL m q->bP G [0] ⟨fr n (B q),bU (bS q),m⟩ ⟨fr n (b q),bU (a q),m⟩):bF P G c n w e A bJ b a:=λ q m g=>(h q m g).mono λ i s'⟨h1,q',d,f⟩=>⟨h1,q',d,f.trans (k q' _ d)⟩
def bP.fin{n m E:Nat}{T:aD->List (Nat×aa)}{K:aD->List (Id×aG)}[fW T][dy K]{q:aD}(g:fL m q)(J:m<=E):bP G [0] ⟨fr n (T q),bU (K q),m⟩ ⟨fr n (T (aD.fin E)),bU (K (aD.fin E)),E+4⟩:=by
 have f:∀{q q':aD}{m E:Nat}(i:Id),m<=E->q.l.Nodup->q.map (mv i [E,0])=q'->bP G [0] ⟨fr n (T q),bU (K q),m⟩ ⟨fr n (T q'),bU (K q'),E+1⟩:=λ{q q' m E}i M A e=>by have:=bP.Us (G:=G) (π:=[0]) (q:=i) (t:=fr n (T q)) (K:=K q) M (A.sublist (dy.sub q));rw[n8,fW.nat,dy.nat,e]at this;exact this
 have A:=g.nd;have v:=g.old;simp only[aD.l,hZ,ct,cS,or_false,not_or]at A;simp only[aD.l,ct,cS,or_false,forall_eq_or_imp,forall_eq]at v;have⟨U,O,ot,D⟩:=v;have r:∀{i:Id}{j:Nat},(∀j,m<=j->¬[j,0]<:+i)->m<=j->[j,0]≠i:=λ h Q e=>h _ Q (e▸vF _);have⟨⟨B,H,C⟩,⟨x,s⟩,p,_⟩:=A;have⟨a,b,c,d⟩:=q;simp only at*;have L:=f (q:=⟨a,b,c,d⟩) (q':=⟨[E,0],b,c,d⟩) (m:=m) (E:=E) a J g.nd (by simp only[aD.map,zx,nE (fE B),nE (fE H),nE (fE C)]);have w:=r O (ac:m<=E);have o:=r ot (ac:m<=E);have k:=r D (ac:m<=E);have z:=r ot (ac:m<=E+1);have qd:=r D (ac:m<=E+1);have u:=r D (ac:m<=E+2);have y:([E,0]:Id)≠[E+1,0]:=am;have F:([E,0]:Id)≠[E+2,0]:=am;have I:([E+1,0]:Id)≠[E+2,0]:=am;have N:=f (q:=⟨[E,0],b,c,d⟩) (q':=⟨[E,0],[E+1,0],c,d⟩) (m:=E+1) (E:=E+1) b (a2 _) (by simp only[aD.l,hZ,ct,cS,or_false,not_or];exact⟨⟨w,o,k⟩,⟨x,s⟩,p,not_false,gW⟩) (by simp only[aD.map,zx,nE w,nE (fE x),nE (fE s)]);have R:=f (q:=⟨[E,0],[E+1,0],c,d⟩) (q':=⟨[E,0],[E+1,0],[E+2,0],d⟩) (m:=E+2) (E:=E+2) c (a2 _) (by simp only[aD.l,hZ,ct,cS,or_false,not_or];exact⟨⟨y,o,k⟩,⟨z,qd⟩,p,not_false,gW⟩) (by simp only[aD.map,zx,nE o,nE z,nE (fE p)]);have S:=f (q:=⟨[E,0],[E+1,0],[E+2,0],d⟩) (q':=aD.fin E) (m:=E+3) (E:=E+3) d (a2 _) (by simp only[aD.l,hZ,ct,cS,or_false,not_or];exact⟨⟨y,F,k⟩,⟨I,qd⟩,u,not_false,gW⟩) (by simp only[aD.map,zx,nE k,nE qd,nE u];rfl);exact((L.trans N).trans R).trans S
def Ch{c:cw}{n N w n0 E:Nat}{e:cf}{d:aD}{T:Nat->aD->List (Nat×aa)}{K:Nat->aD->List (Id×aG)}{c5:aD->List (Nat×aa)}{cm:aD->List (Id×aG)}[fW c5][dy cm](u:fL n0 d)(B:∀i,i<N->bF P G c n w .normal (T i) (K i) (T (i+1)) (K (i+1)))(x:bF P G c n w e (T N) (K N) c5 cm)(o:e≠.normal)(A:n0+w*N+w<=E):bo P G [0] (.loop c) (λ k s'=>k=e/\bP G [0] s' ⟨fr n (c5 (aD.fin E)),m8 (b5 (cm (aD.fin E))),E+4⟩) ⟨fr n (T 0 d),bU (K 0 d),n0⟩:=by
 refine bo.zo (α:=Nat×aD) (λ z=>⟨fr n (T z.1 z.2),bU (K z.1 z.2),n0+w*z.1⟩) (λ z=>z.1<=N/\fL (n0+w*z.1) z.2) (λ z=>N-z.1) (0,d) (by rw[jy];exact bP.refl _ _ _) ⟨dL _,by rw[jy];exact u⟩ ?_;rintro⟨i,q⟩⟨v,p⟩;simp only[]at v p⊢;by_cases a:i<N;refine(B i a q _ p).mono λ k s' r=>?_;obtain⟨rfl,q',h,b⟩:=r;have e:n0+w*i+w=n0+w*(i+1):=by rw[dW,m9];omega
 rw[e]at h b;exact⟨(i+1,q'),⟨a,h⟩,by simp only[];omega,b⟩;obtain rfl:i=N:=ac;refine(x q _ p).mono λ k s' r=>?_;obtain⟨rfl,q',h,b⟩:=r;have m:(aD.fin E).l.Nodup:=by simp[aD.fin,aD.l]
 have s:=bP.toT (m.sublist (dy.sub (f:=cm) _)) (b.trans (bP.fin h A));cases k with|normal=>exact(o rfl).elim|exit j=>exact⟨rfl,s⟩|ret=>exact⟨rfl,s⟩
noncomputable def fQ(aB:dO)(k l s N:Nat)(a:aD)(T:Nat->aD->List (Nat×aa))(K:Nat->aD->List (Id×aG))(e:cf)(c5:aD->List (Nat×aa))(cm:aD->List (Id×aG))[fW c5][dy cm](d:∀i,i<N->bF P G (aZ aB k) aB.aK (bK l) .normal (T i) (K i) (T (i+1)) (K (i+1)))(g:bF P G (aZ aB k) aB.aK (bK l) e (T N) (K N) c5 cm)(f:j4 (lb l s) a=true:=by kernel_rfl)(c:N<=9000:=by omega)(b:e≠.normal:=by simp):aR P G:=.h9 [0] (aZ aB k) (fr aB.aK (T 0 a)) (K 0 a) (lb l s) e (fr aB.aK (c5 (aD.fin (le l s)))) (b5 (cm (aD.fin (le l s)))) (le l s+4) (Ch (fL.start f) d g b (Ck c))
def jD{c:cw}{n w k bytes key so N:Nat}{hb:0<bytes}{A B:aD->List (Nat×aa)}{bJ bS:aD->List (Id×aG)}{l:List aa}{x:aa}[i:cT k x][fW A][fW B][dy (λ q=>bu q.a k l++bJ q)][dy (λ q=>bu q.a k (l++[x])++bS q)](d:l≠[])(b:q9 k bytes N l)(q:Nat)(τ:aD)(e:List (aR P G)->List (aR P G))(h1:gT ([(τ.a,⟨l++[x],k,false⟩)]++bS τ) (fr n ((so,.ai τ.a k 0 (l.length+1) false)::B τ)) w (bT true 1000 c [0] (e [rC key k bytes q l x b.len hb b.one]) ⟨fr n ((so,.ai [1] k 0 l.length false)::A aD.s),b5 ([([1],⟨l,k,false⟩)]++bJ aD.s),0⟩)=gS .normal ([(τ.a,⟨l++[x],k,false⟩)]++bS τ) (fr n ((so,.ai τ.a k 0 (l.length+1) false)::B τ)) (bT true 1000 c [0] (e [rC key k bytes q l x b.len hb b.one]) ⟨fr n ((so,.ai [1] k 0 l.length false)::A aD.s),b5 ([([1],⟨l,k,false⟩)]++bJ aD.s),0⟩):=by kernel_rfl)(h:j4 w τ=true:=by kernel_rfl):bF P G c n w .normal (λ q=>(so,bX q.a k l)::A q) (λ q=>bu q.a k l++bJ q) (λ q=>(so,bX q.a k (l++[x]))::B q) (λ q=>bu q.a k (l++[x])++bS q):=by
 have g:∀p,bX p k (l++[x])=.ai p k 0 (l.length+1) false:=λ p=>by rw[gQ am,cP];rfl
 have f:∀p,bu p k (l++[x])=[(p,⟨l++[x],k,false⟩)]:=λ p=>gn am;refine bn τ (e [rC key k bytes q l x b.len hb b.one]) ?_ h;simp only[g,f,gQ d,gn d];exact h1
def Qf{c:cw}{n w k so:Nat}{A B:aD->List (Nat×aa)}{bJ bS:aD->List (Id×aG)}{x:aa}[h:cT k x][fW A][fW B][dy (λ q=>bu q.a k []++bJ q)][dy (λ q=>bu q.a k [x]++bS q)](τ:aD)(b:List (aR P G))(g:gT ([(τ.a,⟨[x],k,false⟩)]++bS τ) (fr n ((so,.ai τ.a k 0 1 false)::B τ)) w (bT true 1000 c [0] b ⟨fr n ((so,.aH)::A aD.s),b5 (bJ aD.s),0⟩)=gS .normal ([(τ.a,⟨[x],k,false⟩)]++bS τ) (fr n ((so,.ai τ.a k 0 1 false)::B τ)) (bT true 1000 c [0] b ⟨fr n ((so,.aH)::A aD.s),b5 (bJ aD.s),0⟩):=by kernel_rfl)(e:j4 w τ=true:=by kernel_rfl):bF P G c n w .normal (λ q=>(so,bX q.a k [])::A q) (λ q=>bu q.a k []++bJ q) (λ q=>(so,bX q.a k [x])::B q) (λ q=>bu q.a k [x]++bS q):=by have d:∀p,bX p k [x]=.ai p k 0 1 false:=λ p=>gQ am;have f:∀p,bu p k [x]=[(p,⟨[x],k,false⟩)]:=λ p=>gn am;refine bn τ b ?_ e;simp only[d,f];exact g
def sI{c:cw}{n w k bytes key so N:Nat}{hb:0<bytes}{A B:aD->List (Nat×aa)}{bJ bS:aD->List (Id×aG)}{l:List aa}{x:aa}[i:cT k x][bq l][fW A][fW B][h1:dy (λ q=>bu q.a k l++bJ q)][g:dy (λ q=>bu q.a k (l++[x])++bS q)](d:q9 k bytes N l)(q:Nat)(τ:aD)(b:List (aR P G)->List (aR P G))(eL:l=[]->gT ([(τ.a,⟨[x],k,false⟩)]++bS τ) (fr n ((so,.ai τ.a k 0 1 false)::B τ)) w (bT true 1000 c [0] (b []) ⟨fr n ((so,.aH)::A aD.s),b5 (bJ aD.s),0⟩)=gS .normal ([(τ.a,⟨[x],k,false⟩)]++bS τ) (fr n ((so,.ai τ.a k 0 1 false)::B τ)) (bT true 1000 c [0] (b []) ⟨fr n ((so,.aH)::A aD.s),b5 (bJ aD.s),0⟩):=by intros;kernel_rfl)(h:l≠[]->gT ([(τ.a,⟨l++[x],k,false⟩)]++bS τ) (fr n ((so,.ai τ.a k 0 (l.length+1) false)::B τ)) w (bT true 1000 c [0] (b [rC key k bytes q l x d.len hb d.one]) ⟨fr n ((so,.ai [1] k 0 l.length false)::A aD.s),b5 ([([1],⟨l,k,false⟩)]++bJ aD.s),0⟩)=gS .normal ([(τ.a,⟨l++[x],k,false⟩)]++bS τ) (fr n ((so,.ai τ.a k 0 (l.length+1) false)::B τ)) (bT true 1000 c [0] (b [rC key k bytes q l x d.len hb d.one]) ⟨fr n ((so,.ai [1] k 0 l.length false)::A aD.s),b5 ([([1],⟨l,k,false⟩)]++bJ aD.s),0⟩):=by intros;kernel_rfl)(f:j4 w τ=true:=by kernel_rfl):bF P G c n w .normal (λ q=>(so,bX q.a k l)::A q) (λ q=>bu q.a k l++bJ q) (λ q=>(so,bX q.a k (l++[x]))::B q) (λ q=>bu q.a k (l++[x])++bS q):=by by_cases e:l=[];subst e;haveI:dy (λ q=>bu q.a k [x]++bS q):=g;exact Qf τ (b []) (eL rfl) f;exact jD e d q τ b (h e) f
def nK{c:cw}{n w k so:Nat}{e:cf}{A B:aD->List (Nat×aa)}{bJ bS:aD->List (Id×aG)}{l:List aa}[fW A][fW B][dy (λ q=>bu q.a k l++bJ q)][dy (λ q=>bu q.a k l++bS q)](τ:aD)(b:List (aR P G))(g:l=[]->gT (bS τ) (fr n ((so,.aH)::B τ)) w (bT true 1000 c [0] b ⟨fr n ((so,.aH)::A aD.s),b5 (bJ aD.s),0⟩)=gS e (bS τ) (fr n ((so,.aH)::B τ)) (bT true 1000 c [0] b ⟨fr n ((so,.aH)::A aD.s),b5 (bJ aD.s),0⟩):=by intros;kernel_rfl)(h1:l≠[]->gT ([(τ.a,⟨l,k,false⟩)]++bS τ) (fr n ((so,.ai τ.a k 0 l.length false)::B τ)) w (bT true 1000 c [0] b ⟨fr n ((so,.ai [1] k 0 l.length false)::A aD.s),b5 ([([1],⟨l,k,false⟩)]++bJ aD.s),0⟩)=gS e ([(τ.a,⟨l,k,false⟩)]++bS τ) (fr n ((so,.ai τ.a k 0 l.length false)::B τ)) (bT true 1000 c [0] b ⟨fr n ((so,.ai [1] k 0 l.length false)::A aD.s),b5 ([([1],⟨l,k,false⟩)]++bJ aD.s),0⟩):=by intros;kernel_rfl)(d:j4 w τ=true:=by kernel_rfl):bF P G c n w e (λ q=>(so,bX q.a k l)::A q) (λ q=>bu q.a k l++bJ q) (λ q=>(so,bX q.a k l)::B q) (λ q=>bu q.a k l++bS q):=by
 by_cases h:l=[];refine bn τ b ?_ d;have f1:∀p,bX p k l=.aH:=λ p=>by rw[h];rfl
 have f:∀p,bu p k l=[]:=λ p=>by rw[h];rfl
 simp only[f1,f];exact g h;refine bn τ b ?_ d;simp only[gQ h,gn h];exact h1 h
def aoM{F:List (Id×aG)}{q:Id}{k n:Nat}{t:Bool}{l:List aa}(h:bU F q=some ⟨l,k,false⟩)(b:n<=l.length)(a:∀e∈l,cT k e):gZ F (.ai q k 0 n t) (.sl k (l.take n)):=by refine vp (View.ai (aq:=⟨l,k,false⟩) h rfl (by simpa using b) ?_ (by simp;omega) λ d hd=>(a d (gK hd)).size);rw[sn];exact my λ c hc=>by have⟨e,f,hc⟩:=kD.1 hc;exact(a e (gK f)).cells c hc
def Dw{F:List (Id×aG)}{q:Id}{k:Nat}{t:Bool}{l:List aa}(h:bU F q=some ⟨l,k,false⟩)(a:∀e∈l,cT k e):gZ F (.ai q k 0 l.length t) (.sl k l):=by have:=aoM (t:=t) h (a2 _) a;rwa[kc (a2 _)]at this
def bP.F2{n m:Nat}{B:List (Nat×aa)}{K:List (Id×aG)}{a:List (Nat×aa)}(hd:(K.map (·.1)).Nodup)(h:fm K (fr n B) (fr n a)):bP G [0] ⟨fr n B,bU K,m⟩ ⟨fr n a,bU [],m⟩:=bP.l1 K (λ y b=>w7 hd b) h (λ _=>.inl rfl) (a2 _)
def fm.app{F:List (Id×aG)}:∀{a b c d:List aa},fm F a b->fm F c d->fm F (a++c) (b++d)|[],[],_,_,_,h=>h|_::_,_::_,_,_,h,k=>⟨h.1,fm.app h.2 k⟩|[],_::_,_,_,h,_=>h.elim|_::_,[],_,_,h,_=>h.elim
def vJ.same{F:List (Id×aG)}{i:Id}{aq:aG}(a:∀x∈F,x.1≠i)(b:∀e∈aq.els,e.size=aq.k):vJ F i aq aq:=⟨rfl,.inl rfl,λ _=>a,rfl,b,lM _ _⟩
def bP.F3{n m so ln c mN:Nat}{t:Bool}{F:List (Nat×aa)}{q:aD}{L row:List aa}(g:fL m q)(u:∀e∈L,e.size=1)(r:∀e∈row,cT c e)(k:mN=row.length):bP G [0] ⟨fr n ((so,.ai q.a 1 0 ln false)::F),bU [(q.a,⟨L++[.ai q.b c 0 mN t],1,false⟩),(q.b,⟨row,c,false⟩)],m⟩ ⟨fr n ((so,.ai q.a 1 0 ln false)::F),bU [(q.a,⟨L++[.sl c row],1,false⟩)],m⟩:=by
 subst k;have d:q.a≠q.b:=λ e=>by have:=g.nd;simp[aD.l]at this;exact this.1.1 e
 have f:(q.b==q.a)=false:=by simpa using fE d
 have v:∀e∈L++[aa.sl c row],e.size=1:=λ e s=>by rcases List.mem_append.1 s with h|h;exact u e h;rw[cq.1 h];rfl
 refine bP.l1 [(q.b,⟨row,c,false⟩)] (λ y p=>?_) (lM _ _) (λ i=>?_) (a2 _);rw[cq.1 p];show hJ _ _=_;rw[mr,f];simp[hJ];by_cases j:i=q.a;subst j;refine .inr ⟨⟨L++[.ai q.b c 0 row.length t],1,false⟩,⟨L++[.sl c row],1,false⟩,by simp[bU,hJ],by simp[bU,hJ],rfl,.inl rfl,λ _ x o=>by rw[cq.1 o];exact fE d,am,v,?_⟩;show fm _ (flat (L++[_])) (flat (L++[_]));rw[show∀y,flat (L++[y])=flat L++y.cells from λ y=>by simp[flat]];rw[show∀y,flat (L++[y])=flat L++y.cells from λ y=>by simp[flat]];exact fm.app (lM _ _) ⟨Dw (by simp[bU,hJ]) r,trivial⟩;refine .inl ?_;have:(i==q.a)=false:=by simpa using j
 show hJ _ _=_;rw[mr,this];rfl
def bF.yR{c:cw}{n w so k:Nat}{e:cf}{A:aD->List (Nat×aa)}{bJ:aD->List (Id×aG)}{B:List (Nat×aa)}{l:List aa}(h:bF P G c n w e A bJ (λ q=>(so,bX q.a k l)::B) (λ q=>bu q.a k l++[]))(b:∀e∈l,cT k e):bF P G c n w e A bJ (λ _=>(so,.sl k l)::B) (λ _=>[]):=h.j9 λ q m g=>by rw[List.append_nil];exact bP.F2 (Ur _ _ _) (vg B (qG so (lM _ _) (OE b)))
structure eu where
 f:Nat->Rat
 c:∀e:Rat,0<e->∃N,∀m n,N<=m->N<=n->f m-f n<e
end
end Go.ay
namespace Go.ay.eu
def abX(f:Nat->Rat)(N:Nat):∃B:Rat,0<B/\∀n,n<N->-B<f n/\f n<B:=by induction N with|zero=>exact⟨1,al,λ n h=>ac⟩|succ N a=>have⟨B,g,h⟩:=a;by_cases d:0<=f N;refine⟨B+f N+1,ap,λ n b=>?_⟩;by_cases e:n=N;subst e;grind;have:=h n;grind;refine⟨B-f N+1,ap,λ n b=>?_⟩;by_cases e:n=N;subst e;grind;have:=h n;grind
def Bl(a:eu):∃B:Rat,0<B/\∀n,-B<a.f n/\a.f n<B:=by have⟨N,b⟩:=a.c 1 al;have⟨B,e,h⟩:=abX a.f (N+1);refine⟨B+1,ap,λ n=>?_⟩;by_cases d:n<N+1;have:=h n d;grind;have h1:=b n N ac (a2 _);have g:=b N n (a2 _);have:=h N;grind
def tj{x d B e:Rat}(h1:-B<x)(h:x<B)(g:-e<d)(b:d<e):x*d<B*e:=by have i:0<(B-x)*(e+d):=fF ap ap;have a:0<(B+x)*(e-d):=fF ap ap;grind
def e6(a b:eu):Prop:=∀e:Rat,0<e->∃N,∀n,N<=n->a.f n-b.f n<e/\b.f n-a.f n<e
def RO{a b:eu}(h:∀n,a.f n=b.f n):e6 a b:=λ e d=>⟨0,λ n _=>by rw[h n];grind⟩
instance:Setoid eu:=⟨e6,λ a=>RO λ _=>rfl,λ h e g=>by have⟨N,b⟩:=h e g;exact⟨N,λ n d=>⟨(b n d).2,(b n d).1⟩⟩,λ h k e g=>by obtain⟨N,b⟩:=h (e/2) ap;have⟨M,i⟩:=k (e/2) ap;refine⟨N+M,λ n d=>?_⟩;have h1:=b n ac;have j:=i n ac;grind⟩
def add(a b:eu):eu:=⟨λ n=>a.f n+b.f n,λ e i=>by have⟨N,d⟩:=a.c (e/2) ap;obtain⟨M,g⟩:=b.c (e/2) ap;refine⟨N+M,λ m n h k=>?_⟩;have h1:=d m n ac ac;have j:=g m n ac ac;grind⟩
def neg(a:eu):eu:=⟨λ n=>-a.f n,λ e d=>by have⟨N,b⟩:=a.c e d;refine⟨N,λ m n h g=>?_⟩;have h1:=b n m;grind⟩
def const(q:Rat):eu:=⟨λ _=>q,λ e a=>⟨0,λ m n _ _=>ap⟩⟩
def mul(a b:eu):eu:=⟨λ n=>a.f n*b.f n,λ e k=>by
 have⟨A,p,g⟩:=a.Bl;obtain⟨B,q,h⟩:=b.Bl;have hd:0<e/(A+B):=by rw[xW];exact fF k (Rat.inv_pos.2 ap)
 have⟨N,j⟩:=a.c (e/(A+B)) hd;obtain⟨M,i⟩:=b.c (e/(A+B)) hd;refine⟨N+M,λ m n r v=>?_⟩;have h1:=j m n ac ac;have o:=i m n ac ac;have l2:=j n m ac ac;have l:=i n m ac ac;have s:=tj (g m).1 (g m).2 (d:=b.f m-b.f n) (e:=e/(A+B)) ap o;have u:=tj (h n).1 (h n).2 (d:=a.f m-a.f n) (e:=e/(A+B)) ap h1;have t:A*(e/(A+B))+B*(e/(A+B))=e:=ap;grind⟩
def aa6{a a' b d:eu}(h:a ≈ a')(k:b ≈ d):add a b ≈ add a' d:=λ e j=>by have⟨N,g⟩:=h (e/2) ap;have⟨M,i⟩:=k (e/2) ap;refine⟨N+M,λ n l=>?_⟩;have h1:=g n;have m:=i n;simp only[add];grind
def ajr{a a':eu}(h:a ≈ a'):neg a ≈ neg a':=λ e d=>by have⟨N,b⟩:=h e d;refine⟨N,λ n g=>?_⟩;have h1:=b n g;simp only[neg];grind
def aiK{a a' b g:eu}(h:a ≈ a')(k:b ≈ g):mul a b ≈ mul a' g:=λ e q=>by
 have⟨A,r,j⟩:=a.Bl;have⟨B,o,i⟩:=g.Bl;have hd:0<e/(A+B):=by rw[xW];exact fF q (Rat.inv_pos.2 ap)
 have⟨N,m⟩:=h (e/(A+B)) hd;have⟨M,p⟩:=k (e/(A+B)) hd;refine⟨N+M,λ n s=>?_⟩;have h1:=m n ac;have l:=p n ac;have w:=tj (j n).1 (j n).2 (d:=b.f n-g.f n) (e:=e/(A+B)) ap l.1;have v:=tj (i n).1 (i n).2 (d:=a.f n-a'.f n) (e:=e/(A+B)) ap h1.1;have t:=tj (j n).1 (j n).2 (d:=g.f n-b.f n) (e:=e/(A+B)) ap l.2;have u:=tj (i n).1 (i n).2 (d:=a'.f n-a.f n) (e:=e/(A+B)) ap h1.2;have x:A*(e/(A+B))+B*(e/(A+B))=e:=ap;simp only[mul];grind
end Go.ay.eu
namespace Go.ay
def ax:Type:=Quotient (inferInstance:Setoid eu)
end Go.ay
namespace Go.ay.ax
def mk(a:eu):ax:=Quotient.mk _ a
def sound{a b:eu}(h:a ≈ b):mk a=mk b:=Quotient.sound h
def ex(x:ax):∃a,x=mk a:=by induction x using Quotient.ind with|_ a=>exact⟨a,rfl⟩
instance:Add ax:=⟨ZH (λ a b=>mk (a.add b)) λ _ _ _ _ h k=>sound (eu.aa6 h k)⟩
instance:Mul ax:=⟨ZH (λ a b=>mk (a.mul b)) λ _ _ _ _ h k=>sound (eu.aiK h k)⟩
instance:Neg ax:=⟨Quotient.lift (λ a=>mk a.neg) λ _ _ h=>sound (eu.ajr h)⟩
instance:Sub ax:=⟨λ a b=>a+-b⟩
def ofRat(q:Rat):ax:=mk (eu.const q)
instance:NatCast ax:=⟨λ n=>ofRat n⟩
instance:IntCast ax:=⟨λ n=>ofRat n⟩
instance(n:Nat):OfNat ax n:=⟨ofRat n⟩
def same{a b:eu}(h:∀n,a.f n=b.f n):mk a=mk b:=sound (eu.RO h)
def MP(n:Nat):(OfNat.ofNat n:ax)=ofRat n:=rfl
def npow(a:ax):Nat->ax|0=>1|n+1=>npow a n*a
instance:HPow ax Nat ax:=⟨npow⟩
instance:SMul Nat ax:=⟨λ n a=>(n:ax)*a⟩
instance:SMul Int ax:=⟨λ n a=>(n:ax)*a⟩
def ofRat_add(p q:Rat):ofRat p+ofRat q=ofRat (p+q):=same λ _=>rfl
def ofRat_mul(p q:Rat):ofRat p*ofRat q=ofRat (p*q):=same λ _=>rfl
def ofRat_neg(p:Rat):-ofRat p=ofRat (-p):=same λ _=>rfl
def tg(a b:ax):a*b=b*a:=by obtain⟨a,rfl⟩:=ex a;obtain⟨b,rfl⟩:=ex b;exact same λ n=>Rat.mul_comm _ _
def aiq(a b c:ax):a*b*c=a*(b*c):=by obtain⟨a,rfl⟩:=ex a;obtain⟨b,rfl⟩:=ex b;obtain⟨c,rfl⟩:=ex c;exact same λ n=>Rat.mul_assoc _ _ _
def Mi(a:ax):a*1=a:=by obtain⟨a,rfl⟩:=ex a;exact same λ n=>Rat.mul_one _
def Mj(a:ax):a*0=0:=by obtain⟨a,rfl⟩:=ex a;exact same λ n=>Rat.mul_zero _
def TL(a b c:ax):a*(b+c)=a*b+a*c:=by obtain⟨a,rfl⟩:=ex a;obtain⟨b,rfl⟩:=ex b;obtain⟨c,rfl⟩:=ex c;exact same λ n=>Rat.mul_add _ _ _
def aa4(a b:ax):a+b=b+a:=by obtain⟨a,rfl⟩:=ex a;obtain⟨b,rfl⟩:=ex b;exact same λ n=>Rat.add_comm _ _
def aa3(a b c:ax):a+b+c=a+(b+c):=by obtain⟨a,rfl⟩:=ex a;obtain⟨b,rfl⟩:=ex b;obtain⟨c,rfl⟩:=ex c;exact same λ n=>Rat.add_assoc _ _ _
def aa5(a:ax):a+0=a:=by obtain⟨a,rfl⟩:=ex a;exact same λ n=>Rat.add_zero _
def ajo(a:ax):-a+a=0:=by obtain⟨a,rfl⟩:=ex a;exact same λ n=>by show-a.f n+a.f n=0;grind
def intCast_neg(i:Int):((-i:Int):ax)=-(i:ax):=by show ofRat _=-ofRat _;rw[ofRat_neg,Rat.intCast_neg]
instance ring:Lean.Grind.CommRing ax where
 nsmul:=inferInstance;npow:=inferInstance;zsmul:=inferInstance;add_zero:=aa5;add_comm:=aa4;add_assoc:=aa3;mul_assoc:=aiq;mul_one:=Mi;one_mul a:=by rw[tg,Mi]
 left_distrib:=TL;right_distrib a b c:=by rw[tg,TL,tg c,tg c]
 zero_mul a:=by rw[tg,Mj]
 mul_zero:=Mj;pow_zero _:=rfl;pow_succ _ _:=rfl;ofNat_succ n:=by rw[MP,MP,MP,ofRat_add];congr 1;exact Rat.natCast_add _ _
 ofNat_eq_natCast _:=rfl;nsmul_eq_natCast_mul _ _:=rfl;neg_add_cancel:=ajo;sub_eq_add_neg _ _:=rfl;neg_zsmul i a:=by show((-i:Int):ax)*a=-((i:ax)*a);rw[intCast_neg];obtain⟨a,rfl⟩:=ex a;exact same λ n=>by show-(i:Rat)*a.f n=-((i:Rat)*a.f n);grind
 zsmul_natCast_eq_nsmul n a:=by show((n:Int):ax)*a=(n:ax)*a;congr 1
 intCast_ofNat n:=rfl;intCast_neg:=intCast_neg;mul_comm:=tg
end Go.ay.ax
