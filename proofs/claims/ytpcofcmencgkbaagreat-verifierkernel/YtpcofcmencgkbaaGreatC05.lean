/- For the claim of VerifierKernel: parts RE2, TW1, TW2, TW3, TW4, TW5, TW6, TW7, TW8, TW9, TWA, FT1, MX1, MX2, MX3, MX4, MX5, MX6, MX7, MX8, MX9, MXA, MXB, TV1. -/
import Derived.Test.YtpcofcmencgkbaaGreatC04
set_option linter.defProp false
set_option linter.unusedSectionVars false
set_option linter.unusedSimpArgs false
set_option linter.unusedVariables false
set_option maxRecDepth 100000
open Classical renaming choose->qS,choose_spec->nR,not_forall->Pe,not_imp->ZQ,propDecidable->xZ
open Go.ay.eu renaming const->Jp
open Go.ay.ax renaming ofRat->dG,ofRat_mul->oG
open Int renaming natAbs_mul->m7,natAbs_natCast->gB
open Lean.Grind.Field renaming mul_inv_cancel->ZL
open Lean.Grind.OrderedRing renaming zero_lt_one->aqX
open Lean.Grind.Ring renaming sub_eq_add_neg->sr
open List renaming append_inj->ZT,foldl_cons->qT,getD_eq_getElem?_getD->dt,getElem?_eq_getElem->eO,getElem?_eq_none->pP,getElem_mem->bf,getElem_take->ZP,getElem_zipWith->D9,length_append->cP,length_cons->gC,length_map->aQ,length_range->dx,length_set->kf,length_singleton->k7,length_take->gV,length_zipWith->ke,mem_append->jh,mem_append_left->qP,mem_append_right->xP,mem_cons->ct,mem_cons_of_mem->cR,mem_cons_self->cp,mem_iff_getElem->gJ,mem_map->bp,mem_of_mem_take->gK,mem_or_eq_of_mem_set->AA,mem_singleton->cq,nodup_cons->hZ,nodup_nil->gW,not_mem_nil->cS,of_mem_zip->Jr,pairwise_iff_getElem->D8,range->a8,take_append_of_le_length->Eb,take_length->kB,take_succ_eq_append_getElem->nT,zip->vt
open List.cons renaming inj->ZR
open Nat renaming le_mul_self->AE,le_of_lt_succ->ZU,le_refl->a2,le_succ->Ph,le_trans->bx,lt_of_le_of_lt->gA,lt_succ_of_lt->ZV,mul_add->dW,mul_assoc->fu,mul_comm->c9,mul_le_mul->jd,mul_le_mul_left->fK,mul_le_mul_right->ck,mul_left_comm->oH,mul_one->m9,mul_pos->nS,not_lt_zero->fv,one_le_two_pow->vr,pow_add->ic,pow_le_pow_right->dT,pow_lt_pow_right->tM,pow_succ->ea,zero_le->dL
open Nat.Coprime renaming mul_right->ZN
open Prod renaming ext->mz
open Rat renaming div_def->xW,intCast_le_intCast->tL,intCast_mul->xY,intCast_neg->Jq,inv_pos->vq,lt_floor_add_one->ZK,mul_inv_cancel->ss,mul_nonneg->jS,mul_pos->fF,natCast_add->Pf,natCast_le_natCast->D7,natCast_mul->AD,natCast_nonneg->Pg,num_eq_zero->mw,num_nonneg->D6
open Setoid renaming symm->ZI
namespace Go.ay.eu
def le(a b:eu):Prop:=∀e:Rat,0<e->∃N,∀n,N<=n->a.f n<b.f n+e
def TN{a a' b d:eu}(h:a ≈ a')(k:b ≈ d)(l:le a b):le a' d:=λ e o=>by have⟨N,i⟩:=h (e/3) ap;have⟨M,j⟩:=k (e/3) ap;have⟨L,g⟩:=l (e/3) ap;refine⟨N+M+L,λ n p=>?_⟩;have h1:=i n;have q:=j n;have m:=g n;grind
def F8{a b:eu}(h:¬le a b):∃e:Rat,0<e/\∃N,∀n,N<=n->b.f n+e<a.f n:=by unfold le at h;simp only[Pe,not_exists]at h;have⟨e,o,h⟩:=h;have⟨N,g⟩:=a.c (e/4) ap;have⟨M,j⟩:=b.c (e/4) ap;have⟨k,l⟩:=h (N+M);have⟨i,m⟩:=l;refine⟨e/4,ap,N+M,λ n q=>?_⟩;have h1:=g k n;have p:=j n k;grind
def MI{a b:eu}{e:Rat}(g:0<e){N:Nat}(h:∀n,N<=n->b.f n+e<a.f n):¬le a b:=λ d=>by have⟨M,i⟩:=d e g;have h1:=i (N+M);have j:=h (N+M);grind
end Go.ay.eu
namespace Go.ay.ax
def le(x y:ax):Prop:=Quotient.liftOn₂ x y eu.le λ _ _ _ _ h k=>propext ⟨eu.TN h k,eu.TN (ZI h) (ZI k)⟩
instance:LE ax:=⟨le⟩
instance:LT ax:=⟨λ x y=>¬y<=x⟩
def lt_def{x y:ax}:x<y↔¬y<=x:=Iff.rfl
def total(x y:ax):x<=y\/y<=x:=by obtain⟨a,rfl⟩:=ex x;obtain⟨b,rfl⟩:=ex y;by_cases h:eu.le a b;exact .inl h;have⟨e,g,N,c⟩:=eu.F8 h;exact .inr λ d hd=>⟨N,λ n f=>by have:=c n f;grind⟩
def trans{x y z:ax}(h:x<=y)(k:y<=z):x<=z:=by obtain⟨a,rfl⟩:=ex x;obtain⟨b,rfl⟩:=ex y;obtain⟨c,rfl⟩:=ex z;intro e i;have⟨N,d⟩:=h (e/2) ap;have⟨M,f⟩:=k (e/2) ap;refine⟨N+M,λ n g=>?_⟩;have h1:=d n;have j:=f n;grind
def aba{x y:ax}(h:x<=y)(k:y<=x):x=y:=by obtain⟨a,rfl⟩:=ex x;obtain⟨b,rfl⟩:=ex y;refine sound λ e c=>?_;have⟨N,d⟩:=h e c;have⟨M,f⟩:=k e c;refine⟨N+M,λ n g=>?_⟩;have h1:=d n;have i:=f n;grind
instance:Std.IsLinearOrder ax where le_refl x:=(total x x).elim id id;le_trans _ _ _:=trans;le_antisymm _ _:=aba;le_total:=total
instance:Std.LawfulOrderLT ax where lt_iff x y:=⟨λ h=>⟨(total x y).resolve_right h,h⟩,λ h=>h.2⟩
def E5(x y z:ax)(h:x<=y):x+z<=y+z:=by obtain⟨a,rfl⟩:=ex x;obtain⟨b,rfl⟩:=ex y;obtain⟨c,rfl⟩:=ex z;intro e g;have⟨N,d⟩:=h e g;exact⟨N,λ n i=>by have:=d n i;show a.f n+c.f n<b.f n+c.f n+e;grind⟩
def mul_pos{x y:ax}(h:0<x)(k:0<y):0<x*y:=by obtain⟨a,rfl⟩:=ex x;obtain⟨b,rfl⟩:=ex y;have⟨e,c,N,g⟩:=eu.F8 h;have⟨d,hd,M,i⟩:=eu.F8 k;refine eu.MI (e:=e*d) (N:=N+M) (fF c hd) λ n j=>?_;have h1:(0:Rat)+e<a.f n:=g n ac;have m:(0:Rat)+d<b.f n:=i n ac;have o:0<(a.f n-e)*b.f n:=fF ap ap;have l:0<e*(b.f n-d):=fF c ap;show(0:Rat)+e*d<a.f n*b.f n;grind
def sub_pos{x y:ax}:x<y↔0<y-x:=by rw[lt_def,lt_def];refine not_congr ⟨λ h=>?_,λ h=>?_⟩;have:=E5 y x (-x) h;rwa[<-sr,<-sr,show x-x=0 from ap]at this;have:=E5 (y-x) 0 x h;rwa[show y-x+x=y from ap,show(0:ax)+x=x from ap]at this
def tj{x y z:ax}(h:x<y)(k:0<z):z*x<z*y:=by rw[sub_pos]at h⊢;have:=mul_pos k h;rwa[show z*(y-x)=z*y-z*x from ap]at this
instance:Lean.Grind.OrderedRing ax where
 add_le_left_iff{a b}c:=⟨E5 a b c,λ h=>by have:=E5 _ _ (-c) h;rwa[show a+c+-c=a from ap,show b+c+-c=b from ap]at this⟩;zero_lt_one:=eu.MI (a:=Jp 1) (b:=Jp 0) (e:=1/2) (N:=0) ap λ n _=>by show(0:Rat)+1/2<1;grind
 mul_lt_mul_of_pos_left:=tj;mul_lt_mul_of_pos_right{a b c}h k:=by rw[tg a c,tg b c];exact tj h k
def inv_pos{x:ax}(h:0<x):∃y,x*y=1:=by
 obtain⟨a,rfl⟩:=ex x;have⟨e,g,N,p⟩:=eu.F8 h;have b:∀n,N<=n->e<a.f n:=λ n o=>by have h1:(0:Rat)+e<a.f n:=p n o;grind
 refine⟨mk ⟨λ n=>(a.f (n+N))⁻¹,λ d hd=>?_⟩,sound λ d hd=>?_⟩;have⟨M,j⟩:=a.c (d*(e*e)) (fF hd (fF g g));refine⟨M,λ m n D o=>?_⟩;have h1:=b (m+N);have r:=b (n+N);have s:=j (n+N) (m+N);generalize a.f (m+N)=u at*;generalize a.f (n+N)=v at*;have q:0<d*((u-e)*v):=fF hd (fF ap ap);have z:0<d*(e*(v-e)):=fF hd (fF g ap);have A:v-u<d*(u*v):=ap;have hu:=ss u ap;have i:=ss v ap;have k:0<u⁻¹*v⁻¹:=fF (vq.2 ap) (vq.2 ap);generalize u⁻¹=x at*;generalize v⁻¹=y at*;have l:0<(d*(u*v)-(v-u))*(x*y):=fF ap k;have e:(d*(u*v)-(v-u))*(x*y)=d*((u*x)*(v*y))-((v*y)*x-(u*x)*y):=ap;rw[e,hu,i]at l;grind;have⟨B,w,C⟩:=a.Bl;have⟨M,j⟩:=a.c (d*e) (fF hd g);refine⟨M+N,λ n o=>?_⟩;have h1:=b n;have r:=b (n+N);have s:=j n (n+N);have q:=j (n+N) n;show a.f n*(a.f (n+N))⁻¹-1<d/\1-a.f n*(a.f (n+N))⁻¹<d;generalize a.f (n+N)=v at*;generalize a.f n=u at*;have i:=ss v ap;have k:0<v⁻¹:=vq.2 ap;have z:0<d*(v-e):=fF hd ap;generalize v⁻¹=y at*;have l:0<(d*v-(u-v))*y:=fF ap k;have t:0<(d*v-(v-u))*y:=fF ap k;rw[show(d*v-(u-v))*y=d*(v*y)-(u*y-v*y)from ap,i]at l;rw[show(d*v-(v-u))*y=d*(v*y)-(v*y-u*y)from ap,i]at t;grind
def wM{x:ax}(h:x≠0):∃y,x*y=1:=by by_cases h1:0<x;exact inv_pos h1;have⟨y,a⟩:=inv_pos (x:=-x) ap;exact⟨-y,ap⟩
open Classical in noncomputable instance:_root_.Inv ax:=⟨fun x=>if h:x=0 then 0 else qS (wM h)⟩
noncomputable instance:Div ax:=⟨λ x y=>x*y⁻¹⟩
noncomputable def zpow(a:ax):Int->ax|.ofNat n=>npow a n|.negSucc n=>(npow a (n+1))⁻¹
noncomputable instance:HPow ax Int ax:=⟨zpow⟩
def DR:(0:ax)⁻¹=0:=dif_pos rfl
def qk{x:ax}(h:x≠0):x*x⁻¹=1:=by have e:x⁻¹=qS (wM h):=dif_neg h;rw[e];exact nR (wM h)
def zero_ne_one:(0:ax)≠1:=λ h=>by have:(0:ax)<1:=aqX;rw[<-h]at this;grind
def inv_inv(x:ax):x⁻¹⁻¹=x:=by
 by_cases h:x=0;rw[h,DR,DR];have h1:=qk h;have a:x⁻¹≠0:=λ e=>by rw[e,Mj]at h1;exact zero_ne_one h1
 have b:=qk a;generalize x⁻¹=y at*;generalize y⁻¹=z at*;grind
noncomputable instance:Lean.Grind.Field ax where zpow:=inferInstance;div_eq_mul_inv _ _:=rfl;zero_ne_one:=zero_ne_one;inv_zero:=DR;mul_inv_cancel:=qk;zpow_zero _:=rfl;zpow_succ _ _:=rfl;zpow_neg a n:=by cases n with
   |ofNat n=>cases n with|zero=>show npow a 0=(npow a 0)⁻¹;have:=qk (x:=1) (λ h=>zero_ne_one h.symm);rw[tg,Mi]at this;exact this.symm|succ n=>rfl
   |negSucc n=>exact(inv_inv _).symm
def Hr{p q:Rat}(h:p<q):ofRat p<ofRat q:=eu.MI (a:=Jp q) (b:=Jp p) (e:=(q-p)/2) (N:=0) ap λ n _=>by show p+(q-p)/2<q;grind
def Hq{p q:Rat}(h:ofRat p=ofRat q):p=q:=by by_cases h1:p<q;have:=Hr h1;rw[h]at this;grind;by_cases a:q<p;have:=Hr a;rw[h]at this;grind;grind
def ajq(q d:Rat)(H:0<=q)(hd:0<d):∃r:Rat,0<=r/\r*r<=q/\q<r*r+d:=by
 have⟨t,a,B,y⟩:∃t:Rat,0<t/\t<=1/\t*(2*(q+1)+1)<=d:=by by_cases h:(2*(q+1)+1)<=d;exact⟨1,al,ap,ap⟩;have p:0<(2*(q+1)+1):=ap;have g:=ss (2*(q+1)+1) ap;have c:=vq.2 p;generalize(2*(q+1)+1)=s at*;generalize s⁻¹=i at*;have h1:0<(s-d)*i:=fF ap c;exact⟨d*i,fF hd c,ap,by rw[show d*i*s=d*(s*i)from ap,g];grind⟩
 have f:∃k:Nat,q<(k*t)*(k*t):=by
   have g:=ss (t*t) (by have:=fF a a;grind);have c:=vq.2 (fF a a);have x:=ZK (q*(t*t)⁻¹);generalize J:(q*(t*t)⁻¹).floor+1=n at x;generalize(t*t)⁻¹=i at*;have I:0<=q*i:=by by_cases h:q=0;rw[h];grind;have:=fF (ap:0<q) c;grind
   have F:(0:Rat)<n:=ap;have E:0<n:=by by_cases h:0<n;exact h;have:(n:Rat)<=((0:Int):Rat):=tL.2 ac;have o:((0:Int):Rat)=0:=rfl;grind
   refine⟨n.toNat,?_⟩;have e:((n.toNat:Nat):Rat)=(n:Rat):=by have:((n.toNat:Nat):Int)=n:=ac;rw[<-this];rfl
   rw[e];have h1:(1:Rat)<=n:=by have:((1:Int):Rat)<=(n:Rat):=tL.2 ac;exact this
   have l:0<=((n:Rat)-1)*n:=jS ap ap;have u:0<((n:Rat)-q*i)*(t*t):=fF ap (fF a a);have v:0<=(((n:Rat)-1)*n)*(t*t):=jS l (by have:=fF a a;grind);have G:((n:Rat)-q*i)*(t*t)=n*(t*t)-q*((t*t)*i):=ap;rw[g]at G;grind
 have⟨k,m⟩:=f;have b:∀k:Nat,q<(k*t)*(k*t)->∃j:Nat,(j*t)*(j*t)<=q/\q<((j+1:Nat)*t)*((j+1:Nat)*t):=by intro k;induction k with|zero=>intro h;have o:((0:Nat):Rat)=0:=rfl;rw[o]at h;grind|succ k w=>intro h;by_cases h1:q<(k*t)*(k*t);exact w h1;exact⟨k,ap,h⟩
 have⟨j,h1,l⟩:=b k m;have z:((j+1:Nat):Rat)=j+1:=Pf _ _;rw[z,show((j:Rat)+1)*t=j*t+t from ap]at l;have D:(0:Rat)<=j:=Pg;have C:0<=(j:Rat)*t:=jS D ap;refine⟨j*t,C,h1,?_⟩;generalize(j:Rat)*t=r at*;have A:r<=q+1:=by by_cases h:r<=q+1;exact h;have:=fF (ap:0<r-1) (ap:0<r);grind
 have u:0<=t*(q+1-r):=jS ap ap;have v:0<=t*(1-t):=jS ap ap;clear b m;grind
def NI{x:ax}(h:0<=x):∃y,0<=y/\y*y=x:=by
 obtain⟨a,rfl⟩:=ex x;have q:∀n:Nat,∃r:Rat,0<=r/\r*r<=max (a.f n) 0/\max (a.f n) 0<r*r+1/((n:Rat)+1):=λ n=>ajq _ _ ap (by have:(0:Rat)<=n:=Pg;rw[xW];exact fF al (vq.2 ap));let b(n:Nat):=qS (q n);have hb:∀n,0<=b n/\b n*b n<=max (a.f n) 0/\max (a.f n) 0<b n*b n+1/((n:Rat)+1):=λ n=>nR (q n);have o:∀e:Rat,0<e->∃N:Nat,∀n,N<=n->1/((n:Rat)+1)<e:=λ e g=>by have w:=ss e ap;have L:=vq.2 g;have H:=ZK e⁻¹;refine⟨(e⁻¹.floor+1).toNat,λ n B=>?_⟩;have h1:((e⁻¹.floor+1:Int):Rat)<=((n:Int):Rat):=tL.2 ac;have E:((n:Int):Rat)=n:=rfl;rw[E]at h1;generalize(n:Rat)=k at*;generalize e⁻¹=i at*;have D:=ss (k+1) ap;have A:=vq.2 (ap:0<k+1);rw[xW];generalize(k+1)⁻¹=j at*;have C:0<(k+1-i)*(e*j):=fF ap (fF g A);have t:(k+1-i)*(e*j)=e*((k+1)*j)-(e*i)*j:=ap;rw[D,w]at t;grind
 have p:∀e:Rat,0<e->∃N:Nat,∀m n,N<=m->N<=n->b m-b n<e:=λ e g=>by
   have⟨N,s⟩:=a.c (e*e/2) (by have:=fF g g;grind);have⟨M,z⟩:=o (e*e/2) (by have:=fF g g;grind);refine⟨N+M,λ m n I B=>?_⟩;have h1:=s m n ac ac;have C:=z n;have t:=hb m;have F:=hb n;generalize b m=u at*;generalize b n=v at*;generalize 1/((n:Rat)+1)=k at*;generalize 1/((m:Rat)+1)=l at*;by_cases w:u-v<e;exact w;have G:0<=(u-v-e)*(u-v+e):=jS ap ap;have J:0<=v*(u-v):=jS F.1 ap;have K:max (a.f m) 0<=max (a.f n) 0+e*e/2:=by have:=fF g g;grind
   grind
 refine⟨mk ⟨b,p⟩,λ e g=>⟨0,λ n _=>by show(0:Rat)<b n+e;have:=(hb n).1;grind⟩,sound λ e g=>?_⟩;have⟨N,s⟩:=h e g;have⟨M,z⟩:=o e g;refine⟨N+M,λ n B=>?_⟩;have h1:(0:Rat)<a.f n+e:=s n ac;have C:=z n;have t:=hb n;show b n*b n-a.f n<e/\a.f n-b n*b n<e;grind
noncomputable def rt(x:ax):ax:=open Classical in if h:0<=x then qS (NI h)else 0
def Nv(x:ax):0<=rt x:=by unfold rt;split;rename_i h;exact(nR (NI h)).1;grind
def kT{x:ax}(h:0<=x):rt x*rt x=x:=by unfold rt;rw[dif_pos h];exact(nR (NI h)).2
def ant{x y:ax}(c:0<=x)(d:0<=y)(h:x*x=y*y):x=y:=by
 by_cases e:x=y;exact e;have h1:(x-y)*(x+y)=0:=ap;have f:x+y=0:=by have:=ZL (a:=x-y) ap;generalize(x-y)⁻¹=i at*;grind
 grind
def rt_eq{x y:ax}(b:0<=y)(h:y*y=x):rt x=y:=by
 have a:0<=x:=by rw[<-h];by_cases e:y=0;rw[e];grind;have:=mul_pos (x:=y) (y:=y) ap ap;grind
 exact ant (Nv x) b (by rw[kT a,h])
def Wq{x:ax}(h:0<x):0<rt x:=by have h1:=Nv x;have a:=kT (x:=x) ap;by_cases e:rt x=0;rw[e]at a;grind;grind
end Go.ay.ax
namespace Go.ay
def ae:Nat->Type|0=>Rat|h+1=>ae h×ae h
def aE:Nat->Type|0=>Unit|h+1=>aE h×ae h
def ae.rat:(h:Nat)->Rat->ae h|0,q=>q|h+1,q=>(ae.rat h q,ae.rat h 0)
def ae.add:{h:Nat}->ae h->ae h->ae h|0,a,b=>Rat.add a b|_+1,a,b=>(ae.add a.1 b.1,ae.add a.2 b.2)
def ae.neg:{h:Nat}->ae h->ae h|0,a=>Rat.neg a|_+1,a=>(ae.neg a.1,ae.neg a.2)
def ae.mul:{h:Nat}->aE h->ae h->ae h->ae h|0,_,a,b=>Rat.mul a b|_+1,t,a,b=>(ae.add (ae.mul t.1 a.1 b.1) (ae.mul t.1 (ae.mul t.1 a.2 b.2) t.2),ae.add (ae.mul t.1 a.1 b.2) (ae.mul t.1 a.2 b.1))
def ae.norm{h:Nat}(t:aE (h+1))(a:ae (h+1)):ae h:=ae.add (ae.mul t.1 a.1 a.1) (ae.neg (ae.mul t.1 (ae.mul t.1 a.2 a.2) t.2))
def ae.inv:{h:Nat}->aE h->ae h->ae h|0,_,a=>Rat.inv a|_+1,t,a=>(ae.mul t.1 a.1 (ae.inv t.1 (ae.norm t a)),ae.neg (ae.mul t.1 a.2 (ae.inv t.1 (ae.norm t a))))
noncomputable def ae.val:{h:Nat}->aE h->ae h->ax|0,_,a=>dG a|_+1,t,a=>ae.val t.1 a.1+ae.val t.1 a.2*ax.rt (ae.val t.1 t.2)
def aE.Pos:{h:Nat}->aE h->Prop|0,_=>True|_+1,t=>t.1.Pos/\0<ae.val t.1 t.2
def aE.bw:{h:Nat}->aE h->Prop|0,_=>True|_+1,t=>t.1.bw/\0<ae.val t.1 t.2/\∀w,ae.val t.1 w*ae.val t.1 w≠ae.val t.1 t.2
def aE.bw.pos:∀{h:Nat}{t:aE h},t.bw->t.Pos|0,_,_=>trivial|_+1,_,h=>⟨h.1.pos,h.2.1⟩
def ajO:dG 0=0:=rfl
def CA:dG 1=1:=rfl
def Ti(a:Rat)(h:dG a≠0):dG a*dG a⁻¹=1:=by rw[oG,ss a (λ e=>h (by rw[e];rfl)),CA]
def anH(a b:Rat)(e:a+-b=0):a=b:=ap
end Go.ay
namespace Go.ay.ae
def pI:∀{h:Nat}(t:aE h)(q:Rat),val t (rat h q)=dG q|0,_,_=>rfl|h+1,t,q=>by show val t.1 (rat h q)+val t.1 (rat h 0)*_=_;rw[pI,pI,ajO];grind
def val_add:∀{h:Nat}(t:aE h)(a b:ae h),val t (add a b)=val t a+val t b|0,_,a,b=>(ax.ofRat_add a b).symm|h+1,t,a,b=>by show val t.1 (add a.1 b.1)+val t.1 (add a.2 b.2)*_=(val t.1 a.1+val t.1 a.2*_)+(val t.1 b.1+val t.1 b.2*_);rw[val_add,val_add];grind
def val_neg:∀{h:Nat}(t:aE h)(a:ae h),val t (neg a)=-val t a|0,_,a=>(ax.ofRat_neg a).symm|h+1,t,a=>by show val t.1 (neg a.1)+val t.1 (neg a.2)*_=-(val t.1 a.1+val t.1 a.2*_);rw[val_neg,val_neg];grind
def val_mul:∀{h:Nat}{t:aE h},t.Pos->∀a b:ae h,val t (mul t a b)=val t a*val t b|0,_,_,a,b=>(oG a b).symm|h+1,t,c,a,b=>by have d:=ax.kT (x:=val t.1 t.2) (by have:=c.2;grind);show val t.1 (add (mul t.1 a.1 b.1) (mul t.1 (mul t.1 a.2 b.2) t.2))+val t.1 (add (mul t.1 a.1 b.2) (mul t.1 a.2 b.1))*_=(val t.1 a.1+val t.1 a.2*_)*(val t.1 b.1+val t.1 b.2*_);rw[val_add,val_add,val_mul c.1,val_mul c.1,val_mul c.1,val_mul c.1,val_mul c.1];generalize ax.rt (val t.1 t.2)=s at*;rw[<-d];grind
def qE{h:Nat}{t:aE (h+1)}(b:t.1.Pos)(a:ae (h+1)):val t.1 (norm t a)=val t.1 a.1*val t.1 a.1-val t.1 a.2*val t.1 a.2*val t.1 t.2:=by unfold norm;rw[val_add,val_neg,val_mul b,val_mul b,val_mul b];grind
def val_zero{h:Nat}(t:aE h):val t (rat h 0)=0:=pI t 0
def red:∀{h:Nat}{t:aE h},t.bw->(∀a:ae h,val t a=0->a=rat h 0)/\∀a:ae h,val t a≠0->val t a*val t (inv t a)=1
 |0,_,_=>⟨λ a h=>ax.Hq h,λ a h=>Ti a h⟩|h+1,t,b=>by
   have⟨k,g⟩:=red b.1;have n:=ax.kT (x:=val t.1 t.2) (by have:=b.2.1;grind);have A:=ax.Wq b.2.1;have j:∀x y:ae h,val t.1 y≠0->val t.1 x*val t.1 x≠val t.1 y*val t.1 y*val t.1 t.2:=λ x y c e=>by have l:=g y c;refine b.2.2 (mul t.1 x (inv t.1 y)) ?_;rw[val_mul b.1.pos];generalize val t.1 x=u at*;generalize val t.1 y=v at*;generalize val t.1 (inv t.1 y)=i at*;generalize val t.1 t.2=r at*;grind
   have m:∀a:ae (h+1),val t a=val t.1 a.1+val t.1 a.2*ax.rt (val t.1 t.2):=λ _=>rfl;have p:∀a:ae (h+1),val t a=0->val t.1 a.1=0/\val t.1 a.2=0:=λ a f=>by rw[m]at f;by_cases c:val t.1 a.2=0;rw[c]at f;exact⟨ap,c⟩;have:=j a.1 a.2 c;generalize ax.rt (val t.1 t.2)=s at*;exfalso;apply this;rw[<-n];grind
   refine⟨λ a f=>?_,λ a f=>?_⟩;have⟨h1,q⟩:=p a f;exact mz (k _ h1) (k _ q);have w:val t.1 (norm t a)≠0:=by
     rw[qE b.1.pos];intro e;by_cases c:val t.1 a.2=0;rw[c]at e;have z:val t.1 a.1*val t.1 a.1=0:=ap;have d:val t.1 a.1=0:=by have:=ZL (a:=val t.1 a.1);generalize(val t.1 a.1)⁻¹=i at*;by_cases d:val t.1 a.1=0;exact d;have:=this d;grind
     exact f (by rw[m,c,d];grind);exact j a.1 a.2 c ap
   have l:=g _ w;have e:val t (inv t a)=val t.1 (mul t.1 a.1 (inv t.1 (norm t a)))+val t.1 (neg (mul t.1 a.2 (inv t.1 (norm t a))))*ax.rt (val t.1 t.2):=rfl;rw[e,m,val_neg,val_mul b.1.pos,val_mul b.1.pos];rw[qE b.1.pos]at l;generalize val t.1 (inv t.1 (norm t a))=i at*;generalize ax.rt (val t.1 t.2)=s at*;rw[<-n]at l;grind
def inj{h:Nat}{t:aE h}(d:t.bw){a b:ae h}(e:val t a=val t b):a=b:=by
 have key:∀{h:Nat}(a b:ae h),add a (neg b)=rat h 0->a=b:=by intro h;induction h with|zero=>intro a b e;exact anH a b e|succ h c=>intro a b e;exact mz (c _ _ (congrArg Prod.fst e)) (c _ _ (congrArg Prod.snd e))
 exact key a b ((red d).1 _ (by rw[val_add,val_neg,e];grind))
def Yh{h:Nat}{t:aE h}(c:t.bw){a:ae h}(b:val t a≠0):val t (inv t a)=(val t a)⁻¹:=by have h1:=(red c).2 a b;have d:=ax.qk b;generalize(val t a)⁻¹=i at*;generalize val t (inv t a)=j at*;grind
def hY:{h:Nat}->aE h->ae h->Int|0,_,a=>(Rat.num a).sign|_+1,t,a=>if hY t.1 a.2=0\/hY t.1 a.1=hY t.1 a.2 then hY t.1 a.1 else if hY t.1 a.1=0 then hY t.1 a.2 else hY t.1 a.1*hY t.1 (norm t a)
end Go.ay.ae
namespace Go.ay
noncomputable def ax.ez(x:ax):Int:=open Classical in if 0<x then 1 else if x=0 then 0 else-1
end Go.ay
namespace Go.ay.ax
def u5{x:ax}:ez x=1↔0<x:=by unfold ez;split;simp_all;split<;>simp_all
def Dd{x:ax}:ez x=0↔x=0:=by unfold ez;split;rename_i h;constructor;intro e;cases e;intro e;rw[e]at h;grind;split<;>simp_all
def qz{x:ax}:ez x=-1↔x<0:=by unfold ez;split;rename_i h;constructor;intro e;cases e;intro e;grind;rename_i h;split;rename_i h1;rw[h1];constructor;intro e;cases e;intro e;grind;constructor;intro _;grind;intro _;rfl
def z0(x:ax):ez x=1/\0<x\/ez x=0/\x=0\/ez x=-1/\x<0:=by by_cases h1:0<x;exact .inl ⟨u5.2 h1,h1⟩;by_cases a:x=0;exact .inr (.inl ⟨Dd.2 a,a⟩);exact .inr (.inr ⟨qz.2 ap,ap⟩)
def am4(q:Rat):ez (ofRat q)=q.num.sign:=by rcases Int.lt_trichotomy q.num 0 with h|h|h;rw[Int.sign_eq_neg_one_of_neg h];exact qz.2 (Hr (by have:=@D6 q;grind));rw[h];exact Dd.2 (by rw[mw.1 h];rfl);rw[Int.sign_eq_one_of_pos h];exact u5.2 (Hr (by have:=@D6 q;have:=@mw q;grind))
end Go.ay.ax
namespace Go.ay
def ae.Ia:∀{h:Nat}{t:aE h},t.Pos->∀a:ae h,hY t a=ax.ez (val t a)
 |0,_,_,a=>(ax.am4 a).symm|h+1,t,g,a=>by
   have n:=ax.kT (x:=val t.1 t.2) (by have:=g.2;grind);have q:=ax.Wq g.2;have o:val t a=val t.1 a.1+val t.1 a.2*ax.rt (val t.1 t.2):=rfl;have m:=qE (t:=t) g.1 a;unfold hY;rw[Ia g.1,Ia g.1,Ia g.1,m,o];generalize ax.rt (val t.1 t.2)=s at*;rw[<-n];generalize val t.1 a.1=x at*;generalize val t.1 a.2=y at*;have c:∀{z:ax},0<z->0<z*s:=λ h=>ax.mul_pos h q;have l:(x*x-y*y*(s*s))=(x-y*s)*(x+y*s):=ap;rcases ax.z0 x with⟨j,h1⟩|⟨j,h1⟩|⟨j,h1⟩<;>rcases ax.z0 y with⟨k,d⟩|⟨k,d⟩|⟨k,d⟩<;>rw[j,k];rw[if_pos (.inr rfl)];exact(ax.u5.2 (by have:=c d;grind)).symm;rw[if_pos (.inl rfl),d];exact(ax.u5.2 ap).symm;rw[if_neg al,if_neg al,l];have i:0<x-y*s:=by have:=c (z:=-y) ap;grind
   rcases ax.z0 (x+y*s)with⟨e,h⟩|⟨e,h⟩|⟨e,h⟩;rw[e,ax.u5.2 (ax.mul_pos i h)];rfl;rw[e,h,ax.Dd.2 ap];rfl;rw[e,ax.qz.2 (by have:=ax.mul_pos i (ap:0< -(x+y*s));grind)];rfl;rw[if_neg al,if_pos rfl,h1];exact(ax.u5.2 (by have:=c d;grind)).symm;rw[if_pos (.inl rfl),h1,d];exact(ax.Dd.2 ap).symm;rw[if_neg al,if_pos rfl,h1];exact(ax.qz.2 (by have:=c (z:=-y) ap;grind)).symm;rw[if_neg al,if_neg al,l];have i:0< -(x-y*s):=by have:=c d;grind
   rcases ax.z0 (x+y*s)with⟨e,h⟩|⟨e,h⟩|⟨e,h⟩;rw[e,ax.qz.2 (by have:=ax.mul_pos i h;grind)];rfl;rw[e,h,ax.Dd.2 ap];rfl;rw[e,ax.u5.2 (by have:=ax.mul_pos i (ap:0< -(x+y*s));grind)];rfl;rw[if_pos (.inl rfl),d];exact(ax.qz.2 ap).symm;rw[if_pos (.inr rfl)];exact(ax.qz.2 (by have:=c (z:=-y) ap;grind)).symm
def ax.ql{x y:ax}(h:x*y=0):x=0\/y=0:=by by_cases a:x=0;exact .inl a;have:=ax.qk a;generalize x⁻¹=i at*;exact .inr ap
def ax.NH{x y:ax}(h:x*x=y*y):x=y\/x=-y:=by have h1:(x-y)*(x+y)=0:=ap;rcases ax.ql h1 with e|e;exact .inl ap;exact .inr ap
end Go.ay
namespace Go.ay.ae
def rb{h:Nat}(t:aE h)(a:ae h):Prop:=∃w,val t w*val t w=val t a
section
variable{h:Nat}{t:aE (h+1)}
def halves(i:t.bw){x y u v:ax}(f:∃a,val t.1 a=x)(j:∃a,val t.1 a=y)(hu:∃a,val t.1 a=u)(g:∃a,val t.1 a=v)(e:x+y*ax.rt (val t.1 t.2)=u+v*ax.rt (val t.1 t.2)):x=u/\y=v:=by obtain⟨a,rfl⟩:=f;obtain⟨b,rfl⟩:=j;obtain⟨c,rfl⟩:=hu;obtain⟨d,rfl⟩:=g;have:=inj i (a:=((a,b):ae (h+1))) (b:=((c,d):ae (h+1))) e;exact⟨congrArg (val t.1) (congrArg Prod.fst this),congrArg (val t.1) (congrArg Prod.snd this)⟩
def Dg(c:t.bw){a w:ae (h+1)}(e:val t w*val t w=val t a):val t.1 w.1*val t.1 w.1+val t.1 w.2*val t.1 w.2*val t.1 t.2=val t.1 a.1/\2*(val t.1 w.1*val t.1 w.2)=val t.1 a.2:=by have d:=ax.kT (x:=val t.1 t.2) (by have:=c.2.1;grind);have b:=c.1.pos;refine halves c ⟨add (mul t.1 w.1 w.1) (mul t.1 (mul t.1 w.2 w.2) t.2),by rw[val_add,val_mul b,val_mul b,val_mul b]⟩ ⟨add (mul t.1 w.1 w.2) (mul t.1 w.1 w.2),by rw[val_add,val_mul b];grind⟩ ⟨_,rfl⟩ ⟨_,rfl⟩ ?_;have f:(val t.1 w.1+val t.1 w.2*ax.rt (val t.1 t.2))*(val t.1 w.1+val t.1 w.2*ax.rt (val t.1 t.2))=val t.1 a.1+val t.1 a.2*ax.rt (val t.1 t.2):=e;rw[<-f];generalize ax.rt (val t.1 t.2)=s at*;rw[<-d];grind
def W7(b:t.bw){a:ae (h+1)}(g:val t.1 a.2=0)(h1:¬rb t.1 a.1)(d:¬rb t.1 (mul t.1 a.1 (inv t.1 t.2))):¬rb t a:=λ⟨w,f⟩=>by
 have⟨p,q⟩:=Dg b f;have c:val t.1 t.2≠0:=by have:=b.2.1;grind
 have j:=(red b.1).2 _ c;rw[g]at q;rcases ax.ql (x:=val t.1 w.1) (y:=val t.1 w.2) ap with e|e;refine d ⟨w.2,?_⟩;rw[val_mul b.1.pos];rw[e]at p;generalize val t.1 (inv t.1 t.2)=i at*;generalize val t.1 t.2=r at*;rw[<-p];grind;exact h1 ⟨w.1,by rw[e]at p;grind⟩
def W9(b:t.bw){a:ae (h+1)}(j:val t.1 a.2=0){w:ae h}(d:val t.1 w*val t.1 w=val t.1 (mul t.1 a.1 (inv t.1 t.2))):val t ((rat h 0,w):ae (h+1))*val t ((rat h 0,w):ae (h+1))=val t a:=by
 have c:val t.1 t.2≠0:=by have:=b.2.1;grind
 have g:=(red b.1).2 _ c;have f:=ax.kT (x:=val t.1 t.2) (by have:=b.2.1;grind);rw[val_mul b.1.pos]at d;show(val t.1 (rat h 0)+val t.1 w*ax.rt (val t.1 t.2))*(val t.1 (rat h 0)+val t.1 w*ax.rt (val t.1 t.2))=val t.1 a.1+val t.1 a.2*ax.rt (val t.1 t.2);rw[val_zero,j];generalize ax.rt (val t.1 t.2)=s at*;generalize val t.1 (inv t.1 t.2)=i at*;generalize val t.1 t.2=r at*;generalize val t.1 w=x at*;have e:x*x*(s*s)=val t.1 a.1*(r*i):=by rw[f,d];grind
 rw[g]at e;grind
def W8{a:ae (h+1)}(b:val t.1 a.2=0){w:ae h}(c:val t.1 w*val t.1 w=val t.1 a.1):val t ((w,rat h 0):ae (h+1))*val t ((w,rat h 0):ae (h+1))=val t a:=by show(val t.1 w+val t.1 (rat h 0)*_)*(val t.1 w+val t.1 (rat h 0)*_)=val t.1 a.1+val t.1 a.2*ax.rt (val t.1 t.2);rw[val_zero,b];grind
def Xa(c:t.bw){a:ae (h+1)}(d:rb t a):rb t.1 (norm t a):=by have⟨w,e⟩:=d;have⟨p,q⟩:=Dg c e;have b:=c.1.pos;refine⟨add (mul t.1 w.1 w.1) (neg (mul t.1 (mul t.1 w.2 w.2) t.2)),?_⟩;rw[qE b,val_add,val_neg,val_mul b,val_mul b,val_mul b,<-p,<-q];grind
def U3(c:t.bw){a:ae (h+1)}(g:val t.1 a.2≠0){n:ax}(d:n*n=val t.1 (norm t a)):val t.1 a.1+n≠0:=λ e=>by rw[qE c.1.pos]at d;have:n=-val t.1 a.1:=ap;rw[this]at d;have i:val t.1 a.2*(val t.1 a.2*val t.1 t.2)=0:=ap;rcases ax.ql i with b|b;exact g b;rcases ax.ql b with f|f;exact g f;have:=c.2.1;grind
def W5(b:t.bw){a:ae (h+1)}(i:rb t a){n:ax}(f:n*n=val t.1 (norm t a)){c d:ae h}(g:val t.1 c=(val t.1 a.1+n)/2)(hd:val t.1 d=(val t.1 a.1-n)/2):rb t.1 c\/rb t.1 d:=by
 have⟨w,j⟩:=i;have⟨p,q⟩:=Dg b j;rw[qE b.1.pos]at f;have h1:n*n=(val t.1 w.1*val t.1 w.1-val t.1 w.2*val t.1 w.2*val t.1 t.2)*(val t.1 w.1*val t.1 w.1-val t.1 w.2*val t.1 w.2*val t.1 t.2):=by rw[f,<-p,<-q];grind
 rcases ax.NH h1 with e|e;exact .inl ⟨w.1,by rw[g,e,<-p];grind⟩;exact .inr ⟨w.1,by rw[hd,e,<-p];grind⟩
def anu(d:t.bw){a:ae (h+1)}(i:val t.1 a.2≠0){n:ax}(c:n*n=val t.1 (norm t a)){w v:ae h}(j:val t.1 w*val t.1 w=(val t.1 a.1+n)/2)(e:val t.1 v*(2*val t.1 w)=val t.1 a.2):val t ((w,v):ae (h+1))*val t ((w,v):ae (h+1))=val t a:=by
 have f:=ax.kT (x:=val t.1 t.2) (by have:=d.2.1;grind);have b:=U3 d i c;rw[qE d.1.pos]at c;show(val t.1 w+val t.1 v*ax.rt (val t.1 t.2))*(val t.1 w+val t.1 v*ax.rt (val t.1 t.2))=val t.1 a.1+val t.1 a.2*ax.rt (val t.1 t.2);generalize ax.rt (val t.1 t.2)=s at*;generalize val t.1 t.2=r at*;generalize val t.1 w=x at*;generalize val t.1 v=y at*;generalize val t.1 a.1=u at*;generalize val t.1 a.2=z at*;subst e;have k:(u+n)*(x*x+y*y*r-u)=0:=by have l:u+n=2*(x*x):=ap;have g:n=2*(x*x)-u:=ap;rw[g]at c;grind
 rcases ax.ql k with k|k;exact absurd k b;have:(x+y*s)*(x+y*s)=x*x+y*y*(s*s)+y*(2*x)*s:=ap;rw[this,f];grind
end
end Go.ay.ae
namespace Go.ay
abbrev aC:=(h:Nat)×aE h
end Go.ay
namespace Go.ay.aC
def nil:aC:=⟨0,()⟩
def push(T:aC)(x:ae T.1):aC:=⟨T.1+1,(T.2,x)⟩
def In(T:aC)(v:ax):Prop:=∃a:ae T.1,ae.val T.2 a=v
abbrev bw(T:aC):Prop:=T.2.bw
open Classical in noncomputable def bd(T:aC)(v:ax):ae T.1:=if h:T.In v then qS h else ae.rat T.1 0
def l0{T:aC}{v:ax}(h:T.In v):ae.val T.2 (T.bd v)=v:=by unfold bd;rw[dif_pos h];exact nR h
def nt{T:aC}(b:T.bw){v:ax}{a:ae T.1}(e:ae.val T.2 a=v):T.bd v=a:=ae.inj b ((l0 ⟨a,e⟩).trans e.symm)
def In.rat(T:aC)(q:Rat):T.In (dG q):=⟨ae.rat _ q,ae.pI _ _⟩
def In.add{T:aC}{v w:ax}(h:T.In v)(k:T.In w):T.In (v+w):=by obtain⟨a,rfl⟩:=h;obtain⟨b,rfl⟩:=k;exact⟨ae.add a b,ae.val_add _ _ _⟩
def In.neg{T:aC}{v:ax}(h:T.In v):T.In (-v):=by obtain⟨a,rfl⟩:=h;exact⟨ae.neg a,ae.val_neg _ _⟩
def In.mul{T:aC}(c:T.bw){v w:ax}(h:T.In v)(k:T.In w):T.In (v*w):=by obtain⟨a,rfl⟩:=h;obtain⟨b,rfl⟩:=k;exact⟨ae.mul T.2 a b,ae.val_mul c.pos _ _⟩
def In.inv{T:aC}(c:T.bw){v:ax}(h:T.In v):T.In v⁻¹:=by obtain⟨a,rfl⟩:=h;by_cases b:ae.val T.2 a=0;rw[b,ax.DR];exact .rat T 0;exact⟨ae.inv T.2 a,ae.Yh c b⟩
def In.push{T:aC}{x:ae T.1}{v:ax}(h:T.In v):(T.push x).In v:=by obtain⟨a,rfl⟩:=h;exact⟨((a,ae.rat T.1 0):ae (T.1+1)),by show ae.val T.2 a+ae.val T.2 (ae.rat T.1 0)*ax.rt (ae.val T.2 x)=_;rw[ae.val_zero];grind⟩
def In.root{T:aC}{x:ae T.1}:(T.push x).In (ax.rt (ae.val T.2 x)):=⟨((ae.rat T.1 0,ae.rat T.1 1):ae (T.1+1)),by show ae.val T.2 (ae.rat T.1 0)+ae.val T.2 (ae.rat T.1 1)*ax.rt (ae.val T.2 x)=_;rw[ae.val_zero,ae.pI,CA];grind⟩
def In.cases{T:aC}{x:ae T.1}{v:ax}(h:(T.push x).In v):∃a b,T.In a/\T.In b/\v=a+b*ax.rt (ae.val T.2 x):=by obtain⟨a,rfl⟩:=h;exact⟨_,_,⟨a.1,rfl⟩,⟨a.2,rfl⟩,rfl⟩
def HK{T:aC}(a:T.bw){x:ae T.1}(c:0<ae.val T.2 x)(f:¬T.In (ax.rt (ae.val T.2 x))):(T.push x).bw:=by refine⟨a,c,λ w b=>f ?_⟩;have d:=ax.kT (x:=ae.val T.2 x) ap;rcases ax.NH (d.trans b.symm)with e|e;exact⟨w,e.symm⟩;exact⟨ae.neg w,by rw[ae.val_neg];exact e.symm⟩
open Classical in noncomputable def gD(T:aC)(x:ae T.1):aC:=if T.In (ax.rt (ae.val T.2 x))then T else T.push x
noncomputable def ext(T:aC):{k:Nat}->aE k->aC|0,_=>T|_+1,u=>(ext T u.1).gD ((ext T u.1).bd (ae.val u.1 u.2))
def E6{T:aC}{x:ae T.1}{v:ax}(h:T.In v):(T.gD x).In v:=by unfold gD;split;exact h;exact h.push
def Qb{T:aC}{x:ae T.1}:(T.gD x).In (ax.rt (ae.val T.2 x)):=by unfold gD;split;assumption;exact In.root
def Qa{T:aC}(a:T.bw){x:ae T.1}(c:0<ae.val T.2 x):(T.gD x).bw:=by unfold gD;split;exact a;rename_i b;exact HK a c b
def mI{T:aC}(g:T.bw):∀{k:Nat}{u:aE k},u.bw->(T.ext u).bw/\(∀v,T.In v->(T.ext u).In v)/\∀v,In ⟨k,u⟩ v->(T.ext u).In v|0,_,_=>⟨g,λ _ h=>h,λ v h=>by obtain⟨a,rfl⟩:=h;exact .rat T a⟩|k+1,u,hu=>by have⟨h1,i,f⟩:=mI g hu.1;have j:=f _ ⟨u.2,rfl⟩;have e:=l0 j;have d:((T.ext u.1).gD ((T.ext u.1).bd (ae.val u.1 u.2))).bw:=Qa h1 (by rw[e];exact hu.2.1);refine⟨d,λ v h=>E6 (i v h),λ v h=>?_⟩;obtain⟨a,b,l,hb,rfl⟩:=In.cases (T:=⟨k,u.1⟩) (x:=u.2) h;have c:=Qb (T:=T.ext u.1) (x:=(T.ext u.1).bd (ae.val u.1 u.2));rw[e]at c;exact(E6 (f _ l)).add ((E6 (f _ hb)).mul d c)
def yN{T:aC}:∀{k:Nat}{u:aE k},(∀v,In ⟨k,u⟩ v->T.In v)->T.ext u=T|0,_,_=>rfl|k+1,u,h=>by have h1:T.ext u.1=T:=yN λ v a=>h v (In.push (T:=⟨k,u.1⟩) a);show(T.ext u.1).gD ((T.ext u.1).bd (ae.val u.1 u.2))=T;rw[h1];unfold gD;have a:T.In (ae.val u.1 u.2):=h _ (In.push (T:=⟨k,u.1⟩) ⟨u.2,rfl⟩);rw[l0 a,if_pos];exact h _ (In.root (T:=⟨k,u.1⟩))
inductive eE:aC->aC->Prop|refl(T:aC):eE T T|push{T J:aC}(x:ae J.1):eE T J->eE T (J.push x)
def eE.in{T J:aC}(h:eE T J){v:ax}(a:T.In v):J.In v:=by induction h with|refl=>exact a|push x _ b=>exact b.push
def eE.same{T J:aC}(h:eE T J):J.ext T.2=J:=yN λ v a=>h.in a
def KY{T J:aC}(h:eE T J)(a:J.bw):T.ext J.2=J:=by induction h with|refl=>exact yN λ v b=>b|@push J x f e=>have h1:=e a.1;show(T.ext J.2).gD ((T.ext J.2).bd (ae.val J.2 x))=J.push x;rw[h1,nt a.1 rfl];unfold gD;rw[if_neg λ d=>?_];have⟨w,c⟩:=d;refine a.2.2 w ?_;show ae.val J.2 w*ae.val J.2 w=ae.val J.2 x;have g:0<ae.val J.2 x:=a.2.1;rw[c];exact ax.kT ap
def Ke{T:aC}(x:ae T.1):eE T (T.gD x):=by unfold gD;split;exact .refl T;exact .push x (.refl T)
def eE.trans{T J K:aC}(h:eE T J)(k:eE J K):eE T K:=by induction k with|refl=>exact h|push x _ a=>exact .push x a
def CO(T:aC):∀{k:Nat}(u:aE k),eE T (T.ext u)|0,_=>.refl T|_+1,u=>(CO T u.1).trans (Ke _)
end Go.ay.aC
namespace Go.ay
structure az where
 T:aC
 a:ae T.1
end Go.ay
namespace Go.ay.az
noncomputable def val(n:az):ax:=ae.val n.T.2 n.a
abbrev bw(n:az):Prop:=n.T.bw
noncomputable def of(T:aC)(v:ax):az:=⟨T,T.bd v⟩
def zE{T:aC}{v:ax}(h:T.In v):(of T v).val=v:=aC.l0 h
def rat(q:Rat):az:=⟨aC.nil,q⟩
def alE(q:Rat):(rat q).val=dG q:=rfl
noncomputable def join(a b:az):aC:=a.T.ext b.T.2
def wK{a b:az}(c:a.bw)(hb:b.bw):(join a b).In a.val:=(aC.mI c hb).2.1 _ ⟨a.a,rfl⟩
def wL{a b:az}(c:a.bw)(hb:b.bw):(join a b).In b.val:=(aC.mI c hb).2.2 _ ⟨b.a,rfl⟩
noncomputable def add(a b:az):az:=of (join a b) (a.val+b.val)
noncomputable def neg(a:az):az:=⟨a.T,ae.neg a.a⟩
noncomputable def sub(a b:az):az:=of (join a b) (a.val-b.val)
noncomputable def mul(a b:az):az:=of (join a b) (a.val*b.val)
noncomputable def inv(a:az):az:=⟨a.T,ae.inv a.T.2 a.a⟩
noncomputable def div(a b:az):az:=of (join a b) (a.val*b.val⁻¹)
section
variable{a b:az}(ha:a.bw)(hb:b.bw)
include ha hb
def P9:(add a b).bw:=(aC.mI ha hb).1
def Hi:(mul a b).bw:=(aC.mI ha hb).1
def Bf:(add a b).val=a.val+b.val:=zE ((wK ha hb).add (wL ha hb))
def Im:(sub a b).val=a.val-b.val:=zE (by rw[sr];exact(wK ha hb).add (wL ha hb).neg)
def wX:(mul a b).val=a.val*b.val:=zE ((wK ha hb).mul (aC.mI ha hb).1 (wL ha hb))
def div_val:(div a b).val=a.val*b.val⁻¹:=zE ((wK ha hb).mul (aC.mI ha hb).1 ((wL ha hb).inv (aC.mI ha hb).1))
end
def Cs{a:az}:(neg a).val=-a.val:=ae.val_neg _ _
end Go.ay.az
namespace Go.ay
def fH(q:Rat)(D B:Nat):Prop:=q.den∣D/\q<=B/\-q<=B
def Cl(q:Rat):q*(q.den:Rat)=q.num:=by
 have h:(q.num:Rat)/((q.den:Int):Rat)=q:=by rw[<-Rat.divInt_eq_div,Rat.num_divInt_den]
 have a:(q.den:Rat)≠0:=by have:(1:Rat)<=q.den:=D7.2 (show 1<=q.den from q.den_pos);grind
 have e:((q.den:Int):Rat)=(q.den:Rat):=rfl;rw[e,xW]at h;have b:=ss _ a;generalize(q.den:Rat)=d at*;generalize d⁻¹=i at*;rw[<-h];grind
def xk(q:Rat)(D:Nat):q.den∣D↔∃z:Int,q*D=z:=by
 constructor;rintro⟨k,rfl⟩;refine⟨q.num*k,?_⟩;have h:=Cl q;rw[AD,<-Rat.mul_assoc,h,xY];rfl;rintro⟨z,h⟩;have h1:(q.num:Rat)*D=z*q.den:=by have:=Cl q;grind
 have b:q.num*D=z*q.den:=by
   have a:((q.num*(D:Int):Int):Rat)=((z*(q.den:Int):Int):Rat):=by rw[xY,xY];exact h1
   exact Rat.intCast_inj.1 a
 have a:q.den∣q.num.natAbs*D:=by have:=congrArg Int.natAbs b;rw[m7,m7,gB,gB]at this;exact⟨_,this.trans (c9 _ _)⟩
 exact(Nat.Coprime.dvd_of_dvd_mul_left (Nat.Coprime.symm q.reduced) a)
def Cv(n:Nat):(0:Rat)<=n:=Pg
def fH.pad{q:Rat}{D B:Nat}(h:fH q D B)(k:Nat){C:Nat}(a:B<=C):fH q (D*k) C:=by have:(B:Rat)<=C:=D7.2 a;exact⟨Nat.dvd_trans h.1 (Nat.dvd_mul_right _ _),by have:=h.2.1;grind,by have:=h.2.2;grind⟩
def fH.add{p q:Rat}{D B C:Nat}(h:fH p D B)(k:fH q D C):fH (p+q) D (B+C):=by refine⟨?_,by rw[Pf];have:=h.2.1;have:=k.2.1;grind,by rw[Pf];have:=h.2.2;have:=k.2.2;grind⟩;have⟨y,b⟩:=(xk p D).1 h.1;have⟨z,a⟩:=(xk q D).1 k.1;exact(xk _ D).2 ⟨y+z,by rw[Rat.intCast_add];grind⟩
def fH.neg{q:Rat}{D B:Nat}(h:fH q D B):fH (-q) D B:=⟨by rw[Rat.neg_den];exact h.1,by have:=h.2.2;grind,by have:=h.2.1;grind⟩
def fH.mul{p q:Rat}{D B E C:Nat}(h:fH p D B)(k:fH q E C):fH (p*q) (D*E) (B*C):=by have⟨y,b⟩:=(xk p D).1 h.1;have⟨z,a⟩:=(xk q E).1 k.1;have h1:=h.2.1;have g:=h.2.2;have f:=k.2.1;have e:=k.2.2;have j:0<=((B:Rat)-p)*(C+q):=jS ap ap;have d:0<=((B:Rat)+p)*(C-q):=jS ap ap;have i:0<=((B:Rat)-p)*(C-q):=jS ap ap;have c:0<=((B:Rat)+p)*(C+q):=jS ap ap;refine⟨(xk _ _).2 ⟨y*z,?_⟩,by rw[AD];grind,by rw[AD];grind⟩;rw[AD,xY,<-b,<-a];grind
def fH.zero{D B:Nat}:fH 0 D B:=⟨Nat.one_dvd D,Cv B,by have:=Cv B;grind⟩
def fH.num{q:Rat}{D B:Nat}(h:fH q D B)(c:0<D):q.num.natAbs<=B*D/\q.den<=D:=by
 have hd:=Nat.le_of_dvd c h.1;refine⟨?_,hd⟩;have e:=Cl q;have a:(0:Rat)<=q.den:=Cv _;have h1:(q.num:Rat)<=((B*q.den:Nat):Rat):=by have:=jS (show 0<=(B:Rat)-q by have:=h.2.1;grind) a;rw[AD];grind
 have b:-(q.num:Rat)<=((B*q.den:Nat):Rat):=by have:=jS (show 0<=(B:Rat)+q by have:=h.2.2;grind) a;rw[AD];grind
 have l2:q.num<=((B*q.den:Nat):Int):=tL.1 h1;have d:-q.num<=((B*q.den:Nat):Int):=tL.1 (by rw[Jq];exact b);have f:B*q.den<=B*D:=fK _ hd;omega
def fH.inv{q:Rat}{D B:Nat}(h:fH q D B)(n:0<D)(m:q≠0):∃E,0<E/\E<=B*D/\fH q⁻¹ E D:=by
 have l:=h.num n;have s:q.num≠0:=λ e=>m (mw.1 e);have e:=Cl q;have c:=ss q m;have r:0<q.den:=q.den_pos;have p:(q.den:Rat)<=D:=D7.2 l.2;have o:(1:Rat)<=q.den:=D7.2 (ac:1<=q.den);refine⟨q.num.natAbs,ac,l.1,(xk _ _).2 ?_,?_⟩;rcases Int.natAbs_eq q.num with k|k;refine⟨q.den,?_⟩;have:((q.num.natAbs:Nat):Rat)=q.num:=by
   have:((q.num.natAbs:Int):Rat)=(q.num:Rat):=by rw[<-k]
   exact this
 rw[this,<-e];show q⁻¹*(q*q.den)=q.den;rw[<-Rat.mul_assoc,Rat.mul_comm _ q,c,Rat.one_mul];refine⟨-q.den,?_⟩;have:((q.num.natAbs:Nat):Rat)=-q.num:=by
   have:((q.num.natAbs:Int):Rat)=((-q.num:Int):Rat):=by congr 1;omega
   rw[Jq]at this;exact this
 rw[this,<-e,Jq];show q⁻¹*-(q*q.den)=-q.den;have:q⁻¹*-(q*q.den)=-((q*q⁻¹)*q.den):=ap;rw[this,c,Rat.one_mul]
 · have j:1<=q*q.den\/q*q.den<=-1:=by rw[e];by_cases t:0<q.num;left;have:((1:Int):Rat)<=(q.num:Rat):=tL.2 ac;exact this;right;have:(q.num:Rat)<=((-1:Int):Rat):=tL.2 ac;exact this
   generalize(q.den:Rat)=d at*;generalize q⁻¹=i at*;rcases j with g|g;have b:0<q:=by by_cases b:0<q;exact b;have:=jS (ap:0<=-q) (ap:0<=d);grind
   have a:0<i:=by by_cases a:0<i;exact a;have:=jS (ap:0<=q) (ap:0<=-i);grind
   have h1:0<=i*(q*d-1):=jS ap ap;have f:i*(q*d-1)=(q*i)*d-i:=ap;rw[c]at f;have:=Cv D;exact⟨ap,ap⟩;have b:0< -q:=by by_cases b:0< -q;exact b;have:=jS (ap:0<=q) (ap:0<=d);grind
   have a:0< -i:=by by_cases a:0< -i;exact a;have:=jS (ap:0<=-q) (ap:0<=i);grind
   have h1:0<=(-i)*(-1-q*d):=jS ap ap;have f:(-i)*(-1-q*d)=i+(q*i)*d:=ap;rw[c]at f;have:=Cv D;exact⟨ap,ap⟩
end Go.ay
namespace Go.ay.ae
def M:{h:Nat}->ae h->Nat->Nat->Prop|0,q,D,B=>fH q D B|_+1,a,D,B=>M a.1 D B/\M a.2 D B
def M.pad:∀{h:Nat}{a:ae h}{D B:Nat},M a D B->∀(k:Nat){C:Nat},B<=C->M a (D*k) C|0,_,_,_,h,k,_,b=>fH.pad h k b|_+1,_,_,_,h,k,_,b=>⟨h.1.pad k b,h.2.pad k b⟩
def M.mono{h:Nat}{a:ae h}{D B C:Nat}(b:M a D B)(c:B<=C):M a D C:=by have:=b.pad 1 c;rwa[m9]at this
def M.add:∀{h:Nat}{a b:ae h}{D B C:Nat},M a D B->M b D C->M (add a b) D (B+C)|0,_,_,_,_,_,h,k=>fH.add h k|_+1,_,_,_,_,_,h,k=>⟨h.1.add k.1,h.2.add k.2⟩
def M.neg:∀{h:Nat}{a:ae h}{D B:Nat},M a D B->M (neg a) D B|0,_,_,_,h=>fH.neg h|_+1,_,_,_,h=>⟨h.1.neg,h.2.neg⟩
def M.rat:∀(h:Nat){q:Rat}{D B:Nat},fH q D B->M (rat h q) D B|0,_,_,_,a=>a|h+1,_,_,_,a=>⟨M.rat h a,M.rat h fH.zero⟩
end Go.ay.ae
namespace Go.ay
def aE.C:{h:Nat}->aE h->Nat->Nat->Prop|0,_,Δ,A=>Δ=1/\A=1|_+1,t,Δ,A=>∃δ α D B,t.1.C δ α/\ae.M t.2 D B/\0<D/\Δ=δ*δ*D/\A=α+α*α*B+α
def aE.C.pos:∀{h:Nat}{t:aE h}{Δ A:Nat},t.C Δ A->0<Δ/\0<A|0,_,_,_,h=>by rw[h.1,h.2];exact⟨al,al⟩|_+1,t,Δ,A,⟨δ,α,D,B,h1,d,b,c,a⟩=>by have⟨p,q⟩:=h1.pos;rw[c,a];exact⟨nS (nS p p) b,ac⟩
end Go.ay
namespace Go.ay.ae
def M.mul:∀{h:Nat}{t:aE h}{Δ A:Nat},t.C Δ A->∀{a b:ae h}{D B E F:Nat},M a D B->M b E F->M (mul t a b) (D*E*Δ) (B*F*A)
 |0,_,_,_,h,_,_,_,_,_,_,c,hb=>by rw[h.1,h.2,m9,m9];exact fH.mul c hb|h+1,t,Δ,A,⟨δ,α,R,S,h1,n,q,i,g⟩,a,b,D,B,E,F,c,hb=>by
   have m:=M.mul h1 c.1 hb.1;have p:=M.mul h1 c.2 hb.2;have d:=M.mul h1 p n;have o:=M.mul h1 c.1 hb.2;have l:=M.mul h1 c.2 hb.1;have k:D*E*δ*R*δ=D*E*Δ:=by rw[i];simp only[fu,c9,oH]
   have j:D*E*δ*(δ*R)=D*E*Δ:=by rw[i];simp only[fu,c9,oH]
   have b1:B*F*α+B*F*α*S*α<=B*F*A:=by rw[g,show B*F*α*S*α=B*F*(α*α*S)by simp only[fu,c9,oH],<-dW];exact fK _ ac
   have b2:B*F*α+B*F*α<=B*F*A:=by rw[g,<-dW];exact fK _ ac
   refine⟨?_,?_⟩;rw[k]at d;have f:=m.pad (δ*R) (a2 _);rw[j]at f;exact(f.add d).mono b1;have e:=(o.add l).pad (δ*R) b2;rw[j]at e;exact e
def M.norm{h:Nat}{t:aE (h+1)}{Δ A:Nat}(i:t.C Δ A){a:ae (h+1)}{D B:Nat}(d:M a D B):M (norm t a) (D*D*Δ) (B*B*A):=by
 have⟨δ,α,R,S,h1,l,n,e,f⟩:=i;have g:=M.mul h1 d.1 d.1;have k:=M.mul h1 d.2 d.2;have b:=M.mul h1 k l;have m:D*D*δ*R*δ=D*D*Δ:=by rw[e];simp only[fu,c9,oH]
 have j:D*D*δ*(δ*R)=D*D*Δ:=by rw[e];simp only[fu,c9,oH]
 have b1:B*B*α+B*B*α*S*α<=B*B*A:=by rw[f,show B*B*α*S*α=B*B*(α*α*S)by simp only[fu,c9,oH],<-dW];exact fK _ ac
 rw[m]at b;have c:=g.pad (δ*R) (a2 _);rw[j]at c;exact(c.add b.neg).mono b1
def ms{h:Nat}(a:ae h)(n:Nat):Prop:=∃D B,0<D/\D<=2^n/\B<=2^n/\M a D B
end Go.ay.ae
namespace Go.ay
def aE.bH{h:Nat}(t:aE h)(c:Nat):Prop:=∃Δ A,t.C Δ A/\Δ<=2^c/\A<=2^c
def hU{D E n m:Nat}(h:D<=2^n)(k:E<=2^m):D*E<=2^(n+m):=by rw[ic];exact jd h k
def aE.QN{t:aE 0}:t.bH 0:=⟨1,1,⟨rfl,rfl⟩,al,al⟩
def aE.acA{h:Nat}{t:aE h}{r:ae h}{c n:Nat}(f:t.bH c)(e:ae.ms r n):aE.bH (h:=h+1) (t,r) (c+c+n+2):=by
 have⟨δ,α,h1,a,b⟩:=f;have⟨D,B,p,q,s,d⟩:=e;refine⟨_,_,⟨δ,α,D,B,h1,d,p,rfl,rfl⟩,bx (hU (hU a a) q) (dT al ac),?_⟩;have g:α*α*B<=2^(c+c+n):=hU (hU b b) s;have j:2^c<=2^(c+c+n):=dT al ac;have i:2^(c+c+n+2)=4*2^(c+c+n):=by rw[ic];omega
 omega
end Go.ay
namespace Go.ay.ae
def jL{h:Nat}{a:ae h}{n m:Nat}(c:ms a n)(b:n<=m):ms a m:=by have⟨D,B,p,q,s,k⟩:=c;exact⟨D,B,p,bx q (dT al b),bx s (dT al b),k⟩
def Mq{h:Nat}{a b:ae h}{n m:Nat}(e:ms a n)(hb:ms b m):ms (add a b) (n+m+1):=by
 have⟨D,B,p,q,s,k⟩:=e;have⟨E,C,d,q',s',k'⟩:=hb;have h1:=k.pad E (a2 _);have c:=k'.pad D (a2 _);rw[c9]at c;refine⟨D*E,B+C,nS p d,bx (hU q q') (dT al ac),?_,h1.add c⟩;have f:2^n<=2^(n+m):=dT al ac;have g:2^m<=2^(n+m):=dT al ac;have i:2^(n+m+1)=2*2^(n+m):=by rw[ea];omega
 omega
def Mr{h:Nat}{a:ae h}{n:Nat}(b:ms a n):ms (neg a) n:=by have⟨D,B,p,q,s,k⟩:=b;exact⟨D,B,p,q,s,k.neg⟩
def uU(h:Nat){q:Rat}{n:Nat}(h1:q.num.natAbs<=2^n)(g:q.den<=2^n):ms (rat h q) n:=by refine⟨q.den,q.num.natAbs,q.den_pos,g,h1,M.rat h ⟨Nat.dvd_refl _,?_,?_⟩⟩;all_goals
   have e:=Cl q;have hd:(1:Rat)<=q.den:=D7.2 (show 1<=q.den from q.den_pos);have f:(q.num:Rat)<=(q.num.natAbs:Nat)/\-(q.num:Rat)<=(q.num.natAbs:Nat):=by have b:(q.num:Rat)<=((q.num.natAbs:Int):Rat):=tL.2 ac;have a:((-q.num:Int):Rat)<=((q.num.natAbs:Int):Rat):=tL.2 ac;rw[Jq]at a;exact⟨b,a⟩
   generalize((q.num.natAbs:Nat):Rat)=k at*;generalize(q.den:Rat)=d at*;rw[<-e]at f;by_cases c:0<=q;have:=jS c (ap:0<=d-1);grind;have:=jS (ap:0<=-q) (ap:0<=d-1);grind
def zv{h:Nat}{t:aE h}{c:Nat}(e:t.bH c){a b:ae h}{n m:Nat}(i:ms a n)(hb:ms b m):ms (mul t a b) (n+m+c):=by have⟨Δ,A,h1,d,f⟩:=e;have⟨D,B,p,q,s,k⟩:=i;have⟨E,C,g,q',s',k'⟩:=hb;exact⟨_,_,nS (nS p g) h1.pos.1,hU (hU q q') d,hU (hU s s') f,M.mul h1 k k'⟩
def Hg{h:Nat}{t:aE (h+1)}{c:Nat}(d:t.bH c){a:ae (h+1)}{n:Nat}(f:ms a n):ms (norm t a) (n+n+c):=by have⟨Δ,A,h1,b,e⟩:=d;have⟨D,B,p,q,s,k⟩:=f;exact⟨_,_,nS (nS p p) h1.pos.1,hU (hU q q) b,hU (hU s s) e,M.norm h1 k⟩
def uT{h:Nat}{x y:ae h}{n m:Nat}(c:ms x n)(d:ms y m):ms (h:=h+1) (x,y) (n+m):=by have⟨D,B,p,q,s,k⟩:=c;have⟨E,C,b,q',s',k'⟩:=d;have a:=k'.pad D (Nat.le_max_right B C);rw[c9]at a;refine⟨D*E,max B C,nS p b,hU q q',?_,k.pad E (Nat.le_max_left _ _),a⟩;have e:2^n<=2^(n+m):=dT al ac;have f:2^m<=2^(n+m):=dT al ac;omega
def zw{h:Nat}{a:ae (h+1)}{n:Nat}(b:ms a n):ms a.1 n/\ms a.2 n:=by have⟨D,B,p,q,s,k⟩:=b;exact⟨⟨D,B,p,q,s,k.1⟩,⟨D,B,p,q,s,k.2⟩⟩
def Uv{h:Nat}{t:aE h}{c:Nat}(b:t.bH c){x y i:ae h}{n m:Nat}(g:ms (h:=h+1) (x,y) n)(d:ms i m):ms (h:=h+1) (mul t x i,neg (mul t y i)) (n+m+c):=by have⟨Δ,A,h1,a,e⟩:=b;have⟨D,B,p,q,s,k⟩:=g;have⟨E,C,f,q',s',k'⟩:=d;exact⟨_,_,nS (nS p f) h1.pos.1,hU (hU q q') a,hU (hU s s') e,M.mul h1 k.1 k',(M.mul h1 k.2 k').neg⟩
def ju(c:Nat):Nat->Nat->Nat|0,n=>n+n|h+1,n=>n+ju c h (n+n+c)+c
def Uu:∀{h:Nat}{t:aE h}{c:Nat},t.bw->(∀k(u:aE k),aC.eE ⟨k,u⟩ ⟨h,t⟩->u.bH c)->∀{a:ae h}{n:Nat},ms a n->val t a≠0->ms (inv t a) (ju c h n)
 |0,t,c,_,_,a,n,d,f=>by
   have⟨D,B,p,q,s,k⟩:=d;have⟨E,m,o,i⟩:=fH.inv k p (λ e=>f (by rw[e];rfl))
   exact⟨E,D,m,bx o (hU s q),bx q (dT al (ac:n<=n+n)),i⟩|h+1,t,c,b,g,a,n,d,f=>by have j:aC.eE ⟨h,t.1⟩ ⟨h+1,t⟩:=.push (J:=⟨h,t.1⟩) t.2 (.refl _);have z:=Hg (g _ t (.refl _)) d;have l:val t.1 (norm t a)≠0:=λ e=>f (by
     have h1:=(red b).2 a f;have i:val t (inv t a)=val t.1 (mul t.1 a.1 (inv t.1 (norm t a)))+val t.1 (neg (mul t.1 a.2 (inv t.1 (norm t a))))*ax.rt (val t.1 t.2):=rfl;have v:∀(x:ae h),val t.1 x=0->val t.1 (inv t.1 x)=0:=λ x r=>by
       have:x=rat h 0:=(red b.1).1 x r;have key:∀{k:Nat}(u:aE k),u.bw->inv u (rat k 0)=rat k 0:=by intro k;induction k with|zero=>intro u _;exact Rat.inv_zero|succ k C=>intro u hu;have A:norm u (rat (k+1) 0)=rat k 0:=inj hu.1 (by rw[qE hu.1.pos,show val u.1 (rat (k+1) 0).1=0 from val_zero _,show val u.1 (rat (k+1) 0).2=0 from val_zero _,val_zero];grind);refine mz ?_ ?_;show mul u.1 (rat k 0) (inv u.1 (norm u (rat (k+1) 0)))=rat k 0;exact inj hu.1 (by rw[val_mul hu.1.pos,val_zero];grind);show neg (mul u.1 (rat k 0) (inv u.1 (norm u (rat (k+1) 0))))=rat k 0;exact inj hu.1 (by rw[val_neg,val_mul hu.1.pos,val_zero];grind)
       rw[this,key t.1 b.1,val_zero]
     rw[i,val_neg,val_mul b.1.pos,val_mul b.1.pos,v _ e]at h1;exfalso;exact ax.zero_ne_one (by rw[<-h1];grind));have w:=Uu (c:=c) b.1 (λ k u hu=>g k u (hu.trans j)) z l;exact jL (Uv (g _ t.1 j) (x:=a.1) (y:=a.2) d w) (by show n+ju c h (n+n+c)+c<=_;exact a2 _)
def B7(c:Nat):∀(h:Nat){n m:Nat},n<=m->ju c h n<=ju c h m|0,n,m,k=>by show n+n<=m+m;omega|h+1,n,m,k=>by have:=B7 c h (ac:n+n+c<=m+m+c);show n+ju c h (n+n+c)+c<=m+ju c h (m+m+c)+c;omega
def LW(c:Nat):∀(h n:Nat),h<=3->ju c h n<=23*n+41*c|0,n,_=>by show n+n<=_;omega|1,n,_=>by show n+(n+n+c+(n+n+c))+c<=_;omega|2,n,_=>by show n+((n+n+c)+(n+n+c+(n+n+c)+c+(n+n+c+(n+n+c)+c))+c)+c<=_;omega|3,n,_=>by show n+((n+n+c)+((n+n+c+(n+n+c)+c)+(n+n+c+(n+n+c)+c+(n+n+c+(n+n+c)+c)+c+(n+n+c+(n+n+c)+c+(n+n+c+(n+n+c)+c)+c))+c)+c)+c<=_;omega|h+4,n,a=>ac
def Mt{h:Nat}{a:ae h}{n:Nat}(b:ms a n):ms (add a a) (n+1):=by have⟨D,B,p,q,s,k⟩:=b;refine⟨D,B+B,p,bx q (dT al ac),?_,k.add k⟩;rw[ea];omega
def ki:{h:Nat}->aE h->Nat->Prop|0,t,c=>t.bH c|_+1,t,c=>t.bH c/\ki t.1 c
def ki.bH:∀{h:Nat}{t:aE h}{c:Nat},ki t c->t.bH c|0,_,_,h=>h|_+1,_,_,h=>h.1
def wM:∀{h:Nat}{t:aE h}{c:Nat},1<=c->t.Pos->ki t c->∀{a:ae h}{n:Nat},ms a n->val t a≠0->∃b,val t b=(val t a)⁻¹/\ms b (ju c h n)
 |0,t,c,_,_,_,a,n,l,f=>by have⟨D,B,p,q,s,k⟩:=l;have⟨E,H,F,I⟩:=fH.inv k p (λ e=>f (by rw[e];rfl));refine⟨Rat.inv a,?_,E,D,H,bx F (hU s q),bx q (dT al (ac:n<=n+n)),I⟩;have h1:=Ti a f;have o:=ax.qk f;show dG a⁻¹=(dG a)⁻¹;have w:dG a*(dG a)⁻¹=1:=o;generalize(dG a)⁻¹=i at*;generalize dG a⁻¹=j at*;generalize dG a=x at*;grind|h+1,t,c,A,g,r,a,n,l,f=>by
   have C:=ax.kT (x:=val t.1 t.2) (by have:=g.2;grind);have z:val t a=val t.1 a.1+val t.1 a.2*ax.rt (val t.1 t.2):=rfl;have G:=ax.qk f;have m:=qE (t:=t) g.1 a;by_cases u:val t.1 (norm t a)=0;have e:val t.1 a.1-val t.1 a.2*ax.rt (val t.1 t.2)=0:=by
     have:val t a*(val t.1 a.1-val t.1 a.2*ax.rt (val t.1 t.2))=0:=by rw[z];rw[m]at u;generalize ax.rt (val t.1 t.2)=s at*;rw[<-C]at u;grind
     exact(ax.ql this).resolve_left f
   have o:val t.1 (add a.1 a.1)=val t a:=by rw[val_add,z];grind
   have⟨b,hb,v⟩:=wM A g.1 r.2 (Mt (zw l).1) (by rw[o];exact f);rw[o]at hb;refine⟨(b,rat h 0),?_,?_⟩;show val t.1 b+val t.1 (rat h 0)*_=_;rw[val_zero,hb];grind;have⟨D,B,p,q,s,k⟩:=v;have w:ju c h (n+1)<=ju c (h+1) n:=by have:=B7 c h (ac:n+1<=n+n+c);show _<=n+ju c h (n+n+c)+c;omega
   exact⟨D,B,p,bx q (dT al w),bx s (dT al w),k,M.rat h fH.zero⟩;have⟨b,hb,v⟩:=wM A g.1 r.2 (Hg r.1 l) u;refine⟨(mul t.1 a.1 b,neg (mul t.1 a.2 b)),?_,Uv r.2.bH (x:=a.1) (y:=a.2) l v⟩;show val t.1 (mul t.1 a.1 b)+val t.1 (neg (mul t.1 a.2 b))*ax.rt (val t.1 t.2)=_;have d:=ax.qk u;rw[<-hb]at d;rw[val_neg,val_mul g.1,val_mul g.1];rw[m]at d;rw[z]at G⊢;generalize(val t.1 a.1+val t.1 a.2*ax.rt (val t.1 t.2))⁻¹=i at*;generalize val t.1 b=y at*;generalize ax.rt (val t.1 t.2)=s at*;rw[<-C]at d;grind
end Go.ay.ae
namespace Go.ay
structure bY where
 d:Nat
 M:aE d
 c:Nat
 C:Nat
 ok:aC->Prop
 hd:d<=3
 pos:M.Pos
 hc:1<=c
 Kt:ae.ki M c
 red:∀{T:aC},ok T->T.bw
 ht:∀{T:aC},ok T->T.1<=3
 nil:ok aC.nil
 ext:∀{T U:aC},ok T->ok U->ok (T.ext U.2)pre:∀{T U:aC},aC.eE T U->ok U->ok T
 bH:∀{T:aC},ok T->ae.ki T.2 C
 alz:∀{T:aC}{x:ae T.1},ok (T.push x)->ae.ms x C
 out:∀{T:aC}{a:ae d}{n:Nat},ok T->T.In (ae.val M a)->ae.ms a n->ae.ms (T.bd (ae.val M a)) (n+C)
def hM(K:bY)(v:ax)(n:Nat):Prop:=∃a,ae.val K.M a=v/\ae.ms a n
section
variable{K:bY}{v w:ax}{n m:Nat}
def hM.mono(h:hM K v n)(k:n<=m):hM K v m:=by obtain⟨a,rfl,b⟩:=h;exact⟨a,rfl,ae.jL b k⟩
def hM.add(h:hM K v n)(k:hM K w m):hM K (v+w) (n+m+1):=by obtain⟨a,rfl,c⟩:=h;obtain⟨b,rfl,hb⟩:=k;exact⟨ae.add a b,ae.val_add _ _ _,ae.Mq c hb⟩
def hM.neg(h:hM K v n):hM K (-v) n:=by obtain⟨a,rfl,b⟩:=h;exact⟨ae.neg a,ae.val_neg _ _,ae.Mr b⟩
def hM.sub(h:hM K v n)(k:hM K w m):hM K (v-w) (n+m+1):=by rw[sr];exact h.add k.neg
def hM.mul(h:hM K v n)(k:hM K w m):hM K (v*w) (n+m+K.c):=by obtain⟨a,rfl,d⟩:=h;obtain⟨b,rfl,hb⟩:=k;exact⟨ae.mul K.M a b,ae.val_mul K.pos _ _,ae.zv K.Kt.bH d hb⟩
def hM.inv(h:hM K v n):hM K v⁻¹ (23*n+41*K.c):=by obtain⟨a,rfl,g⟩:=h;by_cases e:ae.val K.M a=0;exact⟨ae.rat K.d 0,by rw[e,ax.DR,ae.val_zero],ae.jL (ae.uU (n:=0) K.d al al) (dL _)⟩;have⟨b,hb,f⟩:=ae.wM K.hc K.pos K.Kt g e;exact⟨b,hb,ae.jL f (ae.LW _ _ _ K.hd)⟩
def hM.rat{q:Rat}(h1:q.num.natAbs<=2^n)(a:q.den<=2^n):hM K (dG q) n:=⟨ae.rat _ q,ae.pI _ _,ae.uU _ h1 a⟩
def hM.out{T:aC}(c:K.ok T)(d:T.In v)(h:hM K v n):ae.ms (T.bd v) (n+K.C):=by obtain⟨a,rfl,b⟩:=h;exact K.out c d b
end
end Go.ay
namespace Go.ay.az
def G(K:bY)(a:az)(n:Nat):Prop:=K.ok a.T/\hM K a.val n
section
variable{K:bY}{a b:az}{n m:Nat}
def G.mono(h:G K a n)(k:n<=m):G K a m:=⟨h.1,h.2.mono k⟩
def G.red(h:G K a n):a.bw:=K.red h.1
def G.join(h:G K a n)(k:G K b m):K.ok (az.join a b):=K.ext h.1 k.1
def G.add(h:G K a n)(k:G K b m):G K (az.add a b) (n+m+1):=⟨h.join k,by rw[Bf h.red k.red];exact h.2.add k.2⟩
def G.sub(h:G K a n)(k:G K b m):G K (az.sub a b) (n+m+1):=⟨h.join k,by rw[Im h.red k.red];exact h.2.sub k.2⟩
def G.mul(h:G K a n)(k:G K b m):G K (az.mul a b) (n+m+K.c):=⟨h.join k,by rw[wX h.red k.red];exact h.2.mul k.2⟩
def G.div(h:G K a n)(k:G K b m):G K (az.div a b) (n+23*m+42*K.c):=⟨h.join k,by rw[div_val h.red k.red];exact(h.2.mul k.2.inv).mono ac⟩
def G.neg(h:G K a n):G K (az.neg a) n:=⟨h.1,by rw[Cs];exact h.2.neg⟩
def G.rat{q:Rat}(h1:q.num.natAbs<=2^n)(c:q.den<=2^n):G K (az.rat q) n:=⟨K.nil,hM.rat h1 c⟩
def G.bd(h:G K a n){T:aC}(d:K.ok T)(c:T.In a.val):ae.ms (T.bd a.val) (n+K.C):=h.2.out d c
def G.self(h:G K a n):ae.ms a.a (n+K.C):=by have:=h.bd h.1 ⟨a.a,rfl⟩;have e:a.T.bd a.val=a.a:=aC.nt h.red rfl;rwa[e]at this
end
end Go.ay.az
namespace Go.ay
noncomputable def aE.vals:{h:Nat}->aE h->List ax|0,_=>[]|_+1,t=>ae.val t.1 t.2::aE.vals t.1
end Go.ay
namespace Go.ay.aC
def z9:∀{h:Nat}{t:aE h}{v:ax},v∈t.vals->In ⟨h,t⟩ v/\In ⟨h,t⟩ (ax.rt v)|0,_,v,a=>by cases a|h+1,t,v,a=>by rcases ct.1 a with rfl|a;exact⟨In.push (T:=⟨h,t.1⟩) ⟨t.2,rfl⟩,In.root (T:=⟨h,t.1⟩)⟩;have⟨h1,b⟩:=z9 (t:=t.1) a;exact⟨h1.push,b.push⟩
def sf:∀{h:Nat}{t:aE h},t.bw->t.vals.Nodup|0,_,_=>gW|h+1,t,a=>by refine hZ.2 ⟨λ c=>?_,sf (t:=t.1) a.1⟩;have⟨w,d⟩:=(z9 (t:=t.1) c).2;refine a.2.2 w ?_;have e:0<ae.val t.1 t.2:=a.2.1;have b:ae.val t.1 w=ax.rt (ae.val t.1 t.2):=d;rw[b];exact ax.kT ap
def xE:∀{h:Nat}{t:aE h},t.vals.length=h|0,_=>rfl|h+1,t=>congrArg (·+1) (xE (t:=t.1))
def pe{α:Type}:∀{l S:List α},l.Nodup->(∀x∈l,x∈S)->l.length<=S.length
 |[],_,_,_=>dL _|a::l,S,b,d=>by
   obtain⟨s,t,rfl⟩:=List.append_of_mem (d a am);rw[hZ]at b;have:=pe (l:=l) (S:=s++t) b.2 λ x c=>by have:=d x (cR _ c);simp only[jh,ct]at this⊢;rcases this with h|rfl|h;exact .inl h;exact absurd c b.1;exact .inr h
   simp only[cP,gC]at this⊢;omega
def Qc{T:aC}{x:ae T.1}{v:ax}(h:v∈(T.gD x).2.vals):v=ae.val T.2 x\/v∈T.2.vals:=by by_cases a:T.In (ax.rt (ae.val T.2 x));rw[show T.gD x=T from if_pos a]at h;exact .inr h;rw[show T.gD x=T.push x from if_neg a]at h;exact ct.1 h
def KZ{T:aC}(a:T.bw):∀{k:Nat}{u:aE k},u.bw->∀{v:ax},v∈(T.ext u).2.vals->v∈T.2.vals\/v∈u.vals|0,_,_,_,h=>.inl h|k+1,u,hu,v,h=>by rcases Qc h with e|e;right;rw[l0 ((mI a hu.1).2.2 _ ⟨u.2,rfl⟩)]at e;rw[e];exact cp;rcases KZ a hu.1 e with e|e;exact .inl e;exact .inr (cR _ e)
end Go.ay.aC
namespace Go.ay
def alD{w a:Rat}{D B:Nat}(h:w*w=a)(d:fH a D B)(e:0<D):w.num.natAbs<=B*D/\w.den<=D:=by
 have h1:=d.num e;have hd:a.den=w.den*w.den/\a.num=w.num*w.num:=by
   subst h;have c:(w.num*w.num).natAbs.gcd (w.den*w.den)=1:=by rw[m7];have b:=w.reduced;exact Nat.Coprime.mul_left (ZN b b) (ZN b b)
   exact⟨by rw[Rat.den_mul,c,Nat.div_one],by rw[Rat.num_mul,c];simp⟩
 have g:w.num.natAbs<=w.num.natAbs*w.num.natAbs:=AE _;have f:w.den<=w.den*w.den:=AE _;rw[hd.1,hd.2,m7]at h1;omega
end Go.ay
namespace Go.ay.ae
def fo(c:Nat):Nat->Nat->Nat|0,n=>n+n|h+1,n=>fo c h (n+fo c h (n+n+c)+3+c)+(n+ju c h (fo c h (n+fo c h (n+n+c)+3+c)+1)+c)+fo c h n+fo c h (n+ju c h c+c)
def BK(c:Nat):∀(h:Nat){n m:Nat},n<=m->fo c h n<=fo c h m|0,n,m,k=>by show n+n<=m+m;omega|h+1,n,m,k=>by have e:=BK c h (ac:n+n+c<=m+m+c);have a:=BK c h (ac:n+fo c h (n+n+c)+3+c<=m+fo c h (m+m+c)+3+c);have f:=BK c h k;have b:=BK c h (ac:n+ju c h c+c<=m+ju c h c+c);have d:=B7 c h (Nat.add_le_add_right a 1);show _+(_+_+_)+_+_<=_+(_+_+_)+_+_;omega
def Rd:{h:Nat}->aE h->Nat->Prop|0,_,_=>True|_+1,t,c=>ms t.2 c/\Rd t.1 c
def ki.pre:∀{T U:aC},aC.eE T U->∀{c:Nat},ki U.2 c->ki T.2 c:=by intro T U h;induction h with|refl=>intro c h;exact h|push x _ b=>intro c h;exact b h.2
def Hf{h:Nat}{t:aE h}{c:Nat}(b:t.bw)(e:ki t c){a:ae h}{n:Nat}(f:ms a n)(d:val t a≠0):ms (inv t a) (ju c h n):=Uu b (λ k u hu=>(ki.pre hu e).bH) f d
def Lm:((1/2:Rat).num.natAbs=1/\(1/2:Rat).den=2):=by have h:(1/2:Rat)=⟨1,2,al,al⟩:=an;rw[h];exact⟨rfl,rfl⟩
def SK{h:Nat}{t:aE h}{c:Nat}(d:t.bH c){a:ae h}{n:Nat}(b:ms a n):ms (mul t a (rat h (1/2))) (n+1+c):=zv d b (uU h (by rw[Lm.1];decide) (by rw[Lm.2];decide))
def IL{h:Nat}{t:aE h}(c:t.Pos)(a:ae h):val t (mul t a (rat h (1/2)))=val t a/2:=by
 rw[val_mul c,pI];have b:dG (1/2)*dG 2=1:=by rw[oG,show(1/2:Rat)*2=1 from ap];exact CA
 have e:(2:ax)=dG 2:=rfl;generalize dG (1/2)=i at*;rw[<-e]at b;grind
def tq:∀{h:Nat}{t:aE h}{c:Nat},t.bw->ki t c->Rd t c->∀{a w:ae h}{n:Nat},val t w*val t w=val t a->ms a n->ms w (fo c h n)
 |0,t,c,_,_,_,a,w,n,u,m=>by have⟨D,B,p,q,s,k⟩:=m;have e:Rat.mul w w=a:=ax.Hq ((oG w w).symm.trans u);have⟨h1,J⟩:=alD (w:=w) (a:=a) e k p;exact uU 0 (bx h1 (hU s q)) (bx J (bx q (dT al (ac:n<=n+n))))|h+1,t,c,b,d,j,a,w,n,u,m=>by
   have⟨p,q⟩:=Dg b u;have⟨A,K⟩:=zw m;have f:=b.1.pos;have l:val t.1 t.2≠0:=by have:=b.2.1;grind
   by_cases H:val t.1 a.2=0;rw[H]at q;have I:∀x:ae h,val t.1 x=0->x=rat h 0:=(red b.1).1;have G:ms (rat h 0) 0:=uU h al al;rcases ax.ql (x:=val t.1 w.1) (y:=val t.1 w.2) ap with e|e;have E:=I _ e;have v:=(red b.1).2 _ l;have F:val t.1 w.2*val t.1 w.2=val t.1 (mul t.1 a.1 (inv t.1 t.2)):=by rw[val_mul f,<-p,e];generalize val t.1 (inv t.1 t.2)=i at*;generalize val t.1 t.2=r at*;grind
   have k:=tq b.1 d.2 j.2 F (zv d.2.bH A (Hf b.1 d.2 j.1 l));have:w=(rat h 0,w.2):=mz E rfl;rw[this];exact jL (uT G k) (by show _<=_+_+_+_;omega);have E:=I _ e;have k:=tq (a:=a.1) (w:=w.1) b.1 d.2 j.2 (by rw[<-p,e];grind) A;have:w=(w.1,rat h 0):=mz rfl E;rw[this];exact jL (uT k G) (by show _<=_+_+_+_;omega)
   · have C:val t.1 (add (mul t.1 w.1 w.1) (neg (mul t.1 (mul t.1 w.2 w.2) t.2)))=val t.1 w.1*val t.1 w.1-val t.1 w.2*val t.1 w.2*val t.1 t.2:=by rw[val_add,val_neg,val_mul f,val_mul f,val_mul f];grind
     generalize O:add (mul t.1 w.1 w.1) (neg (mul t.1 (mul t.1 w.2 w.2) t.2))=z at C;have N:=tq (a:=norm t a) (w:=z) b.1 d.2 j.2 (by rw[C,qE f,<-p,<-q];grind) (Hg d.1 m);have o:=tq (a:=mul t.1 (add a.1 z) (rat h (1/2))) (w:=w.1) b.1 d.2 j.2 (by rw[IL f,val_add,C,<-p];grind) (SK d.2.bH (Mq A N));have o:=jL o (show fo c h (n+fo c h (n+n+c)+1+1+c)<=fo c h (n+fo c h (n+n+c)+3+c)from BK c h ac);have g:val t.1 (add w.1 w.1)≠0:=by rw[val_add];intro e;have:val t.1 w.1=0:=ap;rw[this]at q;exact H (by rw[<-q];grind)
     have L:=Hf b.1 d.2 (Mt o) g;have F:w.2=mul t.1 a.2 (inv t.1 (add w.1 w.1)):=inj b.1 (by have v:=(red b.1).2 _ g;rw[val_mul f,<-q];rw[val_add]at v;generalize val t.1 (inv t.1 (add w.1 w.1))=i at*;generalize val t.1 w.1=x at*;generalize val t.1 w.2=y at*;have:2*(x*y)*i=y*((x+x)*i):=ap;rw[this,v];grind);have:w=(w.1,mul t.1 a.2 (inv t.1 (add w.1 w.1))):=mz rfl F;rw[this];exact jL (uT o (zv d.2.bH K L)) (by show _<=_+_+_+_;omega)
open Classical in noncomputable def comb:{h:Nat}->aE h->ax->ae h->ae h->ae h|0,_,_,x,_=>x|_+1,t,ρ,x,y=>if val t.1 t.2=ρ then(x.1,y.1)else(comb t.1 ρ x.1 y.1,comb t.1 ρ x.2 y.2)
def sD:{h:Nat}->aE h->ax->ae h->Prop|0,_,_,_=>True|h+1,t,ρ,x=>(val t.1 t.2=ρ->x.2=rat h 0)/\(val t.1 t.2≠ρ->sD t.1 ρ x.1/\sD t.1 ρ x.2)
def Cx:∀{h:Nat}(t:aE h)(ρ:ax)(q:Rat),sD t ρ (rat h q)|0,_,_,_=>trivial|h+1,t,ρ,q=>⟨λ _=>rfl,λ _=>⟨Cx _ _ _,Cx _ _ _⟩⟩
def Q9:∀{h:Nat}(t:aE h)(ρ:ax),comb t ρ (rat h 0) (rat h 0)=rat h 0|0,_,_=>rfl|h+1,t,ρ=>by by_cases e:val t.1 t.2=ρ;exact if_pos e;rw[show comb t ρ (rat (h+1) 0) (rat (h+1) 0)=(comb t.1 ρ (rat h 0) (rat h 0),comb t.1 ρ (rat h 0) (rat h 0))from if_neg e,Q9];rfl
def IK:∀{h:Nat}{t:aE h}{ρ:ax}{x y:ae h},ρ∈t.vals->sD t ρ x->sD t ρ y->val t (comb t ρ x y)=val t x+val t y*ax.rt ρ|0,_,_,_,_,h,_,_=>by cases h|h+1,t,ρ,x,y,i,g,c=>by have d:val t x=val t.1 x.1+val t.1 x.2*ax.rt (val t.1 t.2):=rfl;have f:val t y=val t.1 y.1+val t.1 y.2*ax.rt (val t.1 t.2):=rfl;by_cases e:val t.1 t.2=ρ;have b:comb t ρ x y=(x.1,y.1):=if_pos e;rw[b,d,f,g.1 e,c.1 e,val_zero];show val t.1 x.1+val t.1 y.1*ax.rt (val t.1 t.2)=_;rw[e];grind;have b:comb t ρ x y=(comb t.1 ρ x.1 y.1,comb t.1 ρ x.2 y.2):=if_neg e;have a:ρ∈t.1.vals:=(ct.1 i).resolve_left (λ h=>e h.symm);have⟨x1,bE⟩:=g.2 e;have⟨j,k⟩:=c.2 e;rw[b,d,f];show val t.1 (comb t.1 ρ x.1 y.1)+val t.1 (comb t.1 ρ x.2 y.2)*ax.rt (val t.1 t.2)=_;rw[IK a x1 j,IK a bE k];grind
def ES:∀{h:Nat}{t:aE h}{ρ:ax}{x y:ae h}{D B:Nat},M x D B->M y D B->M (comb t ρ x y) D B|0,_,_,_,_,_,_,a,_=>a|h+1,t,ρ,x,y,D,B,a,b=>by by_cases e:val t.1 t.2=ρ;rw[show comb t ρ x y=(x.1,y.1)from if_pos e];exact⟨a.1,b.1⟩;rw[show comb t ρ x y=(comb t.1 ρ x.1 y.1,comb t.1 ρ x.2 y.2)from if_neg e];exact⟨ES a.1 b.1,ES a.2 b.2⟩
def MG:∀{h:Nat}{t:aE h}{ρ τ:ax}{x y:ae h},τ≠ρ->sD t τ x->sD t τ y->sD t τ (comb t ρ x y)|0,_,_,_,_,_,_,_,_=>trivial|h+1,t,ρ,τ,x,y,a,b,c=>by by_cases e:val t.1 t.2=ρ;rw[show comb t ρ x y=(x.1,y.1)from if_pos e];have d:val t.1 t.2≠τ:=λ h=>a (h.symm.trans e);exact⟨λ h=>absurd h d,λ _=>⟨(b.2 d).1,(c.2 d).1⟩⟩;rw[show comb t ρ x y=(comb t.1 ρ x.1 y.1,comb t.1 ρ x.2 y.2)from if_neg e];refine⟨λ h=>?_,λ h=>⟨MG a (b.2 h).1 (c.2 h).1,MG a (b.2 h).2 (c.2 h).2⟩⟩;show comb t.1 ρ x.2 y.2=_;rw[b.1 h,c.1 h,Q9]
noncomputable def pm{h:Nat}(J:aE h):{k:Nat}->aE k->ae k->ae h|0,_,a=>rat h a|_+1,u,a=>comb J (val u.1 u.2) (pm J u.1 a.1) (pm J u.1 a.2)
def zJ{h:Nat}{J:aE h}:∀{k:Nat}{u:aE k},u.vals.Nodup->(∀ρ∈u.vals,ρ∈J.vals)->∀a:ae k,val J (pm J u a)=val u a/\(∀τ,τ∉u.vals->sD J τ (pm J u a))/\∀D B,M a D B->M (pm J u a) D B|0,u,_,_,a=>⟨pI J a,λ τ _=>Cx J τ a,λ D B c=>M.rat h c⟩|k+1,u,m,f,a=>by have⟨g,d⟩:=hZ.1 m;have b:∀ρ∈u.1.vals,ρ∈J.vals:=λ ρ i=>f ρ (cR _ i);have⟨o,e,n⟩:=zJ d b a.1;have⟨b1,b2,b3⟩:=zJ d b a.2;refine⟨?_,λ τ j=>?_,λ D B c=>ES (n D B c.1) (b3 D B c.2)⟩;show val J (comb J _ _ _)=val u.1 a.1+val u.1 a.2*ax.rt (val u.1 u.2);rw[IK (f _ cp) (e _ g) (b2 _ g),o,b1];have⟨l,t2⟩:=not_or.1 (λ h=>j (ct.2 h));exact MG l (e _ t2) (b2 _ t2)
noncomputable def uK{h:Nat}(J:aE h)(R:ax->ae h):{k:Nat}->aE k->ae k->ae h|0,_,a=>rat h a|_+1,u,a=>add (uK J R u.1 a.1) (mul J (uK J R u.1 a.2) (R (val u.1 u.2)))
def GL{h:Nat}{J:aE h}(c:J.Pos){R:ax->ae h}:∀{k:Nat}{u:aE k},(∀ρ∈u.vals,val J (R ρ)=ax.rt ρ)->∀a:ae k,val J (uK J R u a)=val u a|0,_,_,a=>pI J a|k+1,u,d,a=>by have b:=GL c (R:=R) (u:=u.1) λ ρ e=>d ρ (cR _ e);show val J (add _ (mul J _ _))=val u.1 a.1+val u.1 a.2*ax.rt (val u.1 u.2);rw[val_add,val_mul c,b,b,d _ cp]
def Th{h:Nat}{J:aE h}{c r:Nat}(i:J.bH c){R:ax->ae h}:∀{k:Nat}{u:aE k},(∀ρ∈u.vals,ms (R ρ) r)->∃K L,0<K/\K<=2^(k*(r+c+1))/\0<L/\L<=2^(k*(r+c+1))/\∀(a:ae k)(D B:Nat),M a D B->M (uK J R u a) (D*K) (B*L)
 |0,_,_=>⟨1,1,al,am,al,am,λ a D B d=>by rw[m9,m9];exact M.rat h d⟩|k+1,u,g=>by
   have⟨K,L,t,q,n,z,j⟩:=Th i (u:=u.1) λ ρ x=>g ρ (cR _ x);have⟨E,F,s,p,f1,l⟩:=g _ cp;have⟨Δ,A,f,w,C⟩:=i;have y:=f.pos;refine⟨K*(E*Δ),L*(1+F*A),nS t (nS s y.1),?_,nS n ac,?_,λ a D B d=>?_⟩;rw[show(k+1)*(r+c+1)=k*(r+c+1)+(r+c+1)by rw[Nat.add_mul,Nat.one_mul]];exact hU q (bx (hU p w) (dT al ac));rw[show(k+1)*(r+c+1)=k*(r+c+1)+(r+c+1)by rw[Nat.add_mul,Nat.one_mul]];refine hU z ?_;have:=hU f1 C;have h1:1<=2^(r+c):=vr;rw[ea];omega;have o:=j a.1 D B d.1;have e:=M.mul f (j a.2 D B d.2) l;have v:D*K*E*Δ=D*(K*(E*Δ)):=by simp only[fu]
   have m:D*K*(E*Δ)=D*(K*(E*Δ)):=by simp only[fu]
   have b:=o.pad (E*Δ) (a2 _);rw[m]at b;rw[v]at e;refine(b.add e).mono ?_;rw[show B*L+B*L*F*A=B*(L*(1+F*A))by rw[dW,m9,dW];simp only[fu]];exact a2 _
def LR{h:Nat}{J:aE h}{c r:Nat}(g:J.bH c){R:ax->ae h}{k:Nat}{u:aE k}(j:∀ρ∈u.vals,ms (R ρ) r){a:ae k}{n:Nat}(f:ms a n):ms (uK J R u a) (n+k*(r+c+1)):=by have⟨K,L,l,e,m,i,d⟩:=Th g j;have⟨D,B,p,q,s,b⟩:=f;exact⟨D*K,B*L,nS p l,hU q e,hU s i,d a D B b⟩
def M8{h:Nat}{J:aE h}{k:Nat}{u:aE k}(c:u.vals.Nodup)(e:∀ρ∈u.vals,ρ∈J.vals){a:ae k}{n:Nat}(d:ms a n):ms (pm J u a) n:=by have⟨D,B,p,q,s,b⟩:=d;exact⟨D,B,p,q,s,(zJ c e a).2.2 D B b⟩
end Go.ay.ae
namespace Go.ay.aC
def KT{T J:aC}(h:eE T J)(c:J.bw){v:ax}(d:T.In v){n:Nat}(a:ae.ms (J.bd v) n):ae.ms (T.bd v) n:=by induction h with|refl=>exact a|@push J x g f=>refine f c.1 ?_;have b:=g.in d;have e:(J.push x).bd v=((J.bd v,ae.rat J.1 0):ae (J.1+1)):=nt (T:=J.push x) c (by show ae.val J.2 (J.bd v)+ae.val J.2 (ae.rat J.1 0)*_=v;rw[l0 b,ae.val_zero];grind);rw[e]at a;exact(ae.zw a).1
end Go.ay.aC
namespace Go.ay
def aE.QL{h:Nat}{t:aE h}{c d:Nat}(k:t.bH c)(f:c<=d):t.bH d:=by have⟨Δ,A,a,b,e⟩:=k;exact⟨Δ,A,a,bx b (dT al f),bx e (dT al f)⟩
end Go.ay
namespace Go.ay.ae
def ki.mono:∀{h:Nat}{t:aE h}{c d:Nat},ki t c->c<=d->ki t d|0,_,_,_,h,k=>aE.QL h k|_+1,_,_,_,h,k=>⟨aE.QL h.1 k,h.2.mono k⟩
def sS(s:Nat):Nat->Nat|0=>0|h+1=>sS s h+sS s h+s+2
def QS{s h:Nat}(a:h<=3):sS s h<=7*s+14:=by match h,a with|0,_=>exact dL _|1,_=>show 0+0+s+2<=_;omega|2,_=>show(0+0+s+2)+(0+0+s+2)+s+2<=_;omega|3,_=>show((0+0+s+2)+(0+0+s+2)+s+2)+((0+0+s+2)+(0+0+s+2)+s+2)+s+2<=_;omega
def QM:∀{h:Nat}{t:aE h}{s:Nat},Rd t s->t.bH (sS s h)|0,_,_,_=>aE.QN|_+1,_,_,a=>aE.acA (QM a.2) a.1
def acJ(s h:Nat):sS s h<=sS s (h+1):=by show _<=sS s h+sS s h+s+2;omega
def EM:∀{h:Nat}{t:aE h}{s:Nat},Rd t s->ki t (sS s h)|0,_,_,_=>aE.QN|h+1,_,s,a=>⟨QM a,(EM a.2).mono (acJ s h)⟩
def Rd.mono:∀{h:Nat}{t:aE h}{c d:Nat},Rd t c->c<=d->Rd t d|0,_,_,_,_,_=>trivial|_+1,_,_,_,h,k=>⟨jL h.1 k,h.2.mono k⟩
def Gb(c h n:Nat):fo c h n<=fo c (h+1) n:=by show _<=_+_+fo c h n+_;omega
def aiG{h:Nat}{q:ae 0}{n:Nat}(e:ms q n):ms (rat h q) n:=by have⟨D,B,a,b,c,d⟩:=e;exact⟨D,B,a,b,c,M.rat h d⟩
def amm{h:Nat}{t:aE h}{ρ:ax}(a:ρ∈t.vals):∃b,val t b=ax.rt ρ/\ms b 0:=by refine⟨comb t ρ (rat h 0) (rat h 1),?_,1,1,al,al,al,ES (M.rat h fH.zero) (M.rat h ⟨Nat.dvd_refl 1,al,al⟩)⟩;rw[IK a (Cx t ρ 0) (Cx t ρ 1),val_zero,pI,CA];grind
end Go.ay.ae
namespace Go.ay
def aC.zL:∀{h:Nat}(t:aE h),aC.eE aC.nil ⟨h,t⟩|0,_=>.refl _|h+1,t=>.push (J:=⟨h,t.1⟩) t.2 (zL t.1)
structure Src where
 S:List ax
 n:Nat
 H:Nat->aC
 x:(i:Nat)->ae (H i).1
 nodup:S.Nodup
 len:S.length<=3
 red:∀i,i<S.length->(H i).bw
 sub:∀i,i<S.length->∀ρ∈(H i).2.vals,ρ∈S.take i
 val:∀i(h:i<S.length),ae.val (H i).2 (x i)=S[i]ms:∀i,i<S.length->ae.ms (x i) n
 pos:∀ρ∈S,0<ρ
end Go.ay
namespace Go.ay.Src
section
variable(Q:Src)
def ok(T:aC):Prop:=T.bw/\∀ρ∈T.2.vals,ρ∈Q.S
variable{Q}
def mL{i:Nat}(h:i<Q.S.length):Q.ok (Q.H i):=⟨Q.red i h,λ ρ a=>gK (Q.sub i h ρ a)⟩
def Hu{T U:aC}(h:Q.ok T)(k:Q.ok U):Q.ok (T.ext U.2):=⟨(aC.mI h.1 k.1).1,λ ρ a=>(aC.KZ h.1 k.1 a).elim (h.2 ρ) (k.2 ρ)⟩
def Vc{T U:aC}(h:aC.eE T U):Q.ok U->Q.ok T:=by induction h with|refl=>exact id|push x _ b=>exact λ hu=>b ⟨hu.1.1,λ ρ c=>hu.2 ρ (cR _ c)⟩
def xe{T:aC}(h:Q.ok T):T.1<=3:=by have:=aC.pe (aC.sf h.1) h.2;rw[aC.xE]at this;exact bx this Q.len
def agw{i:Nat}(h:i<Q.S.length):(Q.H i).In Q.S[i]:=⟨Q.x i,Q.val i h⟩
def Ho{i:Nat}(h:i<Q.S.length):Q.S[i]∉Q.S.take i:=λ a=>by have⟨j,b,e⟩:=gJ.1 a;rw[gV]at b;rw[ZP]at e;exact D8.1 Q.nodup j i ac h ac e
def free{J:aC}(c:Q.ok J){i:Nat}(h:i<Q.S.length)(a:∀ρ∈(Q.H i).2.vals,ρ∈J.2.vals):ae.ms (J.bd Q.S[i]) Q.n:=by have b:=aC.sf (Q.red i h);have e:=(ae.zJ b a (Q.x i)).1;rw[Q.val i h]at e;rw[aC.nt c.1 e];exact ae.M8 b a (Q.ms i h)
def VZ{J:aC}(c:Q.ok J){i:Nat}(h:i<Q.S.length)(a:aC.nil.In Q.S[i]):ae.ms (J.bd Q.S[i]) Q.n:=by
 have h1:ae.ms ((Q.H i).bd Q.S[i]) Q.n:=by rw[aC.nt (Q.red i h) (Q.val i h)];exact Q.ms i h
 have b:=aC.KT (aC.zL (Q.H i).2) (Q.red i h) a h1;have e:J.bd Q.S[i]=ae.rat J.1 (aC.nil.bd Q.S[i]):=aC.nt c.1 ((ae.pI J.2 _).trans (aC.l0 a));rw[e];exact ae.aiG b
def idx{ρ:ax}(h:ρ∈Q.S):∃i,∃h:i<Q.S.length,Q.S[i]=ρ:=gJ.1 h
def c1(Q:Src):Nat:=Q.n+2
def r1(Q:Src):Nat:=ae.fo Q.c1 1 Q.n
def e1(Q:Src):Nat:=Q.n+3*(Q.r1+Q.c1+1)
def low{J:aC}(a:Q.ok J)(h1:J.1<=1):ae.Rd J.2 Q.n/\ae.ki J.2 Q.c1:=by
 have b:ae.Rd J.2 Q.n:=by have⟨h,t⟩:=J;match h,t,h1,a with
   |0,_,_,_=>exact trivial|1,t,_,a=>
     refine⟨?_,trivial⟩;have⟨i,c,e⟩:=Q.idx (a.2 _ cp);have d:aC.nil.In Q.S[i]:=by rw[e];exact⟨t.2,rfl⟩
     have:=Q.VZ (J:=aC.nil) ⟨trivial,λ ρ h=>by cases h⟩ c d;rw[e,show aC.nil.bd (ae.val t.1 t.2)=t.2 from aC.nt (T:=aC.nil) trivial rfl]at this;exact this
 refine⟨b,(ae.EM b).mono ?_⟩;have f:J.1=0\/J.1=1:=ac;rcases f with e|e<;>rw[e];exact dL _;show 0+0+Q.n+2<=Q.n+2;omega
def ajv{J:aC}(h:J.1=0){v:ax}(b:J.In v):aC.nil.In v:=by have⟨k,t⟩:=J;match k,t,h,b with|0,_,_,⟨a,e⟩=>exact⟨a,e⟩
def ajx{J:aC}(h:J.1<=1){v:ax}(a:v∈J.2.vals):aC.nil.In v:=by have⟨k,t⟩:=J;match k,t,h,a with|1,t,_,a=>rcases ct.1 a with rfl|a;exact⟨t.2,rfl⟩;cases a
def adZ{l:List ax}(f:l.Nodup){a b:ax}(g:a∈Q.S)(hb:b∈Q.S)(e:a≠b)(d:∀ρ∈l,ρ∈Q.S/\ρ≠a/\ρ≠b):l.length<=1:=by have:=aC.pe (l:=a::b::l) (S:=Q.S) (by simp only[hZ,ct,not_or];exact⟨⟨e,λ h=>(d a h).2.1 rfl⟩,λ h=>(d b h).2.2 rfl,f⟩) (λ x c=>by simp only[ct]at c;rcases c with rfl|rfl|c;exact g;exact hb;exact(d x c).1);have:=Q.len;simp only[gC]at*;omega
def aer{h:Nat}(c n:Nat)(a:h<=1):ae.fo c h n<=ae.fo c 1 n:=by have:h=0\/h=1:=ac;rcases this with rfl|rfl;exact ae.Gb c 0 n;exact a2 _
def gen{T:aC}(V:Q.ok T){i:Nat}(h:i<Q.S.length)(hn:Q.S[i]∉T.2.vals)(K:T.In Q.S[i]):ae.ms (T.bd Q.S[i]) Q.e1:=by
 have f:=Hu V (mL h);have uE:=aC.CO T (Q.H i).2;refine aC.KT uE f.1 K ?_;have v:=aC.mI V.1 (Q.red i h);have I:∀ρ∈(T.ext (Q.H i).2).2.vals,ρ∈T.2.vals\/ρ∈(Q.H i).2.vals:=λ ρ d=>aC.KZ V.1 (Q.red i h) d;generalize T.ext (Q.H i).2=J at*;have u:Q.S[i]∉J.2.vals:=λ s=>(I _ s).elim hn λ s=>Ho h (Q.sub i h _ s);by_cases A:∀ρ∈(Q.H i).2.vals,ρ∈J.2.vals;exact ae.jL (free f h A) (by show Q.n<=Q.n+_;omega);obtain⟨M,A⟩:=Pe.1 A;obtain⟨y,P⟩:=ZQ.1 A;have D:=(mL h).2 M y;have C:Q.S[i]≠M:=λ e=>Ho h (e▸Q.sub i h M y);have B:=adZ (aC.sf f.1) (bf h) D C λ ρ d=>⟨f.2 ρ d,λ e=>u (e▸d),λ e=>P (e▸d)⟩;rw[aC.xE]at B;obtain⟨LH,t⟩:=low f B;have dE:∀ρ∈(Q.H i).2.vals,ae.val J.2 (J.bd (ax.rt ρ))=ax.rt ρ/\ae.ms (J.bd (ax.rt ρ)) Q.r1:=λ ρ d=>by
   have r:=v.2.2 _ (aC.z9 d).2;have m:=v.2.2 _ (aC.z9 d).1;have p:=aC.l0 r;refine⟨p,?_⟩;obtain⟨j,g,e⟩:=Q.idx ((mL h).2 ρ d);subst e;have s:ae.ms (J.bd Q.S[j]) Q.n:=by
     by_cases k:∀σ∈(Q.H j).2.vals,σ∈J.2.vals;exact free f g k;obtain⟨σ,k⟩:=Pe.1 k;obtain⟨q,Y⟩:=ZQ.1 k;have U:=(mL g).2 σ q;have O:Q.S[i]≠Q.S[j]:=λ e=>Ho h (e▸Q.sub i h _ d);have E:Q.S[j]≠σ:=λ e=>Ho g (e▸Q.sub j g σ q);have F:Q.S[i]≠σ:=λ e=>by
       have h1:=Q.sub j g σ q;have h2:=Q.sub i h _ d;obtain⟨a,ha,FG⟩:=gJ.1 h1;obtain⟨b,hb,X⟩:=gJ.1 h2;rw[gV]at ha hb;rw[ZP]at FG X;have N:=D8.1 Q.nodup;have arc:b=j:=by rcases Nat.lt_trichotomy b j with hlt|Z|G;exact absurd X (N b j ac g hlt);exact Z;exact absurd X.symm (N j b g ac G)
       have W:a<i:=ac;exact N a i ac h W (FG.trans e.symm)
     refine VZ f g ?_;by_cases R:J.1=0;exact ajv R m
     · have o:J.2.vals.length=J.1:=aC.xE;obtain⟨τ,z⟩:∃τ,τ∈J.2.vals:=by cases hq:J.2.vals with|nil=>rw[hq]at o;simp at o;omega|cons a l=>exact⟨a,cp⟩
       have L:τ=Q.S[j]:=by by_cases e:τ=Q.S[j];exact e;exfalso;have:=aC.pe (l:=[Q.S[i],Q.S[j],σ,τ]) (S:=Q.S) (by simp only[hZ,ct,cS,or_false,not_or,not_false_eq_true,and_true,gW];exact⟨⟨O,F,λ h=>u (h▸z)⟩,⟨E,λ h=>e h.symm⟩,λ h=>Y (h▸z)⟩) (λ x v=>by simp only[ct,cS,or_false]at v;rcases v with rfl|rfl|rfl|rfl;exact bf h;exact bf g;exact U;exact f.2 _ z);have:=Q.len;simp only[gC,List.length_nil]at*;omega
       exact ajx B (L▸z)
   have hp:0<Q.S[j]:=Q.pos _ (bf g);have:=ae.tq (a:=J.bd Q.S[j]) (w:=J.bd (ax.rt Q.S[j])) f.1 t (LH.mono (ac:Q.n<=Q.n+2)) (by rw[p,aC.l0 m];exact ax.kT ap) s;exact ae.jL this (aer _ _ B)
 have e:J.bd Q.S[i]=ae.uK J.2 (λ ρ=>J.bd (ax.rt ρ)) (Q.H i).2 (Q.x i):=aC.nt f.1 (by rw[ae.GL f.1.pos (λ ρ d=>(dE ρ d).1),Q.val i h]);rw[e];refine ae.jL (ae.LR t.bH (λ ρ d=>(dE ρ d).2) (Q.ms i h)) ?_;have h3:=xe (mL h);have:(Q.H i).1*(Q.r1+Q.c1+1)<=3*(Q.r1+Q.c1+1):=ck _ h3;show _<=Q.n+3*(Q.r1+Q.c1+1);omega
end
section
variable{Q:Src}
def rd:∀{h:Nat}{t:aE h},Q.ok ⟨h,t⟩->ae.Rd t Q.e1|0,_,_=>trivial|h+1,t,a=>by have b:Q.ok ⟨h,t.1⟩:=Vc (.push (J:=⟨h,t.1⟩) t.2 (.refl _)) a;refine⟨?_,rd b⟩;have⟨i,c,e⟩:=Q.idx (a.2 _ cp);have d:=(hZ.1 (aC.sf a.1)).1;have:=gen b c (by rw[e];exact d) (by rw[e];exact⟨t.2,rfl⟩);rw[e,aC.nt (T:=⟨h,t.1⟩) b.1 rfl]at this;exact this
def cc(Q:Src):Nat:=7*Q.e1+14
def Ft{T:aC}(h:Q.ok T):ae.ki T.2 Q.cc:=(ae.EM (rd h)).mono (ae.QS (xe h))
def r3(Q:Src):Nat:=ae.fo Q.cc 2 Q.e1
def Sw{h:Nat}(c n:Nat)(a:h<=2):ae.fo c h n<=ae.fo c 2 n:=by have:h=0\/h=1\/h=2:=ac;rcases this with rfl|rfl|rfl;exact bx (ae.Gb c 0 n) (ae.Gb c 1 n);exact ae.Gb c 1 n;exact a2 _
def roots{T:aC}(c:Q.ok T){ρ:ax}(f:ρ∈Q.S)(e:T.In (ax.rt ρ)):ae.ms (T.bd (ax.rt ρ)) Q.r3:=by
 by_cases h:ρ∈T.2.vals;have⟨b,hb,m⟩:=ae.amm h;rw[aC.nt c.1 hb];exact ae.jL m (dL _);obtain⟨i,k,rfl⟩:=Q.idx f;have p:0<Q.S[i]:=Q.pos _ f;have j:=ax.kT (x:=Q.S[i]) ap;have d:T.In Q.S[i]:=by rw[<-j];exact e.mul c.1 e
 have o:T.1<=2:=by have:=aC.pe (l:=Q.S[i]::T.2.vals) (S:=Q.S) (hZ.2 ⟨h,aC.sf c.1⟩) (λ x g=>by rcases ct.1 g with rfl|g;exact f;exact c.2 _ g);have:=Q.len;rw[gC,aC.xE]at*;omega
 have:=ae.tq (a:=T.bd Q.S[i]) (w:=T.bd (ax.rt Q.S[i])) c.1 (Ft c) ((rd c).mono (by show Q.e1<=7*Q.e1+14;omega)) (by rw[aC.l0 e,aC.l0 d];exact j) (gen c k h d);exact ae.jL this (Sw _ _ o)
def Mm:∀i,i<=Q.S.length->∃M:aE i,M.Pos/\ae.Rd M Q.n/\∀ρ,ρ∈M.vals↔ρ∈Q.S.take i|0,_=>⟨(),trivial,trivial,λ ρ=>by simp[aE.vals]⟩|i+1,a=>by have⟨M,h1,g,c⟩:=Mm i ac;have b:=aC.sf (Q.red i a);have d:∀ρ∈(Q.H i).2.vals,ρ∈M.vals:=λ ρ f=>(c ρ).2 (Q.sub i a ρ f);have e:=(ae.zJ b d (Q.x i)).1;rw[Q.val i a]at e;refine⟨(M,ae.pm M (Q.H i).2 (Q.x i)),⟨h1,?_⟩,⟨ae.M8 b d (Q.ms i a),g⟩,λ ρ=>?_⟩;show 0<ae.val M (ae.pm M (Q.H i).2 (Q.x i));rw[e];exact Q.pos _ (bf a);show ρ∈ae.val M (ae.pm M (Q.H i).2 (Q.x i))::M.vals↔_;rw[e,ct,c,nT a,jh,cq];exact Or.comm
def full{T:aC}(d:Q.ok T):∀i,i<=Q.S.length->∃U:aC,Q.ok U/\aC.eE T U/\∀ρ∈Q.S.take i,U.In (ax.rt ρ)|0,_=>⟨T,d,.refl T,λ ρ h=>by simp at h⟩|i+1,a=>by have⟨U,h1,l,j⟩:=full d i ac;have f:=aC.mI h1.1 (Q.red i a);have g:=Hu h1 (mL a);have c:=f.2.2 _ (agw a);have e:=aC.l0 c;have k:0<Q.S[i]:=Q.pos _ (bf a);refine⟨(U.ext (Q.H i).2).gD ((U.ext (Q.H i).2).bd Q.S[i]),⟨aC.Qa g.1 (by rw[e];exact k),λ ρ b=>?_⟩,(l.trans (aC.CO U _)).trans (aC.Ke _),λ ρ b=>?_⟩;rcases aC.Qc b with h|h;rw[h,e];exact bf a;exact g.2 ρ h;rw[nT a,jh,cq]at b;rcases b with h|rfl;exact aC.E6 (f.2.1 _ (j ρ h));have:=aC.Qb (T:=U.ext (Q.H i).2) (x:=(U.ext (Q.H i).2).bd Q.S[i]);rwa[e]at this
def C(Q:Src):Nat:=3*(Q.r3+Q.cc+1)
def RD:Q.e1<=Q.cc:=by show Q.e1<=7*Q.e1+14;omega
def QO:Q.cc<=Q.C:=by show Q.cc<=3*(Q.r3+Q.cc+1);omega
noncomputable def M(Q:Src):aE Q.S.length:=qS (Mm (Q:=Q) Q.S.length (a2 _))
def ET:Q.M.Pos/\ae.Rd Q.M Q.n/\∀ρ,ρ∈Q.M.vals↔ρ∈Q.S:=by have⟨h1,c,b⟩:=nR (Mm (Q:=Q) Q.S.length (a2 _));exact⟨h1,c,λ ρ=>(b ρ).trans (by rw[kB])⟩
noncomputable def ctx(Q:Src):bY where
 d:=Q.S.length;M:=Q.M;c:=7*Q.n+14;C:=Q.C;ok:=Q.ok;hd:=Q.len;pos:=ET.1;hc:=ac;Kt:=(ae.EM ET.2.1).mono (ae.QS Q.len);red h:=h.1;ht:=xe;nil:=⟨trivial,λ ρ h=>by cases h⟩;ext:=Hu;pre:=Vc;bH h:=(Ft h).mono QO;alz h:=ae.jL (rd h).1 (bx RD QO);out{T a n}r o m:=by
   obtain⟨U,h1,j,g⟩:=full r Q.S.length (a2 _);rw[kB]at g;refine aC.KT j h1.1 o ?_;have i:∀ρ∈Q.M.vals,ae.val U.2 (U.bd (ax.rt ρ))=ax.rt ρ/\ae.ms (U.bd (ax.rt ρ)) Q.r3:=λ ρ b=>by have f:=(ET.2.2 ρ).1 b;exact⟨aC.l0 (g ρ f),roots h1 f (g ρ f)⟩
   have e:U.bd (ae.val Q.M a)=ae.uK U.2 (λ ρ=>U.bd (ax.rt ρ)) Q.M a:=aC.nt h1.1 (ae.GL h1.1.pos (λ ρ b=>(i ρ b).1) a);rw[e];refine ae.jL (ae.LR (Ft h1).bH (λ ρ b=>(i ρ b).2) m) ?_;have:Q.S.length*(Q.r3+Q.cc+1)<=3*(Q.r3+Q.cc+1):=ck _ Q.len;show n+_<=n+3*(Q.r3+Q.cc+1);omega
def agy{a:az}{n:Nat}(h:Q.ok a.T)(e:ae.ms a.a n):az.G Q.ctx a n:=by have c:=aC.sf h.1;have b:∀ρ∈a.T.2.vals,ρ∈Q.M.vals:=λ ρ d=>(ET.2.2 ρ).2 (h.2 ρ d);exact⟨h,ae.pm Q.M a.T.2 a.a,(ae.zJ c b a.a).1,ae.M8 c b e⟩
end
end Go.ay.Src
namespace Go.ay.ae
def flat:{h:Nat}->ae h->List Rat|0,a=>[a]|_+1,a=>flat a.1++flat a.2
def rA:∀{h:Nat}(a:ae h),(flat a).length=2^h|0,_=>rfl|h+1,a=>by show(flat a.1++flat a.2).length=_;rw[cP,rA,rA,ea];omega
def FR:∀{h:Nat}{a b:ae h},flat a=flat b->a=b|0,a,b,e=>(ZR e).1|h+1,a,b,e=>by have h1:=ZT e ((rA a.1).trans (rA b.1).symm);exact mz (FR h1.1) (FR h1.2)
def J0:∀{h:Nat}{a:ae h}{D B:Nat},M a D B->∀q∈flat a,fH q D B|0,_,_,_,h,q,b=>by rcases cq.1 b with rfl;exact h|_+1,_,_,_,h,q,b=>(jh.1 b).elim (J0 h.1 q) (J0 h.2 q)
def anp{q:Rat}{n k:Nat}(h1:q.num.natAbs<=2^n*2^n)(c:q.den<=2^n)(a:n+n<32*k):cE k q:=by
 have e:ah^k=2^(32*k):=by rw[show ah=2^32 from rfl,<-Nat.pow_mul]
 have b:2^n*2^n<2^(32*k):=by rw[<-ic];exact tM al a
 have d:2^n<2^(32*k):=tM al ac;exact⟨ja (by rw[e];omega),ja (by rw[e];omega)⟩
def Uw{h:Nat}{a:ae h}{n k:Nat}(f:ms a n)(c:n+n<32*k):∀q∈flat a,cE k q:=λ q e=>by have⟨D,B,p,d,b,m⟩:=f;have⟨h1,g⟩:=(J0 m q e).num p;exact anp (bx h1 (jd b d)) (bx g d) c
def Ms:∀{h:Nat}{a:ae h}{n:Nat},(∀q∈flat a,q.num.natAbs<=2^n/\q.den<=2^n)->ms a (2^h*n)|0,a,n,h=>by have:=h a (cq.2 rfl);rw[show 2^0*n=n from am];exact uU 0 this.1 this.2|h+1,a,n,c=>by have h1:=Ms (a:=a.1) λ q b=>c q (qP _ b);have d:=Ms (a:=a.2) λ q b=>c q (xP _ b);have:=uT (x:=a.1) (y:=a.2) h1 d;rw[show 2^(h+1)*n=2^h*n+2^h*n by rw[ea,fu,c9 2 n,<-fu];omega];exact this
end Go.ay.ae
namespace Go.ay
def aE.aw:{h:Nat}->aE h->List (List Rat)|0,_=>[]|_+1,t=>aE.aw t.1++[ae.flat t.2]
def aE.xl:∀{h:Nat}(t:aE h),t.aw.length=h|0,_=>rfl|h+1,t=>by show(aE.aw t.1++[_]).length=_;rw[cP,aE.xl];rfl
def aE.Nh:∀{h:Nat}{t u:aE h},t.aw=u.aw->t=u|0,_,_,_=>rfl|h+1,t,u,e=>by have h1:=ZT e ((aE.xl t.1).trans (aE.xl u.1).symm);exact mz (aE.Nh h1.1) (ae.FR (ZR h1.2).1)
def ba(l:List Rat):aa:=.sl 4 (l.map aW)
def aT(R:List (List Rat)):aa:=.sl 1 (R.map ba)
def aF{h:Nat}(a:ae h):aa:=ba (ae.flat a)
def au(n:az):aa:=.agg [aT n.T.2.aw,aF n.a]
instance{l:List Rat}:bg (ba l):=bg.rows (f:=aW) (λ x=>inferInstance) (λ q c hc=>J5 q c hc) l
instance{h:Nat}{a:ae h}:bg (aF a):=by unfold aF;infer_instance
def CU(l:List Rat):∀c∈(ba l).cells,cb c:=λ c hc=>by have:(ba l).cells=[ba l]:=rfl;rw[this,cq]at hc;subst hc;exact bg.pure
instance{R:List (List Rat)}:bg (aT R):=bg.rows (f:=ba) (λ x=>inferInstance) (λ l c hc=>CU l c hc) R
instance{n:az}:bg (au n):=by unfold au;infer_instance
abbrev aj:=Bool×az
end Go.ay
namespace Go.ay.aj
def T(x:aj):aa:=au x.2
instance{x:aj}:bg x.T:=by unfold T;infer_instance
noncomputable def add(a b:aj):aj:=(true,a.2.add b.2)
noncomputable def sub(a b:aj):aj:=(true,a.2.sub b.2)
noncomputable def mul(a b:aj):aj:=(true,a.2.mul b.2)
noncomputable def div(a b:aj):aj:=(true,a.2.div b.2)
noncomputable def neg(a:aj):aj:=(a.1,a.2.neg)
def rat(q:Rat):aj:=(true,az.rat q)
open Classical in noncomputable def bD(a:aj):Bool:=decide (a.2.val=0)
def o9{a:aj}:a.bD=true↔a.2.val=0:=by unfold bD;exact@decide_eq_true_iff _ (xZ _)
def G(K:bY)(n:Nat)(a:aj):Prop:=az.G K a.2 n
section
variable{K:bY}{a b:aj}{n m:Nat}
def G.mono(h:G K n a)(k:n<=m):G K m a:=az.G.mono h k
def G.add(h:G K n a)(k:G K m b):G K (n+m+1) (a.add b):=az.G.add h k
def G.sub(h:G K n a)(k:G K m b):G K (n+m+1) (a.sub b):=az.G.sub h k
def G.mul(h:G K n a)(k:G K m b):G K (n+m+K.c) (a.mul b):=az.G.mul h k
def G.div(h:G K n a)(k:G K m b):G K (n+23*m+42*K.c) (a.div b):=az.G.div h k
def G.neg(h:G K n a):G K n a.neg:=az.G.neg h
def G.zero:G K n (rat 0):=az.G.rat (q:=0) (dL _) (vr)
def G.one:G K n (rat 1):=az.G.rat (q:=1) (vr) (vr)
end
end Go.ay.aj
namespace Go.ay
def ar(l:List aj):aa:=.sl 2 (l.map aj.T)
def dn(K:bY)(n:Nat)(l:List aj):Prop:=∀x∈l,x.G K n
def bj(K:bY)(n w:Nat)(m:List (List aj)):Prop:=∀r∈m,r.length=w/\dn K n r
section
variable{K:bY}{n m w:Nat}
def dn.mono{l:List aj}(h:dn K n l)(k:n<=m):dn K m l:=λ x a=>(h x a).mono k
def bj.mono{M:List (List aj)}(h:bj K n w M)(k:n<=m):bj K m w M:=λ r a=>⟨(h r a).1,(h r a).2.mono k⟩
def dn.get{l:List aj}(h:dn K n l){i:Nat}:(l.getD i (aj.rat 0)).G K n:=by rw[dt];by_cases a:i<l.length;rw[eO a];exact h _ (bf a);rw[pP ac];exact aj.G.zero
def bj.get{M:List (List aj)}(h:bj K n w M){i:Nat}(a:i<M.length):(M.getD i []).length=w/\dn K n (M.getD i []):=by rw[dt,eO a];exact h _ (bf a)
noncomputable def adj(a b:List aj):aj:=(vt a b).foldl (λ s p=>s.add (p.1.mul p.2)) (aj.rat 0)
noncomputable def g5(a b:List aj)(x:aj):List aj:=List.zipWith (λ p q=>p.sub (q.mul x)) a b
noncomputable def iG(a:List aj)(x:aj):List aj:=a.map (·.div x)
def NA{a:List aj}{x:aj}(b:dn K n a)(d:x.G K n):dn K (24*n+42*K.c) (iG a x):=λ y e=>by obtain⟨z,f,rfl⟩:=bp.1 e;exact((b z f).div d).mono ac
def aix{a b:List aj}{x:aj}(h:dn K n a)(hb:dn K m b)(f:x.G K n):dn K (n+n+m+K.c+1) (g5 a b x):=λ y d=>by
 obtain⟨p,q,e,g,rfl⟩:∃p q,p∈a/\q∈b/\y=p.sub (q.mul x):=by unfold g5 at d;obtain⟨i,j,rfl⟩:=gJ.1 d;have k:=j;rw[ke]at k;exact⟨a[i]' ac,b[i]' ac,bf _,bf _,D9⟩
 exact((h p e).sub ((hb q g).mul f)).mono ac
def iu{α:Type}[Inhabited α](l:List α)(i j:Nat):List α:=(l.set i (l.getD j default)).set j (l.getD i default)
noncomputable def e8(rows:List (List aj))(top k:Nat):Nat:=top+(rows.drop top).findIdx (λ r=>!(r.getD k (aj.rat 0)).bD)
noncomputable def gG(st:List (List aj)×List Nat)(k:Nat):List (List aj)×List Nat:=let top:=st.2.length;let p:=e8 st.1 top k;if p<st.1.length then let a:=iu st.1 top p;let row:=iG (a.getD top []) ((a.getD top []).getD k (aj.rat 0));let b:=a.set top row;(b.mapIdx (λ i r=>if i !=top&&!(r.getD k (aj.rat 0)).bD then g5 r row (r.getD k (aj.rat 0))else r),st.2++[k])else st
def eJ(m:List (List aj)):Nat:=(m.headD []).length
noncomputable def bl(m:List (List aj)):List (List aj)×List Nat:=(a8 (eJ m)).foldl gG (m,[])
def grow(K:bY):Nat->Nat->Nat|0,n=>n|j+1,n=>26*grow K j n+43*K.c+1
def aes(j n:Nat):grow K j n<=grow K (j+1) n:=by show _<=26*grow K j n+43*K.c+1;omega
def n9{i j n:Nat}(h:i<=j):grow K i n<=grow K j n:=by induction h with|refl=>exact a2 _|step _ a=>exact bx a (aes _ _)
def NP{α:Type}[Inhabited α](l:List α)(i j:Nat):(iu l i j).length=l.length:=by unfold iu;rw[kf,kf]
def anK{α:Type}[Inhabited α]{l:List α}{i j:Nat}(a:i<l.length)(c:j<l.length){x:α}(b:x∈iu l i j):x∈l:=by
 unfold iu at b;have e:l.getD j default∈l:=by rw[dt,eO c];exact bf c
 have d:l.getD i default∈l:=by rw[dt,eO a];exact bf a
 rcases AA b with h|rfl;rcases AA h with h|rfl;exact h;exact e;exact d
def bj.swap{M:List (List aj)}(h:bj K n w M){i j:Nat}(a:i<M.length)(c:j<M.length):bj K n w (iu M i j):=λ r b=>h r (anK a c b)
def zH(rows:List (List aj))(top k:Nat):top<=e8 rows top k:=Nat.le_add_right _ _
structure vT(K:bY)(n w h k:Nat)(st:List (List aj)×List Nat):Prop where
 len:st.1.length=h
 wV:bj K (grow K st.2.length n) w st.1
 pl:st.2.length<=h
 lt:∀p∈st.2,p<k
 oY:st.2.Pairwise (·<·)
def alT{h k:Nat}{st:List (List aj)×List Nat}(H:vT K n w h k st):vT K n w h (k+1) (gG st k):=by
 unfold gG;simp only;split;.next d=>
   have q:st.2.length<st.1.length:=gA (zH _ _ _) d;have g:=H.wV.swap (i:=st.2.length) (j:=e8 st.1 st.2.length k) q d;have o:=NP st.1 st.2.length (e8 st.1 st.2.length k);have g1:=g.get (i:=st.2.length) (by rw[o];exact q);have g2:=NA g1.2 (g1.2.get (i:=k));refine⟨by rw[List.length_mapIdx,kf,o];exact H.len,?_,by rw[cP];simp;have:=H.len;omega,?_,?_⟩;rw[show(st.2++[k]).length=st.2.length+1 from am];intro r s;obtain⟨i,l,rfl⟩:=List.mem_mapIdx.1 s;rw[kf]at l;rw[List.getElem_set];show _/\dn K (26*grow K st.2.length n+43*K.c+1) _;by_cases e:st.2.length=i;have u:(i !=st.2.length)=false:=by rw[e];exact bne_self_eq_false i
   rw[u,if_pos e];exact⟨(aQ ..).trans g1.1,g2.mono ac⟩;rw[if_neg e];have f:=g _ (bf l);split;refine⟨?_,(aix f.2 g2 f.2.get).mono ac⟩;unfold g5 iG;rw[ke,aQ,f.1,g1.1,Nat.min_self];exact⟨f.1,f.2.mono ac⟩;intro p d;rcases jh.1 d with h|h;have:=H.lt p h;omega;rw[cq.1 h];omega;rw[List.pairwise_append];exact⟨H.oY,List.pairwise_singleton _ _,λ a t b hb=>by rw[cq.1 hb];exact H.lt a t⟩
 exact⟨H.len,H.wV,H.pl,λ p d=>by have:=H.lt p d;omega,H.oY⟩
def CZ{h:Nat}{M:List (List aj)}(a:bj K n w M)(e:M.length=h):∀k,vT K n w h k ((a8 k).foldl gG (M,[]))|0=>⟨e,a,dL _,λ p b=>(cS b).elim,List.Pairwise.nil⟩|k+1=>by rw[List.range_succ,List.foldl_append];exact alT (CZ a e k)
def lE{M:List (List aj)}(a:bj K n w M):vT K n w M.length (eJ M) (bl M):=CZ a rfl _
def gj{M:List (List aj)}(a:bj K n w M)(h:M≠[]):eJ M=w:=by cases M with|nil=>exact absurd rfl h|cons r M=>exact(a r cp).1
def abh{l:List Nat}{k:Nat}(h:l.Pairwise (·<·))(a:∀p∈l,p<k):l.length<=k:=by have c:l.Nodup:=h.imp λ h=>Nat.ne_of_lt h;have:=aC.pe (S:=a8 k) c λ x b=>List.mem_range.2 (a x b);rwa[dx]at this
def vT.le{h k:Nat}{st:List (List aj)×List Nat}(H:vT K n w h k st):st.2.length<=k:=abh H.oY H.lt
def dA(n:Nat)(i:Option Nat):List aj:=(a8 n).map λ k=>if some k=i then aj.rat 1 else aj.rat 0
def mi(n:Nat)(i:Option Nat):(dA n i).length=n:=by unfold dA;rw[aQ,dx]
def IA(w:Nat)(i:Option Nat):dn K n (dA w i):=λ x a=>by obtain⟨k,_,rfl⟩:=bp.1 a;split;exact aj.G.one;exact aj.G.zero
def ei(n:Nat):List (List aj):=(a8 n).map λ i=>dA n (some i)
def qg(w:Nat):bj K n w (ei w):=λ r a=>by obtain⟨k,_,rfl⟩:=bp.1 a;exact⟨mi _ _,IA _ _⟩
def o8(w:Nat):(ei w).length=w:=by unfold ei;rw[aQ,dx]
def dn.set{l:List aj}{x:aj}{i:Nat}(h:dn K n l)(b:x.G K n):dn K n (l.set i x):=λ y a=>by rcases AA a with h1|rfl;exact h y h1;exact b
def bj.at{M:List (List aj)}(h:bj K n w M){i k:Nat}:((M.getD i []).getD k (aj.rat 0)).G K n:=by by_cases a:i<M.length;exact(h.get a).2.get;rw[dt (l:=M),pP ac];exact aj.G.zero
noncomputable def jO(f:Nat->aj):List Nat->Nat->List aj->List aj|[],_,x=>x|p::l,i,x=>jO f l (i+1) (x.set p (f i))
def HM{f:Nat->aj}(a:∀i,(f i).G K n):∀(l:List Nat)(i:Nat){x:List aj},dn K n x->(jO f l i x).length=x.length/\dn K n (jO f l i x)|[],_,x,h=>⟨rfl,h⟩|p::l,i,x,h=>by have:=HM a l (i+1) (x:=x.set p (f i)) (h.set (a i));rw[kf]at this;exact this
noncomputable def uO(M:List (List aj)):List (List aj):=((a8 (eJ M)).filter λ k=>!(bl M).2.contains k).map λ k=>jO (λ i=>(((bl M).1.getD i []).getD k (aj.rat 0)).neg) (bl M).2 0 (dA (eJ M) (some k))
def ahs{M:List (List aj)}(a:bj K n w M){j:Nat}(b:(bl M).2.length<=j):bj K (grow K j n) (eJ M) (uO M):=λ r c=>by obtain⟨k,_,rfl⟩:=bp.1 c;have H:=lE a;have:=HM (K:=K) (n:=grow K j n) (f:=λ i=>(((bl M).1.getD i []).getD k (aj.rat 0)).neg) (λ i=>((H.wV.mono (n9 b)).at).neg) (bl M).2 0 (IA (eJ M) (some k));rw[mi]at this;exact this
def eV(A B:List (List aj)):List (List aj):=List.zipWith (·++·) A B
def yv{A B:List (List aj)}{v:Nat}(c:bj K n w A)(d:bj K n v B):bj K n (w+v) (eV A B):=λ r a=>by unfold eV at a;obtain⟨i,f,rfl⟩:=gJ.1 a;have g:=f;rw[ke]at g;rw[D9];have h1:=c _ (bf (ac:i<A.length));have b:=d _ (bf (ac:i<B.length));exact⟨by rw[cP,h1.1,b.1],λ x e=>(jh.1 e).elim (h1.2 x) (b.2 x)⟩
noncomputable def ey(M:List (List aj))(ord:List Nat):List Nat:=ord.foldl (λ c k=>let l:=(c++[k]).map λ i=>M.getD i [];if(bl l).2.length=l.length then c++[k]else c) []
def bj.sub{M:List (List aj)}(a:bj K n w M){c:List Nat}(hc:∀i∈c,i<M.length):bj K n w (c.map λ i=>M.getD i []):=λ r b=>by obtain⟨i,d,rfl⟩:=bp.1 b;exact a.get (hc i d)
def MZ{M:List (List aj)}(b:bj K n w M):∀(ord c:List Nat),(∀k∈ord,k<M.length)->(∀k∈c,k<M.length)->c.length<=w->(∀k∈ord.foldl (λ c k=>let l:=(c++[k]).map λ i=>M.getD i [];if(bl l).2.length=l.length then c++[k]else c) c,k<M.length)/\(ord.foldl (λ c k=>let l:=(c++[k]).map λ i=>M.getD i [];if(bl l).2.length=l.length then c++[k]else c) c).length<=w
 |[],c,_,hc,d=>⟨hc,d⟩|k::ord,c,ho,hc,d=>by
   rw[qT];simp only;split;.next e=>
     have h1:∀i∈c++[k],i<M.length:=λ i a=>(jh.1 a).elim (hc i) λ h=>by rw[cq.1 h];exact ho k cp
     have f:=b.sub h1;have H:=(lE f).le;rw[gj f am,e,aQ]at H;exact MZ b ord _ (λ i a=>ho i (cR _ a)) h1 H
   exact MZ b ord c (λ i a=>ho i (cR _ a)) hc d
def xi{M:List (List aj)}(a:bj K n w M){ord:List Nat}(ho:∀k∈ord,k<M.length):(∀k∈ey M ord,k<M.length)/\(ey M ord).length<=w:=MZ a ord [] ho (λ k b=>by cases b) (dL _)
def p3(M:List (List aj))(k:Nat):List aj:=M.map λ r=>r.getD k (aj.rat 0)
def eR(M:List (List aj)):List (List aj):=(a8 (eJ M)).map (p3 M)
def acV{M:List (List aj)}(a:bj K n w M)(k:Nat):dn K n (p3 M k):=λ x b=>by obtain⟨r,c,rfl⟩:=bp.1 b;exact(a r c).2.get
def sc{M:List (List aj)}(a:bj K n w M):bj K n M.length (eR M):=λ r b=>by obtain⟨k,_,rfl⟩:=bp.1 b;exact⟨aQ ..,acV a k⟩
def ve(M:List (List aj)):(eR M).length=eJ M:=by unfold eR;rw[aQ,dx]
def M1(M:List (List aj)):∀(ord c:List Nat),(ord.foldl (λ c k=>let l:=(c++[k]).map λ i=>M.getD i [];if(bl l).2.length=l.length then c++[k]else c) c).length<=c.length+ord.length|[],c=>a2 _|k::ord,c=>by rw[qT];simp only;split;have:=M1 M ord (c++[k]);rw[cP,k7]at this;rw[gC];exact bx this ac;exact bx (M1 M ord c) (by rw[gC];omega)
def k8(K:bY)(n:Nat)(M:List (List aj)):Prop:=∀r∈M,dn K n r
def k8.mono{M:List (List aj)}(h:k8 K n M)(k:n<=m):k8 K m M:=λ r a=>(h r a).mono k
def bj.pX{M:List (List aj)}(h:bj K n w M):k8 K n M:=λ r a=>(h r a).2
structure iB where
 rows:List Int
 bz:List Int
 inv:List (List aj)df:List (List aj)aP:List (List aj)
structure iB.G(K:bY)(n:Nat)(c:iB):Prop where
 inv:k8 K n c.inv
 df:k8 K n c.df
 aP:k8 K n c.aP
def IB(n:Nat):List (List aj):=ei n
def cH(a:List Nat)(r:List aj):List aj:=a.map λ k=>r.getD k (aj.rat 0)
def bO(M:List (List aj))(l:List Nat):List (List aj):=l.map λ i=>M.getD i []
def Fx{r:List aj}(h:dn K n r)(a:List Nat):(cH a r).length=a.length/\dn K n (cH a r):=⟨aQ ..,λ x b=>by obtain⟨k,_,rfl⟩:=bp.1 b;exact h.get⟩
def Cm{ch:List (List aj)}(hc:bj K n w ch)(a:List Nat):bj K n a.length (ch.map (cH a)):=λ r c=>by obtain⟨x,b,rfl⟩:=bp.1 c;exact Fx (hc x b).2 _
noncomputable def Wl(a b:List aj):ax:=(vt a b).foldl (λ s p=>s+p.1.2.val*p.2.2.val) 0
noncomputable def dR(a b:List aj):aj:=(vt a b).foldl (λ s p=>if p.1.bD||p.2.bD then s else s.add (p.1.mul p.2)) (aj.rat 0)
def adk:∀(l:List (aj×aj)),(∀p∈l,p.1.2.bw/\p.2.2.bw)->∀{s:aj},s.2.bw->(l.foldl (λ s p=>s.add (p.1.mul p.2)) s).2.val=l.foldl (λ s p=>s+p.1.2.val*p.2.2.val) s.2.val|[],_,s,_=>rfl|p::l,h,s,b=>by have h1:=h p cp;have a:=az.Hi h1.1 h1.2;rw[qT,qT,adk l (λ q c=>h q (cR _ c)) (s:=s.add (p.1.mul p.2)) (az.P9 b a)];rw[show(s.add (p.1.mul p.2)).2.val=s.2.val+p.1.2.val*p.2.2.val from(az.Bf b a).trans (by rw[az.wX h1.1 h1.2])]
def CR:∀(l:List (aj×aj)),(∀p∈l,p.1.2.bw/\p.2.2.bw)->∀{s:aj},s.2.bw->(l.foldl (λ s p=>if p.1.bD||p.2.bD then s else s.add (p.1.mul p.2)) s).2.val=l.foldl (λ s p=>s+p.1.2.val*p.2.2.val) s.2.val
 |[],_,s,_=>rfl|p::l,h,s,a=>by
   have h1:=h p cp;have c:=az.Hi h1.1 h1.2;rw[qT,qT];split;.next e=>
     have d:p.1.2.val*p.2.2.val=0:=by rcases Bool.or_eq_true_iff.1 e with e|e;rw[aj.o9.1 e];grind;rw[aj.o9.1 e];grind
     rw[CR l (λ q b=>h q (cR _ b)) a,d,show s.2.val+0=s.2.val from ap]
   rw[CR l (λ q b=>h q (cR _ b)) (s:=s.add (p.1.mul p.2)) (az.P9 a c)];rw[show(s.add (p.1.mul p.2)).2.val=s.2.val+p.1.2.val*p.2.2.val from(az.Bf a c).trans (by rw[az.wX h1.1 h1.2])]
def Ni:(aj.rat 0).2.bw:=trivial
def akF{a b:List aj}(d:dn K n a)(hb:dn K m b):(dR a b).2.val=Wl a b:=CR _ (λ p c=>⟨(d _ (Jr c).1).red,(hb _ (Jr c).2).red⟩) Ni
def Na{n m:Nat}:∀(l:List (aj×aj)),(∀p∈l,p.1.G K n/\p.2.G K m)->∀{s:aj}{t:Nat},s.G K t->(l.foldl (λ s p=>if p.1.bD||p.2.bD then s else s.add (p.1.mul p.2)) s).G K (t+l.length*(n+m+K.c+1))|[],_,s,t,a=>a.mono am|p::l,h,s,t,a=>by have h1:=h p cp;rw[qT];split;refine(Na l (λ q b=>h q (cR _ b)) a).mono ?_;rw[gC,Nat.succ_mul];omega;have d:=a.add (h1.1.mul h1.2);refine(Na l (λ q b=>h q (cR _ b)) d).mono ?_;rw[gC,Nat.succ_mul];omega
def CP{a b:List aj}(e:dn K n a)(hb:dn K m b):(dR a b).G K (a.length*(n+m+K.c+1)):=by have:=Na (K:=K) (n:=n) (m:=m) (vt a b) (λ p d=>⟨e _ (Jr d).1,hb _ (Jr d).2⟩) (aj.G.zero (K:=K) (n:=0));refine this.mono ?_;rw[Nat.zero_add,List.length_zip];exact ck _ (Nat.min_le_left _ _)
end
end Go.ay
namespace Go.ay.Src
def none(n:Nat):Src where S:=[];n:=n;H _:=aC.nil;x _:=ae.rat 0 0;nodup:=gW;len:=dL _;red _ h:=(fv _ h).elim;sub _ h:=(fv _ h).elim;val _ h:=(fv _ h).elim;ms _ h:=(fv _ h).elim;pos _ h:=(cS h).elim
section
variable{Q:Src}
def ajw:Q.ok aC.nil:=⟨trivial,λ ρ h=>(cS h).elim⟩
def ov(Q:Src)(a:az)(i:Nat):az:=if i<Q.S.length then⟨Q.H i,Q.x i⟩else a
def HG{a:az}{i:Nat}(h:i<Q.S.length):Q.ov a i=⟨Q.H i,Q.x i⟩:=if_pos h
def HF{a:az}{i:Nat}(h:¬i<Q.S.length):Q.ov a i=a:=if_neg h
noncomputable def push(Q:Src)(a:az)(h:Q.ok a.T)(d:ae.ms a.a Q.n)(k:0<a.val)(g:a.val∉Q.S)(l:Q.S.length<3):Src where
 S:=Q.S++[a.val];n:=Q.n;H i:=(Q.ov a i).T;x i:=(Q.ov a i).a;nodup:=List.nodup_append.2 ⟨Q.nodup,hZ.2 ⟨cS,gW⟩,λ x j y f e=>g (by rw[cq.1 f]at e;rwa[e]at j)⟩;len:=by rw[cP,k7];omega
 red i c:=by by_cases h1:i<Q.S.length;rw[HG h1];exact Q.red i h1;rw[HF h1];exact h.1
 sub i c ρ b:=by by_cases h1:i<Q.S.length;rw[HG h1]at b;rw[Eb ac];exact Q.sub i h1 ρ b;rw[HF h1]at b;rw[cP,k7]at c;rw[show i=Q.S.length from ac,Eb (a2 _),kB];exact h.2 ρ b
 val i c:=by by_cases h1:i<Q.S.length;rw[List.getElem_append_left h1];have:=Q.val i h1;rw[HG h1];exact this;rw[cP,k7]at c;rw[List.getElem_append_right ac,HF h1];simp only[show i-Q.S.length=0 from ac];rfl
 ms i c:=by by_cases h1:i<Q.S.length;rw[HG h1];exact Q.ms i h1;rw[HF h1];exact d
 pos ρ b:=(jh.1 b).elim (Q.pos ρ) λ h=>by rw[cq.1 h];exact k
def root(a:az)(h:Q.ok a.T)(k:ae.ms a.a Q.n)(i:0<a.val)(j:Q.S.length<3):∃Q':Src,Q'.n=Q.n/\Q'.S.length<=Q.S.length+1/\(∀T,Q.ok T->Q'.ok T)/\Q'.ok (a.T.gD a.a):=by by_cases c:a.T.In (ax.rt (ae.val a.T.2 a.a));exact⟨Q,rfl,Ph _,λ _ h=>h,by unfold aC.gD;rw[if_pos c];exact h⟩;have d:(a.T.push a.a).bw:=aC.HK h.1 i c;by_cases g:a.val∈Q.S;refine⟨Q,rfl,Ph _,λ _ h=>h,?_⟩;unfold aC.gD;rw[if_neg c];refine⟨d,λ ρ b=>?_⟩;rcases ct.1 b with e|h1;rw[e];exact g;exact h.2 ρ h1;refine⟨Q.push a h k i g j,rfl,?_,λ T f=>⟨f.1,λ ρ b=>qP _ (f.2 ρ b)⟩,?_⟩;show(Q.S++[a.val]).length<=_;rw[cP];exact a2 _;unfold aC.gD;rw[if_neg c];refine⟨d,λ ρ b=>?_⟩;rcases ct.1 b with e|h1;exact xP _ (cq.2 e);exact qP _ (h.2 ρ h1)
end
end Go.ay.Src
namespace Go.ay.ae
def drop:(h i:Nat)->ae (h+1)->ae h|0,_,a=>a.1|h+1,i,a=>if i=h+1 then a.1 else(drop h i a.1,drop h i a.2)
def free:(h i:Nat)->ae h->Prop|0,_,_=>True|h+1,i,a=>if i=h then a.2=rat h 0 else free h i a.1/\free h i a.2
def uw{h i:Nat}(e:i=h+1)(a:ae (h+2)):drop (h+1) i a=a.1:=if_pos e
def uv{h i:Nat}(e:¬i=h+1)(a:ae (h+2)):drop (h+1) i a=((drop h i a.1,drop h i a.2):ae (h+1)):=if_neg e
def BH{h i:Nat}(e:i=h)(a:ae (h+1)):free (h+1) i a=(a.2=rat h 0):=if_pos e
def Lb{h i:Nat}(e:¬i=h)(a:ae (h+1)):free (h+1) i a=(free h i a.1/\free h i a.2):=if_neg e
def KO:∀(h i:Nat),i<=h->∀b:ae h,∃a:ae (h+1),free (h+1) i a/\drop h i a=b|0,i,c,b=>⟨((b,rat 0 0):ae 1),(BH (h:=0) (i:=i) (a:=((b,rat 0 0):ae 1)) (Nat.le_zero.1 c)).mpr rfl,rfl⟩|h+1,i,c,b=>by by_cases e:i=h+1;exact⟨((b,rat (h+1) 0):ae (h+2)),(BH e ((b,rat (h+1) 0):ae (h+2))).mpr rfl,uw e ((b,rat (h+1) 0):ae (h+2))⟩;have⟨x,f,g⟩:=KO h i ac b.1;have⟨y,d,j⟩:=KO h i ac b.2;exact⟨((x,y):ae (h+2)),(Lb e ((x,y):ae (h+2))).mpr ⟨f,d⟩,(uv e ((x,y):ae (h+2))).trans (mz g j)⟩
def KN:∀(h i:Nat)(a:ae (h+1)),∀q∈flat (drop h i a),q∈flat a|0,i,a,q,b=>qP _ b|h+1,i,a,q,b=>by by_cases e:i=h+1;rw[uw e]at b;exact qP _ b;rw[uv e]at b;exact(jh.1 b).elim (λ h1=>qP _ (KN h i a.1 q h1)) (λ h1=>xP _ (KN h i a.2 q h1))
end Go.ay.ae
namespace Go.ay.aE
def drop:(h i:Nat)->aE (h+1)->aE h|0,_,_=>()|h+1,i,t=>if i=h+1 then t.1 else(drop h i t.1,ae.drop h i t.2)
def uw{h i:Nat}(e:i=h+1)(t:aE (h+2)):drop (h+1) i t=t.1:=if_pos e
def uv{h i:Nat}(e:¬i=h+1)(t:aE (h+2)):drop (h+1) i t=((drop h i t.1,ae.drop h i t.2):aE (h+1)):=if_neg e
def free:(h i:Nat)->aE h->Prop|0,_,_=>True|h+1,i,t=>i=h\/(free h i t.1/\ae.free h i t.2)
end Go.ay.aE
namespace Go.ay
def ae.wv:∀(h i:Nat),i<=h->∀(t:aE (h+1)),aE.free (h+1) i t->∀a:ae (h+1),ae.free (h+1) i a->ae.val (aE.drop h i t) (ae.drop h i a)=ae.val t a|0,i,g,t,f,a,c=>by have e:i=0:=ac;rw[ae.BH e]at c;show ae.val t.1 a.1=ae.val t.1 a.1+ae.val t.1 a.2*ax.rt _;rw[c,ae.val_zero];grind|h+1,i,g,t,f,a,c=>by by_cases e:i=h+1;rw[ae.BH e]at c;rw[ae.uw e,aE.uw e];show _=ae.val t.1 a.1+ae.val t.1 a.2*ax.rt _;rw[c,ae.val_zero];grind;rw[ae.Lb e]at c;rw[ae.uv e,aE.uv e];have b:=f.resolve_left e;have d:i<=h:=ac;show ae.val (aE.drop h i t.1) (ae.drop h i a.1)+ae.val (aE.drop h i t.1) (ae.drop h i a.2)*ax.rt (ae.val (aE.drop h i t.1) (ae.drop h i t.2))=_;rw[ae.wv h i d t.1 b.1 _ c.1,ae.wv h i d t.1 b.1 _ c.2,ae.wv h i d t.1 b.1 _ b.2];rfl
def aE.Rv:∀(h i:Nat),i<=h->∀(t:aE (h+1)),aE.free (h+1) i t->t.bw->(aE.drop h i t).bw|0,_,_,_,_,_=>trivial|h+1,i,o,t,n,j=>by by_cases e:i=h+1;rw[uw e];exact j.1;rw[uv e];have c:=n.resolve_left e;have b:i<=h:=ac;have k:=ae.wv h i b t.1 c.1 _ c.2;refine⟨aE.Rv h i b t.1 c.1 j.1,?_,λ w hw=>?_⟩;show 0<ae.val (aE.drop h i t.1) (ae.drop h i t.2);rw[k];exact j.2.1;obtain⟨a,l,rfl⟩:=ae.KO h i b w;have m:=ae.wv h i b t.1 c.1 a l;have g:ae.val (aE.drop h i t.1) (ae.drop h i a)*ae.val (aE.drop h i t.1) (ae.drop h i a)=ae.val (aE.drop h i t.1) (ae.drop h i t.2):=hw;rw[m,k]at g;exact j.2.2 a g
def aE.Rw:∀(h i:Nat),i<=h->∀(t:aE (h+1)),aE.free (h+1) i t->∀v∈(aE.drop h i t).vals,v∈t.vals|0,_,_,_,_,_,hv=>(cS hv).elim|h+1,i,k,t,g,v,hv=>by by_cases e:i=h+1;rw[uw e]at hv;exact cR _ hv;rw[uv e]at hv;have a:=g.resolve_left e;have d:i<=h:=ac;have f:=ae.wv h i d t.1 a.1 _ a.2;rcases ct.1 hv with j|h1;rw[j,f];exact cp;exact cR _ (aE.Rw h i d t.1 a.1 v h1)
end Go.ay
namespace Go.ay.az
def uu(i:Nat):az->az|⟨⟨0,t⟩,a⟩=>⟨⟨0,t⟩,a⟩|⟨⟨h+1,t⟩,a⟩=>⟨⟨h,aE.drop h i t⟩,ae.drop h i a⟩
def BG(i:Nat)(n:az):Prop:=i<n.T.1/\aE.free n.T.1 i n.T.2/\ae.free n.T.1 i n.a
def adn{Q:Src}{i:Nat}:∀{n:az},n.BG i->Q.ok n.T->Q.ok (n.uu i).T/\(n.uu i).val=n.val/\∀q∈ae.flat (n.uu i).a,q∈ae.flat n.a|⟨⟨0,t⟩,a⟩,h,_=>(fv _ h.1).elim|⟨⟨h+1,t⟩,a⟩,b,d=>by have c:i<=h:=ZU b.1;exact⟨⟨aE.Rv h i c t b.2.1 d.1,λ ρ e=>d.2 ρ (aE.Rw h i c t b.2.1 ρ e)⟩,ae.wv h i c t b.2.1 a b.2.2,ae.KN h i a⟩
open Classical in noncomputable def pC:Nat->az->az|0,n=>n|i+1,n=>pC i (if n.BG i then n.uu i else n)
noncomputable def trim(n:az):az:=pC n.T.1 n
def Od{Q:Src}:∀(i:Nat){n:az},Q.ok n.T->Q.ok (pC i n).T/\(pC i n).val=n.val/\∀q∈ae.flat (pC i n).a,q∈ae.flat n.a|0,n,h=>⟨h,rfl,λ _ h=>h⟩|i+1,n,h=>by by_cases e:n.BG i;have c:pC (i+1) n=pC i (n.uu i):=congrArg (pC i) (@if_pos _ (xZ _) e _ _ _);have⟨h1,d,k⟩:=adn e h;have⟨l,g,j⟩:=Od i h1;rw[c];exact⟨l,g.trans d,λ q f=>k q (j q f)⟩;have c:pC (i+1) n=pC i n:=congrArg (pC i) (@if_neg _ (xZ _) e _ _ _);rw[c];exact Od i h
def XQ{Q:Src}{n:az}(h:Q.ok n.T):Q.ok n.trim.T/\n.trim.val=n.val/\∀q∈ae.flat n.trim.a,q∈ae.flat n.a:=Od _ h
end Go.ay.az
namespace Go.ay
def ae.MD:∀{h:Nat}(a:ae h),ae.flat (ae.neg a)=(ae.flat a).map λ q=>-q|0,a=>rfl|h+1,a=>by show ae.flat (ae.neg a.1)++ae.flat (ae.neg a.2)=(ae.flat a.1++ae.flat a.2).map _;rw[ae.MD,ae.MD,List.map_append]
def uc(q:Rat):Prop:=q.num.natAbs<2^64/\q.den<2^64
def uc.neg{q:Rat}(h:uc q):uc (-q):=⟨by show(-q.num).natAbs<_;rw[Int.natAbs_neg];exact h.1,h.2⟩
end Go.ay
namespace Go.ay.az
def short(n:az):Prop:=(∀q∈ae.flat n.a,uc q)/\∀r∈n.T.2.aw,∀q∈r,uc q
def r5(n:az):Prop:=∀q∈ae.flat n.a,uc q
noncomputable def sqrt(a:az):az:=az.of (a.T.gD a.a) (ax.rt a.val)
end Go.ay.az
namespace Go.ay
structure fA where
 kind:Nat
 a:Nat
 b:Nat
 n:Int
 d:Nat
open Classical in noncomputable def il(l:List az)(roots:Nat)(o:fA):az×Nat:=if l=[]\/o.kind%6=0 then(az.rat (mkRat o.n (o.d%8+1)),roots)else let a:=l.getD (o.a%l.length) (az.rat 0);let b:=l.getD (o.b%l.length) (az.rat 0);if o.kind%6=1 then(a.add b,roots)else if o.kind%6=2 then(a.sub b,roots)else if o.kind%6=3 then(a.mul b,roots)else if o.kind%6=4 then(if b.val=0 then a else a.div b,roots)else if roots<3 then((if a.val<0 then a.neg else a).sqrt,roots+1)else(a,roots)
open Classical in noncomputable def m1(st:List az×Nat)(o:fA):List az×Nat:=let x:=il st.1 st.2 o;(st.1++[(if st.1≠[]/\¬x.1.short then st.1.getLastD (az.rat 0)else x.1).trim],x.2)
noncomputable def wh(r:List fA):List az:=((r.take 24).foldl m1 ([],0)).1
def ni(Q:Src)(l:List az):Prop:=Q.n=256/\∀a∈l,Q.ok a.T/\a.r5
def S3{Q:Src}{T:aC}(h:Q.ok T):T.1<=Q.S.length:=by have:=aC.pe (aC.sf h.1) h.2;rwa[aC.xE]at this
def az.r5.ms{a:az}(h:a.r5){k:Nat}(c:a.T.1<=k):ae.ms a.a (2^k*64):=ae.jL (ae.Ms (n:=64) λ q b=>⟨Nat.le_of_lt (h q b).1,Nat.le_of_lt (h q b).2⟩) (ck _ (dT al c))
def anx{Q:Src}{a:az}(h:Q.ok a.T)(j:a.r5)(b:Q.n=256)(c:Q.S.length<3)(l:0<=a.val):∃Q':Src,Q'.n=256/\Q'.S.length<=Q.S.length+1/\(∀T,Q.ok T->Q'.ok T)/\Q'.ok a.sqrt.T:=by
 by_cases e:a.val=0;have h1:a.T.In (ax.rt (ae.val a.T.2 a.a)):=by
   have d:ae.val a.T.2 a.a=0:=e;have i:ax.rt (0:ax)=0:=by have:=ax.kT (x:=(0:ax)) ap;rcases ax.ql this with h|h<;>exact h
   rw[d,i];exact aC.In.rat a.T 0
 refine⟨Q,b,Ph _,λ _ h=>h,?_⟩;show Q.ok (a.T.gD a.a);unfold aC.gD;rw[if_pos h1];exact h;have⟨Q',h1,k,g,f⟩:=Src.root a h (ae.jL (j.ms (bx (S3 h) (ZU c))) (by rw[b];decide)) ap c;exact⟨Q',h1.trans b,k,g,f⟩
def VX{Q:Src}{o:fA}(a:o.n.natAbs<=128):Q.ok (az.rat (mkRat o.n (o.d%8+1))).T/\(az.rat (mkRat o.n (o.d%8+1))).r5:=by
 refine⟨Src.ajw,λ q b=>?_⟩;rw[cq.1 b];have h1:(mkRat o.n (o.d%8+1)).num.natAbs<=o.n.natAbs:=by rw[Rat.num_mkRat];split;exact dL _;exact Int.natAbs_ediv_le_natAbs _ _
 have c:(mkRat o.n (o.d%8+1)).den<=o.d%8+1:=by rw[Rat.den_mkRat];split;omega;exact Nat.div_le_self _ _
 have:=Nat.mod_lt o.d (al:8>0);exact⟨gA (bx h1 a) al,gA c (gA (Nat.succ_le_of_lt (ZV this)) al)⟩
def QI{Q:Src}{l:List az}{roots:Nat}{o:fA}(H:ni Q l)(g:Q.S.length<=roots)(h:roots<=3)(r:o.n.natAbs<=128):∃Q':Src,ni Q' l/\Q'.S.length<=(il l roots o).2/\(il l roots o).2<=3/\Q'.ok (il l roots o).1.T/\(l=[]->(il l roots o).1.r5):=by
 have v:∀i,l≠[]->Q.ok (l.getD (i%l.length) (az.rat 0)).T/\(l.getD (i%l.length) (az.rat 0)).r5:=λ i d=>by have m:0<l.length:=List.length_pos_iff.2 d;rw[dt,eO (Nat.mod_lt _ m)];exact H.2 _ (bf _)
 unfold il;split;exact⟨Q,H,g,h,(VX r).1,λ _=>(VX (Q:=Q) r).2⟩;next k=>
 have d:l≠[]:=λ e=>k (Or.inl e);have f:=v o.a d;have hb:=v o.b d;simp only;generalize l.getD (o.a%l.length) (az.rat 0)=a at*;generalize l.getD (o.b%l.length) (az.rat 0)=b at*;have j:Q.ok (az.join a b):=Src.Hu f.1 hb.1;split;exact⟨Q,H,g,h,j,λ e=>(d e).elim⟩;split;exact⟨Q,H,g,h,j,λ e=>(d e).elim⟩;split;exact⟨Q,H,g,h,j,λ e=>(d e).elim⟩;split;refine⟨Q,H,g,h,?_,λ e=>(d e).elim⟩;split;exact f.1;exact j;split;.next C=>
   have hc:∀c:az,Q.ok c.T->c.r5->0<=c.val->∃Q':Src,ni Q' l/\Q'.S.length<=roots+1/\roots+1<=3/\Q'.ok c.sqrt.T/\(l=[]->c.sqrt.r5):=λ c h1 y A=>by have⟨Q',q1,B,z,w⟩:=anx h1 y H.1 ac A;exact⟨Q',⟨q1,λ x t=>⟨z _ (H.2 x t).1,(H.2 x t).2⟩⟩,ac,ac,w,λ e=>(d e).elim⟩
   by_cases s:a.val<0;rw[if_pos s];refine hc a.neg f.1 (λ q u=>?_) (by rw[az.Cs];grind);have e:ae.flat a.neg.a=(ae.flat a.a).map λ q=>-q:=ae.MD a.a;rw[e]at u;obtain⟨p,m,rfl⟩:=bp.1 u;exact(f.2 p m).neg;rw[if_neg s];exact hc a f.1 f.2 ap
 exact⟨Q,H,g,h,f.1,λ e=>(d e).elim⟩
def Xi{st:List az×Nat}{o:fA}(j:o.n.natAbs<=128)(H:∃Q,ni Q st.1/\Q.S.length<=st.2/\st.2<=3):∃Q,ni Q (m1 st o).1/\Q.S.length<=(m1 st o).2/\(m1 st o).2<=3:=by
 have⟨Q,h1,t,m⟩:=H;have⟨Q',g,l,u,s,k⟩:=QI h1 t m j;refine⟨Q',⟨g.1,λ a r=>?_⟩,l,u⟩;rcases jh.1 r with h|h;exact g.2 a h;rw[cq.1 h];split;.next hc=>have i:=g.2 (st.1.getLastD (az.rat 0)) (by rw[List.getLastD_eq_getLast?,List.getLast?_eq_some_getLast hc.1];exact List.getLast_mem _);have⟨f,_,d⟩:=az.XQ i.1;exact⟨f,λ q c=>i.2 q (d q c)⟩
 next hc=>have⟨f,_,d⟩:=az.XQ s;refine⟨f,λ q c=>?_⟩;by_cases e:st.1=[];exact k e q (d q c);exact(Classical.not_not.1 (λ p=>hc ⟨e,p⟩)).1 q (d q c)
def Qx{r:List fA}(f:∀o∈r,o.n.natAbs<=128):∃Q,ni Q (wh r):=by
 have key:∀(r:List fA)(st:List az×Nat),(∀o∈r,o.n.natAbs<=128)->(∃Q,ni Q st.1/\Q.S.length<=st.2/\st.2<=3)->∃Q,ni Q (r.foldl m1 st).1/\Q.S.length<=(r.foldl m1 st).2/\(r.foldl m1 st).2<=3:=λ r=>by induction r with|nil=>exact λ st _ h=>h|cons o r d=>exact λ st b h=>d _ (λ p c=>b p (cR _ c)) (Xi (b o cp) h)
 have⟨Q,h,_⟩:=key (r.take 24) ([],0) (λ o ho=>f o (gK ho)) ⟨Src.none 256,⟨rfl,λ a e=>(cS e).elim⟩,a2 _,dL _⟩;exact⟨Q,h⟩
def ni.G{Q:Src}{l:List az}(h:ni Q l){a:az}(b:a∈l)(z:Bool):aj.G Q.ctx 512 (z,a):=Src.agy (h.2 a b).1 ((h.2 a b).2.ms (k:=3) (Src.xe (h.2 a b).1))
def r6{Q:Src}(h:Q.n=256):Q.ctx.c=1806:=by show 7*Q.n+14=_;rw[h]
def Df{Q:Src}(h:Q.n=256):Q.ctx.C=15374539827:=by
 have b:Q.c1=258:=by show Q.n+2=_;rw[h]
 have d:Q.r1=15430:=by show ae.fo Q.c1 1 Q.n=_;rw[b,h];kernel_rfl
 have c:Q.e1=47323:=by show Q.n+3*(Q.r1+Q.c1+1)=_;rw[h,b,d]
 have a:Q.cc=331275:=by show 7*Q.e1+14=_;rw[c]
 have e:Q.r3=5124515333:=by show ae.fo Q.cc 2 Q.e1=_;rw[a,c];kernel_rfl
 show 3*(Q.r3+Q.cc+1)=_;rw[a,e]
def jW(M:List (List aj))(rows:List Nat)(k:Nat):List aj:=rows.map λ i=>(M.getD i []).getD k (aj.rat 0)
section
variable{K:bY}{n m w:Nat}{M:List (List aj)}
def Fw(a:bj K n w M)(rows:List Nat)(k:Nat):dn K n (jW M rows k):=λ x b=>by obtain⟨i,_,rfl⟩:=bp.1 b;exact a.at
structure J8 where
 which:Nat
 at_:Nat
 Qz:Int
def alQ(st:List (List aj)×List Nat)(k:Nat):gG st k=st\/(gG st k).2=st.2++[k]:=by unfold gG;simp only;split;exact Or.inr rfl;exact Or.inl rfl
end
section
variable{K:bY}{n w:Nat}{M:List (List aj)}
noncomputable abbrev l9(M:List (List aj)):List Nat->Nat->List Nat:=λ c k=>let l:=(c++[k]).map λ i=>M.getD i [];if(bl l).2.length=l.length then c++[k]else c
def M0(M:List (List aj)):∀(ord c:List Nat),∀k∈c,k∈ord.foldl (l9 M) c|[],c,k,a=>a|j::ord,c,k,a=>by rw[qT];refine M0 M ord _ k ?_;show k∈(if _ then _ else _);split;exact qP _ a;exact a
end
end Go.ay
namespace Go.ay.ae
def add_comm:∀{h:Nat}(a b:ae h),add a b=add b a|0,a,b=>Rat.add_comm a b|_+1,a,b=>mz (add_comm a.1 b.1) (add_comm a.2 b.2)
def add_zero:∀{h:Nat}(a:ae h),add a (rat h 0)=a|0,a=>Rat.add_zero a|_+1,a=>mz (add_zero a.1) (add_zero a.2)
def zero_add{h:Nat}(a:ae h):add (rat h 0) a=a:=by rw[add_comm,add_zero]
def zero_mul:∀{h:Nat}(t:aE h)(a:ae h),mul t (rat h 0) a=rat h 0|0,_,a=>Rat.zero_mul a|h+1,t,a=>by show(add (mul t.1 (rat h 0) a.1) (mul t.1 (mul t.1 (rat h 0) a.2) t.2),add (mul t.1 (rat h 0) a.2) (mul t.1 (rat h 0) a.1))=_;simp only[zero_mul,add_zero];rfl
def mul_comm:∀{h:Nat}(t:aE h)(a b:ae h),mul t a b=mul t b a|0,_,a,b=>Rat.mul_comm a b|h+1,t,a,b=>by show(add (mul t.1 a.1 b.1) (mul t.1 (mul t.1 a.2 b.2) t.2),add (mul t.1 a.1 b.2) (mul t.1 a.2 b.1))=(add (mul t.1 b.1 a.1) (mul t.1 (mul t.1 b.2 a.2) t.2),add (mul t.1 b.1 a.2) (mul t.1 b.2 a.1));rw[mul_comm t.1 a.1 b.1,mul_comm t.1 a.2 b.2,mul_comm t.1 a.1 b.2,mul_comm t.1 a.2 b.1,add_comm (mul t.1 b.2 a.1)]
def mul_zero{h:Nat}(t:aE h)(a:ae h):mul t a (rat h 0)=rat h 0:=by rw[mul_comm,zero_mul]
def mul_neg:∀{h:Nat}(t:aE h)(a b:ae h),mul t (neg a) b=neg (mul t a b)
 |0,_,a,b=>Rat.neg_mul a b|h+1,t,a,b=>by
   have d:∀{k:Nat}(x y:ae k),add (neg x) (neg y)=neg (add x y):=λ{k}=>by induction k with|zero=>intro x y;exact Rat.neg_add.symm|succ k c=>intro x y;exact mz (c _ _) (c _ _)
   show(add (mul t.1 (neg a.1) b.1) (mul t.1 (mul t.1 (neg a.2) b.2) t.2),add (mul t.1 (neg a.1) b.2) (mul t.1 (neg a.2) b.1))=(neg (add _ _),neg (add _ _));simp only[mul_neg,d]
def c2(k:Nat):{h:Nat}->ae h->Prop|0,a=>cE k a|_+1,a=>c2 k a.1/\c2 k a.2
def NC{k:Nat}:∀{h:Nat}{a:ae h},(∀q∈flat a,cE k q)->c2 k a|0,a,h=>h a (cq.2 rfl)|_+1,a,h=>⟨NC λ q b=>h q (qP _ b),NC λ q b=>h q (xP _ b)⟩
def c2.flat{k:Nat}:∀{h:Nat}{a:ae h},c2 k a->∀q∈flat a,cE k q|0,a,h,q,b=>by rw[cq.1 b];exact h|_+1,a,h,q,b=>(jh.1 b).elim (h.1.flat q) (h.2.flat q)
def sh{h:Nat}{a:ae h}{n:Nat}(b:ms a n)(c:n<=4398046511104):c2 419430400000 a:=NC (Uw b ac)
end Go.ay.ae
namespace Go.ay
structure db{h:Nat}(t:aE h)(c:Nat):Prop where
 bH:ae.ki t c
 rd:ae.Rd t c
def db.low{h:Nat}{t:aE (h+1)}{c:Nat}(H:db t c):db t.1 c:=⟨H.bH.2,H.rd.2⟩
def db.top{h:Nat}{t:aE (h+1)}{c:Nat}(H:db t c):ae.ms t.2 c:=H.rd.1
instance{q:Rat}:cT 4 (aW q):=⟨inferInstance,rfl,J5 q,rfl⟩
instance{l:List Rat}:cT 1 (ba l):=⟨inferInstance,rfl,CU l,rfl⟩
instance{h:Nat}{a:ae h}:cT 1 (aF a):=inferInstanceAs(cT 1 (ba (ae.flat a)))
instance{R:List (List Rat)}:cT 1 (aT R):=⟨inferInstance,rfl,λ d hd=>by have:(aT R).cells=[aT R]:=rfl;rw[this,cq]at hd;subst hd;exact bg.pure,rfl⟩
instance{n:az}:cT 2 (au n):=⟨inferInstance,rfl,λ d hd=>by have:(au n).cells=[aT n.T.2.aw,aF n.a]:=rfl;rw[this]at hd;simp only[ct,cS,or_false]at hd;rcases hd with rfl|rfl<;>exact bg.pure,rfl⟩
instance{x:aj}:cT 2 x.T:=inferInstanceAs(cT 2 (au x.2))
theorem cT.list{k m:Nat}{l:List aa}(h:∀c∈l,cT m c):bg (.sl k l):=bg.slice (λ c hc=>by have⟨e,a,hc⟩:=List.mem_flatMap.1 hc;exact(h e a).cells c hc) λ c hc ρ=>(h c hc).pu.fix ρ
theorem cT.map{α:Type}{k m:Nat}{f:α->aa}(h:∀x,cT m (f x))(l:List α):bg (.sl k (l.map f)):=cT.list λ c hc=>by obtain⟨x,_,rfl⟩:=bp.1 hc;exact h x
instance{l:List aj}:bg (ar l):=cT.map (m:=2) (λ x=>inferInstance) l
instance{l:List aj}:cT 1 (ar l):=⟨inferInstance,rfl,λ d hd=>by have:(ar l).cells=[ar l]:=rfl;rw[this,cq]at hd;subst hd;exact bg.pure,rfl⟩
def aN(m:List (List aj)):aa:=.sl 1 (m.map ar)
instance{m:List (List aj)}:bg (aN m):=cT.map (m:=1) (λ x=>inferInstance) m
instance{i:IntKind}{n:Int}:cT 1 (.int i n):=⟨inferInstance,rfl,λ d hd=>by have:(aa.int i n).cells=[.int i n]:=rfl;rw[this,cq]at hd;subst hd;exact bg.pure,rfl⟩
def l7(l:List Int):aa:=.sl 1 (l.map λ n=>.int .i64 n)
instance{l:List Int}:bg (l7 l):=cT.map (m:=1) (λ x=>inferInstance) l
def first(p:Nat->Bool)(N:Nat):(∀i,i<N->p i=false)\/∃i,i<N/\p i=true/\∀j,j<i->p j=false:=by induction N with|zero=>exact .inl λ i h=>absurd h (fv i)|succ N d=>
   rcases d with h|⟨i,h1,c,b⟩;cases e:p N with|true=>exact .inr ⟨N,Nat.lt_succ_self N,e,h⟩|false=>refine .inl λ i a=>?_;rcases Nat.lt_succ_iff_lt_or_eq.1 a with h1|rfl;exact h i h1;exact e
   exact .inr ⟨i,ZV h1,c,b⟩
def ah5{α:Type}{f:α->aa}{l:List α}{i:Nat}(h:i<l.length):decide ((i:Int)<((l.map f).length:Int))=true:=by rw[aQ];exact decide_eq_true ac
def ah4{α:Type}{f:α->aa}{l:List α}:decide ((l.length:Int)<((l.map f).length:Int))=false:=by rw[aQ];exact decide_eq_false ac
def Le{α:Type}{f:α->aa}{k:Nat}{l:List α}{i:Nat}(h:i<l.length):j7 k (.sl k (l.map f)) (.int .i64 (i:Int))=some (.cr (f l[i]).cells 0):=by unfold j7;simp only[];rw[if_pos ⟨trivial,ac⟩,Int.toNat_natCast,List.getElem?_map,eO h];rfl
def apu(i:Nat)(h:i<9000:=by omega):IntKind.i64.wrap ((i:Int)+1)=((i+1:Nat):Int):=by rw[IntKind.wrap_i64];omega
section
variable{P:Program}{G:Nat->Option (List aa)}{α:Type}
def bB(k:Nat)(f:α->aa){l:List α}{i:Nat}(h:i<l.length:=by omega):aR P G:=hb k (ah5 (f:=f) h)
def dH(k:Nat)(f:α->aa)(l:List α):aR P G:=hb k (ah4 (f:=f) (l:=l))
def aV(k c:Nat)(f:α->aa){l:List α}{i:Nat}(h:i<l.length:=by omega):aR P G:=ho k (Le (f:=f) (k:=c) h)
def bh(k i:Nat)(h:i<9000:=by omega):aR P G:=hw k (apu i h)
end
end Go.ay
