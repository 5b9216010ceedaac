/- For the claim of VerifierAccepts: parts RE2, TW1, TW2, TW3, TW4, TW5, TW6, TW7, TW8, TW9, TWA, FT1, MX1, MX2, MX3, MX4, MX5, MX6, MX7, MX8, MX9, MXA, MXB. -/
import Derived.Test.YtpcofcmencgkbaaGreatC04
set_option linter.defProp false
set_option linter.unusedSectionVars false
set_option linter.unusedSimpArgs false
set_option linter.unusedVariables false
set_option maxRecDepth 100000
open Classical renaming choose->r5,choose_spec->oR,not_forall->Qd,not_imp->abd,propDecidable->yH
open Go.aA.eJ renaming const->Kb
open Go.aA.az renaming ofRat->dX,ofRat_mul->pJ
open Int renaming natAbs_mul->nV,natAbs_natCast->gO,ofNat->jj
open Lean.Grind.Field renaming mul_inv_cancel->aa8
open Lean.Grind.OrderedRing renaming zero_lt_one->ati
open Lean.Grind.Ring renaming sub_eq_add_neg->tq
open List renaming append_inj->abf,drop_zero->nY,foldl_cons->qN,getD_eq_getElem?_getD->dE,getElem?_eq_getElem->eu,getElem?_eq_none->yI,getElem_mem->bo,getElem_take->abc,getElem_zipWith->uO,isEmpty_iff->oU,length_append->cy,length_cons->fU,length_map->aL,length_pos_iff->fN,length_range->cR,length_set->kQ,length_singleton->lT,length_take->eZ,length_zipWith->gY,mem_append->hJ,mem_append_left->tl,mem_append_right->Bp,mem_cons->cp,mem_cons_of_mem->cX,mem_cons_self->cg,mem_filter->iU,mem_iff_getElem->fy,mem_map->bd,mem_map_of_mem->wy,mem_of_mem_take->gZ,mem_or_eq_of_mem_set->Bs,mem_range->cb,mem_singleton->bU,nodup_cons->h5,nodup_nil->gA,not_mem_nil->ct,of_mem_zip->Kd,pairwise_iff_getElem->Bw,range->aR,take_append_of_le_length->E4,take_length->gl,take_succ_eq_append_getElem->kP,zip->wx
open List.cons renaming inj->abe
open Nat renaming le_mul_self->Bv,le_of_lt_succ->abg,le_refl->a2,le_succ->Qh,le_trans->bx,lt_of_le_of_lt->gN,mod_lt->bG,mul_add->ej,mul_assoc->fT,mul_comm->dm,mul_le_mul->kr,mul_le_mul_left->fS,mul_le_mul_right->cr,mul_left_comm->pK,mul_one->nX,mul_pos->oT,not_lt_zero->ew,one_le_two_pow->wv,pow_add->iI,pow_le_pow_right->dR,pow_lt_pow_right->uN,pow_succ->eo,zero_add->cI,zero_le->dF
open Nat.Coprime renaming mul_right->aba
open Prod renaming ext->na,snd->Qg
open Rat renaming div_def->yE,intCast_le_intCast->uM,intCast_mul->yG,intCast_neg->Kc,inv_pos->wu,lt_floor_add_one->aa7,mul_inv_cancel->tr,mul_nonneg->kt,mul_pos->fM,natCast_add->Qe,natCast_le_natCast->E2,natCast_mul->Bu,natCast_nonneg->Qf,num_eq_zero->m9,num_nonneg->E1
open Setoid renaming symm->aa5
namespace Go.aA.eJ
def le(a b:eJ):Prop:=∀e:Rat,0<e->∃N,∀n,N<=n->a.f n<b.f n+e
def U3{a a' b d:eJ}(h:a ≈ a')(k:b ≈ d)(l:le a b):le a' d:=λ e o=>by have⟨N,i⟩:=h (e/3) ap;have⟨M,j⟩:=k (e/3) ap;have⟨L,g⟩:=l (e/3) ap;refine⟨N+M+L,λ n p=>?_⟩;have h1:=i n;have q:=j n;have m:=g n;grind
def GZ{a b:eJ}(h:¬le a b):∃e:Rat,0<e/\∃N,∀n,N<=n->b.f n+e<a.f n:=by unfold le at h;simp only[Qd,not_exists]at h;have⟨e,o,h⟩:=h;have⟨N,g⟩:=a.c (e/4) ap;have⟨M,j⟩:=b.c (e/4) ap;have⟨k,l⟩:=h (N+M);have⟨i,m⟩:=l;refine⟨e/4,ap,N+M,λ n q=>?_⟩;have h1:=g k n;have p:=j n k;grind
def NB{a b:eJ}{e:Rat}(g:0<e){N:Nat}(h:∀n,N<=n->b.f n+e<a.f n):¬le a b:=λ d=>by have⟨M,i⟩:=d e g;have h1:=i (N+M);have j:=h (N+M);grind
end Go.aA.eJ
namespace Go.aA.az
def le(x y:az):Prop:=Quotient.liftOn₂ x y eJ.le λ _ _ _ _ h k=>propext ⟨eJ.U3 h k,eJ.U3 (aa5 h) (aa5 k)⟩
instance:LE az:=⟨le⟩
instance:LT az:=⟨λ x y=>¬y<=x⟩
def lt_def{x y:az}:x<y↔¬y<=x:=Iff.rfl
def total(x y:az):x<=y\/y<=x:=by obtain⟨a,rfl⟩:=ex x;obtain⟨b,rfl⟩:=ex y;by_cases h:eJ.le a b;exact .inl h;have⟨e,g,N,c⟩:=eJ.GZ h;exact .inr λ d hd=>⟨N,λ n f=>by have:=c n f;grind⟩
def trans{x y z:az}(h:x<=y)(k:y<=z):x<=z:=by obtain⟨a,rfl⟩:=ex x;obtain⟨b,rfl⟩:=ex y;obtain⟨c,rfl⟩:=ex z;intro e i;have⟨N,d⟩:=h (e/2) ap;have⟨M,f⟩:=k (e/2) ap;refine⟨N+M,λ n g=>?_⟩;have h1:=d n;have j:=f n;grind
def acA{x y:az}(h:x<=y)(k:y<=x):x=y:=by obtain⟨a,rfl⟩:=ex x;obtain⟨b,rfl⟩:=ex y;refine sound λ e c=>?_;have⟨N,d⟩:=h e c;have⟨M,f⟩:=k e c;refine⟨N+M,λ n g=>?_⟩;have h1:=d n;have i:=f n;grind
instance:Std.IsLinearOrder az where le_refl x:=(total x x).elim id id;le_trans _ _ _:=trans;le_antisymm _ _:=acA;le_total:=total
instance:Std.LawfulOrderLT az where lt_iff x y:=⟨λ h=>⟨(total x y).resolve_right h,h⟩,λ h=>h.2⟩
def FV(x y z:az)(h:x<=y):x+z<=y+z:=by obtain⟨a,rfl⟩:=ex x;obtain⟨b,rfl⟩:=ex y;obtain⟨c,rfl⟩:=ex z;intro e g;have⟨N,d⟩:=h e g;exact⟨N,λ n i=>by have:=d n i;show a.f n+c.f n<b.f n+c.f n+e;grind⟩
def mul_pos{x y:az}(h:0<x)(k:0<y):0<x*y:=by obtain⟨a,rfl⟩:=ex x;obtain⟨b,rfl⟩:=ex y;have⟨e,c,N,g⟩:=eJ.GZ h;have⟨d,hd,M,i⟩:=eJ.GZ k;refine eJ.NB (e:=e*d) (N:=N+M) (fM c hd) λ n j=>?_;have h1:(0:Rat)+e<a.f n:=g n ac;have m:(0:Rat)+d<b.f n:=i n ac;have o:0<(a.f n-e)*b.f n:=fM ap ap;have l:0<e*(b.f n-d):=fM c ap;show(0:Rat)+e*d<a.f n*b.f n;grind
def sub_pos{x y:az}:x<y↔0<y-x:=by rw[lt_def,lt_def];refine not_congr ⟨λ h=>?_,λ h=>?_⟩;have:=FV y x (-x) h;rwa[<-tq,<-tq,show x-x=0 from ap]at this;have:=FV (y-x) 0 x h;rwa[show y-x+x=y from ap,show(0:az)+x=x from ap]at this
def um{x y z:az}(h:x<y)(k:0<z):z*x<z*y:=by rw[sub_pos]at h⊢;have:=mul_pos k h;rwa[show z*(y-x)=z*y-z*x from ap]at this
instance:Lean.Grind.OrderedRing az where
 add_le_left_iff{a b}c:=⟨FV a b c,λ h=>by have:=FV _ _ (-c) h;rwa[show a+c+-c=a from ap,show b+c+-c=b from ap]at this⟩;zero_lt_one:=eJ.NB (a:=Kb 1) (b:=Kb 0) (e:=1/2) (N:=0) ap λ n _=>by show(0:Rat)+1/2<1;grind
 mul_lt_mul_of_pos_left:=um;mul_lt_mul_of_pos_right{a b c}h k:=by rw[uh a c,uh b c];exact um h k
def inv_pos{x:az}(h:0<x):∃y,x*y=1:=by
 obtain⟨a,rfl⟩:=ex x;have⟨e,g,N,p⟩:=eJ.GZ h;have b:∀n,N<=n->e<a.f n:=λ n o=>by have h1:(0:Rat)+e<a.f n:=p n o;grind
 refine⟨mk ⟨λ n=>(a.f (n+N))⁻¹,λ d hd=>?_⟩,sound λ d hd=>?_⟩;have⟨M,j⟩:=a.c (d*(e*e)) (fM hd (fM g g));refine⟨M,λ m n D o=>?_⟩;have h1:=b (m+N);have r:=b (n+N);have s:=j (n+N) (m+N);generalize a.f (m+N)=u at*;generalize a.f (n+N)=v at*;have q:0<d*((u-e)*v):=fM hd (fM ap ap);have z:0<d*(e*(v-e)):=fM hd (fM g ap);have A:v-u<d*(u*v):=ap;have hu:=tr u ap;have i:=tr v ap;have k:0<u⁻¹*v⁻¹:=fM (wu.2 ap) (wu.2 ap);generalize u⁻¹=x at*;generalize v⁻¹=y at*;have l:0<(d*(u*v)-(v-u))*(x*y):=fM ap k;have e:(d*(u*v)-(v-u))*(x*y)=d*((u*x)*(v*y))-((v*y)*x-(u*x)*y):=ap;rw[e,hu,i]at l;grind;have⟨B,w,C⟩:=a.Cb;have⟨M,j⟩:=a.c (d*e) (fM hd g);refine⟨M+N,λ n o=>?_⟩;have h1:=b n;have r:=b (n+N);have s:=j n (n+N);have q:=j (n+N) n;show a.f n*(a.f (n+N))⁻¹-1<d/\1-a.f n*(a.f (n+N))⁻¹<d;generalize a.f (n+N)=v at*;generalize a.f n=u at*;have i:=tr v ap;have k:0<v⁻¹:=wu.2 ap;have z:0<d*(v-e):=fM hd ap;generalize v⁻¹=y at*;have l:0<(d*v-(u-v))*y:=fM ap k;have t:0<(d*v-(v-u))*y:=fM ap k;rw[show(d*v-(u-v))*y=d*(v*y)-(u*y-v*y)from ap,i]at l;rw[show(d*v-(v-u))*y=d*(v*y)-(v*y-u*y)from ap,i]at t;grind
def xy{x:az}(h:x≠0):∃y,x*y=1:=by by_cases h1:0<x;exact inv_pos h1;have⟨y,a⟩:=inv_pos (x:=-x) ap;exact⟨-y,ap⟩
open Classical in noncomputable instance:_root_.Inv az:=⟨fun x=>if h:x=0 then 0 else r5 (xy h)⟩
noncomputable instance:Div az:=⟨λ x y=>x*y⁻¹⟩
noncomputable def zpow(a:az):Int->az|.ofNat n=>npow a n|.negSucc n=>(npow a (n+1))⁻¹
noncomputable instance:HPow az Int az:=⟨zpow⟩
def EM:(0:az)⁻¹=0:=dif_pos rfl
def rv{x:az}(h:x≠0):x*x⁻¹=1:=by have e:x⁻¹=r5 (xy h):=dif_neg h;rw[e];exact oR (xy h)
def zero_ne_one:(0:az)≠1:=λ h=>by have:(0:az)<1:=ati;rw[<-h]at this;grind
def inv_inv(x:az):x⁻¹⁻¹=x:=by
 by_cases h:x=0;rw[h,EM,EM];have h1:=rv h;have a:x⁻¹≠0:=λ e=>by rw[e,M9]at h1;exact zero_ne_one h1
 have b:=rv a;generalize x⁻¹=y at*;generalize y⁻¹=z at*;grind
noncomputable instance:Lean.Grind.Field az where zpow:=inferInstance;div_eq_mul_inv _ _:=rfl;zero_ne_one:=zero_ne_one;inv_zero:=EM;mul_inv_cancel:=rv;zpow_zero _:=rfl;zpow_succ _ _:=rfl;zpow_neg a n:=by cases n with
   |ofNat n=>cases n with|zero=>show npow a 0=(npow a 0)⁻¹;have:=rv (x:=1) (λ h=>zero_ne_one h.symm);rw[uh,M8]at this;exact this.symm|succ n=>rfl
   |negSucc n=>exact(inv_inv _).symm
def Ia{p q:Rat}(h:p<q):ofRat p<ofRat q:=eJ.NB (a:=Kb q) (b:=Kb p) (e:=(q-p)/2) (N:=0) ap λ n _=>by show p+(q-p)/2<q;grind
def H9{p q:Rat}(h:ofRat p=ofRat q):p=q:=by by_cases h1:p<q;have:=Ia h1;rw[h]at this;grind;by_cases a:q<p;have:=Ia a;rw[h]at this;grind;grind
def ak9(q d:Rat)(H:0<=q)(hd:0<d):∃r:Rat,0<=r/\r*r<=q/\q<r*r+d:=by
 have⟨t,a,B,y⟩:∃t:Rat,0<t/\t<=1/\t*(2*(q+1)+1)<=d:=by by_cases h:(2*(q+1)+1)<=d;exact⟨1,al,ap,ap⟩;have p:0<(2*(q+1)+1):=ap;have g:=tr (2*(q+1)+1) ap;have c:=wu.2 p;generalize(2*(q+1)+1)=s at*;generalize s⁻¹=i at*;have h1:0<(s-d)*i:=fM ap c;exact⟨d*i,fM hd c,ap,by rw[show d*i*s=d*(s*i)from ap,g];grind⟩
 have f:∃k:Nat,q<(k*t)*(k*t):=by
   have g:=tr (t*t) (by have:=fM a a;grind);have c:=wu.2 (fM a a);have x:=aa7 (q*(t*t)⁻¹);generalize J:(q*(t*t)⁻¹).floor+1=n at x;generalize(t*t)⁻¹=i at*;have I:0<=q*i:=by by_cases h:q=0;rw[h];grind;have:=fM (ap:0<q) c;grind
   have F:(0:Rat)<n:=ap;have E:0<n:=by by_cases h:0<n;exact h;have:(n:Rat)<=((0:Int):Rat):=uM.2 ac;have o:((0:Int):Rat)=0:=rfl;grind
   refine⟨n.toNat,?_⟩;have e:((n.toNat:Nat):Rat)=(n:Rat):=by have:((n.toNat:Nat):Int)=n:=ac;rw[<-this];rfl
   rw[e];have h1:(1:Rat)<=n:=by have:((1:Int):Rat)<=(n:Rat):=uM.2 ac;exact this
   have l:0<=((n:Rat)-1)*n:=kt ap ap;have u:0<((n:Rat)-q*i)*(t*t):=fM ap (fM a a);have v:0<=(((n:Rat)-1)*n)*(t*t):=kt l (by have:=fM a a;grind);have G:((n:Rat)-q*i)*(t*t)=n*(t*t)-q*((t*t)*i):=ap;rw[g]at G;grind
 have⟨k,m⟩:=f;have b:∀k:Nat,q<(k*t)*(k*t)->∃j:Nat,(j*t)*(j*t)<=q/\q<((j+1:Nat)*t)*((j+1:Nat)*t):=by intro k;induction k with|zero=>intro h;have o:((0:Nat):Rat)=0:=rfl;rw[o]at h;grind|succ k w=>intro h;by_cases h1:q<(k*t)*(k*t);exact w h1;exact⟨k,ap,h⟩
 have⟨j,h1,l⟩:=b k m;have z:((j+1:Nat):Rat)=j+1:=Qe _ _;rw[z,show((j:Rat)+1)*t=j*t+t from ap]at l;have D:(0:Rat)<=j:=Qf;have C:0<=(j:Rat)*t:=kt D ap;refine⟨j*t,C,h1,?_⟩;generalize(j:Rat)*t=r at*;have A:r<=q+1:=by by_cases h:r<=q+1;exact h;have:=fM (ap:0<r-1) (ap:0<r);grind
 have u:0<=t*(q+1-r):=kt ap ap;have v:0<=t*(1-t):=kt ap ap;clear b m;grind
def OJ{x:az}(h:0<=x):∃y,0<=y/\y*y=x:=by
 obtain⟨a,rfl⟩:=ex x;have q:∀n:Nat,∃r:Rat,0<=r/\r*r<=max (a.f n) 0/\max (a.f n) 0<r*r+1/((n:Rat)+1):=λ n=>ak9 _ _ ap (by have:(0:Rat)<=n:=Qf;rw[yE];exact fM al (wu.2 ap));let b(n:Nat):=r5 (q n);have hb:∀n,0<=b n/\b n*b n<=max (a.f n) 0/\max (a.f n) 0<b n*b n+1/((n:Rat)+1):=λ n=>oR (q n);have o:∀e:Rat,0<e->∃N:Nat,∀n,N<=n->1/((n:Rat)+1)<e:=λ e g=>by have w:=tr e ap;have L:=wu.2 g;have H:=aa7 e⁻¹;refine⟨(e⁻¹.floor+1).toNat,λ n B=>?_⟩;have h1:((e⁻¹.floor+1:Int):Rat)<=((n:Int):Rat):=uM.2 ac;have E:((n:Int):Rat)=n:=rfl;rw[E]at h1;generalize(n:Rat)=k at*;generalize e⁻¹=i at*;have D:=tr (k+1) ap;have A:=wu.2 (ap:0<k+1);rw[yE];generalize(k+1)⁻¹=j at*;have C:0<(k+1-i)*(e*j):=fM ap (fM g A);have t:(k+1-i)*(e*j)=e*((k+1)*j)-(e*i)*j:=ap;rw[D,w]at t;grind
 have p:∀e:Rat,0<e->∃N:Nat,∀m n,N<=m->N<=n->b m-b n<e:=λ e g=>by
   have⟨N,s⟩:=a.c (e*e/2) (by have:=fM g g;grind);have⟨M,z⟩:=o (e*e/2) (by have:=fM g g;grind);refine⟨N+M,λ m n I B=>?_⟩;have h1:=s m n ac ac;have C:=z n;have t:=hb m;have F:=hb n;generalize b m=u at*;generalize b n=v at*;generalize 1/((n:Rat)+1)=k at*;generalize 1/((m:Rat)+1)=l at*;by_cases w:u-v<e;exact w;have G:0<=(u-v-e)*(u-v+e):=kt ap ap;have J:0<=v*(u-v):=kt F.1 ap;have K:max (a.f m) 0<=max (a.f n) 0+e*e/2:=by have:=fM g g;grind
   grind
 refine⟨mk ⟨b,p⟩,λ e g=>⟨0,λ n _=>by show(0:Rat)<b n+e;have:=(hb n).1;grind⟩,sound λ e g=>?_⟩;have⟨N,s⟩:=h e g;have⟨M,z⟩:=o e g;refine⟨N+M,λ n B=>?_⟩;have h1:(0:Rat)<a.f n+e:=s n ac;have C:=z n;have t:=hb n;show b n*b n-a.f n<e/\a.f n-b n*b n<e;grind
noncomputable def rt(x:az):az:=open Classical in if h:0<=x then r5 (OJ h)else 0
def Oq(x:az):0<=rt x:=by unfold rt;split;rename_i h;exact(oR (OJ h)).1;grind
def lL{x:az}(h:0<=x):rt x*rt x=x:=by unfold rt;rw[dif_pos h];exact(oR (OJ h)).2
def apR{x y:az}(c:0<=x)(d:0<=y)(h:x*x=y*y):x=y:=by
 by_cases e:x=y;exact e;have h1:(x-y)*(x+y)=0:=ap;have f:x+y=0:=by have:=aa8 (a:=x-y) ap;generalize(x-y)⁻¹=i at*;grind
 grind
def rt_eq{x y:az}(b:0<=y)(h:y*y=x):rt x=y:=by
 have a:0<=x:=by rw[<-h];by_cases e:y=0;rw[e];grind;have:=mul_pos (x:=y) (y:=y) ap ap;grind
 exact apR (Oq x) b (by rw[lL a,h])
def XS{x:az}(h:0<x):0<rt x:=by have h1:=Oq x;have a:=lL (x:=x) ap;by_cases e:rt x=0;rw[e]at a;grind;grind
end Go.aA.az
namespace Go.aA
def ae:Nat->Type|0=>Rat|h+1=>ae h×ae h
def aI:Nat->Type|0=>Unit|h+1=>aI h×ae h
def ae.rat:(h:Nat)->Rat->ae h|0,q=>q|h+1,q=>(ae.rat h q,ae.rat h 0)
def ae.add:{h:Nat}->ae h->ae h->ae h|0,a,b=>Rat.add a b|_+1,a,b=>(ae.add a.1 b.1,ae.add a.2 b.2)
def ae.neg:{h:Nat}->ae h->ae h|0,a=>Rat.neg a|_+1,a=>(ae.neg a.1,ae.neg a.2)
def ae.mul:{h:Nat}->aI h->ae h->ae h->ae h|0,_,a,b=>Rat.mul a b|_+1,t,a,b=>(ae.add (ae.mul t.1 a.1 b.1) (ae.mul t.1 (ae.mul t.1 a.2 b.2) t.2),ae.add (ae.mul t.1 a.1 b.2) (ae.mul t.1 a.2 b.1))
def ae.norm{h:Nat}(t:aI (h+1))(a:ae (h+1)):ae h:=ae.add (ae.mul t.1 a.1 a.1) (ae.neg (ae.mul t.1 (ae.mul t.1 a.2 a.2) t.2))
def ae.inv:{h:Nat}->aI h->ae h->ae h|0,_,a=>Rat.inv a|_+1,t,a=>(ae.mul t.1 a.1 (ae.inv t.1 (ae.norm t a)),ae.neg (ae.mul t.1 a.2 (ae.inv t.1 (ae.norm t a))))
noncomputable def ae.val:{h:Nat}->aI h->ae h->az|0,_,a=>dX a|_+1,t,a=>ae.val t.1 a.1+ae.val t.1 a.2*az.rt (ae.val t.1 t.2)
def aI.Pos:{h:Nat}->aI h->Prop|0,_=>True|_+1,t=>t.1.Pos/\0<ae.val t.1 t.2
def aI.bJ:{h:Nat}->aI h->Prop|0,_=>True|_+1,t=>t.1.bJ/\0<ae.val t.1 t.2/\∀w,ae.val t.1 w*ae.val t.1 w≠ae.val t.1 t.2
def aI.bJ.pos:∀{h:Nat}{t:aI h},t.bJ->t.Pos|0,_,_=>trivial|_+1,_,h=>⟨h.1.pos,h.2.1⟩
def alD:dX 0=0:=rfl
def Dv:dX 1=1:=rfl
def Uz(a:Rat)(h:dX a≠0):dX a*dX a⁻¹=1:=by rw[pJ,tr a (λ e=>h (by rw[e];rfl)),Dv]
def ap4(a b:Rat)(e:a+-b=0):a=b:=ap
end Go.aA
namespace Go.aA.ae
def qC:∀{h:Nat}(t:aI h)(q:Rat),val t (rat h q)=dX q|0,_,_=>rfl|h+1,t,q=>by show val t.1 (rat h q)+val t.1 (rat h 0)*_=_;rw[qC,qC,alD];grind
def val_add:∀{h:Nat}(t:aI h)(a b:ae h),val t (add a b)=val t a+val t b|0,_,a,b=>(az.ofRat_add a b).symm|h+1,t,a,b=>by show val t.1 (add a.1 b.1)+val t.1 (add a.2 b.2)*_=(val t.1 a.1+val t.1 a.2*_)+(val t.1 b.1+val t.1 b.2*_);rw[val_add,val_add];grind
def val_neg:∀{h:Nat}(t:aI h)(a:ae h),val t (neg a)=-val t a|0,_,a=>(az.ofRat_neg a).symm|h+1,t,a=>by show val t.1 (neg a.1)+val t.1 (neg a.2)*_=-(val t.1 a.1+val t.1 a.2*_);rw[val_neg,val_neg];grind
def val_mul:∀{h:Nat}{t:aI h},t.Pos->∀a b:ae h,val t (mul t a b)=val t a*val t b|0,_,_,a,b=>(pJ a b).symm|h+1,t,c,a,b=>by have d:=az.lL (x:=val t.1 t.2) (by have:=c.2;grind);show val t.1 (add (mul t.1 a.1 b.1) (mul t.1 (mul t.1 a.2 b.2) t.2))+val t.1 (add (mul t.1 a.1 b.2) (mul t.1 a.2 b.1))*_=(val t.1 a.1+val t.1 a.2*_)*(val t.1 b.1+val t.1 b.2*_);rw[val_add,val_add,val_mul c.1,val_mul c.1,val_mul c.1,val_mul c.1,val_mul c.1];generalize az.rt (val t.1 t.2)=s at*;rw[<-d];grind
def rS{h:Nat}{t:aI (h+1)}(b:t.1.Pos)(a:ae (h+1)):val t.1 (norm t a)=val t.1 a.1*val t.1 a.1-val t.1 a.2*val t.1 a.2*val t.1 t.2:=by unfold norm;rw[val_add,val_neg,val_mul b,val_mul b,val_mul b];grind
def val_zero{h:Nat}(t:aI h):val t (rat h 0)=0:=qC t 0
def red:∀{h:Nat}{t:aI h},t.bJ->(∀a:ae h,val t a=0->a=rat h 0)/\∀a:ae h,val t a≠0->val t a*val t (inv t a)=1
 |0,_,_=>⟨λ a h=>az.H9 h,λ a h=>Uz a h⟩|h+1,t,b=>by
   have⟨k,g⟩:=red b.1;have n:=az.lL (x:=val t.1 t.2) (by have:=b.2.1;grind);have A:=az.XS b.2.1;have j:∀x y:ae h,val t.1 y≠0->val t.1 x*val t.1 x≠val t.1 y*val t.1 y*val t.1 t.2:=λ x y c e=>by have l:=g y c;refine b.2.2 (mul t.1 x (inv t.1 y)) ?_;rw[val_mul b.1.pos];generalize val t.1 x=u at*;generalize val t.1 y=v at*;generalize val t.1 (inv t.1 y)=i at*;generalize val t.1 t.2=r at*;grind
   have m:∀a:ae (h+1),val t a=val t.1 a.1+val t.1 a.2*az.rt (val t.1 t.2):=λ _=>rfl;have p:∀a:ae (h+1),val t a=0->val t.1 a.1=0/\val t.1 a.2=0:=λ a f=>by rw[m]at f;by_cases c:val t.1 a.2=0;rw[c]at f;exact⟨ap,c⟩;have:=j a.1 a.2 c;generalize az.rt (val t.1 t.2)=s at*;exfalso;apply this;rw[<-n];grind
   refine⟨λ a f=>?_,λ a f=>?_⟩;have⟨h1,q⟩:=p a f;exact na (k _ h1) (k _ q);have w:val t.1 (norm t a)≠0:=by
     rw[rS b.1.pos];intro e;by_cases c:val t.1 a.2=0;rw[c]at e;have z:val t.1 a.1*val t.1 a.1=0:=ap;have d:val t.1 a.1=0:=by have:=aa8 (a:=val t.1 a.1);generalize(val t.1 a.1)⁻¹=i at*;by_cases d:val t.1 a.1=0;exact d;have:=this d;grind
     exact f (by rw[m,c,d];grind);exact j a.1 a.2 c ap
   have l:=g _ w;have e:val t (inv t a)=val t.1 (mul t.1 a.1 (inv t.1 (norm t a)))+val t.1 (neg (mul t.1 a.2 (inv t.1 (norm t a))))*az.rt (val t.1 t.2):=rfl;rw[e,m,val_neg,val_mul b.1.pos,val_mul b.1.pos];rw[rS b.1.pos]at l;generalize val t.1 (inv t.1 (norm t a))=i at*;generalize az.rt (val t.1 t.2)=s at*;rw[<-n]at l;grind
def inj{h:Nat}{t:aI h}(d:t.bJ){a b:ae h}(e:val t a=val t b):a=b:=by
 have key:∀{h:Nat}(a b:ae h),add a (neg b)=rat h 0->a=b:=by intro h;induction h with|zero=>intro a b e;exact ap4 a b e|succ h c=>intro a b e;exact na (c _ _ (congrArg Prod.fst e)) (c _ _ (congrArg Qg e))
 exact key a b ((red d).1 _ (by rw[val_add,val_neg,e];grind))
def JB{h:Nat}{t:aI h}(c:t.bJ){a:ae h}(b:val t a≠0):val t (inv t a)=(val t a)⁻¹:=by have h1:=(red c).2 a b;have d:=az.rv b;generalize(val t a)⁻¹=i at*;generalize val t (inv t a)=j at*;grind
def iv:{h:Nat}->aI h->ae h->Int|0,_,a=>(Rat.num a).sign|_+1,t,a=>if iv t.1 a.2=0\/iv t.1 a.1=iv t.1 a.2 then iv t.1 a.1 else if iv t.1 a.1=0 then iv t.1 a.2 else iv t.1 a.1*iv t.1 (norm t a)
end Go.aA.ae
namespace Go.aA
noncomputable def az.eE(x:az):Int:=open Classical in if 0<x then 1 else if x=0 then 0 else-1
end Go.aA
namespace Go.aA.az
def vV{x:az}:eE x=1↔0<x:=by unfold eE;split;simp_all;split<;>simp_all
def Ee{x:az}:eE x=0↔x=0:=by unfold eE;split;rename_i h;constructor;intro e;cases e;intro e;rw[e]at h;grind;split<;>simp_all
def rM{x:az}:eE x=-1↔x<0:=by unfold eE;split;rename_i h;constructor;intro e;cases e;intro e;grind;rename_i h;split;rename_i h1;rw[h1];constructor;intro e;cases e;intro e;grind;constructor;intro _;grind;intro _;rfl
def AW(x:az):eE x=1/\0<x\/eE x=0/\x=0\/eE x=-1/\x<0:=by by_cases h1:0<x;exact .inl ⟨vV.2 h1,h1⟩;by_cases a:x=0;exact .inr (.inl ⟨Ee.2 a,a⟩);exact .inr (.inr ⟨rM.2 ap,ap⟩)
def apl(q:Rat):eE (ofRat q)=q.num.sign:=by rcases Int.lt_trichotomy q.num 0 with h|h|h;rw[Int.sign_eq_neg_one_of_neg h];exact rM.2 (Ia (by have:=@E1 q;grind));rw[h];exact Ee.2 (by rw[m9.1 h];rfl);rw[Int.sign_eq_one_of_pos h];exact vV.2 (Ia (by have:=@E1 q;have:=@m9 q;grind))
end Go.aA.az
namespace Go.aA
def ae.I5:∀{h:Nat}{t:aI h},t.Pos->∀a:ae h,iv t a=az.eE (val t a)
 |0,_,_,a=>(az.apl a).symm|h+1,t,g,a=>by
   have n:=az.lL (x:=val t.1 t.2) (by have:=g.2;grind);have q:=az.XS g.2;have o:val t a=val t.1 a.1+val t.1 a.2*az.rt (val t.1 t.2):=rfl;have m:=rS (t:=t) g.1 a;unfold iv;rw[I5 g.1,I5 g.1,I5 g.1,m,o];generalize az.rt (val t.1 t.2)=s at*;rw[<-n];generalize val t.1 a.1=x at*;generalize val t.1 a.2=y at*;have c:∀{z:az},0<z->0<z*s:=λ h=>az.mul_pos h q;have l:(x*x-y*y*(s*s))=(x-y*s)*(x+y*s):=ap;rcases az.AW x with⟨j,h1⟩|⟨j,h1⟩|⟨j,h1⟩<;>rcases az.AW y with⟨k,d⟩|⟨k,d⟩|⟨k,d⟩<;>rw[j,k];rw[if_pos (.inr rfl)];exact(az.vV.2 (by have:=c d;grind)).symm;rw[if_pos (.inl rfl),d];exact(az.vV.2 ap).symm;rw[if_neg al,if_neg al,l];have i:0<x-y*s:=by have:=c (z:=-y) ap;grind
   rcases az.AW (x+y*s)with⟨e,h⟩|⟨e,h⟩|⟨e,h⟩;rw[e,az.vV.2 (az.mul_pos i h)];rfl;rw[e,h,az.Ee.2 ap];rfl;rw[e,az.rM.2 (by have:=az.mul_pos i (ap:0< -(x+y*s));grind)];rfl;rw[if_neg al,if_pos rfl,h1];exact(az.vV.2 (by have:=c d;grind)).symm;rw[if_pos (.inl rfl),h1,d];exact(az.Ee.2 ap).symm;rw[if_neg al,if_pos rfl,h1];exact(az.rM.2 (by have:=c (z:=-y) ap;grind)).symm;rw[if_neg al,if_neg al,l];have i:0< -(x-y*s):=by have:=c d;grind
   rcases az.AW (x+y*s)with⟨e,h⟩|⟨e,h⟩|⟨e,h⟩;rw[e,az.rM.2 (by have:=az.mul_pos i h;grind)];rfl;rw[e,h,az.Ee.2 ap];rfl;rw[e,az.vV.2 (by have:=az.mul_pos i (ap:0< -(x+y*s));grind)];rfl;rw[if_pos (.inl rfl),d];exact(az.rM.2 ap).symm;rw[if_pos (.inr rfl)];exact(az.rM.2 (by have:=c (z:=-y) ap;grind)).symm
def az.ry{x y:az}(h:x*y=0):x=0\/y=0:=by by_cases a:x=0;exact .inl a;have:=az.rv a;generalize x⁻¹=i at*;exact .inr ap
def az.OI{x y:az}(h:x*x=y*y):x=y\/x=-y:=by have h1:(x-y)*(x+y)=0:=ap;rcases az.ry h1 with e|e;exact .inl ap;exact .inr ap
end Go.aA
namespace Go.aA.ae
def si{h:Nat}(t:aI h)(a:ae h):Prop:=∃w,val t w*val t w=val t a
section
variable{h:Nat}{t:aI (h+1)}
def halves(i:t.bJ){x y u v:az}(f:∃a,val t.1 a=x)(j:∃a,val t.1 a=y)(hu:∃a,val t.1 a=u)(g:∃a,val t.1 a=v)(e:x+y*az.rt (val t.1 t.2)=u+v*az.rt (val t.1 t.2)):x=u/\y=v:=by obtain⟨a,rfl⟩:=f;obtain⟨b,rfl⟩:=j;obtain⟨c,rfl⟩:=hu;obtain⟨d,rfl⟩:=g;have:=inj i (a:=((a,b):ae (h+1))) (b:=((c,d):ae (h+1))) e;exact⟨congrArg (val t.1) (congrArg Prod.fst this),congrArg (val t.1) (congrArg Qg this)⟩
def Ei(c:t.bJ){a w:ae (h+1)}(e:val t w*val t w=val t a):val t.1 w.1*val t.1 w.1+val t.1 w.2*val t.1 w.2*val t.1 t.2=val t.1 a.1/\2*(val t.1 w.1*val t.1 w.2)=val t.1 a.2:=by have d:=az.lL (x:=val t.1 t.2) (by have:=c.2.1;grind);have b:=c.1.pos;refine halves c ⟨add (mul t.1 w.1 w.1) (mul t.1 (mul t.1 w.2 w.2) t.2),by rw[val_add,val_mul b,val_mul b,val_mul b]⟩ ⟨add (mul t.1 w.1 w.2) (mul t.1 w.1 w.2),by rw[val_add,val_mul b];grind⟩ ⟨_,rfl⟩ ⟨_,rfl⟩ ?_;have f:(val t.1 w.1+val t.1 w.2*az.rt (val t.1 t.2))*(val t.1 w.1+val t.1 w.2*az.rt (val t.1 t.2))=val t.1 a.1+val t.1 a.2*az.rt (val t.1 t.2):=e;rw[<-f];generalize az.rt (val t.1 t.2)=s at*;rw[<-d];grind
def Yy(b:t.bJ){a:ae (h+1)}(g:val t.1 a.2=0)(h1:¬si t.1 a.1)(d:¬si t.1 (mul t.1 a.1 (inv t.1 t.2))):¬si t a:=λ⟨w,f⟩=>by
 have⟨p,q⟩:=Ei b f;have c:val t.1 t.2≠0:=by have:=b.2.1;grind
 have j:=(red b.1).2 _ c;rw[g]at q;rcases az.ry (x:=val t.1 w.1) (y:=val t.1 w.2) ap with e|e;refine d ⟨w.2,?_⟩;rw[val_mul b.1.pos];rw[e]at p;generalize val t.1 (inv t.1 t.2)=i at*;generalize val t.1 t.2=r at*;rw[<-p];grind;exact h1 ⟨w.1,by rw[e]at p;grind⟩
def YA(b:t.bJ){a:ae (h+1)}(j:val t.1 a.2=0){w:ae h}(d:val t.1 w*val t.1 w=val t.1 (mul t.1 a.1 (inv t.1 t.2))):val t ((rat h 0,w):ae (h+1))*val t ((rat h 0,w):ae (h+1))=val t a:=by
 have c:val t.1 t.2≠0:=by have:=b.2.1;grind
 have g:=(red b.1).2 _ c;have f:=az.lL (x:=val t.1 t.2) (by have:=b.2.1;grind);rw[val_mul b.1.pos]at d;show(val t.1 (rat h 0)+val t.1 w*az.rt (val t.1 t.2))*(val t.1 (rat h 0)+val t.1 w*az.rt (val t.1 t.2))=val t.1 a.1+val t.1 a.2*az.rt (val t.1 t.2);rw[val_zero,j];generalize az.rt (val t.1 t.2)=s at*;generalize val t.1 (inv t.1 t.2)=i at*;generalize val t.1 t.2=r at*;generalize val t.1 w=x at*;have e:x*x*(s*s)=val t.1 a.1*(r*i):=by rw[f,d];grind
 rw[g]at e;grind
def Yz{a:ae (h+1)}(b:val t.1 a.2=0){w:ae h}(c:val t.1 w*val t.1 w=val t.1 a.1):val t ((w,rat h 0):ae (h+1))*val t ((w,rat h 0):ae (h+1))=val t a:=by show(val t.1 w+val t.1 (rat h 0)*_)*(val t.1 w+val t.1 (rat h 0)*_)=val t.1 a.1+val t.1 a.2*az.rt (val t.1 t.2);rw[val_zero,b];grind
def YB(c:t.bJ){a:ae (h+1)}(d:si t a):si t.1 (norm t a):=by have⟨w,e⟩:=d;have⟨p,q⟩:=Ei c e;have b:=c.1.pos;refine⟨add (mul t.1 w.1 w.1) (neg (mul t.1 (mul t.1 w.2 w.2) t.2)),?_⟩;rw[rS b,val_add,val_neg,val_mul b,val_mul b,val_mul b,<-p,<-q];grind
def Wk(c:t.bJ){a:ae (h+1)}(g:val t.1 a.2≠0){n:az}(d:n*n=val t.1 (norm t a)):val t.1 a.1+n≠0:=λ e=>by rw[rS c.1.pos]at d;have:n=-val t.1 a.1:=ap;rw[this]at d;have i:val t.1 a.2*(val t.1 a.2*val t.1 t.2)=0:=ap;rcases az.ry i with b|b;exact g b;rcases az.ry b with f|f;exact g f;have:=c.2.1;grind
def Yw(b:t.bJ){a:ae (h+1)}(i:si t a){n:az}(f:n*n=val t.1 (norm t a)){c d:ae h}(g:val t.1 c=(val t.1 a.1+n)/2)(hd:val t.1 d=(val t.1 a.1-n)/2):si t.1 c\/si t.1 d:=by
 have⟨w,j⟩:=i;have⟨p,q⟩:=Ei b j;rw[rS b.1.pos]at f;have h1:n*n=(val t.1 w.1*val t.1 w.1-val t.1 w.2*val t.1 w.2*val t.1 t.2)*(val t.1 w.1*val t.1 w.1-val t.1 w.2*val t.1 w.2*val t.1 t.2):=by rw[f,<-p,<-q];grind
 rcases az.OI h1 with e|e;exact .inl ⟨w.1,by rw[g,e,<-p];grind⟩;exact .inr ⟨w.1,by rw[hd,e,<-p];grind⟩
def apS(d:t.bJ){a:ae (h+1)}(i:val t.1 a.2≠0){n:az}(c:n*n=val t.1 (norm t a)){w v:ae h}(j:val t.1 w*val t.1 w=(val t.1 a.1+n)/2)(e:val t.1 v*(2*val t.1 w)=val t.1 a.2):val t ((w,v):ae (h+1))*val t ((w,v):ae (h+1))=val t a:=by
 have f:=az.lL (x:=val t.1 t.2) (by have:=d.2.1;grind);have b:=Wk d i c;rw[rS d.1.pos]at c;show(val t.1 w+val t.1 v*az.rt (val t.1 t.2))*(val t.1 w+val t.1 v*az.rt (val t.1 t.2))=val t.1 a.1+val t.1 a.2*az.rt (val t.1 t.2);generalize az.rt (val t.1 t.2)=s at*;generalize val t.1 t.2=r at*;generalize val t.1 w=x at*;generalize val t.1 v=y at*;generalize val t.1 a.1=u at*;generalize val t.1 a.2=z at*;subst e;have k:(u+n)*(x*x+y*y*r-u)=0:=by have l:u+n=2*(x*x):=ap;have g:n=2*(x*x)-u:=ap;rw[g]at c;grind
 rcases az.ry k with k|k;exact absurd k b;have:(x+y*s)*(x+y*s)=x*x+y*y*(s*s)+y*(2*x)*s:=ap;rw[this,f];grind
end
end Go.aA.ae
namespace Go.aA
abbrev aF:=(h:Nat)×aI h
end Go.aA
namespace Go.aA.aF
def nil:aF:=⟨0,()⟩
def push(T:aF)(x:ae T.1):aF:=⟨T.1+1,(T.2,x)⟩
def In(T:aF)(v:az):Prop:=∃a:ae T.1,ae.val T.2 a=v
abbrev bJ(T:aF):Prop:=T.2.bJ
open Classical in noncomputable def bs(T:aF)(v:az):ae T.1:=if h:T.In v then r5 h else ae.rat T.1 0
def mH{T:aF}{v:az}(h:T.In v):ae.val T.2 (T.bs v)=v:=by unfold bs;rw[dif_pos h];exact oR h
def og{T:aF}(b:T.bJ){v:az}{a:ae T.1}(e:ae.val T.2 a=v):T.bs v=a:=ae.inj b ((mH ⟨a,e⟩).trans e.symm)
def In.rat(T:aF)(q:Rat):T.In (dX q):=⟨ae.rat _ q,ae.qC _ _⟩
def In.add{T:aF}{v w:az}(h:T.In v)(k:T.In w):T.In (v+w):=by obtain⟨a,rfl⟩:=h;obtain⟨b,rfl⟩:=k;exact⟨ae.add a b,ae.val_add _ _ _⟩
def In.neg{T:aF}{v:az}(h:T.In v):T.In (-v):=by obtain⟨a,rfl⟩:=h;exact⟨ae.neg a,ae.val_neg _ _⟩
def In.mul{T:aF}(c:T.bJ){v w:az}(h:T.In v)(k:T.In w):T.In (v*w):=by obtain⟨a,rfl⟩:=h;obtain⟨b,rfl⟩:=k;exact⟨ae.mul T.2 a b,ae.val_mul c.pos _ _⟩
def In.inv{T:aF}(c:T.bJ){v:az}(h:T.In v):T.In v⁻¹:=by obtain⟨a,rfl⟩:=h;by_cases b:ae.val T.2 a=0;rw[b,az.EM];exact .rat T 0;exact⟨ae.inv T.2 a,ae.JB c b⟩
def In.push{T:aF}{x:ae T.1}{v:az}(h:T.In v):(T.push x).In v:=by obtain⟨a,rfl⟩:=h;exact⟨((a,ae.rat T.1 0):ae (T.1+1)),by show ae.val T.2 a+ae.val T.2 (ae.rat T.1 0)*az.rt (ae.val T.2 x)=_;rw[ae.val_zero];grind⟩
def In.root{T:aF}{x:ae T.1}:(T.push x).In (az.rt (ae.val T.2 x)):=⟨((ae.rat T.1 0,ae.rat T.1 1):ae (T.1+1)),by show ae.val T.2 (ae.rat T.1 0)+ae.val T.2 (ae.rat T.1 1)*az.rt (ae.val T.2 x)=_;rw[ae.val_zero,ae.qC,Dv];grind⟩
def In.cases{T:aF}{x:ae T.1}{v:az}(h:(T.push x).In v):∃a b,T.In a/\T.In b/\v=a+b*az.rt (ae.val T.2 x):=by obtain⟨a,rfl⟩:=h;exact⟨_,_,⟨a.1,rfl⟩,⟨a.2,rfl⟩,rfl⟩
def IB{T:aF}(a:T.bJ){x:ae T.1}(c:0<ae.val T.2 x)(f:¬T.In (az.rt (ae.val T.2 x))):(T.push x).bJ:=by refine⟨a,c,λ w b=>f ?_⟩;have d:=az.lL (x:=ae.val T.2 x) ap;rcases az.OI (d.trans b.symm)with e|e;exact⟨w,e.symm⟩;exact⟨ae.neg w,by rw[ae.val_neg];exact e.symm⟩
open Classical in noncomputable def gT(T:aF)(x:ae T.1):aF:=if T.In (az.rt (ae.val T.2 x))then T else T.push x
noncomputable def ext(T:aF):{k:Nat}->aI k->aF|0,_=>T|_+1,u=>(ext T u.1).gT ((ext T u.1).bs (ae.val u.1 u.2))
def FW{T:aF}{x:ae T.1}{v:az}(h:T.In v):(T.gT x).In v:=by unfold gT;split;exact h;exact h.push
def Rc{T:aF}{x:ae T.1}:(T.gT x).In (az.rt (ae.val T.2 x)):=by unfold gT;split;assumption;exact In.root
def Rb{T:aF}(a:T.bJ){x:ae T.1}(c:0<ae.val T.2 x):(T.gT x).bJ:=by unfold gT;split;exact a;rename_i b;exact IB a c b
def nv{T:aF}(g:T.bJ):∀{k:Nat}{u:aI k},u.bJ->(T.ext u).bJ/\(∀v,T.In v->(T.ext u).In v)/\∀v,In ⟨k,u⟩ v->(T.ext u).In v|0,_,_=>⟨g,λ _ h=>h,λ v h=>by obtain⟨a,rfl⟩:=h;exact .rat T a⟩|k+1,u,hu=>by have⟨h1,i,f⟩:=nv g hu.1;have j:=f _ ⟨u.2,rfl⟩;have e:=mH j;have d:((T.ext u.1).gT ((T.ext u.1).bs (ae.val u.1 u.2))).bJ:=Rb h1 (by rw[e];exact hu.2.1);refine⟨d,λ v h=>FW (i v h),λ v h=>?_⟩;obtain⟨a,b,l,hb,rfl⟩:=In.cases (T:=⟨k,u.1⟩) (x:=u.2) h;have c:=Rc (T:=T.ext u.1) (x:=(T.ext u.1).bs (ae.val u.1 u.2));rw[e]at c;exact(FW (f _ l)).add ((FW (f _ hb)).mul d c)
def zv{T:aF}:∀{k:Nat}{u:aI k},(∀v,In ⟨k,u⟩ v->T.In v)->T.ext u=T|0,_,_=>rfl|k+1,u,h=>by have h1:T.ext u.1=T:=zv λ v a=>h v (In.push (T:=⟨k,u.1⟩) a);show(T.ext u.1).gT ((T.ext u.1).bs (ae.val u.1 u.2))=T;rw[h1];unfold gT;have a:T.In (ae.val u.1 u.2):=h _ (In.push (T:=⟨k,u.1⟩) ⟨u.2,rfl⟩);rw[mH a,if_pos];exact h _ (In.root (T:=⟨k,u.1⟩))
inductive eN:aF->aF->Prop|refl(T:aF):eN T T|push{T J:aF}(x:ae J.1):eN T J->eN T (J.push x)
def eN.in{T J:aF}(h:eN T J){v:az}(a:T.In v):J.In v:=by induction h with|refl=>exact a|push x _ b=>exact b.push
def eN.same{T J:aF}(h:eN T J):J.ext T.2=J:=zv λ v a=>h.in a
def LQ{T J:aF}(h:eN T J)(a:J.bJ):T.ext J.2=J:=by induction h with|refl=>exact zv λ v b=>b|@push J x f e=>have h1:=e a.1;show(T.ext J.2).gT ((T.ext J.2).bs (ae.val J.2 x))=J.push x;rw[h1,og a.1 rfl];unfold gT;rw[if_neg λ d=>?_];have⟨w,c⟩:=d;refine a.2.2 w ?_;show ae.val J.2 w*ae.val J.2 w=ae.val J.2 x;have g:0<ae.val J.2 x:=a.2.1;rw[c];exact az.lL ap
def K3{T:aF}(x:ae T.1):eN T (T.gT x):=by unfold gT;split;exact .refl T;exact .push x (.refl T)
def eN.trans{T J K:aF}(h:eN T J)(k:eN J K):eN T K:=by induction k with|refl=>exact h|push x _ a=>exact .push x a
def DM(T:aF):∀{k:Nat}(u:aI k),eN T (T.ext u)|0,_=>.refl T|_+1,u=>(DM T u.1).trans (K3 _)
end Go.aA.aF
namespace Go.aA
structure aC where
 T:aF
 a:ae T.1
end Go.aA
namespace Go.aA.aC
noncomputable def val(n:aC):az:=ae.val n.T.2 n.a
abbrev bJ(n:aC):Prop:=n.T.bJ
noncomputable def of(T:aF)(v:az):aC:=⟨T,T.bs v⟩
def Ao{T:aF}{v:az}(h:T.In v):(of T v).val=v:=aF.mH h
def rat(q:Rat):aC:=⟨aF.nil,q⟩
noncomputable def join(a b:aC):aF:=a.T.ext b.T.2
def CX{a b:aC}(c:a.bJ)(hb:b.bJ):(join a b).In a.val:=(aF.nv c hb).2.1 _ ⟨a.a,rfl⟩
def CY{a b:aC}(c:a.bJ)(hb:b.bJ):(join a b).In b.val:=(aF.nv c hb).2.2 _ ⟨b.a,rfl⟩
noncomputable def add(a b:aC):aC:=of (join a b) (a.val+b.val)
noncomputable def neg(a:aC):aC:=⟨a.T,ae.neg a.a⟩
noncomputable def sub(a b:aC):aC:=of (join a b) (a.val-b.val)
noncomputable def mul(a b:aC):aC:=of (join a b) (a.val*b.val)
noncomputable def inv(a:aC):aC:=⟨a.T,ae.inv a.T.2 a.a⟩
noncomputable def div(a b:aC):aC:=of (join a b) (a.val*b.val⁻¹)
section
variable{a b:aC}(ha:a.bJ)(hb:b.bJ)
include ha hb
def Ra:(add a b).bJ:=(aF.nv ha hb).1
def H0:(mul a b).bJ:=(aF.nv ha hb).1
def K2:(add a b).val=a.val+b.val:=Ao ((CX ha hb).add (CY ha hb))
def OO:(sub a b).val=a.val-b.val:=Ao (by rw[tq];exact(CX ha hb).add (CY ha hb).neg)
def Dl:(mul a b).val=a.val*b.val:=Ao ((CX ha hb).mul (aF.nv ha hb).1 (CY ha hb))
def div_val:(div a b).val=a.val*b.val⁻¹:=Ao ((CX ha hb).mul (aF.nv ha hb).1 ((CY ha hb).inv (aF.nv ha hb).1))
end
def Dn{a:aC}:(neg a).val=-a.val:=ae.val_neg _ _
end Go.aA.aC
namespace Go.aA
def fP(q:Rat)(D B:Nat):Prop:=q.den∣D/\q<=B/\-q<=B
def Dg(q:Rat):q*(q.den:Rat)=q.num:=by
 have h:(q.num:Rat)/((q.den:Int):Rat)=q:=by rw[<-Rat.divInt_eq_div,Rat.num_divInt_den]
 have a:(q.den:Rat)≠0:=by have:(1:Rat)<=q.den:=E2.2 (show 1<=q.den from q.den_pos);grind
 have e:((q.den:Int):Rat)=(q.den:Rat):=rfl;rw[e,yE]at h;have b:=tr _ a;generalize(q.den:Rat)=d at*;generalize d⁻¹=i at*;rw[<-h];grind
def x2(q:Rat)(D:Nat):q.den∣D↔∃z:Int,q*D=z:=by
 constructor;rintro⟨k,rfl⟩;refine⟨q.num*k,?_⟩;have h:=Dg q;rw[Bu,<-Rat.mul_assoc,h,yG];rfl;rintro⟨z,h⟩;have h1:(q.num:Rat)*D=z*q.den:=by have:=Dg q;grind
 have b:q.num*D=z*q.den:=by
   have a:((q.num*(D:Int):Int):Rat)=((z*(q.den:Int):Int):Rat):=by rw[yG,yG];exact h1
   exact Rat.intCast_inj.1 a
 have a:q.den∣q.num.natAbs*D:=by have:=congrArg Int.natAbs b;rw[nV,nV,gO,gO]at this;exact⟨_,this.trans (dm _ _)⟩
 exact(Nat.Coprime.dvd_of_dvd_mul_left (Nat.Coprime.symm q.reduced) a)
def rA(n:Nat):(0:Rat)<=n:=Qf
def fP.pad{q:Rat}{D B:Nat}(h:fP q D B)(k:Nat){C:Nat}(a:B<=C):fP q (D*k) C:=by have:(B:Rat)<=C:=E2.2 a;exact⟨Nat.dvd_trans h.1 (Nat.dvd_mul_right _ _),by have:=h.2.1;grind,by have:=h.2.2;grind⟩
def fP.add{p q:Rat}{D B C:Nat}(h:fP p D B)(k:fP q D C):fP (p+q) D (B+C):=by refine⟨?_,by rw[Qe];have:=h.2.1;have:=k.2.1;grind,by rw[Qe];have:=h.2.2;have:=k.2.2;grind⟩;have⟨y,b⟩:=(x2 p D).1 h.1;have⟨z,a⟩:=(x2 q D).1 k.1;exact(x2 _ D).2 ⟨y+z,by rw[Rat.intCast_add];grind⟩
def fP.neg{q:Rat}{D B:Nat}(h:fP q D B):fP (-q) D B:=⟨by rw[Rat.neg_den];exact h.1,by have:=h.2.2;grind,by have:=h.2.1;grind⟩
def fP.mul{p q:Rat}{D B E C:Nat}(h:fP p D B)(k:fP q E C):fP (p*q) (D*E) (B*C):=by have⟨y,b⟩:=(x2 p D).1 h.1;have⟨z,a⟩:=(x2 q E).1 k.1;have h1:=h.2.1;have g:=h.2.2;have f:=k.2.1;have e:=k.2.2;have j:0<=((B:Rat)-p)*(C+q):=kt ap ap;have d:0<=((B:Rat)+p)*(C-q):=kt ap ap;have i:0<=((B:Rat)-p)*(C-q):=kt ap ap;have c:0<=((B:Rat)+p)*(C+q):=kt ap ap;refine⟨(x2 _ _).2 ⟨y*z,?_⟩,by rw[Bu];grind,by rw[Bu];grind⟩;rw[Bu,yG,<-b,<-a];grind
def fP.zero{D B:Nat}:fP 0 D B:=⟨Nat.one_dvd D,rA B,by have:=rA B;grind⟩
def fP.num{q:Rat}{D B:Nat}(h:fP q D B)(c:0<D):q.num.natAbs<=B*D/\q.den<=D:=by
 have hd:=Nat.le_of_dvd c h.1;refine⟨?_,hd⟩;have e:=Dg q;have a:(0:Rat)<=q.den:=rA _;have h1:(q.num:Rat)<=((B*q.den:Nat):Rat):=by have:=kt (show 0<=(B:Rat)-q by have:=h.2.1;grind) a;rw[Bu];grind
 have b:-(q.num:Rat)<=((B*q.den:Nat):Rat):=by have:=kt (show 0<=(B:Rat)+q by have:=h.2.2;grind) a;rw[Bu];grind
 have mI:q.num<=((B*q.den:Nat):Int):=uM.1 h1;have d:-q.num<=((B*q.den:Nat):Int):=uM.1 (by rw[Kc];exact b);have f:B*q.den<=B*D:=fS _ hd;omega
def fP.inv{q:Rat}{D B:Nat}(h:fP q D B)(n:0<D)(m:q≠0):∃E,0<E/\E<=B*D/\fP q⁻¹ E D:=by
 have l:=h.num n;have s:q.num≠0:=λ e=>m (m9.1 e);have e:=Dg q;have c:=tr q m;have r:0<q.den:=q.den_pos;have p:(q.den:Rat)<=D:=E2.2 l.2;have o:(1:Rat)<=q.den:=E2.2 (ac:1<=q.den);refine⟨q.num.natAbs,ac,l.1,(x2 _ _).2 ?_,?_⟩;rcases Int.natAbs_eq q.num with k|k;refine⟨q.den,?_⟩;have:((q.num.natAbs:Nat):Rat)=q.num:=by
   have:((q.num.natAbs:Int):Rat)=(q.num:Rat):=by rw[<-k]
   exact this
 rw[this,<-e];show q⁻¹*(q*q.den)=q.den;rw[<-Rat.mul_assoc,Rat.mul_comm _ q,c,Rat.one_mul];refine⟨-q.den,?_⟩;have:((q.num.natAbs:Nat):Rat)=-q.num:=by
   have:((q.num.natAbs:Int):Rat)=((-q.num:Int):Rat):=by congr 1;omega
   rw[Kc]at this;exact this
 rw[this,<-e,Kc];show q⁻¹*-(q*q.den)=-q.den;have:q⁻¹*-(q*q.den)=-((q*q⁻¹)*q.den):=ap;rw[this,c,Rat.one_mul]
 · have j:1<=q*q.den\/q*q.den<=-1:=by rw[e];by_cases t:0<q.num;left;have:((1:Int):Rat)<=(q.num:Rat):=uM.2 ac;exact this;right;have:(q.num:Rat)<=((-1:Int):Rat):=uM.2 ac;exact this
   generalize(q.den:Rat)=d at*;generalize q⁻¹=i at*;rcases j with g|g;have b:0<q:=by by_cases b:0<q;exact b;have:=kt (ap:0<=-q) (ap:0<=d);grind
   have a:0<i:=by by_cases a:0<i;exact a;have:=kt (ap:0<=q) (ap:0<=-i);grind
   have h1:0<=i*(q*d-1):=kt ap ap;have f:i*(q*d-1)=(q*i)*d-i:=ap;rw[c]at f;have:=rA D;exact⟨ap,ap⟩;have b:0< -q:=by by_cases b:0< -q;exact b;have:=kt (ap:0<=q) (ap:0<=d);grind
   have a:0< -i:=by by_cases a:0< -i;exact a;have:=kt (ap:0<=-q) (ap:0<=i);grind
   have h1:0<=(-i)*(-1-q*d):=kt ap ap;have f:(-i)*(-1-q*d)=i+(q*i)*d:=ap;rw[c]at f;have:=rA D;exact⟨ap,ap⟩
end Go.aA
namespace Go.aA.ae
def M:{h:Nat}->ae h->Nat->Nat->Prop|0,q,D,B=>fP q D B|_+1,a,D,B=>M a.1 D B/\M a.2 D B
def M.pad:∀{h:Nat}{a:ae h}{D B:Nat},M a D B->∀(k:Nat){C:Nat},B<=C->M a (D*k) C|0,_,_,_,h,k,_,b=>fP.pad h k b|_+1,_,_,_,h,k,_,b=>⟨h.1.pad k b,h.2.pad k b⟩
def M.mono{h:Nat}{a:ae h}{D B C:Nat}(b:M a D B)(c:B<=C):M a D C:=by have:=b.pad 1 c;rwa[nX]at this
def M.add:∀{h:Nat}{a b:ae h}{D B C:Nat},M a D B->M b D C->M (add a b) D (B+C)|0,_,_,_,_,_,h,k=>fP.add h k|_+1,_,_,_,_,_,h,k=>⟨h.1.add k.1,h.2.add k.2⟩
def M.neg:∀{h:Nat}{a:ae h}{D B:Nat},M a D B->M (neg a) D B|0,_,_,_,h=>fP.neg h|_+1,_,_,_,h=>⟨h.1.neg,h.2.neg⟩
def M.rat:∀(h:Nat){q:Rat}{D B:Nat},fP q D B->M (rat h q) D B|0,_,_,_,a=>a|h+1,_,_,_,a=>⟨M.rat h a,M.rat h fP.zero⟩
end Go.aA.ae
namespace Go.aA
def aI.C:{h:Nat}->aI h->Nat->Nat->Prop|0,_,Δ,A=>Δ=1/\A=1|_+1,t,Δ,A=>∃δ α D B,t.1.C δ α/\ae.M t.2 D B/\0<D/\Δ=δ*δ*D/\A=α+α*α*B+α
def aI.C.pos:∀{h:Nat}{t:aI h}{Δ A:Nat},t.C Δ A->0<Δ/\0<A|0,_,_,_,h=>by rw[h.1,h.2];exact⟨al,al⟩|_+1,t,Δ,A,⟨δ,α,D,B,h1,d,b,c,a⟩=>by have⟨p,q⟩:=h1.pos;rw[c,a];exact⟨oT (oT p p) b,ac⟩
end Go.aA
namespace Go.aA.ae
def M.mul:∀{h:Nat}{t:aI h}{Δ A:Nat},t.C Δ A->∀{a b:ae h}{D B E F:Nat},M a D B->M b E F->M (mul t a b) (D*E*Δ) (B*F*A)
 |0,_,_,_,h,_,_,_,_,_,_,c,hb=>by rw[h.1,h.2,nX,nX];exact fP.mul c hb|h+1,t,Δ,A,⟨δ,α,R,S,h1,n,q,i,g⟩,a,b,D,B,E,F,c,hb=>by
   have m:=M.mul h1 c.1 hb.1;have p:=M.mul h1 c.2 hb.2;have d:=M.mul h1 p n;have o:=M.mul h1 c.1 hb.2;have l:=M.mul h1 c.2 hb.1;have k:D*E*δ*R*δ=D*E*Δ:=by rw[i];simp only[fT,dm,pK]
   have j:D*E*δ*(δ*R)=D*E*Δ:=by rw[i];simp only[fT,dm,pK]
   have b1:B*F*α+B*F*α*S*α<=B*F*A:=by rw[g,show B*F*α*S*α=B*F*(α*α*S)by simp only[fT,dm,pK],<-ej];exact fS _ ac
   have b2:B*F*α+B*F*α<=B*F*A:=by rw[g,<-ej];exact fS _ ac
   refine⟨?_,?_⟩;rw[k]at d;have f:=m.pad (δ*R) (a2 _);rw[j]at f;exact(f.add d).mono b1;have e:=(o.add l).pad (δ*R) b2;rw[j]at e;exact e
def M.norm{h:Nat}{t:aI (h+1)}{Δ A:Nat}(i:t.C Δ A){a:ae (h+1)}{D B:Nat}(d:M a D B):M (norm t a) (D*D*Δ) (B*B*A):=by
 have⟨δ,α,R,S,h1,l,n,e,f⟩:=i;have g:=M.mul h1 d.1 d.1;have k:=M.mul h1 d.2 d.2;have b:=M.mul h1 k l;have m:D*D*δ*R*δ=D*D*Δ:=by rw[e];simp only[fT,dm,pK]
 have j:D*D*δ*(δ*R)=D*D*Δ:=by rw[e];simp only[fT,dm,pK]
 have b1:B*B*α+B*B*α*S*α<=B*B*A:=by rw[f,show B*B*α*S*α=B*B*(α*α*S)by simp only[fT,dm,pK],<-ej];exact fS _ ac
 rw[m]at b;have c:=g.pad (δ*R) (a2 _);rw[j]at c;exact(c.add b.neg).mono b1
def ms{h:Nat}(a:ae h)(n:Nat):Prop:=∃D B,0<D/\D<=2^n/\B<=2^n/\M a D B
end Go.aA.ae
namespace Go.aA
def aI.bQ{h:Nat}(t:aI h)(c:Nat):Prop:=∃Δ A,t.C Δ A/\Δ<=2^c/\A<=2^c
def im{D E n m:Nat}(h:D<=2^n)(k:E<=2^m):D*E<=2^(n+m):=by rw[iI];exact kr h k
def aI.RP{t:aI 0}:t.bQ 0:=⟨1,1,⟨rfl,rfl⟩,al,al⟩
def aI.ad7{h:Nat}{t:aI h}{r:ae h}{c n:Nat}(f:t.bQ c)(e:ae.ms r n):aI.bQ (h:=h+1) (t,r) (c+c+n+2):=by
 have⟨δ,α,h1,a,b⟩:=f;have⟨D,B,p,q,s,d⟩:=e;refine⟨_,_,⟨δ,α,D,B,h1,d,p,rfl,rfl⟩,bx (im (im a a) q) (dR al ac),?_⟩;have g:α*α*B<=2^(c+c+n):=im (im b b) s;have j:2^c<=2^(c+c+n):=dR al ac;have i:2^(c+c+n+2)=4*2^(c+c+n):=by rw[iI];omega
 omega
end Go.aA
namespace Go.aA.ae
def kj{h:Nat}{a:ae h}{n m:Nat}(c:ms a n)(b:n<=m):ms a m:=by have⟨D,B,p,q,s,k⟩:=c;exact⟨D,B,p,bx q (dR al b),bx s (dR al b),k⟩
def Nh{h:Nat}{a b:ae h}{n m:Nat}(e:ms a n)(hb:ms b m):ms (add a b) (n+m+1):=by
 have⟨D,B,p,q,s,k⟩:=e;have⟨E,C,d,q',s',k'⟩:=hb;have h1:=k.pad E (a2 _);have c:=k'.pad D (a2 _);rw[dm]at c;refine⟨D*E,B+C,oT p d,bx (im q q') (dR al ac),?_,h1.add c⟩;have f:2^n<=2^(n+m):=dR al ac;have g:2^m<=2^(n+m):=dR al ac;have i:2^(n+m+1)=2*2^(n+m):=by rw[eo];omega
 omega
def Ni{h:Nat}{a:ae h}{n:Nat}(b:ms a n):ms (neg a) n:=by have⟨D,B,p,q,s,k⟩:=b;exact⟨D,B,p,q,s,k.neg⟩
def vK(h:Nat){q:Rat}{n:Nat}(h1:q.num.natAbs<=2^n)(g:q.den<=2^n):ms (rat h q) n:=by refine⟨q.den,q.num.natAbs,q.den_pos,g,h1,M.rat h ⟨Nat.dvd_refl _,?_,?_⟩⟩;all_goals
   have e:=Dg q;have hd:(1:Rat)<=q.den:=E2.2 (show 1<=q.den from q.den_pos);have f:(q.num:Rat)<=(q.num.natAbs:Nat)/\-(q.num:Rat)<=(q.num.natAbs:Nat):=by have b:(q.num:Rat)<=((q.num.natAbs:Int):Rat):=uM.2 ac;have a:((-q.num:Int):Rat)<=((q.num.natAbs:Int):Rat):=uM.2 ac;rw[Kc]at a;exact⟨b,a⟩
   generalize((q.num.natAbs:Nat):Rat)=k at*;generalize(q.den:Rat)=d at*;rw[<-e]at f;by_cases c:0<=q;have:=kt c (ap:0<=d-1);grind;have:=kt (ap:0<=-q) (ap:0<=d-1);grind
def Ad{h:Nat}{t:aI h}{c:Nat}(e:t.bQ c){a b:ae h}{n m:Nat}(i:ms a n)(hb:ms b m):ms (mul t a b) (n+m+c):=by have⟨Δ,A,h1,d,f⟩:=e;have⟨D,B,p,q,s,k⟩:=i;have⟨E,C,g,q',s',k'⟩:=hb;exact⟨_,_,oT (oT p g) h1.pos.1,im (im q q') d,im (im s s') f,M.mul h1 k k'⟩
def HY{h:Nat}{t:aI (h+1)}{c:Nat}(d:t.bQ c){a:ae (h+1)}{n:Nat}(f:ms a n):ms (norm t a) (n+n+c):=by have⟨Δ,A,h1,b,e⟩:=d;have⟨D,B,p,q,s,k⟩:=f;exact⟨_,_,oT (oT p p) h1.pos.1,im (im q q) b,im (im s s) e,M.norm h1 k⟩
def vJ{h:Nat}{x y:ae h}{n m:Nat}(c:ms x n)(d:ms y m):ms (h:=h+1) (x,y) (n+m):=by have⟨D,B,p,q,s,k⟩:=c;have⟨E,C,b,q',s',k'⟩:=d;have a:=k'.pad D (Nat.le_max_right B C);rw[dm]at a;refine⟨D*E,max B C,oT p b,im q q',?_,k.pad E (Nat.le_max_left _ _),a⟩;have e:2^n<=2^(n+m):=dR al ac;have f:2^m<=2^(n+m):=dR al ac;omega
def Ae{h:Nat}{a:ae (h+1)}{n:Nat}(b:ms a n):ms a.1 n/\ms a.2 n:=by have⟨D,B,p,q,s,k⟩:=b;exact⟨⟨D,B,p,q,s,k.1⟩,⟨D,B,p,q,s,k.2⟩⟩
def VQ{h:Nat}{t:aI h}{c:Nat}(b:t.bQ c){x y i:ae h}{n m:Nat}(g:ms (h:=h+1) (x,y) n)(d:ms i m):ms (h:=h+1) (mul t x i,neg (mul t y i)) (n+m+c):=by have⟨Δ,A,h1,a,e⟩:=b;have⟨D,B,p,q,s,k⟩:=g;have⟨E,C,f,q',s',k'⟩:=d;exact⟨_,_,oT (oT p f) h1.pos.1,im (im q q') a,im (im s s') e,M.mul h1 k.1 k',(M.mul h1 k.2 k').neg⟩
def iX(c:Nat):Nat->Nat->Nat|0,n=>n+n|h+1,n=>n+iX c h (n+n+c)+c
def VP:∀{h:Nat}{t:aI h}{c:Nat},t.bJ->(∀k(u:aI k),aF.eN ⟨k,u⟩ ⟨h,t⟩->u.bQ c)->∀{a:ae h}{n:Nat},ms a n->val t a≠0->ms (inv t a) (iX c h n)
 |0,t,c,_,_,a,n,d,f=>by
   have⟨D,B,p,q,s,k⟩:=d;have⟨E,m,o,i⟩:=fP.inv k p (λ e=>f (by rw[e];rfl))
   exact⟨E,D,m,bx o (im s q),bx q (dR al (ac:n<=n+n)),i⟩|h+1,t,c,b,g,a,n,d,f=>by have j:aF.eN ⟨h,t.1⟩ ⟨h+1,t⟩:=.push (J:=⟨h,t.1⟩) t.2 (.refl _);have z:=HY (g _ t (.refl _)) d;have l:val t.1 (norm t a)≠0:=λ e=>f (by
     have h1:=(red b).2 a f;have i:val t (inv t a)=val t.1 (mul t.1 a.1 (inv t.1 (norm t a)))+val t.1 (neg (mul t.1 a.2 (inv t.1 (norm t a))))*az.rt (val t.1 t.2):=rfl;have v:∀(x:ae h),val t.1 x=0->val t.1 (inv t.1 x)=0:=λ x r=>by
       have:x=rat h 0:=(red b.1).1 x r;have key:∀{k:Nat}(u:aI k),u.bJ->inv u (rat k 0)=rat k 0:=by intro k;induction k with|zero=>intro u _;exact Rat.inv_zero|succ k C=>intro u hu;have A:norm u (rat (k+1) 0)=rat k 0:=inj hu.1 (by rw[rS hu.1.pos,show val u.1 (rat (k+1) 0).1=0 from val_zero _,show val u.1 (rat (k+1) 0).2=0 from val_zero _,val_zero];grind);refine na ?_ ?_;show mul u.1 (rat k 0) (inv u.1 (norm u (rat (k+1) 0)))=rat k 0;exact inj hu.1 (by rw[val_mul hu.1.pos,val_zero];grind);show neg (mul u.1 (rat k 0) (inv u.1 (norm u (rat (k+1) 0))))=rat k 0;exact inj hu.1 (by rw[val_neg,val_mul hu.1.pos,val_zero];grind)
       rw[this,key t.1 b.1,val_zero]
     rw[i,val_neg,val_mul b.1.pos,val_mul b.1.pos,v _ e]at h1;exfalso;exact az.zero_ne_one (by rw[<-h1];grind));have w:=VP (c:=c) b.1 (λ k u hu=>g k u (hu.trans j)) z l;exact kj (VQ (g _ t.1 j) (x:=a.1) (y:=a.2) d w) (by show n+iX c h (n+n+c)+c<=_;exact a2 _)
def C3(c:Nat):∀(h:Nat){n m:Nat},n<=m->iX c h n<=iX c h m|0,n,m,k=>by show n+n<=m+m;omega|h+1,n,m,k=>by have:=C3 c h (ac:n+n+c<=m+m+c);show n+iX c h (n+n+c)+c<=m+iX c h (m+m+c)+c;omega
def MO(c:Nat):∀(h n:Nat),h<=3->iX c h n<=23*n+41*c|0,n,_=>by show n+n<=_;omega|1,n,_=>by show n+(n+n+c+(n+n+c))+c<=_;omega|2,n,_=>by show n+((n+n+c)+(n+n+c+(n+n+c)+c+(n+n+c+(n+n+c)+c))+c)+c<=_;omega|3,n,_=>by show n+((n+n+c)+((n+n+c+(n+n+c)+c)+(n+n+c+(n+n+c)+c+(n+n+c+(n+n+c)+c)+c+(n+n+c+(n+n+c)+c+(n+n+c+(n+n+c)+c)+c))+c)+c)+c<=_;omega|h+4,n,a=>ac
def Nk{h:Nat}{a:ae h}{n:Nat}(b:ms a n):ms (add a a) (n+1):=by have⟨D,B,p,q,s,k⟩:=b;refine⟨D,B+B,p,bx q (dR al ac),?_,k.add k⟩;rw[eo];omega
def kU:{h:Nat}->aI h->Nat->Prop|0,t,c=>t.bQ c|_+1,t,c=>t.bQ c/\kU t.1 c
def kU.bQ:∀{h:Nat}{t:aI h}{c:Nat},kU t c->t.bQ c|0,_,_,h=>h|_+1,_,_,h=>h.1
def xy:∀{h:Nat}{t:aI h}{c:Nat},1<=c->t.Pos->kU t c->∀{a:ae h}{n:Nat},ms a n->val t a≠0->∃b,val t b=(val t a)⁻¹/\ms b (iX c h n)
 |0,t,c,_,_,_,a,n,l,f=>by have⟨D,B,p,q,s,k⟩:=l;have⟨E,H,F,I⟩:=fP.inv k p (λ e=>f (by rw[e];rfl));refine⟨Rat.inv a,?_,E,D,H,bx F (im s q),bx q (dR al (ac:n<=n+n)),I⟩;have h1:=Uz a f;have o:=az.rv f;show dX a⁻¹=(dX a)⁻¹;have w:dX a*(dX a)⁻¹=1:=o;generalize(dX a)⁻¹=i at*;generalize dX a⁻¹=j at*;generalize dX a=x at*;grind|h+1,t,c,A,g,r,a,n,l,f=>by
   have C:=az.lL (x:=val t.1 t.2) (by have:=g.2;grind);have z:val t a=val t.1 a.1+val t.1 a.2*az.rt (val t.1 t.2):=rfl;have G:=az.rv f;have m:=rS (t:=t) g.1 a;by_cases u:val t.1 (norm t a)=0;have e:val t.1 a.1-val t.1 a.2*az.rt (val t.1 t.2)=0:=by
     have:val t a*(val t.1 a.1-val t.1 a.2*az.rt (val t.1 t.2))=0:=by rw[z];rw[m]at u;generalize az.rt (val t.1 t.2)=s at*;rw[<-C]at u;grind
     exact(az.ry this).resolve_left f
   have o:val t.1 (add a.1 a.1)=val t a:=by rw[val_add,z];grind
   have⟨b,hb,v⟩:=xy A g.1 r.2 (Nk (Ae l).1) (by rw[o];exact f);rw[o]at hb;refine⟨(b,rat h 0),?_,?_⟩;show val t.1 b+val t.1 (rat h 0)*_=_;rw[val_zero,hb];grind;have⟨D,B,p,q,s,k⟩:=v;have w:iX c h (n+1)<=iX c (h+1) n:=by have:=C3 c h (ac:n+1<=n+n+c);show _<=n+iX c h (n+n+c)+c;omega
   exact⟨D,B,p,bx q (dR al w),bx s (dR al w),k,M.rat h fP.zero⟩;have⟨b,hb,v⟩:=xy A g.1 r.2 (HY r.1 l) u;refine⟨(mul t.1 a.1 b,neg (mul t.1 a.2 b)),?_,VQ r.2.bQ (x:=a.1) (y:=a.2) l v⟩;show val t.1 (mul t.1 a.1 b)+val t.1 (neg (mul t.1 a.2 b))*az.rt (val t.1 t.2)=_;have d:=az.rv u;rw[<-hb]at d;rw[val_neg,val_mul g.1,val_mul g.1];rw[m]at d;rw[z]at G⊢;generalize(val t.1 a.1+val t.1 a.2*az.rt (val t.1 t.2))⁻¹=i at*;generalize val t.1 b=y at*;generalize az.rt (val t.1 t.2)=s at*;rw[<-C]at d;grind
end Go.aA.ae
namespace Go.aA
structure b6 where
 d:Nat
 M:aI d
 c:Nat
 C:Nat
 ok:aF->Prop
 hd:d<=3
 pos:M.Pos
 hc:1<=c
 Li:ae.kU M c
 red:∀{T:aF},ok T->T.bJ
 ht:∀{T:aF},ok T->T.1<=3
 nil:ok aF.nil
 ext:∀{T U:aF},ok T->ok U->ok (T.ext U.2)pre:∀{T U:aF},aF.eN T U->ok U->ok T
 bQ:∀{T:aF},ok T->ae.kU T.2 C
 anR:∀{T:aF}{x:ae T.1},ok (T.push x)->ae.ms x C
 out:∀{T:aF}{a:ae d}{n:Nat},ok T->T.In (ae.val M a)->ae.ms a n->ae.ms (T.bs (ae.val M a)) (n+C)
def ib(K:b6)(v:az)(n:Nat):Prop:=∃a,ae.val K.M a=v/\ae.ms a n
section
variable{K:b6}{v w:az}{n m:Nat}
def ib.mono(h:ib K v n)(k:n<=m):ib K v m:=by obtain⟨a,rfl,b⟩:=h;exact⟨a,rfl,ae.kj b k⟩
def ib.add(h:ib K v n)(k:ib K w m):ib K (v+w) (n+m+1):=by obtain⟨a,rfl,c⟩:=h;obtain⟨b,rfl,hb⟩:=k;exact⟨ae.add a b,ae.val_add _ _ _,ae.Nh c hb⟩
def ib.neg(h:ib K v n):ib K (-v) n:=by obtain⟨a,rfl,b⟩:=h;exact⟨ae.neg a,ae.val_neg _ _,ae.Ni b⟩
def ib.sub(h:ib K v n)(k:ib K w m):ib K (v-w) (n+m+1):=by rw[tq];exact h.add k.neg
def ib.mul(h:ib K v n)(k:ib K w m):ib K (v*w) (n+m+K.c):=by obtain⟨a,rfl,d⟩:=h;obtain⟨b,rfl,hb⟩:=k;exact⟨ae.mul K.M a b,ae.val_mul K.pos _ _,ae.Ad K.Li.bQ d hb⟩
def ib.inv(h:ib K v n):ib K v⁻¹ (23*n+41*K.c):=by obtain⟨a,rfl,g⟩:=h;by_cases e:ae.val K.M a=0;exact⟨ae.rat K.d 0,by rw[e,az.EM,ae.val_zero],ae.kj (ae.vK (n:=0) K.d al al) (dF _)⟩;have⟨b,hb,f⟩:=ae.xy K.hc K.pos K.Li g e;exact⟨b,hb,ae.kj f (ae.MO _ _ _ K.hd)⟩
def ib.rat{q:Rat}(h1:q.num.natAbs<=2^n)(a:q.den<=2^n):ib K (dX q) n:=⟨ae.rat _ q,ae.qC _ _,ae.vK _ h1 a⟩
def ib.out{T:aF}(c:K.ok T)(d:T.In v)(h:ib K v n):ae.ms (T.bs v) (n+K.C):=by obtain⟨a,rfl,b⟩:=h;exact K.out c d b
end
end Go.aA
namespace Go.aA.aC
def G(K:b6)(a:aC)(n:Nat):Prop:=K.ok a.T/\ib K a.val n
section
variable{K:b6}{a b:aC}{n m:Nat}
def G.mono(h:G K a n)(k:n<=m):G K a m:=⟨h.1,h.2.mono k⟩
def G.red(h:G K a n):a.bJ:=K.red h.1
def G.join(h:G K a n)(k:G K b m):K.ok (aC.join a b):=K.ext h.1 k.1
def G.add(h:G K a n)(k:G K b m):G K (aC.add a b) (n+m+1):=⟨h.join k,by rw[K2 h.red k.red];exact h.2.add k.2⟩
def G.sub(h:G K a n)(k:G K b m):G K (aC.sub a b) (n+m+1):=⟨h.join k,by rw[OO h.red k.red];exact h.2.sub k.2⟩
def G.mul(h:G K a n)(k:G K b m):G K (aC.mul a b) (n+m+K.c):=⟨h.join k,by rw[Dl h.red k.red];exact h.2.mul k.2⟩
def G.div(h:G K a n)(k:G K b m):G K (aC.div a b) (n+23*m+42*K.c):=⟨h.join k,by rw[div_val h.red k.red];exact(h.2.mul k.2.inv).mono ac⟩
def G.neg(h:G K a n):G K (aC.neg a) n:=⟨h.1,by rw[Dn];exact h.2.neg⟩
def G.rat{q:Rat}(h1:q.num.natAbs<=2^n)(c:q.den<=2^n):G K (aC.rat q) n:=⟨K.nil,ib.rat h1 c⟩
def G.bs(h:G K a n){T:aF}(d:K.ok T)(c:T.In a.val):ae.ms (T.bs a.val) (n+K.C):=h.2.out d c
def G.self(h:G K a n):ae.ms a.a (n+K.C):=by have:=h.bs h.1 ⟨a.a,rfl⟩;have e:a.T.bs a.val=a.a:=aF.og h.red rfl;rwa[e]at this
end
end Go.aA.aC
namespace Go.aA
noncomputable def aI.vals:{h:Nat}->aI h->List az|0,_=>[]|_+1,t=>ae.val t.1 t.2::aI.vals t.1
end Go.aA
namespace Go.aA.aF
def A5:∀{h:Nat}{t:aI h}{v:az},v∈t.vals->In ⟨h,t⟩ v/\In ⟨h,t⟩ (az.rt v)|0,_,v,a=>by cases a|h+1,t,v,a=>by rcases cp.1 a with rfl|a;exact⟨In.push (T:=⟨h,t.1⟩) ⟨t.2,rfl⟩,In.root (T:=⟨h,t.1⟩)⟩;have⟨h1,b⟩:=A5 (t:=t.1) a;exact⟨h1.push,b.push⟩
def ti:∀{h:Nat}{t:aI h},t.bJ->t.vals.Nodup|0,_,_=>gA|h+1,t,a=>by refine h5.2 ⟨λ c=>?_,ti (t:=t.1) a.1⟩;have⟨w,d⟩:=(A5 (t:=t.1) c).2;refine a.2.2 w ?_;have e:0<ae.val t.1 t.2:=a.2.1;have b:ae.val t.1 w=az.rt (ae.val t.1 t.2):=d;rw[b];exact az.lL ap
def yk:∀{h:Nat}{t:aI h},t.vals.length=h|0,_=>rfl|h+1,t=>congrArg (·+1) (yk (t:=t.1))
def po{α:Type}:∀{l S:List α},l.Nodup->(∀x∈l,x∈S)->l.length<=S.length
 |[],_,_,_=>dF _|a::l,S,b,d=>by
   obtain⟨s,t,rfl⟩:=List.append_of_mem (d a am);rw[h5]at b;have:=po (l:=l) (S:=s++t) b.2 λ x c=>by have:=d x (cX _ c);simp only[hJ,cp]at this⊢;rcases this with h|rfl|h;exact .inl h;exact absurd c b.1;exact .inr h
   simp only[cy,fU]at this⊢;omega
def Re{T:aF}{x:ae T.1}{v:az}(h:v∈(T.gT x).2.vals):v=ae.val T.2 x\/v∈T.2.vals:=by by_cases a:T.In (az.rt (ae.val T.2 x));rw[show T.gT x=T from if_pos a]at h;exact .inr h;rw[show T.gT x=T.push x from if_neg a]at h;exact cp.1 h
def LR{T:aF}(a:T.bJ):∀{k:Nat}{u:aI k},u.bJ->∀{v:az},v∈(T.ext u).2.vals->v∈T.2.vals\/v∈u.vals|0,_,_,_,h=>.inl h|k+1,u,hu,v,h=>by rcases Re h with e|e;right;rw[mH ((nv a hu.1).2.2 _ ⟨u.2,rfl⟩)]at e;rw[e];exact cg;rcases LR a hu.1 e with e|e;exact .inl e;exact .inr (cX _ e)
end Go.aA.aF
namespace Go.aA
def anV{w a:Rat}{D B:Nat}(h:w*w=a)(d:fP a D B)(e:0<D):w.num.natAbs<=B*D/\w.den<=D:=by
 have h1:=d.num e;have hd:a.den=w.den*w.den/\a.num=w.num*w.num:=by
   subst h;have c:(w.num*w.num).natAbs.gcd (w.den*w.den)=1:=by rw[nV];have b:=w.reduced;exact Nat.Coprime.mul_left (aba b b) (aba b b)
   exact⟨by rw[Rat.den_mul,c,Nat.div_one],by rw[Rat.num_mul,c];simp⟩
 have g:w.num.natAbs<=w.num.natAbs*w.num.natAbs:=Bv _;have f:w.den<=w.den*w.den:=Bv _;rw[hd.1,hd.2,nV]at h1;omega
end Go.aA
namespace Go.aA.ae
def gH(c:Nat):Nat->Nat->Nat|0,n=>n+n|h+1,n=>gH c h (n+gH c h (n+n+c)+3+c)+(n+iX c h (gH c h (n+gH c h (n+n+c)+3+c)+1)+c)+gH c h n+gH c h (n+iX c h c+c)
def CD(c:Nat):∀(h:Nat){n m:Nat},n<=m->gH c h n<=gH c h m|0,n,m,k=>by show n+n<=m+m;omega|h+1,n,m,k=>by have e:=CD c h (ac:n+n+c<=m+m+c);have a:=CD c h (ac:n+gH c h (n+n+c)+3+c<=m+gH c h (m+m+c)+3+c);have f:=CD c h k;have b:=CD c h (ac:n+iX c h c+c<=m+iX c h c+c);have d:=C3 c h (Nat.add_le_add_right a 1);show _+(_+_+_)+_+_<=_+(_+_+_)+_+_;omega
def Rd:{h:Nat}->aI h->Nat->Prop|0,_,_=>True|_+1,t,c=>ms t.2 c/\Rd t.1 c
def kU.pre:∀{T U:aF},aF.eN T U->∀{c:Nat},kU U.2 c->kU T.2 c:=by intro T U h;induction h with|refl=>intro c h;exact h|push x _ b=>intro c h;exact b h.2
def HX{h:Nat}{t:aI h}{c:Nat}(b:t.bJ)(e:kU t c){a:ae h}{n:Nat}(f:ms a n)(d:val t a≠0):ms (inv t a) (iX c h n):=VP b (λ k u hu=>(kU.pre hu e).bQ) f d
def Mg:((1/2:Rat).num.natAbs=1/\(1/2:Rat).den=2):=by have h:(1/2:Rat)=⟨1,2,al,al⟩:=an;rw[h];exact⟨rfl,rfl⟩
def TZ{h:Nat}{t:aI h}{c:Nat}(d:t.bQ c){a:ae h}{n:Nat}(b:ms a n):ms (mul t a (rat h (1/2))) (n+1+c):=Ad d b (vK h (by rw[Mg.1];decide) (by rw[Mg.2];decide))
def JA{h:Nat}{t:aI h}(c:t.Pos)(a:ae h):val t (mul t a (rat h (1/2)))=val t a/2:=by
 rw[val_mul c,qC];have b:dX (1/2)*dX 2=1:=by rw[pJ,show(1/2:Rat)*2=1 from ap];exact Dv
 have e:(2:az)=dX 2:=rfl;generalize dX (1/2)=i at*;rw[<-e]at b;grind
def uu:∀{h:Nat}{t:aI h}{c:Nat},t.bJ->kU t c->Rd t c->∀{a w:ae h}{n:Nat},val t w*val t w=val t a->ms a n->ms w (gH c h n)
 |0,t,c,_,_,_,a,w,n,u,m=>by have⟨D,B,p,q,s,k⟩:=m;have e:Rat.mul w w=a:=az.H9 ((pJ w w).symm.trans u);have⟨h1,J⟩:=anV (w:=w) (a:=a) e k p;exact vK 0 (bx h1 (im s q)) (bx J (bx q (dR al (ac:n<=n+n))))|h+1,t,c,b,d,j,a,w,n,u,m=>by
   have⟨p,q⟩:=Ei b u;have⟨A,K⟩:=Ae m;have f:=b.1.pos;have l:val t.1 t.2≠0:=by have:=b.2.1;grind
   by_cases H:val t.1 a.2=0;rw[H]at q;have I:∀x:ae h,val t.1 x=0->x=rat h 0:=(red b.1).1;have G:ms (rat h 0) 0:=vK h al al;rcases az.ry (x:=val t.1 w.1) (y:=val t.1 w.2) ap with e|e;have E:=I _ e;have v:=(red b.1).2 _ l;have F:val t.1 w.2*val t.1 w.2=val t.1 (mul t.1 a.1 (inv t.1 t.2)):=by rw[val_mul f,<-p,e];generalize val t.1 (inv t.1 t.2)=i at*;generalize val t.1 t.2=r at*;grind
   have k:=uu b.1 d.2 j.2 F (Ad d.2.bQ A (HX b.1 d.2 j.1 l));have:w=(rat h 0,w.2):=na E rfl;rw[this];exact kj (vJ G k) (by show _<=_+_+_+_;omega);have E:=I _ e;have k:=uu (a:=a.1) (w:=w.1) b.1 d.2 j.2 (by rw[<-p,e];grind) A;have:w=(w.1,rat h 0):=na rfl E;rw[this];exact kj (vJ k G) (by show _<=_+_+_+_;omega)
   · have C:val t.1 (add (mul t.1 w.1 w.1) (neg (mul t.1 (mul t.1 w.2 w.2) t.2)))=val t.1 w.1*val t.1 w.1-val t.1 w.2*val t.1 w.2*val t.1 t.2:=by rw[val_add,val_neg,val_mul f,val_mul f,val_mul f];grind
     generalize O:add (mul t.1 w.1 w.1) (neg (mul t.1 (mul t.1 w.2 w.2) t.2))=z at C;have N:=uu (a:=norm t a) (w:=z) b.1 d.2 j.2 (by rw[C,rS f,<-p,<-q];grind) (HY d.1 m);have o:=uu (a:=mul t.1 (add a.1 z) (rat h (1/2))) (w:=w.1) b.1 d.2 j.2 (by rw[JA f,val_add,C,<-p];grind) (TZ d.2.bQ (Nh A N));have o:=kj o (show gH c h (n+gH c h (n+n+c)+1+1+c)<=gH c h (n+gH c h (n+n+c)+3+c)from CD c h ac);have g:val t.1 (add w.1 w.1)≠0:=by rw[val_add];intro e;have:val t.1 w.1=0:=ap;rw[this]at q;exact H (by rw[<-q];grind)
     have L:=HX b.1 d.2 (Nk o) g;have F:w.2=mul t.1 a.2 (inv t.1 (add w.1 w.1)):=inj b.1 (by have v:=(red b.1).2 _ g;rw[val_mul f,<-q];rw[val_add]at v;generalize val t.1 (inv t.1 (add w.1 w.1))=i at*;generalize val t.1 w.1=x at*;generalize val t.1 w.2=y at*;have:2*(x*y)*i=y*((x+x)*i):=ap;rw[this,v];grind);have:w=(w.1,mul t.1 a.2 (inv t.1 (add w.1 w.1))):=na rfl F;rw[this];exact kj (vJ o (Ad d.2.bQ K L)) (by show _<=_+_+_+_;omega)
open Classical in noncomputable def comb:{h:Nat}->aI h->az->ae h->ae h->ae h|0,_,_,x,_=>x|_+1,t,ρ,x,y=>if val t.1 t.2=ρ then(x.1,y.1)else(comb t.1 ρ x.1 y.1,comb t.1 ρ x.2 y.2)
def tC:{h:Nat}->aI h->az->ae h->Prop|0,_,_,_=>True|h+1,t,ρ,x=>(val t.1 t.2=ρ->x.2=rat h 0)/\(val t.1 t.2≠ρ->tC t.1 ρ x.1/\tC t.1 ρ x.2)
def Ds:∀{h:Nat}(t:aI h)(ρ:az)(q:Rat),tC t ρ (rat h q)|0,_,_,_=>trivial|h+1,t,ρ,q=>⟨λ _=>rfl,λ _=>⟨Ds _ _ _,Ds _ _ _⟩⟩
def Sc:∀{h:Nat}(t:aI h)(ρ:az),comb t ρ (rat h 0) (rat h 0)=rat h 0|0,_,_=>rfl|h+1,t,ρ=>by by_cases e:val t.1 t.2=ρ;exact if_pos e;rw[show comb t ρ (rat (h+1) 0) (rat (h+1) 0)=(comb t.1 ρ (rat h 0) (rat h 0),comb t.1 ρ (rat h 0) (rat h 0))from if_neg e,Sc];rfl
def Jz:∀{h:Nat}{t:aI h}{ρ:az}{x y:ae h},ρ∈t.vals->tC t ρ x->tC t ρ y->val t (comb t ρ x y)=val t x+val t y*az.rt ρ|0,_,_,_,_,h,_,_=>by cases h|h+1,t,ρ,x,y,i,g,c=>by have d:val t x=val t.1 x.1+val t.1 x.2*az.rt (val t.1 t.2):=rfl;have f:val t y=val t.1 y.1+val t.1 y.2*az.rt (val t.1 t.2):=rfl;by_cases e:val t.1 t.2=ρ;have b:comb t ρ x y=(x.1,y.1):=if_pos e;rw[b,d,f,g.1 e,c.1 e,val_zero];show val t.1 x.1+val t.1 y.1*az.rt (val t.1 t.2)=_;rw[e];grind;have b:comb t ρ x y=(comb t.1 ρ x.1 y.1,comb t.1 ρ x.2 y.2):=if_neg e;have a:ρ∈t.1.vals:=(cp.1 i).resolve_left (λ h=>e h.symm);have⟨x1,cu⟩:=g.2 e;have⟨j,k⟩:=c.2 e;rw[b,d,f];show val t.1 (comb t.1 ρ x.1 y.1)+val t.1 (comb t.1 ρ x.2 y.2)*az.rt (val t.1 t.2)=_;rw[Jz a x1 j,Jz a cu k];grind
def FH:∀{h:Nat}{t:aI h}{ρ:az}{x y:ae h}{D B:Nat},M x D B->M y D B->M (comb t ρ x y) D B|0,_,_,_,_,_,_,a,_=>a|h+1,t,ρ,x,y,D,B,a,b=>by by_cases e:val t.1 t.2=ρ;rw[show comb t ρ x y=(x.1,y.1)from if_pos e];exact⟨a.1,b.1⟩;rw[show comb t ρ x y=(comb t.1 ρ x.1 y.1,comb t.1 ρ x.2 y.2)from if_neg e];exact⟨FH a.1 b.1,FH a.2 b.2⟩
def Nz:∀{h:Nat}{t:aI h}{ρ τ:az}{x y:ae h},τ≠ρ->tC t τ x->tC t τ y->tC t τ (comb t ρ x y)|0,_,_,_,_,_,_,_,_=>trivial|h+1,t,ρ,τ,x,y,a,b,c=>by by_cases e:val t.1 t.2=ρ;rw[show comb t ρ x y=(x.1,y.1)from if_pos e];have d:val t.1 t.2≠τ:=λ h=>a (h.symm.trans e);exact⟨λ h=>absurd h d,λ _=>⟨(b.2 d).1,(c.2 d).1⟩⟩;rw[show comb t ρ x y=(comb t.1 ρ x.1 y.1,comb t.1 ρ x.2 y.2)from if_neg e];refine⟨λ h=>?_,λ h=>⟨Nz a (b.2 h).1 (c.2 h).1,Nz a (b.2 h).2 (c.2 h).2⟩⟩;show comb t.1 ρ x.2 y.2=_;rw[b.1 h,c.1 h,Sc]
noncomputable def pm{h:Nat}(J:aI h):{k:Nat}->aI k->ae k->ae h|0,_,a=>rat h a|_+1,u,a=>comb J (val u.1 u.2) (pm J u.1 a.1) (pm J u.1 a.2)
def Aw{h:Nat}{J:aI h}:∀{k:Nat}{u:aI k},u.vals.Nodup->(∀ρ∈u.vals,ρ∈J.vals)->∀a:ae k,val J (pm J u a)=val u a/\(∀τ,τ∉u.vals->tC J τ (pm J u a))/\∀D B,M a D B->M (pm J u a) D B|0,u,_,_,a=>⟨qC J a,λ τ _=>Ds J τ a,λ D B c=>M.rat h c⟩|k+1,u,m,f,a=>by have⟨g,d⟩:=h5.1 m;have b:∀ρ∈u.1.vals,ρ∈J.vals:=λ ρ i=>f ρ (cX _ i);have⟨o,e,n⟩:=Aw d b a.1;have⟨b1,b2,b3⟩:=Aw d b a.2;refine⟨?_,λ τ j=>?_,λ D B c=>FH (n D B c.1) (b3 D B c.2)⟩;show val J (comb J _ _ _)=val u.1 a.1+val u.1 a.2*az.rt (val u.1 u.2);rw[Jz (f _ cg) (e _ g) (b2 _ g),o,b1];have⟨l,t2⟩:=not_or.1 (λ h=>j (cp.2 h));exact Nz l (e _ t2) (b2 _ t2)
noncomputable def vz{h:Nat}(J:aI h)(R:az->ae h):{k:Nat}->aI k->ae k->ae h|0,_,a=>rat h a|_+1,u,a=>add (vz J R u.1 a.1) (mul J (vz J R u.1 a.2) (R (val u.1 u.2)))
def Hv{h:Nat}{J:aI h}(c:J.Pos){R:az->ae h}:∀{k:Nat}{u:aI k},(∀ρ∈u.vals,val J (R ρ)=az.rt ρ)->∀a:ae k,val J (vz J R u a)=val u a|0,_,_,a=>qC J a|k+1,u,d,a=>by have b:=Hv c (R:=R) (u:=u.1) λ ρ e=>d ρ (cX _ e);show val J (add _ (mul J _ _))=val u.1 a.1+val u.1 a.2*az.rt (val u.1 u.2);rw[val_add,val_mul c,b,b,d _ cg]
def Ux{h:Nat}{J:aI h}{c r:Nat}(i:J.bQ c){R:az->ae h}:∀{k:Nat}{u:aI k},(∀ρ∈u.vals,ms (R ρ) r)->∃K L,0<K/\K<=2^(k*(r+c+1))/\0<L/\L<=2^(k*(r+c+1))/\∀(a:ae k)(D B:Nat),M a D B->M (vz J R u a) (D*K) (B*L)
 |0,_,_=>⟨1,1,al,am,al,am,λ a D B d=>by rw[nX,nX];exact M.rat h d⟩|k+1,u,g=>by
   have⟨K,L,t,q,n,z,j⟩:=Ux i (u:=u.1) λ ρ x=>g ρ (cX _ x);have⟨E,F,s,p,f1,l⟩:=g _ cg;have⟨Δ,A,f,w,C⟩:=i;have y:=f.pos;refine⟨K*(E*Δ),L*(1+F*A),oT t (oT s y.1),?_,oT n ac,?_,λ a D B d=>?_⟩;rw[show(k+1)*(r+c+1)=k*(r+c+1)+(r+c+1)by rw[Nat.add_mul,Nat.one_mul]];exact im q (bx (im p w) (dR al ac));rw[show(k+1)*(r+c+1)=k*(r+c+1)+(r+c+1)by rw[Nat.add_mul,Nat.one_mul]];refine im z ?_;have:=im f1 C;have h1:1<=2^(r+c):=wv;rw[eo];omega;have o:=j a.1 D B d.1;have e:=M.mul f (j a.2 D B d.2) l;have v:D*K*E*Δ=D*(K*(E*Δ)):=by simp only[fT]
   have m:D*K*(E*Δ)=D*(K*(E*Δ)):=by simp only[fT]
   have b:=o.pad (E*Δ) (a2 _);rw[m]at b;rw[v]at e;refine(b.add e).mono ?_;rw[show B*L+B*L*F*A=B*(L*(1+F*A))by rw[ej,nX,ej];simp only[fT]];exact a2 _
def MJ{h:Nat}{J:aI h}{c r:Nat}(g:J.bQ c){R:az->ae h}{k:Nat}{u:aI k}(j:∀ρ∈u.vals,ms (R ρ) r){a:ae k}{n:Nat}(f:ms a n):ms (vz J R u a) (n+k*(r+c+1)):=by have⟨K,L,l,e,m,i,d⟩:=Ux g j;have⟨D,B,p,q,s,b⟩:=f;exact⟨D*K,B*L,oT p l,im q e,im s i,d a D B b⟩
def N3{h:Nat}{J:aI h}{k:Nat}{u:aI k}(c:u.vals.Nodup)(e:∀ρ∈u.vals,ρ∈J.vals){a:ae k}{n:Nat}(d:ms a n):ms (pm J u a) n:=by have⟨D,B,p,q,s,b⟩:=d;exact⟨D,B,p,q,s,(Aw c e a).2.2 D B b⟩
end Go.aA.ae
namespace Go.aA.aF
def LK{T J:aF}(h:eN T J)(c:J.bJ){v:az}(d:T.In v){n:Nat}(a:ae.ms (J.bs v) n):ae.ms (T.bs v) n:=by induction h with|refl=>exact a|@push J x g f=>refine f c.1 ?_;have b:=g.in d;have e:(J.push x).bs v=((J.bs v,ae.rat J.1 0):ae (J.1+1)):=og (T:=J.push x) c (by show ae.val J.2 (J.bs v)+ae.val J.2 (ae.rat J.1 0)*_=v;rw[mH b,ae.val_zero];grind);rw[e]at a;exact(ae.Ae a).1
end Go.aA.aF
namespace Go.aA
def aI.RN{h:Nat}{t:aI h}{c d:Nat}(k:t.bQ c)(f:c<=d):t.bQ d:=by have⟨Δ,A,a,b,e⟩:=k;exact⟨Δ,A,a,bx b (dR al f),bx e (dR al f)⟩
end Go.aA
namespace Go.aA.ae
def kU.mono:∀{h:Nat}{t:aI h}{c d:Nat},kU t c->c<=d->kU t d|0,_,_,_,h,k=>aI.RN h k|_+1,_,_,_,h,k=>⟨aI.RN h.1 k,h.2.mono k⟩
def tN(s:Nat):Nat->Nat|0=>0|h+1=>tN s h+tN s h+s+2
def RV{s h:Nat}(a:h<=3):tN s h<=7*s+14:=by match h,a with|0,_=>exact dF _|1,_=>show 0+0+s+2<=_;omega|2,_=>show(0+0+s+2)+(0+0+s+2)+s+2<=_;omega|3,_=>show((0+0+s+2)+(0+0+s+2)+s+2)+((0+0+s+2)+(0+0+s+2)+s+2)+s+2<=_;omega
def RO:∀{h:Nat}{t:aI h}{s:Nat},Rd t s->t.bQ (tN s h)|0,_,_,_=>aI.RP|_+1,_,_,a=>aI.ad7 (RO a.2) a.1
def aeh(s h:Nat):tN s h<=tN s (h+1):=by show _<=tN s h+tN s h+s+2;omega
def FC:∀{h:Nat}{t:aI h}{s:Nat},Rd t s->kU t (tN s h)|0,_,_,_=>aI.RP|h+1,_,s,a=>⟨RO a,(FC a.2).mono (aeh s h)⟩
def Rd.mono:∀{h:Nat}{t:aI h}{c d:Nat},Rd t c->c<=d->Rd t d|0,_,_,_,_,_=>trivial|_+1,_,_,_,h,k=>⟨kj h.1 k,h.2.mono k⟩
def G0(c h n:Nat):gH c h n<=gH c (h+1) n:=by show _<=_+_+gH c h n+_;omega
def akr{h:Nat}{q:ae 0}{n:Nat}(e:ms q n):ms (rat h q) n:=by have⟨D,B,a,b,c,d⟩:=e;exact⟨D,B,a,b,c,M.rat h d⟩
def aoC{h:Nat}{t:aI h}{ρ:az}(a:ρ∈t.vals):∃b,val t b=az.rt ρ/\ms b 0:=by refine⟨comb t ρ (rat h 0) (rat h 1),?_,1,1,al,al,al,FH (M.rat h fP.zero) (M.rat h ⟨Nat.dvd_refl 1,al,al⟩)⟩;rw[Jz a (Ds t ρ 0) (Ds t ρ 1),val_zero,qC,Dv];grind
end Go.aA.ae
namespace Go.aA
def aF.Ay:∀{h:Nat}(t:aI h),aF.eN aF.nil ⟨h,t⟩|0,_=>.refl _|h+1,t=>.push (J:=⟨h,t.1⟩) t.2 (Ay t.1)
structure Src where
 S:List az
 n:Nat
 H:Nat->aF
 x:(i:Nat)->ae (H i).1
 nodup:S.Nodup
 len:S.length<=3
 red:∀i,i<S.length->(H i).bJ
 sub:∀i,i<S.length->∀ρ∈(H i).2.vals,ρ∈S.take i
 val:∀i(h:i<S.length),ae.val (H i).2 (x i)=S[i]ms:∀i,i<S.length->ae.ms (x i) n
 pos:∀ρ∈S,0<ρ
end Go.aA
namespace Go.aA.Src
section
variable(Q:Src)
def ok(T:aF):Prop:=T.bJ/\∀ρ∈T.2.vals,ρ∈Q.S
variable{Q}
def nz{i:Nat}(h:i<Q.S.length):Q.ok (Q.H i):=⟨Q.red i h,λ ρ a=>gZ (Q.sub i h ρ a)⟩
def Ie{T U:aF}(h:Q.ok T)(k:Q.ok U):Q.ok (T.ext U.2):=⟨(aF.nv h.1 k.1).1,λ ρ a=>(aF.LR h.1 k.1 a).elim (h.2 ρ) (k.2 ρ)⟩
def Wx{T U:aF}(h:aF.eN T U):Q.ok U->Q.ok T:=by induction h with|refl=>exact id|push x _ b=>exact λ hu=>b ⟨hu.1.1,λ ρ c=>hu.2 ρ (cX _ c)⟩
def xT{T:aF}(h:Q.ok T):T.1<=3:=by have:=aF.po (aF.ti h.1) h.2;rw[aF.yk]at this;exact bx this Q.len
def aic{i:Nat}(h:i<Q.S.length):(Q.H i).In Q.S[i]:=⟨Q.x i,Q.val i h⟩
def H7{i:Nat}(h:i<Q.S.length):Q.S[i]∉Q.S.take i:=λ a=>by have⟨j,b,e⟩:=fy.1 a;rw[eZ]at b;rw[abc]at e;exact Bw.1 Q.nodup j i ac h ac e
def free{J:aF}(c:Q.ok J){i:Nat}(h:i<Q.S.length)(a:∀ρ∈(Q.H i).2.vals,ρ∈J.2.vals):ae.ms (J.bs Q.S[i]) Q.n:=by have b:=aF.ti (Q.red i h);have e:=(ae.Aw b a (Q.x i)).1;rw[Q.val i h]at e;rw[aF.og c.1 e];exact ae.N3 b a (Q.ms i h)
def Xs{J:aF}(c:Q.ok J){i:Nat}(h:i<Q.S.length)(a:aF.nil.In Q.S[i]):ae.ms (J.bs Q.S[i]) Q.n:=by
 have h1:ae.ms ((Q.H i).bs Q.S[i]) Q.n:=by rw[aF.og (Q.red i h) (Q.val i h)];exact Q.ms i h
 have b:=aF.LK (aF.Ay (Q.H i).2) (Q.red i h) a h1;have e:J.bs Q.S[i]=ae.rat J.1 (aF.nil.bs Q.S[i]):=aF.og c.1 ((ae.qC J.2 _).trans (aF.mH a));rw[e];exact ae.akr b
def idx{ρ:az}(h:ρ∈Q.S):∃i,∃h:i<Q.S.length,Q.S[i]=ρ:=fy.1 h
def c1(Q:Src):Nat:=Q.n+2
def r1(Q:Src):Nat:=ae.gH Q.c1 1 Q.n
def e1(Q:Src):Nat:=Q.n+3*(Q.r1+Q.c1+1)
def low{J:aF}(a:Q.ok J)(h1:J.1<=1):ae.Rd J.2 Q.n/\ae.kU J.2 Q.c1:=by
 have b:ae.Rd J.2 Q.n:=by have⟨h,t⟩:=J;match h,t,h1,a with
   |0,_,_,_=>exact trivial|1,t,_,a=>
     refine⟨?_,trivial⟩;have⟨i,c,e⟩:=Q.idx (a.2 _ cg);have d:aF.nil.In Q.S[i]:=by rw[e];exact⟨t.2,rfl⟩
     have:=Q.Xs (J:=aF.nil) ⟨trivial,λ ρ h=>by cases h⟩ c d;rw[e,show aF.nil.bs (ae.val t.1 t.2)=t.2 from aF.og (T:=aF.nil) trivial rfl]at this;exact this
 refine⟨b,(ae.FC b).mono ?_⟩;have f:J.1=0\/J.1=1:=ac;rcases f with e|e<;>rw[e];exact dF _;show 0+0+Q.n+2<=Q.n+2;omega
def ale{J:aF}(h:J.1=0){v:az}(b:J.In v):aF.nil.In v:=by have⟨k,t⟩:=J;match k,t,h,b with|0,_,_,⟨a,e⟩=>exact⟨a,e⟩
def alg{J:aF}(h:J.1<=1){v:az}(a:v∈J.2.vals):aF.nil.In v:=by have⟨k,t⟩:=J;match k,t,h,a with|1,t,_,a=>rcases cp.1 a with rfl|a;exact⟨t.2,rfl⟩;cases a
def afH{l:List az}(f:l.Nodup){a b:az}(g:a∈Q.S)(hb:b∈Q.S)(e:a≠b)(d:∀ρ∈l,ρ∈Q.S/\ρ≠a/\ρ≠b):l.length<=1:=by have:=aF.po (l:=a::b::l) (S:=Q.S) (by simp only[h5,cp,not_or];exact⟨⟨e,λ h=>(d a h).2.1 rfl⟩,λ h=>(d b h).2.2 rfl,f⟩) (λ x c=>by simp only[cp]at c;rcases c with rfl|rfl|c;exact g;exact hb;exact(d x c).1);have:=Q.len;simp only[fU]at*;omega
def af7{h:Nat}(c n:Nat)(a:h<=1):ae.gH c h n<=ae.gH c 1 n:=by have:h=0\/h=1:=ac;rcases this with rfl|rfl;exact ae.G0 c 0 n;exact a2 _
def gen{T:aF}(V:Q.ok T){i:Nat}(h:i<Q.S.length)(hn:Q.S[i]∉T.2.vals)(K:T.In Q.S[i]):ae.ms (T.bs Q.S[i]) Q.e1:=by
 have f:=Ie V (nz h);have o8:=aF.DM T (Q.H i).2;refine aF.LK o8 f.1 K ?_;have v:=aF.nv V.1 (Q.red i h);have I:∀ρ∈(T.ext (Q.H i).2).2.vals,ρ∈T.2.vals\/ρ∈(Q.H i).2.vals:=λ ρ d=>aF.LR V.1 (Q.red i h) d;generalize T.ext (Q.H i).2=J at*;have u:Q.S[i]∉J.2.vals:=λ s=>(I _ s).elim hn λ s=>H7 h (Q.sub i h _ s);by_cases A:∀ρ∈(Q.H i).2.vals,ρ∈J.2.vals;exact ae.kj (free f h A) (by show Q.n<=Q.n+_;omega);obtain⟨M,A⟩:=Qd.1 A;obtain⟨y,P⟩:=abd.1 A;have D:=(nz h).2 M y;have C:Q.S[i]≠M:=λ e=>H7 h (e▸Q.sub i h M y);have B:=afH (aF.ti f.1) (bo h) D C λ ρ d=>⟨f.2 ρ d,λ e=>u (e▸d),λ e=>P (e▸d)⟩;rw[aF.yk]at B;obtain⟨MB,t⟩:=low f B;have dM:∀ρ∈(Q.H i).2.vals,ae.val J.2 (J.bs (az.rt ρ))=az.rt ρ/\ae.ms (J.bs (az.rt ρ)) Q.r1:=λ ρ d=>by
   have r:=v.2.2 _ (aF.A5 d).2;have m:=v.2.2 _ (aF.A5 d).1;have p:=aF.mH r;refine⟨p,?_⟩;obtain⟨j,g,e⟩:=Q.idx ((nz h).2 ρ d);subst e;have s:ae.ms (J.bs Q.S[j]) Q.n:=by
     by_cases k:∀σ∈(Q.H j).2.vals,σ∈J.2.vals;exact free f g k;obtain⟨σ,k⟩:=Qd.1 k;obtain⟨q,Y⟩:=abd.1 k;have U:=(nz g).2 σ q;have O:Q.S[i]≠Q.S[j]:=λ e=>H7 h (e▸Q.sub i h _ d);have E:Q.S[j]≠σ:=λ e=>H7 g (e▸Q.sub j g σ q);have F:Q.S[i]≠σ:=λ e=>by
       have h1:=Q.sub j g σ q;have h2:=Q.sub i h _ d;obtain⟨a,ha,Gu⟩:=fy.1 h1;obtain⟨b,hb,X⟩:=fy.1 h2;rw[eZ]at ha hb;rw[abc]at Gu X;have N:=Bw.1 Q.nodup;have atC:b=j:=by rcases Nat.lt_trichotomy b j with hlt|Z|G;exact absurd X (N b j ac g hlt);exact Z;exact absurd X.symm (N j b g ac G)
       have W:a<i:=ac;exact N a i ac h W (Gu.trans e.symm)
     refine Xs f g ?_;by_cases R:J.1=0;exact ale R m
     · have o:J.2.vals.length=J.1:=aF.yk;obtain⟨τ,z⟩:∃τ,τ∈J.2.vals:=by cases hq:J.2.vals with|nil=>rw[hq]at o;simp at o;omega|cons a l=>exact⟨a,cg⟩
       have L:τ=Q.S[j]:=by by_cases e:τ=Q.S[j];exact e;exfalso;have:=aF.po (l:=[Q.S[i],Q.S[j],σ,τ]) (S:=Q.S) (by simp only[h5,cp,ct,or_false,not_or,not_false_eq_true,and_true,gA];exact⟨⟨O,F,λ h=>u (h▸z)⟩,⟨E,λ h=>e h.symm⟩,λ h=>Y (h▸z)⟩) (λ x v=>by simp only[cp,ct,or_false]at v;rcases v with rfl|rfl|rfl|rfl;exact bo h;exact bo g;exact U;exact f.2 _ z);have:=Q.len;simp only[fU,List.length_nil]at*;omega
       exact alg B (L▸z)
   have hp:0<Q.S[j]:=Q.pos _ (bo g);have:=ae.uu (a:=J.bs Q.S[j]) (w:=J.bs (az.rt Q.S[j])) f.1 t (MB.mono (ac:Q.n<=Q.n+2)) (by rw[p,aF.mH m];exact az.lL ap) s;exact ae.kj this (af7 _ _ B)
 have e:J.bs Q.S[i]=ae.vz J.2 (λ ρ=>J.bs (az.rt ρ)) (Q.H i).2 (Q.x i):=aF.og f.1 (by rw[ae.Hv f.1.pos (λ ρ d=>(dM ρ d).1),Q.val i h]);rw[e];refine ae.kj (ae.MJ t.bQ (λ ρ d=>(dM ρ d).2) (Q.ms i h)) ?_;have h3:=xT (nz h);have:(Q.H i).1*(Q.r1+Q.c1+1)<=3*(Q.r1+Q.c1+1):=cr _ h3;show _<=Q.n+3*(Q.r1+Q.c1+1);omega
end
section
variable{Q:Src}
def rd:∀{h:Nat}{t:aI h},Q.ok ⟨h,t⟩->ae.Rd t Q.e1|0,_,_=>trivial|h+1,t,a=>by have b:Q.ok ⟨h,t.1⟩:=Wx (.push (J:=⟨h,t.1⟩) t.2 (.refl _)) a;refine⟨?_,rd b⟩;have⟨i,c,e⟩:=Q.idx (a.2 _ cg);have d:=(h5.1 (aF.ti a.1)).1;have:=gen b c (by rw[e];exact d) (by rw[e];exact⟨t.2,rfl⟩);rw[e,aF.og (T:=⟨h,t.1⟩) b.1 rfl]at this;exact this
def cc(Q:Src):Nat:=7*Q.e1+14
def Gh{T:aF}(h:Q.ok T):ae.kU T.2 Q.cc:=(ae.FC (rd h)).mono (ae.RV (xT h))
def s4(Q:Src):Nat:=ae.gH Q.cc 2 Q.e1
def TF{h:Nat}(c n:Nat)(a:h<=2):ae.gH c h n<=ae.gH c 2 n:=by have:h=0\/h=1\/h=2:=ac;rcases this with rfl|rfl|rfl;exact bx (ae.G0 c 0 n) (ae.G0 c 1 n);exact ae.G0 c 1 n;exact a2 _
def roots{T:aF}(c:Q.ok T){ρ:az}(f:ρ∈Q.S)(e:T.In (az.rt ρ)):ae.ms (T.bs (az.rt ρ)) Q.s4:=by
 by_cases h:ρ∈T.2.vals;have⟨b,hb,m⟩:=ae.aoC h;rw[aF.og c.1 hb];exact ae.kj m (dF _);obtain⟨i,k,rfl⟩:=Q.idx f;have p:0<Q.S[i]:=Q.pos _ f;have j:=az.lL (x:=Q.S[i]) ap;have d:T.In Q.S[i]:=by rw[<-j];exact e.mul c.1 e
 have o:T.1<=2:=by have:=aF.po (l:=Q.S[i]::T.2.vals) (S:=Q.S) (h5.2 ⟨h,aF.ti c.1⟩) (λ x g=>by rcases cp.1 g with rfl|g;exact f;exact c.2 _ g);have:=Q.len;rw[fU,aF.yk]at*;omega
 have:=ae.uu (a:=T.bs Q.S[i]) (w:=T.bs (az.rt Q.S[i])) c.1 (Gh c) ((rd c).mono (by show Q.e1<=7*Q.e1+14;omega)) (by rw[aF.mH e,aF.mH d];exact j) (gen c k h d);exact ae.kj this (TF _ _ o)
def Nc:∀i,i<=Q.S.length->∃M:aI i,M.Pos/\ae.Rd M Q.n/\∀ρ,ρ∈M.vals↔ρ∈Q.S.take i|0,_=>⟨(),trivial,trivial,λ ρ=>by simp[aI.vals]⟩|i+1,a=>by have⟨M,h1,g,c⟩:=Nc i ac;have b:=aF.ti (Q.red i a);have d:∀ρ∈(Q.H i).2.vals,ρ∈M.vals:=λ ρ f=>(c ρ).2 (Q.sub i a ρ f);have e:=(ae.Aw b d (Q.x i)).1;rw[Q.val i a]at e;refine⟨(M,ae.pm M (Q.H i).2 (Q.x i)),⟨h1,?_⟩,⟨ae.N3 b d (Q.ms i a),g⟩,λ ρ=>?_⟩;show 0<ae.val M (ae.pm M (Q.H i).2 (Q.x i));rw[e];exact Q.pos _ (bo a);show ρ∈ae.val M (ae.pm M (Q.H i).2 (Q.x i))::M.vals↔_;rw[e,cp,c,kP a,hJ,bU];exact Or.comm
def full{T:aF}(d:Q.ok T):∀i,i<=Q.S.length->∃U:aF,Q.ok U/\aF.eN T U/\∀ρ∈Q.S.take i,U.In (az.rt ρ)|0,_=>⟨T,d,.refl T,λ ρ h=>by simp at h⟩|i+1,a=>by have⟨U,h1,l,j⟩:=full d i ac;have f:=aF.nv h1.1 (Q.red i a);have g:=Ie h1 (nz a);have c:=f.2.2 _ (aic a);have e:=aF.mH c;have k:0<Q.S[i]:=Q.pos _ (bo a);refine⟨(U.ext (Q.H i).2).gT ((U.ext (Q.H i).2).bs Q.S[i]),⟨aF.Rb g.1 (by rw[e];exact k),λ ρ b=>?_⟩,(l.trans (aF.DM U _)).trans (aF.K3 _),λ ρ b=>?_⟩;rcases aF.Re b with h|h;rw[h,e];exact bo a;exact g.2 ρ h;rw[kP a,hJ,bU]at b;rcases b with h|rfl;exact aF.FW (f.2.1 _ (j ρ h));have:=aF.Rc (T:=U.ext (Q.H i).2) (x:=(U.ext (Q.H i).2).bs Q.S[i]);rwa[e]at this
def C(Q:Src):Nat:=3*(Q.s4+Q.cc+1)
def SG:Q.e1<=Q.cc:=by show Q.e1<=7*Q.e1+14;omega
def RQ:Q.cc<=Q.C:=by show Q.cc<=3*(Q.s4+Q.cc+1);omega
noncomputable def M(Q:Src):aI Q.S.length:=r5 (Nc (Q:=Q) Q.S.length (a2 _))
def FI:Q.M.Pos/\ae.Rd Q.M Q.n/\∀ρ,ρ∈Q.M.vals↔ρ∈Q.S:=by have⟨h1,c,b⟩:=oR (Nc (Q:=Q) Q.S.length (a2 _));exact⟨h1,c,λ ρ=>(b ρ).trans (by rw[gl])⟩
noncomputable def ctx(Q:Src):b6 where
 d:=Q.S.length;M:=Q.M;c:=7*Q.n+14;C:=Q.C;ok:=Q.ok;hd:=Q.len;pos:=FI.1;hc:=ac;Li:=(ae.FC FI.2.1).mono (ae.RV Q.len);red h:=h.1;ht:=xT;nil:=⟨trivial,λ ρ h=>by cases h⟩;ext:=Ie;pre:=Wx;bQ h:=(Gh h).mono RQ;anR h:=ae.kj (rd h).1 (bx SG RQ);out{T a n}r o m:=by
   obtain⟨U,h1,j,g⟩:=full r Q.S.length (a2 _);rw[gl]at g;refine aF.LK j h1.1 o ?_;have i:∀ρ∈Q.M.vals,ae.val U.2 (U.bs (az.rt ρ))=az.rt ρ/\ae.ms (U.bs (az.rt ρ)) Q.s4:=λ ρ b=>by have f:=(FI.2.2 ρ).1 b;exact⟨aF.mH (g ρ f),roots h1 f (g ρ f)⟩
   have e:U.bs (ae.val Q.M a)=ae.vz U.2 (λ ρ=>U.bs (az.rt ρ)) Q.M a:=aF.og h1.1 (ae.Hv h1.1.pos (λ ρ b=>(i ρ b).1) a);rw[e];refine ae.kj (ae.MJ (Gh h1).bQ (λ ρ b=>(i ρ b).2) m) ?_;have:Q.S.length*(Q.s4+Q.cc+1)<=3*(Q.s4+Q.cc+1):=cr _ Q.len;show n+_<=n+3*(Q.s4+Q.cc+1);omega
def aie{a:aC}{n:Nat}(h:Q.ok a.T)(e:ae.ms a.a n):aC.G Q.ctx a n:=by have c:=aF.ti h.1;have b:∀ρ∈a.T.2.vals,ρ∈Q.M.vals:=λ ρ d=>(FI.2.2 ρ).2 (h.2 ρ d);exact⟨h,ae.pm Q.M a.T.2 a.a,(ae.Aw c b a.a).1,ae.N3 c b e⟩
end
end Go.aA.Src
namespace Go.aA.ae
def flat:{h:Nat}->ae h->List Rat|0,a=>[a]|_+1,a=>flat a.1++flat a.2
def sB:∀{h:Nat}(a:ae h),(flat a).length=2^h|0,_=>rfl|h+1,a=>by show(flat a.1++flat a.2).length=_;rw[cy,sB,sB,eo];omega
def GG:∀{h:Nat}{a b:ae h},flat a=flat b->a=b|0,a,b,e=>(abe e).1|h+1,a,b,e=>by have h1:=abf e ((sB a.1).trans (sB b.1).symm);exact na (GG h1.1) (GG h1.2)
def KP:∀{h:Nat}{a:ae h}{D B:Nat},M a D B->∀q∈flat a,fP q D B|0,_,_,_,h,q,b=>by rcases bU.1 b with rfl;exact h|_+1,_,_,_,h,q,b=>(hJ.1 b).elim (KP h.1 q) (KP h.2 q)
def apH{q:Rat}{n k:Nat}(h1:q.num.natAbs<=2^n*2^n)(c:q.den<=2^n)(a:n+n<32*k):cO k q:=by
 have e:ai^k=2^(32*k):=by rw[show ai=2^32 from rfl,<-Nat.pow_mul]
 have b:2^n*2^n<2^(32*k):=by rw[<-iI];exact uN al a
 have d:2^n<2^(32*k):=uN al ac;exact⟨jF (by rw[e];omega),jF (by rw[e];omega)⟩
def VR{h:Nat}{a:ae h}{n k:Nat}(f:ms a n)(c:n+n<32*k):∀q∈flat a,cO k q:=λ q e=>by have⟨D,B,p,d,b,m⟩:=f;have⟨h1,g⟩:=(KP m q e).num p;exact apH (bx h1 (kr b d)) (bx g d) c
def Nj:∀{h:Nat}{a:ae h}{n:Nat},(∀q∈flat a,q.num.natAbs<=2^n/\q.den<=2^n)->ms a (2^h*n)|0,a,n,h=>by have:=h a (bU.2 rfl);rw[show 2^0*n=n from am];exact vK 0 this.1 this.2|h+1,a,n,c=>by have h1:=Nj (a:=a.1) λ q b=>c q (tl _ b);have d:=Nj (a:=a.2) λ q b=>c q (Bp _ b);have:=vJ (x:=a.1) (y:=a.2) h1 d;rw[show 2^(h+1)*n=2^h*n+2^h*n by rw[eo,fT,dm 2 n,<-fT];omega];exact this
end Go.aA.ae
namespace Go.aA
def aI.ay:{h:Nat}->aI h->List (List Rat)|0,_=>[]|_+1,t=>aI.ay t.1++[ae.flat t.2]
def aI.x3:∀{h:Nat}(t:aI h),t.ay.length=h|0,_=>rfl|h+1,t=>by show(aI.ay t.1++[_]).length=_;rw[cy,aI.x3];rfl
def aI.Oa:∀{h:Nat}{t u:aI h},t.ay=u.ay->t=u|0,_,_,_=>rfl|h+1,t,u,e=>by have h1:=abf e ((aI.x3 t.1).trans (aI.x3 u.1).symm);exact na (aI.Oa h1.1) (ae.GG (abe h1.2).1)
def bk(l:List Rat):aa:=.sl 4 (l.map aZ)
def aW(R:List (List Rat)):aa:=.sl 1 (R.map bk)
def aK{h:Nat}(a:ae h):aa:=bk (ae.flat a)
def aw(n:aC):aa:=.agg [aW n.T.2.ay,aK n.a]
instance{l:List Rat}:bg (bk l):=bg.rows (f:=aZ) (λ x=>inferInstance) (λ q c hc=>KU q c hc) l
instance{h:Nat}{a:ae h}:bg (aK a):=by unfold aK;infer_instance
def DW(l:List Rat):∀c∈(bk l).cells,cd c:=λ c hc=>by have:(bk l).cells=[bk l]:=rfl;rw[this,bU]at hc;subst hc;exact bg.pure
instance{R:List (List Rat)}:bg (aW R):=bg.rows (f:=bk) (λ x=>inferInstance) (λ l c hc=>DW l c hc) R
instance{n:aC}:bg (aw n):=by unfold aw;infer_instance
abbrev ak:=Bool×aC
end Go.aA
namespace Go.aA.ak
def T(x:ak):aa:=aw x.2
instance{x:ak}:bg x.T:=by unfold T;infer_instance
noncomputable def add(a b:ak):ak:=(true,a.2.add b.2)
noncomputable def sub(a b:ak):ak:=(true,a.2.sub b.2)
noncomputable def mul(a b:ak):ak:=(true,a.2.mul b.2)
noncomputable def div(a b:ak):ak:=(true,a.2.div b.2)
noncomputable def neg(a:ak):ak:=(a.1,a.2.neg)
def rat(q:Rat):ak:=(true,aC.rat q)
open Classical in noncomputable def bM(a:ak):Bool:=decide (a.2.val=0)
def qe{a:ak}:a.bM=true↔a.2.val=0:=by unfold bM;exact@decide_eq_true_iff _ (yH _)
def G(K:b6)(n:Nat)(a:ak):Prop:=aC.G K a.2 n
section
variable{K:b6}{a b:ak}{n m:Nat}
def G.mono(h:G K n a)(k:n<=m):G K m a:=aC.G.mono h k
def G.add(h:G K n a)(k:G K m b):G K (n+m+1) (a.add b):=aC.G.add h k
def G.sub(h:G K n a)(k:G K m b):G K (n+m+1) (a.sub b):=aC.G.sub h k
def G.mul(h:G K n a)(k:G K m b):G K (n+m+K.c) (a.mul b):=aC.G.mul h k
def G.div(h:G K n a)(k:G K m b):G K (n+23*m+42*K.c) (a.div b):=aC.G.div h k
def G.neg(h:G K n a):G K n a.neg:=aC.G.neg h
def G.zero:G K n (rat 0):=aC.G.rat (q:=0) (dF _) (wv)
def G.one:G K n (rat 1):=aC.G.rat (q:=1) (wv) (wv)
end
end Go.aA.ak
namespace Go.aA
def aj(l:List ak):aa:=.sl 2 (l.map ak.T)
def cU(K:b6)(n:Nat)(l:List ak):Prop:=∀x∈l,x.G K n
def a4(K:b6)(n w:Nat)(m:List (List ak)):Prop:=∀r∈m,r.length=w/\cU K n r
section
variable{K:b6}{n m w:Nat}
def cU.mono{l:List ak}(h:cU K n l)(k:n<=m):cU K m l:=λ x a=>(h x a).mono k
def a4.mono{M:List (List ak)}(h:a4 K n w M)(k:n<=m):a4 K m w M:=λ r a=>⟨(h r a).1,(h r a).2.mono k⟩
def cU.get{l:List ak}(h:cU K n l){i:Nat}:(l.getD i (ak.rat 0)).G K n:=by rw[dE];by_cases a:i<l.length;rw[eu a];exact h _ (bo a);rw[yI ac];exact ak.G.zero
def a4.get{M:List (List ak)}(h:a4 K n w M){i:Nat}(a:i<M.length):(M.getD i []).length=w/\cU K n (M.getD i []):=by rw[dE,eu a];exact h _ (bo a)
noncomputable def aeX(a b:List ak):ak:=(wx a b).foldl (λ s p=>s.add (p.1.mul p.2)) (ak.rat 0)
noncomputable def hQ(a b:List ak)(x:ak):List ak:=List.zipWith (λ p q=>p.sub (q.mul x)) a b
noncomputable def jc(a:List ak)(x:ak):List ak:=a.map (·.div x)
def Ox{a:List ak}{x:ak}(b:cU K n a)(d:x.G K n):cU K (24*n+42*K.c) (jc a x):=λ y e=>by obtain⟨z,f,rfl⟩:=bd.1 e;exact((b z f).div d).mono ac
def aki{a b:List ak}{x:ak}(h:cU K n a)(hb:cU K m b)(f:x.G K n):cU K (n+n+m+K.c+1) (hQ a b x):=λ y d=>by
 obtain⟨p,q,e,g,rfl⟩:∃p q,p∈a/\q∈b/\y=p.sub (q.mul x):=by unfold hQ at d;obtain⟨i,j,rfl⟩:=fy.1 d;have k:=j;rw[gY]at k;exact⟨a[i]' ac,b[i]' ac,bo _,bo _,uO⟩
 exact((h p e).sub ((hb q g).mul f)).mono ac
def iR{α:Type}[Inhabited α](l:List α)(i j:Nat):List α:=(l.set i (l.getD j default)).set j (l.getD i default)
noncomputable def eA(rows:List (List ak))(top k:Nat):Nat:=top+(rows.drop top).findIdx (λ r=>!(r.getD k (ak.rat 0)).bM)
noncomputable def fq(st:List (List ak)×List Nat)(k:Nat):List (List ak)×List Nat:=let top:=st.2.length;let p:=eA st.1 top k;if p<st.1.length then let a:=iR st.1 top p;let row:=jc (a.getD top []) ((a.getD top []).getD k (ak.rat 0));let b:=a.set top row;(b.mapIdx (λ i r=>if i !=top&&!(r.getD k (ak.rat 0)).bM then hQ r row (r.getD k (ak.rat 0))else r),st.2++[k])else st
def c8(m:List (List ak)):Nat:=(m.headD []).length
noncomputable def bc(m:List (List ak)):List (List ak)×List Nat:=(aR (c8 m)).foldl fq (m,[])
def grow(K:b6):Nat->Nat->Nat|0,n=>n|j+1,n=>26*grow K j n+43*K.c+1
def af8(j n:Nat):grow K j n<=grow K (j+1) n:=by show _<=26*grow K j n+43*K.c+1;omega
def ot{i j n:Nat}(h:i<=j):grow K i n<=grow K j n:=by induction h with|refl=>exact a2 _|step _ a=>exact bx a (af8 _ _)
def OR{α:Type}[Inhabited α](l:List α)(i j:Nat):(iR l i j).length=l.length:=by unfold iR;rw[kQ,kQ]
def ap8{α:Type}[Inhabited α]{l:List α}{i j:Nat}(a:i<l.length)(c:j<l.length){x:α}(b:x∈iR l i j):x∈l:=by
 unfold iR at b;have e:l.getD j default∈l:=by rw[dE,eu c];exact bo c
 have d:l.getD i default∈l:=by rw[dE,eu a];exact bo a
 rcases Bs b with h|rfl;rcases Bs h with h|rfl;exact h;exact e;exact d
def a4.swap{M:List (List ak)}(h:a4 K n w M){i j:Nat}(a:i<M.length)(c:j<M.length):a4 K n w (iR M i j):=λ r b=>h r (ap8 a c b)
def Au(rows:List (List ak))(top k:Nat):top<=eA rows top k:=Nat.le_add_right _ _
structure w2(K:b6)(n w h k:Nat)(st:List (List ak)×List Nat):Prop where
 len:st.1.length=h
 ql:a4 K (grow K st.2.length n) w st.1
 pl:st.2.length<=h
 lt:∀p∈st.2,p<k
 qX:st.2.Pairwise (·<·)
def an9{h k:Nat}{st:List (List ak)×List Nat}(H:w2 K n w h k st):w2 K n w h (k+1) (fq st k):=by
 unfold fq;simp only;split;.next d=>
   have q:st.2.length<st.1.length:=gN (Au _ _ _) d;have g:=H.ql.swap (i:=st.2.length) (j:=eA st.1 st.2.length k) q d;have o:=OR st.1 st.2.length (eA st.1 st.2.length k);have g1:=g.get (i:=st.2.length) (by rw[o];exact q);have g2:=Ox g1.2 (g1.2.get (i:=k));refine⟨by rw[List.length_mapIdx,kQ,o];exact H.len,?_,by rw[cy];simp;have:=H.len;omega,?_,?_⟩;rw[show(st.2++[k]).length=st.2.length+1 from am];intro r s;obtain⟨i,l,rfl⟩:=List.mem_mapIdx.1 s;rw[kQ]at l;rw[List.getElem_set];show _/\cU K (26*grow K st.2.length n+43*K.c+1) _;by_cases e:st.2.length=i;have u:(i !=st.2.length)=false:=by rw[e];exact bne_self_eq_false i
   rw[u,if_pos e];exact⟨(aL ..).trans g1.1,g2.mono ac⟩;rw[if_neg e];have f:=g _ (bo l);split;refine⟨?_,(aki f.2 g2 f.2.get).mono ac⟩;unfold hQ jc;rw[gY,aL,f.1,g1.1,Nat.min_self];exact⟨f.1,f.2.mono ac⟩;intro p d;rcases hJ.1 d with h|h;have:=H.lt p h;omega;rw[bU.1 h];omega;rw[List.pairwise_append];exact⟨H.qX,List.pairwise_singleton _ _,λ a t b hb=>by rw[bU.1 hb];exact H.lt a t⟩
 exact⟨H.len,H.ql,H.pl,λ p d=>by have:=H.lt p d;omega,H.qX⟩
def D2{h:Nat}{M:List (List ak)}(a:a4 K n w M)(e:M.length=h):∀k,w2 K n w h k ((aR k).foldl fq (M,[]))|0=>⟨e,a,dF _,λ p b=>(ct b).elim,List.Pairwise.nil⟩|k+1=>by rw[List.range_succ,List.foldl_append];exact an9 (D2 a e k)
def ir{M:List (List ak)}(a:a4 K n w M):w2 K n w M.length (c8 M) (bc M):=D2 a rfl _
def eD{M:List (List ak)}(a:a4 K n w M)(h:M≠[]):c8 M=w:=by cases M with|nil=>exact absurd rfl h|cons r M=>exact(a r cg).1
def aeA:c8 []=0:=rfl
def acL{l:List Nat}{k:Nat}(h:l.Pairwise (·<·))(a:∀p∈l,p<k):l.length<=k:=by have c:l.Nodup:=h.imp λ h=>Nat.ne_of_lt h;have:=aF.po (S:=aR k) c λ x b=>cb.2 (a x b);rwa[cR]at this
def w2.le{h k:Nat}{st:List (List ak)×List Nat}(H:w2 K n w h k st):st.2.length<=k:=acL H.qX H.lt
def c4(n:Nat)(i:Option Nat):List ak:=(aR n).map λ k=>if some k=i then ak.rat 1 else ak.rat 0
def jE(n:Nat)(i:Option Nat):(c4 n i).length=n:=by unfold c4;rw[aL,cR]
def A3(w:Nat)(i:Option Nat):cU K n (c4 w i):=λ x a=>by obtain⟨k,_,rfl⟩:=bd.1 a;split;exact ak.G.one;exact ak.G.zero
def dt(n:Nat):List (List ak):=(aR n).map λ i=>c4 n (some i)
def oy(w:Nat):a4 K n w (dt w):=λ r a=>by obtain⟨k,_,rfl⟩:=bd.1 a;exact⟨jE _ _,A3 _ _⟩
def mO(w:Nat):(dt w).length=w:=by unfold dt;rw[aL,cR]
def cU.set{l:List ak}{x:ak}{i:Nat}(h:cU K n l)(b:x.G K n):cU K n (l.set i x):=λ y a=>by rcases Bs a with h1|rfl;exact h y h1;exact b
def a4.at{M:List (List ak)}(h:a4 K n w M){i k:Nat}:((M.getD i []).getD k (ak.rat 0)).G K n:=by by_cases a:i<M.length;exact(h.get a).2.get;rw[dE (l:=M),yI ac];exact ak.G.zero
noncomputable def jB(f:Nat->ak):List Nat->Nat->List ak->List ak|[],_,x=>x|p::l,i,x=>jB f l (i+1) (x.set p (f i))
def AA{f:Nat->ak}(a:∀i,(f i).G K n):∀(l:List Nat)(i:Nat){x:List ak},cU K n x->(jB f l i x).length=x.length/\cU K n (jB f l i x)|[],_,x,h=>⟨rfl,h⟩|p::l,i,x,h=>by have:=AA a l (i+1) (x:=x.set p (f i)) (h.set (a i));rw[kQ]at this;exact this
noncomputable def oC(M:List (List ak)):List (List ak):=((aR (c8 M)).filter λ k=>!(bc M).2.contains k).map λ k=>jB (λ i=>(((bc M).1.getD i []).getD k (ak.rat 0)).neg) (bc M).2 0 (c4 (c8 M) (some k))
def UU{M:List (List ak)}(a:a4 K n w M){j:Nat}(b:(bc M).2.length<=j):a4 K (grow K j n) (c8 M) (oC M):=λ r c=>by obtain⟨k,_,rfl⟩:=bd.1 c;have H:=ir a;have:=AA (K:=K) (n:=grow K j n) (f:=λ i=>(((bc M).1.getD i []).getD k (ak.rat 0)).neg) (λ i=>((H.ql.mono (ot b)).at).neg) (bc M).2 0 (A3 (c8 M) (some k));rw[jE]at this;exact this
def bX(A B:List (List ak)):List (List ak):=List.zipWith (·++·) A B
def np{A B:List (List ak)}{v:Nat}(c:a4 K n w A)(d:a4 K n v B):a4 K n (w+v) (bX A B):=λ r a=>by unfold bX at a;obtain⟨i,f,rfl⟩:=fy.1 a;have g:=f;rw[gY]at g;rw[uO];have h1:=c _ (bo (ac:i<A.length));have b:=d _ (bo (ac:i<B.length));exact⟨by rw[cy,h1.1,b.1],λ x e=>(hJ.1 e).elim (h1.2 x) (b.2 x)⟩
noncomputable def nM(M:List (List ak))(b:List ak):Option (List ak):=let R:=bc (bX M (b.map λ x=>[x]));if R.2.contains (c8 M)then none else some (jB (λ i=>(R.1.getD i []).getD (c8 M) (ak.rat 0)) R.2 0 (c4 (c8 M) none))
def Yo{M:List (List ak)}{b:List ak}(c:a4 K n w M)(hb:cU K n b){j:Nat}(d:w+1<=j){x:List ak}(e:nM M b=some x):x.length=c8 M/\cU K (grow K j n) x:=by
 unfold nM at e;simp only at e;split at e;cases e;cases e;have g:a4 K n 1 (b.map λ x=>[x]):=λ r l=>by obtain⟨x,k,rfl⟩:=bd.1 l;exact⟨rfl,λ y h=>by rw[bU.1 h];exact hb x k⟩
 have a:=np c g;have H:=ir a;have h1:(bc (bX M (b.map λ x=>[x]))).2.length<=j:=by refine bx H.le ?_;by_cases e:bX M (b.map λ x=>[x])=[];rw[e,aeA];exact dF _;rw[eD a e];exact d
 have:=AA (K:=K) (n:=grow K j n) (f:=λ i=>((bc (bX M (b.map λ x=>[x]))).1.getD i []).getD (c8 M) (ak.rat 0)) (λ i=>(H.ql.mono (ot h1)).at) (bc (bX M (b.map λ x=>[x]))).2 0 (A3 (c8 M) none);rw[jE]at this;exact this
noncomputable def lA(M:List (List ak)):List (List ak):=(bc (bX M (dt M.length))).1.map λ r=>r.drop M.length
def MM{M:List (List ak)}(c:a4 K n w M){j:Nat}(h:M.length<=j):(lA M).length=M.length/\a4 K (grow K j n) w (lA M):=by
 have d:=np c (oy (K:=K) (n:=n) M.length);have b:(bX M (dt M.length)).length=M.length:=by unfold bX;rw[gY,mO,Nat.min_self]
 have H:=ir d;have h1:=H.pl;rw[b]at h1;refine⟨by unfold lA;rw[aL,H.len,b],λ r g=>?_⟩;obtain⟨x,f,rfl⟩:=bd.1 g;have a:=H.ql x f;exact⟨by rw[List.length_drop,a.1];omega,λ y e=>((a.2 y (List.mem_of_mem_drop e)).mono (ot (bx h1 h)))⟩
noncomputable def bS(M:List (List ak))(ord:List Nat):List Nat:=ord.foldl (λ c k=>let l:=(c++[k]).map λ i=>M.getD i [];if(bc l).2.length=l.length then c++[k]else c) []
def a4.sub{M:List (List ak)}(a:a4 K n w M){c:List Nat}(hc:∀i∈c,i<M.length):a4 K n w (c.map λ i=>M.getD i []):=λ r b=>by obtain⟨i,d,rfl⟩:=bd.1 b;exact a.get (hc i d)
def NV{M:List (List ak)}(b:a4 K n w M):∀(ord c:List Nat),(∀k∈ord,k<M.length)->(∀k∈c,k<M.length)->c.length<=w->(∀k∈ord.foldl (λ c k=>let l:=(c++[k]).map λ i=>M.getD i [];if(bc l).2.length=l.length then c++[k]else c) c,k<M.length)/\(ord.foldl (λ c k=>let l:=(c++[k]).map λ i=>M.getD i [];if(bc l).2.length=l.length then c++[k]else c) c).length<=w
 |[],c,_,hc,d=>⟨hc,d⟩|k::ord,c,ho,hc,d=>by
   rw[qN];simp only;split;.next e=>
     have h1:∀i∈c++[k],i<M.length:=λ i a=>(hJ.1 a).elim (hc i) λ h=>by rw[bU.1 h];exact ho k cg
     have f:=b.sub h1;have H:=(ir f).le;rw[eD f am,e,aL]at H;exact NV b ord _ (λ i a=>ho i (cX _ a)) h1 H
   exact NV b ord c (λ i a=>ho i (cX _ a)) hc d
def lI{M:List (List ak)}(a:a4 K n w M){ord:List Nat}(ho:∀k∈ord,k<M.length):(∀k∈bS M ord,k<M.length)/\(bS M ord).length<=w:=NV a ord [] ho (λ k b=>by cases b) (dF _)
def jr(M:List (List ak))(k:Nat):List ak:=M.map λ r=>r.getD k (ak.rat 0)
def cB(M:List (List ak)):List (List ak):=(aR (c8 M)).map (jr M)
def aeC{M:List (List ak)}(a:a4 K n w M)(k:Nat):cU K n (jr M k):=λ x b=>by obtain⟨r,c,rfl⟩:=bd.1 b;exact(a r c).2.get
def nR{M:List (List ak)}(a:a4 K n w M):a4 K n M.length (cB M):=λ r b=>by obtain⟨k,_,rfl⟩:=bd.1 b;exact⟨aL ..,aeC a k⟩
def qx(M:List (List ak)):(cB M).length=c8 M:=by unfold cB;rw[aL,cR]
def Iq(M:List (List ak)):∀(ord c:List Nat),(ord.foldl (λ c k=>let l:=(c++[k]).map λ i=>M.getD i [];if(bc l).2.length=l.length then c++[k]else c) c).length<=c.length+ord.length|[],c=>a2 _|k::ord,c=>by rw[qN];simp only;split;have:=Iq M ord (c++[k]);rw[cy,lT]at this;rw[fU];exact bx this ac;exact bx (Iq M ord c) (by rw[fU];omega)
def oY(K:b6)(n:Nat)(M:List (List ak)):Prop:=∀r∈M,cU K n r
def oY.mono{M:List (List ak)}(h:oY K n M)(k:n<=m):oY K m M:=λ r a=>(h r a).mono k
def a4.w6{M:List (List ak)}(h:a4 K n w M):oY K n M:=λ r a=>(h r a).2
structure ie where
 rows:List Int
 bE:List Int
 inv:List (List ak)ez:List (List ak)bh:List (List ak)
structure ie.G(K:b6)(n:Nat)(c:ie):Prop where
 inv:oY K n c.inv
 ez:oY K n c.ez
 bh:oY K n c.bh
def rQ(n:Nat):List (List ak):=dt n
def b5(a:List Nat)(r:List ak):List ak:=a.map λ k=>r.getD k (ak.rat 0)
def aE(M:List (List ak))(l:List Nat):List (List ak):=l.map λ i=>M.getD i []
noncomputable def gg(S:List (List ak))(b:List ak):List ak:=if S.isEmpty then []else(nM (cB S) b).getD []
noncomputable def gu(M:List (List ak))(a:Nat):ie:=let rows:=bS M (aR M.length);let ch:=aE M rows;let b:=if ch.isEmpty then []else(bc ch).2;⟨rows.map jj,b.map jj,lA (ch.map (b5 b)),((aR M.length).filter λ i=>!rows.contains i).map λ i=>gg ch (M.getD i []),if M.isEmpty then rQ a else oC M⟩
noncomputable def mg(M:List (List ak))(a first:Nat):ie:=if M.isEmpty then gu M a else let p:=bS M ((aR M.length).map λ i=>(first%M.length+i)%M.length);let rows:=(aR M.length).filter λ i=>p.contains i;let b:=aE M rows;let c:=gu b a;⟨rows.map jj,c.bE,c.inv,((aR M.length).filter λ i=>!rows.contains i).map λ i=>gg b (M.getD i []),c.bh⟩
def cU.nil:cU K n []:=λ x a=>(ct a).elim
def Gl{r:List ak}(h:cU K n r)(a:List Nat):(b5 a r).length=a.length/\cU K n (b5 a r):=⟨aL ..,λ x b=>by obtain⟨k,_,rfl⟩:=bd.1 b;exact h.get⟩
def vI{ch:List (List ak)}(hc:a4 K n w ch)(a:List Nat):a4 K n a.length (ch.map (b5 a)):=λ r c=>by obtain⟨x,b,rfl⟩:=bd.1 c;exact Gl (hc x b).2 _
noncomputable def XN(a b:List ak):az:=(wx a b).foldl (λ s p=>s+p.1.2.val*p.2.2.val) 0
noncomputable def dV(a b:List ak):ak:=(wx a b).foldl (λ s p=>if p.1.bM||p.2.bM then s else s.add (p.1.mul p.2)) (ak.rat 0)
def aeY:∀(l:List (ak×ak)),(∀p∈l,p.1.2.bJ/\p.2.2.bJ)->∀{s:ak},s.2.bJ->(l.foldl (λ s p=>s.add (p.1.mul p.2)) s).2.val=l.foldl (λ s p=>s+p.1.2.val*p.2.2.val) s.2.val|[],_,s,_=>rfl|p::l,h,s,b=>by have h1:=h p cg;have a:=aC.H0 h1.1 h1.2;rw[qN,qN,aeY l (λ q c=>h q (cX _ c)) (s:=s.add (p.1.mul p.2)) (aC.Ra b a)];rw[show(s.add (p.1.mul p.2)).2.val=s.2.val+p.1.2.val*p.2.2.val from(aC.K2 b a).trans (by rw[aC.Dl h1.1 h1.2])]
def DR:∀(l:List (ak×ak)),(∀p∈l,p.1.2.bJ/\p.2.2.bJ)->∀{s:ak},s.2.bJ->(l.foldl (λ s p=>if p.1.bM||p.2.bM then s else s.add (p.1.mul p.2)) s).2.val=l.foldl (λ s p=>s+p.1.2.val*p.2.2.val) s.2.val
 |[],_,s,_=>rfl|p::l,h,s,a=>by
   have h1:=h p cg;have c:=aC.H0 h1.1 h1.2;rw[qN,qN];split;.next e=>
     have d:p.1.2.val*p.2.2.val=0:=by rcases Bool.or_eq_true_iff.1 e with e|e;rw[ak.qe.1 e];grind;rw[ak.qe.1 e];grind
     rw[DR l (λ q b=>h q (cX _ b)) a,d,show s.2.val+0=s.2.val from ap]
   rw[DR l (λ q b=>h q (cX _ b)) (s:=s.add (p.1.mul p.2)) (aC.Ra a c)];rw[show(s.add (p.1.mul p.2)).2.val=s.2.val+p.1.2.val*p.2.2.val from(aC.K2 a c).trans (by rw[aC.Dl h1.1 h1.2])]
def Ob:(ak.rat 0).2.bJ:=trivial
def amX{a b:List ak}(d:cU K n a)(hb:cU K m b):(dV a b).2.val=XN a b:=DR _ (λ p c=>⟨(d _ (Kd c).1).red,(hb _ (Kd c).2).red⟩) Ob
def N5{n m:Nat}:∀(l:List (ak×ak)),(∀p∈l,p.1.G K n/\p.2.G K m)->∀{s:ak}{t:Nat},s.G K t->(l.foldl (λ s p=>if p.1.bM||p.2.bM then s else s.add (p.1.mul p.2)) s).G K (t+l.length*(n+m+K.c+1))|[],_,s,t,a=>a.mono am|p::l,h,s,t,a=>by have h1:=h p cg;rw[qN];split;refine(N5 l (λ q b=>h q (cX _ b)) a).mono ?_;rw[fU,Nat.succ_mul];omega;have d:=a.add (h1.1.mul h1.2);refine(N5 l (λ q b=>h q (cX _ b)) d).mono ?_;rw[fU,Nat.succ_mul];omega
def DN{a b:List ak}(e:cU K n a)(hb:cU K m b):(dV a b).G K (a.length*(n+m+K.c+1)):=by have:=N5 (K:=K) (n:=n) (m:=m) (wx a b) (λ p d=>⟨e _ (Kd d).1,hb _ (Kd d).2⟩) (ak.G.zero (K:=K) (n:=0));refine this.mono ?_;rw[cI,List.length_zip];exact cr _ (Nat.min_le_left _ _)
end
end Go.aA
namespace Go.aA.Src
def none(n:Nat):Src where S:=[];n:=n;H _:=aF.nil;x _:=ae.rat 0 0;nodup:=gA;len:=dF _;red _ h:=(ew _ h).elim;sub _ h:=(ew _ h).elim;val _ h:=(ew _ h).elim;ms _ h:=(ew _ h).elim;pos _ h:=(ct h).elim
section
variable{Q:Src}
def alf:Q.ok aF.nil:=⟨trivial,λ ρ h=>(ct h).elim⟩
def nE(Q:Src)(a:aC)(i:Nat):aC:=if i<Q.S.length then⟨Q.H i,Q.x i⟩else a
def Ix{a:aC}{i:Nat}(h:i<Q.S.length):Q.nE a i=⟨Q.H i,Q.x i⟩:=if_pos h
def Iw{a:aC}{i:Nat}(h:¬i<Q.S.length):Q.nE a i=a:=if_neg h
noncomputable def push(Q:Src)(a:aC)(h:Q.ok a.T)(d:ae.ms a.a Q.n)(k:0<a.val)(g:a.val∉Q.S)(l:Q.S.length<3):Src where
 S:=Q.S++[a.val];n:=Q.n;H i:=(Q.nE a i).T;x i:=(Q.nE a i).a;nodup:=List.nodup_append.2 ⟨Q.nodup,h5.2 ⟨ct,gA⟩,λ x j y f e=>g (by rw[bU.1 f]at e;rwa[e]at j)⟩;len:=by rw[cy,lT];omega
 red i c:=by by_cases h1:i<Q.S.length;rw[Ix h1];exact Q.red i h1;rw[Iw h1];exact h.1
 sub i c ρ b:=by by_cases h1:i<Q.S.length;rw[Ix h1]at b;rw[E4 ac];exact Q.sub i h1 ρ b;rw[Iw h1]at b;rw[cy,lT]at c;rw[show i=Q.S.length from ac,E4 (a2 _),gl];exact h.2 ρ b
 val i c:=by by_cases h1:i<Q.S.length;rw[List.getElem_append_left h1];have:=Q.val i h1;rw[Ix h1];exact this;rw[cy,lT]at c;rw[List.getElem_append_right ac,Iw h1];simp only[show i-Q.S.length=0 from ac];rfl
 ms i c:=by by_cases h1:i<Q.S.length;rw[Ix h1];exact Q.ms i h1;rw[Iw h1];exact d
 pos ρ b:=(hJ.1 b).elim (Q.pos ρ) λ h=>by rw[bU.1 h];exact k
def root(a:aC)(h:Q.ok a.T)(k:ae.ms a.a Q.n)(i:0<a.val)(j:Q.S.length<3):∃Q':Src,Q'.n=Q.n/\Q'.S.length<=Q.S.length+1/\(∀T,Q.ok T->Q'.ok T)/\Q'.ok (a.T.gT a.a):=by by_cases c:a.T.In (az.rt (ae.val a.T.2 a.a));exact⟨Q,rfl,Qh _,λ _ h=>h,by unfold aF.gT;rw[if_pos c];exact h⟩;have d:(a.T.push a.a).bJ:=aF.IB h.1 i c;by_cases g:a.val∈Q.S;refine⟨Q,rfl,Qh _,λ _ h=>h,?_⟩;unfold aF.gT;rw[if_neg c];refine⟨d,λ ρ b=>?_⟩;rcases cp.1 b with e|h1;rw[e];exact g;exact h.2 ρ h1;refine⟨Q.push a h k i g j,rfl,?_,λ T f=>⟨f.1,λ ρ b=>tl _ (f.2 ρ b)⟩,?_⟩;show(Q.S++[a.val]).length<=_;rw[cy];exact a2 _;unfold aF.gT;rw[if_neg c];refine⟨d,λ ρ b=>?_⟩;rcases cp.1 b with e|h1;exact Bp _ (bU.2 e);exact tl _ (h.2 ρ h1)
end
end Go.aA.Src
namespace Go.aA.ae
def drop:(h i:Nat)->ae (h+1)->ae h|0,_,a=>a.1|h+1,i,a=>if i=h+1 then a.1 else(drop h i a.1,drop h i a.2)
def free:(h i:Nat)->ae h->Prop|0,_,_=>True|h+1,i,a=>if i=h then a.2=rat h 0 else free h i a.1/\free h i a.2
def vm{h i:Nat}(e:i=h+1)(a:ae (h+2)):drop (h+1) i a=a.1:=if_pos e
def vl{h i:Nat}(e:¬i=h+1)(a:ae (h+2)):drop (h+1) i a=((drop h i a.1,drop h i a.2):ae (h+1)):=if_neg e
def CA{h i:Nat}(e:i=h)(a:ae (h+1)):free (h+1) i a=(a.2=rat h 0):=if_pos e
def L5{h i:Nat}(e:¬i=h)(a:ae (h+1)):free (h+1) i a=(free h i a.1/\free h i a.2):=if_neg e
def LD:∀(h i:Nat),i<=h->∀b:ae h,∃a:ae (h+1),free (h+1) i a/\drop h i a=b|0,i,c,b=>⟨((b,rat 0 0):ae 1),(CA (h:=0) (i:=i) (a:=((b,rat 0 0):ae 1)) (Nat.le_zero.1 c)).mpr rfl,rfl⟩|h+1,i,c,b=>by by_cases e:i=h+1;exact⟨((b,rat (h+1) 0):ae (h+2)),(CA e ((b,rat (h+1) 0):ae (h+2))).mpr rfl,vm e ((b,rat (h+1) 0):ae (h+2))⟩;have⟨x,f,g⟩:=LD h i ac b.1;have⟨y,d,j⟩:=LD h i ac b.2;exact⟨((x,y):ae (h+2)),(L5 e ((x,y):ae (h+2))).mpr ⟨f,d⟩,(vl e ((x,y):ae (h+2))).trans (na g j)⟩
def LC:∀(h i:Nat)(a:ae (h+1)),∀q∈flat (drop h i a),q∈flat a|0,i,a,q,b=>tl _ b|h+1,i,a,q,b=>by by_cases e:i=h+1;rw[vm e]at b;exact tl _ b;rw[vl e]at b;exact(hJ.1 b).elim (λ h1=>tl _ (LC h i a.1 q h1)) (λ h1=>Bp _ (LC h i a.2 q h1))
end Go.aA.ae
namespace Go.aA.aI
def drop:(h i:Nat)->aI (h+1)->aI h|0,_,_=>()|h+1,i,t=>if i=h+1 then t.1 else(drop h i t.1,ae.drop h i t.2)
def vm{h i:Nat}(e:i=h+1)(t:aI (h+2)):drop (h+1) i t=t.1:=if_pos e
def vl{h i:Nat}(e:¬i=h+1)(t:aI (h+2)):drop (h+1) i t=((drop h i t.1,ae.drop h i t.2):aI (h+1)):=if_neg e
def free:(h i:Nat)->aI h->Prop|0,_,_=>True|h+1,i,t=>i=h\/(free h i t.1/\ae.free h i t.2)
end Go.aA.aI
namespace Go.aA
def ae.xj:∀(h i:Nat),i<=h->∀(t:aI (h+1)),aI.free (h+1) i t->∀a:ae (h+1),ae.free (h+1) i a->ae.val (aI.drop h i t) (ae.drop h i a)=ae.val t a|0,i,g,t,f,a,c=>by have e:i=0:=ac;rw[ae.CA e]at c;show ae.val t.1 a.1=ae.val t.1 a.1+ae.val t.1 a.2*az.rt _;rw[c,ae.val_zero];grind|h+1,i,g,t,f,a,c=>by by_cases e:i=h+1;rw[ae.CA e]at c;rw[ae.vm e,aI.vm e];show _=ae.val t.1 a.1+ae.val t.1 a.2*az.rt _;rw[c,ae.val_zero];grind;rw[ae.L5 e]at c;rw[ae.vl e,aI.vl e];have b:=f.resolve_left e;have d:i<=h:=ac;show ae.val (aI.drop h i t.1) (ae.drop h i a.1)+ae.val (aI.drop h i t.1) (ae.drop h i a.2)*az.rt (ae.val (aI.drop h i t.1) (ae.drop h i t.2))=_;rw[ae.xj h i d t.1 b.1 _ c.1,ae.xj h i d t.1 b.1 _ c.2,ae.xj h i d t.1 b.1 _ b.2];rfl
def aI.Sz:∀(h i:Nat),i<=h->∀(t:aI (h+1)),aI.free (h+1) i t->t.bJ->(aI.drop h i t).bJ|0,_,_,_,_,_=>trivial|h+1,i,o,t,n,j=>by by_cases e:i=h+1;rw[vm e];exact j.1;rw[vl e];have c:=n.resolve_left e;have b:i<=h:=ac;have k:=ae.xj h i b t.1 c.1 _ c.2;refine⟨aI.Sz h i b t.1 c.1 j.1,?_,λ w hw=>?_⟩;show 0<ae.val (aI.drop h i t.1) (ae.drop h i t.2);rw[k];exact j.2.1;obtain⟨a,l,rfl⟩:=ae.LD h i b w;have m:=ae.xj h i b t.1 c.1 a l;have g:ae.val (aI.drop h i t.1) (ae.drop h i a)*ae.val (aI.drop h i t.1) (ae.drop h i a)=ae.val (aI.drop h i t.1) (ae.drop h i t.2):=hw;rw[m,k]at g;exact j.2.2 a g
def aI.SA:∀(h i:Nat),i<=h->∀(t:aI (h+1)),aI.free (h+1) i t->∀v∈(aI.drop h i t).vals,v∈t.vals|0,_,_,_,_,_,hv=>(ct hv).elim|h+1,i,k,t,g,v,hv=>by by_cases e:i=h+1;rw[vm e]at hv;exact cX _ hv;rw[vl e]at hv;have a:=g.resolve_left e;have d:i<=h:=ac;have f:=ae.xj h i d t.1 a.1 _ a.2;rcases cp.1 hv with j|h1;rw[j,f];exact cg;exact cX _ (aI.SA h i d t.1 a.1 v h1)
end Go.aA
namespace Go.aA.aC
def vk(i:Nat):aC->aC|⟨⟨0,t⟩,a⟩=>⟨⟨0,t⟩,a⟩|⟨⟨h+1,t⟩,a⟩=>⟨⟨h,aI.drop h i t⟩,ae.drop h i a⟩
def Cz(i:Nat)(n:aC):Prop:=i<n.T.1/\aI.free n.T.1 i n.T.2/\ae.free n.T.1 i n.a
def ae1{Q:Src}{i:Nat}:∀{n:aC},n.Cz i->Q.ok n.T->Q.ok (n.vk i).T/\(n.vk i).val=n.val/\∀q∈ae.flat (n.vk i).a,q∈ae.flat n.a|⟨⟨0,t⟩,a⟩,h,_=>(ew _ h.1).elim|⟨⟨h+1,t⟩,a⟩,b,d=>by have c:i<=h:=abg b.1;exact⟨⟨aI.Sz h i c t b.2.1 d.1,λ ρ e=>d.2 ρ (aI.SA h i c t b.2.1 ρ e)⟩,ae.xj h i c t b.2.1 a b.2.2,ae.LC h i a⟩
open Classical in noncomputable def qy:Nat->aC->aC|0,n=>n|i+1,n=>qy i (if n.Cz i then n.vk i else n)
noncomputable def trim(n:aC):aC:=qy n.T.1 n
def Pe{Q:Src}:∀(i:Nat){n:aC},Q.ok n.T->Q.ok (qy i n).T/\(qy i n).val=n.val/\∀q∈ae.flat (qy i n).a,q∈ae.flat n.a|0,n,h=>⟨h,rfl,λ _ h=>h⟩|i+1,n,h=>by by_cases e:n.Cz i;have c:qy (i+1) n=qy i (n.vk i):=congrArg (qy i) (@if_pos _ (yH _) e _ _ _);have⟨h1,d,k⟩:=ae1 e h;have⟨l,g,j⟩:=Pe i h1;rw[c];exact⟨l,g.trans d,λ q f=>k q (j q f)⟩;have c:qy (i+1) n=qy i n:=congrArg (qy i) (@if_neg _ (yH _) e _ _ _);rw[c];exact Pe i h
def Zg{Q:Src}{n:aC}(h:Q.ok n.T):Q.ok n.trim.T/\n.trim.val=n.val/\∀q∈ae.flat n.trim.a,q∈ae.flat n.a:=Pe _ h
end Go.aA.aC
namespace Go.aA
def ae.Nw:∀{h:Nat}(a:ae h),ae.flat (ae.neg a)=(ae.flat a).map λ q=>-q|0,a=>rfl|h+1,a=>by show ae.flat (ae.neg a.1)++ae.flat (ae.neg a.2)=(ae.flat a.1++ae.flat a.2).map _;rw[ae.Nw,ae.Nw,List.map_append]
def u5(q:Rat):Prop:=q.num.natAbs<2^64/\q.den<2^64
def u5.neg{q:Rat}(h:u5 q):u5 (-q):=⟨by show(-q.num).natAbs<_;rw[Int.natAbs_neg];exact h.1,h.2⟩
end Go.aA
namespace Go.aA.aC
def short(n:aC):Prop:=(∀q∈ae.flat n.a,u5 q)/\∀r∈n.T.2.ay,∀q∈r,u5 q
def s6(n:aC):Prop:=∀q∈ae.flat n.a,u5 q
noncomputable def sqrt(a:aC):aC:=aC.of (a.T.gT a.a) (az.rt a.val)
end Go.aA.aC
namespace Go.aA
structure fI where
 kind:Nat
 a:Nat
 b:Nat
 n:Int
 d:Nat
open Classical in noncomputable def iL(l:List aC)(roots:Nat)(o:fI):aC×Nat:=if l=[]\/o.kind%6=0 then(aC.rat (mkRat o.n (o.d%8+1)),roots)else let a:=l.getD (o.a%l.length) (aC.rat 0);let b:=l.getD (o.b%l.length) (aC.rat 0);if o.kind%6=1 then(a.add b,roots)else if o.kind%6=2 then(a.sub b,roots)else if o.kind%6=3 then(a.mul b,roots)else if o.kind%6=4 then(if b.val=0 then a else a.div b,roots)else if roots<3 then((if a.val<0 then a.neg else a).sqrt,roots+1)else(a,roots)
open Classical in noncomputable def nN(st:List aC×Nat)(o:fI):List aC×Nat:=let x:=iL st.1 st.2 o;(st.1++[(if st.1≠[]/\¬x.1.short then st.1.getLastD (aC.rat 0)else x.1).trim],x.2)
noncomputable def xc(r:List fI):List aC:=((r.take 24).foldl nN ([],0)).1
def n8(Q:Src)(l:List aC):Prop:=Q.n=256/\∀a∈l,Q.ok a.T/\a.s6
def Uj{Q:Src}{T:aF}(h:Q.ok T):T.1<=Q.S.length:=by have:=aF.po (aF.ti h.1) h.2;rwa[aF.yk]at this
def aC.s6.ms{a:aC}(h:a.s6){k:Nat}(c:a.T.1<=k):ae.ms a.a (2^k*64):=ae.kj (ae.Nj (n:=64) λ q b=>⟨Nat.le_of_lt (h q b).1,Nat.le_of_lt (h q b).2⟩) (cr _ (dR al c))
def apV{Q:Src}{a:aC}(h:Q.ok a.T)(j:a.s6)(b:Q.n=256)(c:Q.S.length<3)(l:0<=a.val):∃Q':Src,Q'.n=256/\Q'.S.length<=Q.S.length+1/\(∀T,Q.ok T->Q'.ok T)/\Q'.ok a.sqrt.T:=by
 by_cases e:a.val=0;have h1:a.T.In (az.rt (ae.val a.T.2 a.a)):=by
   have d:ae.val a.T.2 a.a=0:=e;have i:az.rt (0:az)=0:=by have:=az.lL (x:=(0:az)) ap;rcases az.ry this with h|h<;>exact h
   rw[d,i];exact aF.In.rat a.T 0
 refine⟨Q,b,Qh _,λ _ h=>h,?_⟩;show Q.ok (a.T.gT a.a);unfold aF.gT;rw[if_pos h1];exact h;have⟨Q',h1,k,g,f⟩:=Src.root a h (ae.kj (j.ms (bx (Uj h) (abg c))) (by rw[b];decide)) ap c;exact⟨Q',h1.trans b,k,g,f⟩
def Xq{Q:Src}{o:fI}(a:o.n.natAbs<=128):Q.ok (aC.rat (mkRat o.n (o.d%8+1))).T/\(aC.rat (mkRat o.n (o.d%8+1))).s6:=by
 refine⟨Src.alf,λ q b=>?_⟩;rw[bU.1 b];have h1:(mkRat o.n (o.d%8+1)).num.natAbs<=o.n.natAbs:=by rw[Rat.num_mkRat];split;exact dF _;exact Int.natAbs_ediv_le_natAbs _ _
 have c:(mkRat o.n (o.d%8+1)).den<=o.d%8+1:=by rw[Rat.den_mkRat];split;omega;exact Nat.div_le_self _ _
 have:=bG o.d (al:8>0);exact⟨gN (bx h1 a) al,gN c (gN (Nat.succ_le_of_lt (Nat.lt_succ_of_lt this)) al)⟩
def RJ{Q:Src}{l:List aC}{roots:Nat}{o:fI}(H:n8 Q l)(g:Q.S.length<=roots)(h:roots<=3)(r:o.n.natAbs<=128):∃Q':Src,n8 Q' l/\Q'.S.length<=(iL l roots o).2/\(iL l roots o).2<=3/\Q'.ok (iL l roots o).1.T/\(l=[]->(iL l roots o).1.s6):=by
 have v:∀i,l≠[]->Q.ok (l.getD (i%l.length) (aC.rat 0)).T/\(l.getD (i%l.length) (aC.rat 0)).s6:=λ i d=>by have m:0<l.length:=fN.2 d;rw[dE,eu (bG _ m)];exact H.2 _ (bo _)
 unfold iL;split;exact⟨Q,H,g,h,(Xq r).1,λ _=>(Xq (Q:=Q) r).2⟩;next k=>
 have d:l≠[]:=λ e=>k (Or.inl e);have f:=v o.a d;have hb:=v o.b d;simp only;generalize l.getD (o.a%l.length) (aC.rat 0)=a at*;generalize l.getD (o.b%l.length) (aC.rat 0)=b at*;have j:Q.ok (aC.join a b):=Src.Ie f.1 hb.1;split;exact⟨Q,H,g,h,j,λ e=>(d e).elim⟩;split;exact⟨Q,H,g,h,j,λ e=>(d e).elim⟩;split;exact⟨Q,H,g,h,j,λ e=>(d e).elim⟩;split;refine⟨Q,H,g,h,?_,λ e=>(d e).elim⟩;split;exact f.1;exact j;split;.next C=>
   have hc:∀c:aC,Q.ok c.T->c.s6->0<=c.val->∃Q':Src,n8 Q' l/\Q'.S.length<=roots+1/\roots+1<=3/\Q'.ok c.sqrt.T/\(l=[]->c.sqrt.s6):=λ c h1 y A=>by have⟨Q',q1,B,z,w⟩:=apV h1 y H.1 ac A;exact⟨Q',⟨q1,λ x t=>⟨z _ (H.2 x t).1,(H.2 x t).2⟩⟩,ac,ac,w,λ e=>(d e).elim⟩
   by_cases s:a.val<0;rw[if_pos s];refine hc a.neg f.1 (λ q u=>?_) (by rw[aC.Dn];grind);have e:ae.flat a.neg.a=(ae.flat a.a).map λ q=>-q:=ae.Nw a.a;rw[e]at u;obtain⟨p,m,rfl⟩:=bd.1 u;exact(f.2 p m).neg;rw[if_neg s];exact hc a f.1 f.2 ap
 exact⟨Q,H,g,h,f.1,λ e=>(d e).elim⟩
def YJ{st:List aC×Nat}{o:fI}(j:o.n.natAbs<=128)(H:∃Q,n8 Q st.1/\Q.S.length<=st.2/\st.2<=3):∃Q,n8 Q (nN st o).1/\Q.S.length<=(nN st o).2/\(nN st o).2<=3:=by
 have⟨Q,h1,t,m⟩:=H;have⟨Q',g,l,u,s,k⟩:=RJ h1 t m j;refine⟨Q',⟨g.1,λ a r=>?_⟩,l,u⟩;rcases hJ.1 r with h|h;exact g.2 a h;rw[bU.1 h];split;.next hc=>have i:=g.2 (st.1.getLastD (aC.rat 0)) (by rw[List.getLastD_eq_getLast?,List.getLast?_eq_some_getLast hc.1];exact List.getLast_mem _);have⟨f,_,d⟩:=aC.Zg i.1;exact⟨f,λ q c=>i.2 q (d q c)⟩
 next hc=>have⟨f,_,d⟩:=aC.Zg s;refine⟨f,λ q c=>?_⟩;by_cases e:st.1=[];exact k e q (d q c);exact(Classical.not_not.1 (λ p=>hc ⟨e,p⟩)).1 q (d q c)
def Rx{r:List fI}(f:∀o∈r,o.n.natAbs<=128):∃Q,n8 Q (xc r):=by
 have key:∀(r:List fI)(st:List aC×Nat),(∀o∈r,o.n.natAbs<=128)->(∃Q,n8 Q st.1/\Q.S.length<=st.2/\st.2<=3)->∃Q,n8 Q (r.foldl nN st).1/\Q.S.length<=(r.foldl nN st).2/\(r.foldl nN st).2<=3:=λ r=>by induction r with|nil=>exact λ st _ h=>h|cons o r d=>exact λ st b h=>d _ (λ p c=>b p (cX _ c)) (YJ (b o cg) h)
 have⟨Q,h,_⟩:=key (r.take 24) ([],0) (λ o ho=>f o (gZ ho)) ⟨Src.none 256,⟨rfl,λ a e=>(ct e).elim⟩,a2 _,dF _⟩;exact⟨Q,h⟩
def n8.G{Q:Src}{l:List aC}(h:n8 Q l){a:aC}(b:a∈l)(z:Bool):ak.G Q.ctx 512 (z,a):=Src.aie (h.2 a b).1 ((h.2 a b).2.ms (k:=3) (Src.xT (h.2 a b).1))
def s7{Q:Src}(h:Q.n=256):Q.ctx.c=1806:=by show 7*Q.n+14=_;rw[h]
def Eh{Q:Src}(h:Q.n=256):Q.ctx.C=15374539827:=by
 have b:Q.c1=258:=by show Q.n+2=_;rw[h]
 have d:Q.r1=15430:=by show ae.gH Q.c1 1 Q.n=_;rw[b,h];kernel_rfl
 have c:Q.e1=47323:=by show Q.n+3*(Q.r1+Q.c1+1)=_;rw[h,b,d]
 have a:Q.cc=331275:=by show 7*Q.e1+14=_;rw[c]
 have e:Q.s4=5124515333:=by show ae.gH Q.cc 2 Q.e1=_;rw[a,c];kernel_rfl
 show 3*(Q.s4+Q.cc+1)=_;rw[a,e]
def jU(M:List (List ak))(rows:List Nat)(k:Nat):List ak:=rows.map λ i=>(M.getD i []).getD k (ak.rat 0)
section
variable{K:b6}{n m w:Nat}{M:List (List ak)}
def Cj(a:a4 K n w M)(rows:List Nat)(k:Nat):cU K n (jU M rows k):=λ x b=>by obtain⟨i,_,rfl⟩:=bd.1 b;exact a.at
structure KX where
 which:Nat
 at_:Nat
 zi:Int
def XA(st:List (List ak)×List Nat)(k:Nat):fq st k=st\/(fq st k).2=st.2++[k]:=by unfold fq;simp only;split;exact Or.inr rfl;exact Or.inl rfl
def Ti:∀(a:List Nat)(st:List (List ak)×List Nat),(a.foldl fq st).2=[]->st.2=[]/\∀k∈a,fq st k=st|[],st,h=>⟨h,λ k d=>(ct d).elim⟩|k::a,st,h=>by have⟨h1,c⟩:=Ti a (fq st k) h;rcases XA st k with e|e;rw[e]at h1 c;refine⟨h1,λ j b=>?_⟩;rcases cp.1 b with rfl|b;exact e;exact c j b;rw[e]at h1;exact absurd h1 am
def aoa{M:List (List ak)}(h:(bc M).2=[]){r:List ak}(c:r∈M){k:Nat}(d:k<c8 M):(r.getD k (ak.rat 0)).bM=true:=by
 have h1:=(Ti (aR (c8 M)) (M,[]) h).2 k (cb.2 d);by_cases e:(r.getD k (ak.rat 0)).bM=true;exact e;exfalso;have b:eA M 0 k<M.length:=by unfold eA;rw[nY,cI];exact List.findIdx_lt_length_of_exists ⟨r,c,by rw[Bool.eq_false_iff.2 e];rfl⟩
 have a:(fq (M,[]) k).2=[k]:=by unfold fq;simp only;exact congrArg Qg (if_pos (show eA M ([]:List Nat).length k<M.length from b))
 rw[h1]at a;exact absurd a am
def XD{M:List (List ak)}{r:List ak}(b:r∈M){k:Nat}(a:k<c8 M)(e:(r.getD k (ak.rat 0)).bM=false):(bc M).2≠[]:=λ h=>by rw[aoa h b a]at e;exact absurd e al
def aob{M:List (List ak)}(h:∀r∈M,∀k,k<c8 M->(r.getD k (ak.rat 0)).bM=true):bc M=(M,[]):=by
 have key:∀a:List Nat,(∀k∈a,k<c8 M)->a.foldl fq (M,[])=(M,[]):=λ a=>by induction a with|nil=>exact λ _=>rfl|cons k a f=>
     intro b;have h1:fq (M,[]) k=(M,[]):=by
       have e:¬eA M 0 k<M.length:=by unfold eA;rw[nY,cI];intro c;have d:=List.findIdx_getElem (w:=c);simp only[Bool.not_eq_eq_eq_not,Bool.not_true]at d;rw[h _ (bo _) k (b k cg)]at d;exact absurd d al
       unfold fq;exact if_neg (show¬eA M ([]:List Nat).length k<M.length from e)
     rw[qN,h1];exact f λ j g=>b j (cX _ g)
 exact key _ λ k b=>cb.1 b
def B2(w:Nat)(r:List ak):Prop:=∃k,k<w/\(r.getD k (ak.rat 0)).bM=false
end
section
variable{K:b6}{n w:Nat}{M:List (List ak)}
def alM{r:List ak}(h:r.length=w)(i:cU K n r):(bc [r]).2.length=1↔B2 w r:=by
 have d:a4 K n w [r]:=λ q c=>by rw[bU.1 c];exact⟨h,i⟩
 have hc:c8 [r]=w:=eD d am;constructor;intro e;refine Classical.byContradiction λ g=>?_;rw[aob (M:=[r]) (λ q c k b=>by rw[bU.1 c];rw[hc]at b;cases f:(r.getD k (ak.rat 0)).bM with|true=>rfl|false=>exact(g ⟨k,b,f⟩).elim)]at e;exact absurd (show 0=1 from e) al;rintro⟨k,b,e⟩;have h1:=XD (M:=[r]) cg (by rw[hc];exact b) e;have m:=(ir d).pl;have l:[r].length=1:=rfl;have j:=fN.2 h1;omega
noncomputable abbrev ja(M:List (List ak)):List Nat->Nat->List Nat:=λ c k=>let l:=(c++[k]).map λ i=>M.getD i [];if(bc l).2.length=l.length then c++[k]else c
def Ip(M:List (List ak)):∀(ord c:List Nat),∀k∈c,k∈ord.foldl (ja M) c|[],c,k,a=>a|j::ord,c,k,a=>by rw[qN];refine Ip M ord _ k ?_;show k∈(if _ then _ else _);split;exact tl _ a;exact a
def NW(d:a4 K n w M):∀{ord:List Nat},(∀k∈ord,k<M.length)->(bS M ord≠[]↔∃k∈ord,B2 w (M.getD k []))/\(bS M ord≠[]->∃k∈bS M ord,B2 w (M.getD k []))
 |[],_=>⟨⟨λ h=>(h rfl).elim,λ⟨k,a,_⟩=>(ct a).elim⟩,λ h=>(h rfl).elim⟩|j::ord,ho=>by
   have g:=d.get (ho j cg);have h1:=alM g.1 g.2;have e:bS M (j::ord)=ord.foldl (ja M) (if(bc [M.getD j []]).2.length=1 then [j]else []):=rfl;by_cases b:(bc [M.getD j []]).2.length=1;rw[if_pos b]at e;have a:j∈bS M (j::ord):=by rw[e];exact Ip M ord [j] j cg
   exact⟨⟨λ _=>⟨j,cg,h1.1 b⟩,λ _ h=>by rw[h]at a;exact ct a⟩,λ _=>⟨j,a,h1.1 b⟩⟩;rw[if_neg b]at e;have l:bS M (j::ord)=bS M ord:=e;have⟨f,i⟩:=NW d (ord:=ord) λ k a=>ho k (cX _ a);rw[l];refine⟨⟨λ h=>?_,λ⟨k,a,c⟩=>?_⟩,i⟩;have⟨k,a,c⟩:=f.1 h;exact⟨k,cX _ a,c⟩;rcases cp.1 a with rfl|a;exact(b (h1.2 c)).elim;exact f.2 ⟨k,a,c⟩
def aed(f:a4 K n w M)(b:Nat){i:Nat}(p:i<M.length)(o:B2 w (M.getD i [])):(gu M b).bE≠[]:=by
 have g:∀k∈aR M.length,k<M.length:=λ k d=>cb.1 d;have⟨r,l⟩:=NW f g;have h1:=r.2 ⟨i,cb.2 p,o⟩;have⟨k,d,j,s,e⟩:=l h1;have q:a4 K n w (aE M (bS M (aR M.length))):=f.sub (lI f g).1;have a:M.getD k []∈aE M (bS M (aR M.length)):=wy d;have c:aE M (bS M (aR M.length))≠[]:=λ h=>by rw[h]at a;exact ct a
 have m:=XD a (k:=j) (by rw[eD q c];exact s) e;show((if(aE M (bS M (aR M.length))).isEmpty=true then([]:List Nat)else(bc (aE M (bS M (aR M.length)))).2)).map jj≠[];rw[if_neg (by rw[oU];exact c)];intro h;exact m (List.map_eq_nil_iff.1 h)
def al8(l:a4 K n w M)(a first:Nat)(h:(mg M a first).rows≠[]):(mg M a first).bE≠[]:=by
 unfold mg at h⊢;by_cases e:M.isEmpty=true;rw[if_pos e]at h;have q:M=[]:=oU.1 e;subst q;exact(h rfl).elim;rw[if_neg e]at h⊢;simp only at h⊢;generalize f:bS M ((aR M.length).map λ i=>(first%M.length+i)%M.length)=p at h⊢;have ho:∀k∈(aR M.length).map λ i=>(first%M.length+i)%M.length,k<M.length:=λ k c=>by obtain⟨i,b,rfl⟩:=bd.1 c;have:=cb.1 b;exact bG _ ac
 have g:p≠[]:=λ s=>h (by rw[s];simp);have⟨k,c,m⟩:=(NW l ho).2 (by rw[f];exact g);rw[f]at c;have j:=(lI l ho).1 k (by rw[f];exact c);have d:M.getD k []∈aE M ((aR M.length).filter λ i=>p.contains i):=wy (iU.2 ⟨cb.2 j,List.contains_iff_mem.2 c⟩);have⟨i,b,o⟩:=fy.1 d;refine aed (l.sub λ i b=>cb.1 (iU.1 b).1) a b ?_;have r:(aE M ((aR M.length).filter λ i=>p.contains i)).getD i []=M.getD k []:=by rw[dE,eu b,Option.getD_some,o]
 show B2 w ((aE M ((aR M.length).filter λ i=>p.contains i)).getD i []);rw[r];exact m
end
end Go.aA
