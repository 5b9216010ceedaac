/- For the claim of VerifierKernel: parts TV2, TV3, LP4, LP5, LP6, LP7, LP8, LPC, LPI, DG, DH, ZW0, ZW1, ZW2, DI, ZW3, ZW4, ZW5, ZW6, DJ, ZW7, ZW8, DK, ZW9, DL, ZWA, DM, ZWB. -/
import Derived.Test.YtpcofcmencgkbaaGreatC05
import Derived.Test.YtpcofcmencgkbaaGreatC04
import Derived.Test.YtpcofcmencgkbaaGreatC03
set_option linter.defProp false
set_option linter.unusedSectionVars false
set_option linter.unusedSimpArgs false
set_option linter.unusedVariables false
set_option maxRecDepth 100000
open Go.IntKind renaming i64->cO,u32->jc,u64->cY,wrap_i64->cU,wrap_u32->Ec,wrap_u64->h5
open Go.Proofs.Tryz renaming prog->ab
open Go.ay renaming Id->bt
open Go.ay.aa renaming one->jx
open Go.ay.cj renaming kV->eB
open Go.ay.ae renaming fo->dk,ju->ep
open Go.ay.fL renaming start->Js
open Go.ay.aD renaming fin->AJ,rR->Jv,s->a3
open Go.ay.aL renaming of->bU
open Go.ay.View renaming aH->ga,ai->nU,pure->fk
open Go.ay.dc renaming cons->bZ,pure->my
open Go.ay.gZ renaming view->vp
open Go.ay.fm renaming same->lM
open Int renaming toNat_natCast->nQ
open List renaming append_nil->pQ,drop_zero->sn,ext_getElem->ie,length_append->cP,length_map->aQ,length_nil->iM,length_range->dx,length_take->gV,lookup->hJ,lookup_cons->mr,map_congr_left->jR,mem_cons->ct,mem_cons_of_mem->cR,mem_cons_self->cp,mem_flatMap->kD,mem_map->bp,mem_singleton->cq,nil_append->qU,nil_sublist->na,nodup_cons->hZ,nodup_nil->gW,not_mem_nil->cS,replicate->bM,singleton_append->AG,take_of_length_le->kc
open List.Sublist renaming refl->AH
open Nat renaming add_assoc->lQ,add_comm->Pk,add_mul->eX,add_mul_div_left->nV,add_mul_mod_self_left->vu,add_right_comm->ZX,add_sub_cancel_left->su,add_zero->ij,div_add_mod->hE,div_div_eq_div_mul->kC,div_eq_of_lt->hh,div_le_self->h6,div_lt_iff_lt_mul->lK,div_lt_of_lt_mul->tO,div_one->oI,div_pos->Pj,gcd->cz,gcd_zero_right->Pl,le_add_right->nP,le_mul_of_pos_right->tI,le_of_lt->hH,le_of_not_lt->jT,le_refl->a2,le_sub_one_of_lt->ZW,le_trans->bx,lt_irrefl->nW,lt_of_le_of_lt->gA,lt_of_lt_of_le->gz,lt_or_gt_of_ne->Ju,lt_succ_self->nb,lt_trichotomy->tH,min_eq_left->tJ,mod_add_div->tP,mod_eq_of_lt->dX,mod_lt->bA,mod_one->tN,mul_add->dW,mul_assoc->fu,mul_comm->c9,mul_le_mul->jd,mul_le_mul_left->fK,mul_left_comm->oH,mul_lt_mul''->qV,mul_zero->jy,ne_of_gt->Ed,not_lt_zero->fv,pow_add->ic,pow_le_pow_right->dT,pow_succ->ea,pow_zero->kg,zero_add->cF,zero_le->dL,zero_mul->sv
open Ne renaming symm->fE
open Prod renaming ext->mz
set_option maxHeartbeats 4000000
open Go.ay Go.Proofs Go.Lib
namespace Go.ay
def h3{h:Nat}(a:h+1<=3):h=0\/h=1\/h=2:=ac
def h4{h:Nat}(a:h<=3):h=0\/h=1\/h=2\/h=3:=ac
end Go.ay
namespace Go.ay.ae
def pair{h:Nat}(a b:ae h):ae (h+1):=(a,b)
def bD{h:Nat}(a:ae h):Bool:=(flat a).all λ q:Rat=>decide (q=0)
def o9:∀{h:Nat}{a:ae h},bD a=true↔a=rat h 0
 |0,a=>by
   have b:∀q:Rat,(decide (q=0)&&true)=true↔q=0:=λ q=>by rw[Bool.and_true,decide_eq_true_iff]
   exact b a|h+1,a=>by show((flat a.1++flat a.2).all _)=true↔a=(rat h 0,rat h 0);rw[List.all_append,Bool.and_eq_true];exact(and_congr o9 o9).trans ⟨λ h=>mz h.1 h.2,λ h=>by rw[h];exact⟨rfl,rfl⟩⟩
def agJ{h:Nat}{t:aE h}(b:t.bw){a:ae h}:bD a=true↔val t a=0:=o9.trans ⟨λ e=>by rw[e,val_zero],(red b).1 a⟩
def Co(h:Nat)(n:Nat):ms (rat h 0) n:=uU h (dL _) (Nat.one_le_two_pow)
end Go.ay.ae
namespace Go.ay
def pj(c:Nat):Nat->Nat|0=>c|h+1=>pj c h+(c+c)
def th(c:Nat):∀{h:Nat},h<=3->pj c h<=7*c|0,_=>by show c<=_;omega|1,_=>by show c+(c+c)<=_;omega|2,_=>by show c+(c+c)+(c+c)<=_;omega|3,_=>by show c+(c+c)+(c+c)+(c+c)<=_;omega
def Um(c h:Nat):c<=pj c h:=by induction h with|zero=>exact a2 _|succ h a=>show c<=pj c h+(c+c);omega
def aE.c2(k:Nat):{h:Nat}->aE h->Prop|0,_=>True|_+1,t=>aE.c2 k t.1/\ae.c2 k t.2
def db.sh:∀{h:Nat}{t:aE h}{c:Nat},db t c->c<=4398046511104->aE.c2 419430400000 t|0,_,_,_,_=>trivial|_+1,_,_,H,hc=>⟨H.low.sh hc,ae.sh H.top hc⟩
def jG{h:Nat}(a:ae h):aG:=⟨(ae.flat a).map aW,4,false⟩
def alZ{ρ:Id->Id}(l:List Rat):br ρ (l.map aW)=l.map aW:=by rw[fS,List.map_map];exact jR λ x _=>bg.fix ρ
def ady{ρ:Id->Id}{h:Nat}{a:ae h}:(jG a).aU ρ=jG a:=by unfold jG;rw[qx,alZ]
def g8{ρ:Id->Id}{i:Id}{h:Nat}{a:ae h}:fh ρ [(i,jG a)]=[(ρ i,jG a)]:=by rw[qv,qw,ady]
def aos{σ:aL}{i:Id}{l:List Rat}{n:Nat}{t b:Bool}(h:σ i=some ⟨l.map aW,4,b⟩)(a:l.length=n):View σ (.ai i 4 0 n t) (ba l):=by
 subst a;refine nU (aq:=⟨l.map aW,4,b⟩) h rfl am ?_ am λ d hd=>?_;rw[sn,kc am];exact my λ c hc=>by simp only[flat,kD,bp]at hc;have⟨_,⟨x,_,rfl⟩,hc⟩:=hc;exact J5 x c hc
 obtain⟨x,_,rfl⟩:=bp.1 hd;rfl
def dS{σ:aL}{i:Id}{h:Nat}{a:ae h}{t:Bool}(e:σ i=some (jG a)):View σ (.ai i 4 0 (2^h) t) (aF a):=aos e (ae.rA a)
def g9{σ:aL}{i:Id}{R:List (List Rat)}{n:Nat}{t b:Bool}(h:σ i=some ⟨R.map ba,1,b⟩)(a:R.length=n):View σ (.ai i 1 0 n t) (aT R):=by
 subst a;refine nU (aq:=⟨R.map ba,1,b⟩) h rfl am ?_ am λ d hd=>?_;rw[sn,kc am];exact my λ c hc=>by simp only[flat,kD,bp]at hc;have⟨_,⟨x,_,rfl⟩,hc⟩:=hc;exact CU x c hc
 obtain⟨x,_,rfl⟩:=bp.1 hd;rfl
class dw(k:Nat)(l:List aa):Prop where all:∀c∈l,cT k c
instance{k:Nat}:dw k []:=⟨λ c h=>(cS h).elim⟩
instance{k:Nat}{c:aa}{l:List aa}[h:cT k c][g:dw k l]:dw k (c::l):=⟨λ d hd=>by rcases ct.1 hd with rfl|hd;exact h;exact g.all d hd⟩
instance{α:Type}{k:Nat}{f:α->aa}{l:List α}[h:∀x,cT k (f x)]:dw k (l.map f):=⟨λ d hd=>by obtain⟨x,_,rfl⟩:=bp.1 hd;exact h x⟩
instance{k:Nat}{l:List aa}[h:dw k l]:bg (.sl k l):=cT.list h.all
def gr{σ:aL}{i:Id}{l:List aa}{k n:Nat}{t b:Bool}[h:dw k l](e:σ i=some ⟨l,k,b⟩)(a:l.length=n:=by rfl):View σ (.ai i k 0 n t) (.sl k l):=by subst a;refine nU (aq:=⟨l,k,b⟩) e rfl am ?_ rfl λ d hd=>(h.all d hd).size;rw[sn,kc (a2 _)];exact my λ c hc=>by have⟨d,hd,hc⟩:=kD.1 hc;exact(h.all d hd).cells c hc
def one{σ:aL}{i:Id}{b:aG}(h:∀x∈[(i,b)],σ x.1=some x.2):σ i=some b:=h (i,b) cp
section
variable{P:Program}{G:Nat->Option (List aa)}
def cL{f:FuncId}{args:List aa}{r:Id->bG}(h:∀p,cj P G f args p [] (r p)):aR P G:=.rel f args [] r (λ p _=>h p) (λ p x a=>by cases a)
def jt{f:FuncId}{A:List aa}{r:aa}(i:Id)(k:Nat)(l:List aa)[dw k l][a:bq A](h:ag P G f (A++[.sl k l]) r):aR P G:=uI [(i,⟨l,k,false⟩)] (args:=A++[.ai i k 0 l.length false]) h (by
 have:∀A:List aa,(∀c∈A,cb c)->dc (bU [(i,(⟨l,k,false⟩:aG))]) (A++[.ai i k 0 l.length false]) (A++[.sl k l]):=λ A=>by induction A with|nil=>exact λ _=>bZ (gr (b:=false) (by simp[bU])) dc.nil|cons c A e=>exact λ a=>bZ (fk (a c cp)) (e λ d hd=>a d (cR _ hd))
 exact this A a.pure)
def S5{f:FuncId}{A B:List aa}{r:aa}(i:Id)(k:Nat)(l:List aa)[dw k l][a:bq A][e:bq B](h:ag P G f (A++.sl k l::B) r):aR P G:=uI [(i,⟨l,k,false⟩)] (args:=A++.ai i k 0 l.length false::B) h (by
 have:∀A:List aa,(∀c∈A,cb c)->dc (bU [(i,(⟨l,k,false⟩:aG))]) (A++.ai i k 0 l.length false::B) (A++.sl k l::B):=λ A=>by induction A with|nil=>exact λ _=>bZ (gr (b:=false) (by simp[bU])) (my e.pure)|cons c A g=>exact λ a=>bZ (fk (a c cp)) (g λ d hd=>a d (cR _ hd))
 exact this A a.pure)
def EW(P:Program)(G:Nat->Option (List aa))(f:FuncId)(args:List aa)(L:List (List Nat)){h:Nat}(a:ae h):Prop:=∃l,l∈L/\∀p,cj P G f args p [] {val:=.ai (l++p) 4 0 (2^h) false,rd:=[],up:=[(l++p,some (jG a))]}
def sJ{i:Id}{b:aG}:aL.app (λ _=>none) [(i,some b)] i=some b:=aL.uY (λ _=>none) i (some b)
def EW.fD{f:FuncId}{args:List aa}{L:List (List Nat)}{h:Nat}{a:ae h}(H:EW P G f args L a):ag P G f args (aF a):=by have⟨l,_,b⟩:=H;exact ag.xc (b []) (dS sJ)
def fR(c:Nat):Nat->Nat->Nat|0,n=>n|h+1,n=>fR c h n+fR c h (n+ep c h c+c)+fR c h (n+n+c)+fR c h (n+dk c h (n+n+c)+3+c)+(n+ep c h (dk c h (n+dk c h (n+n+c)+3+c)+1)+20*c)+(ep c h c+n+20*c)+2^(h+1)*(n+10*c)
def wO(c:Nat):∀(h n:Nat),n+n<=ep c h n|0,_=>a2 _|h+1,n=>by have:=wO c h (n+n+c);show _<=n+ep c h (n+n+c)+c;omega
def uB(c:Nat):∀(h n:Nat),n+n<=dk c h n|0,_=>a2 _|h+1,n=>by have:=uB c h n;show _<=_+_+dk c h n+_;omega
end
end Go.ay
namespace Go.ay.ae
section
variable{h:Nat}{t:aE (h+1)}{a:ae (h+1)}{c n:Nat}
def QJ(b:t.bw)(hv:val t.1 a.2≠0){m:ae h}(d:val t.1 m*val t.1 m=val t.1 (norm t a)):val t.1 (mul t.1 (add a.1 m) (rat h (1/2)))=(val t.1 a.1+val t.1 m)/2/\val t.1 (mul t.1 (add a.1 (neg m)) (rat h (1/2)))=(val t.1 a.1-val t.1 m)/2:=by rw[IL b.1.pos,IL b.1.pos,val_add,val_add,val_neg];exact⟨rfl,by rw[show val t.1 a.1+-val t.1 m=val t.1 a.1-val t.1 m from ap]⟩
def acw(f:t.bw)(hv:val t.1 a.2≠0){n:ax}(g:n*n=val t.1 (norm t a)){w:ae h}(hw:val t.1 w*val t.1 w=(val t.1 a.1+n)/2):val t.1 w≠0/\val t.1 (add w w)≠0/\val t ((w,mul t.1 a.2 (inv t.1 (add w w))):ae (h+1))*val t ((w,mul t.1 a.2 (inv t.1 (add w w))):ae (h+1))=val t a:=by
 have j:=U3 f hv g;have d:val t.1 w≠0:=λ e=>by rw[e]at hw;exact j ap
 have b:val t.1 (add w w)≠0:=by rw[val_add];intro e;exact d ap
 refine⟨d,b,anu f hv g hw ?_⟩;have k:=(red f.1).2 _ b;rw[val_mul f.1.pos];rw[val_add]at k;generalize val t.1 (inv t.1 (add w w))=i at*;generalize val t.1 w=x at*;grind
def amn(b:t.bw)(H:db t c)(hv:val t.1 a.2=0)(d:ms a n){w:ae (h+1)}(e:val t w*val t w=val t a):ms w (fo c h n+fo c h (n+ju c h c+c)):=by
 have⟨p,q⟩:=Dg b e;rw[hv]at q;have cL:val t.1 t.2≠0:=by have:=b.2.1;grind
 have Y7:∀x:ae h,val t.1 x=0->x=rat h 0:=(red b.1).1;rcases ax.ql (x:=val t.1 w.1) (y:=val t.1 w.2) ap with e|e;have g:=(red b.1).2 _ cL;have f:val t.1 w.2*val t.1 w.2=val t.1 (mul t.1 a.1 (inv t.1 t.2)):=by rw[val_mul b.1.pos,<-p,e];generalize val t.1 (inv t.1 t.2)=i at*;generalize val t.1 t.2=r at*;grind
 have k:=tq b.1 H.low.bH H.low.rd f (zv H.low.bH.bH (zw d).1 (Hf b.1 H.low.bH H.top cL));rw[show w=((rat h 0,w.2):ae (h+1))from mz (Y7 _ e) rfl];exact jL (uT (Co h 0) k) ac;have k:=tq (a:=a.1) (w:=w.1) b.1 H.low.bH H.low.rd (by rw[<-p,e];grind) (zw d).1;rw[show w=((w.1,rat h 0):ae (h+1))from mz rfl (Y7 _ e)];exact jL (uT k (Co h 0)) ac
end
end Go.ay.ae
namespace Go.ay
def zV{w v:ax}(b:0<=v)(e:w*w=v)(hw:0<=w):w=ax.rt v:=by have a:=ax.kT b;have c:=ax.Nv v;rcases ax.NH (e.trans a.symm)with h|h;exact h;have:w=0:=ap;have:ax.rt v=0:=ap;grind
def Ij{h:Nat}{t:aE h}{a:ae h}(b:0<=ae.val t a):ae.rb t a↔aC.In ⟨h,t⟩ (ax.rt (ae.val t a)):=by constructor;rintro⟨w,e⟩;by_cases hw:0<=ae.val t w;exact⟨w,zV b e hw⟩;exact⟨ae.neg w,zV b (by rw[ae.val_neg,<-e];grind) (by rw[ae.val_neg];grind)⟩;rintro⟨w,e⟩;exact⟨w,by rw[e];exact ax.kT b⟩
def rP{h:Nat}(a:ae h):Prop:=match h,a with|3,a=>a.2.bD=true|_,_=>True
def gF(c:Nat)(n:Nat):Prop:=fR c 2 n+fR c 2 (n+ep c 2 c+c)+(ep c 2 c+n+20*c)+8*(dk c 2 n+dk c 2 (n+ep c 2 c+c)+10*c)<=2199023255552
def VQ(c:Nat):∀h n,fR c h n<=fR c (h+1) n:=λ h n=>by show _<=fR c h n+_+_+_+_+_+_;omega
def HO{c h n:Nat}(b:h<=2):fR c h n<=fR c 2 n:=by have a0:fR c 0 n<=fR c 1 n:=VQ c 0 n;have a:fR c 1 n<=fR c 2 n:=VQ c 1 n;have:h=0\/h=1\/h=2:=ac;rcases this with rfl|rfl|rfl<;>omega
def ajE{c len i:Nat}{id:Id}{t:Bool}(h:i<len):j7 c (.ai id c 0 len t) (.int .i64 (i:Int))=some (.ref id i 0):=by show(if c=c/\(0:Int)<=(i:Int)/\(i:Int)<(len:Int)then some (aa.ref id (0+((i:Int)).toNat) 0)else none)=_;rw[if_pos ⟨rfl,ac,ac⟩,nQ,cF]
def U7{σ:aL}{id:Id}{L:List aa}{c i n:Nat}{b a:Bool}{e v:aa}(d:σ id=some ⟨L,c,b⟩)(f:L[i]?=some e)(hv:part a e.cells 0 n=some v):kz σ a n (.ref id i 0)=some {val:=v,rd:=[id]}:=by simp only[kz,d,f,hv,Option.map_some]
def U8{σ:aL}{id:Id}{L:List aa}{c i n:Nat}{e v:aa}(d:σ id=some ⟨L,c,false⟩)(f:L[i]?=some e)(b:v.cells.length=n)(h1:n<=e.size)(a:v.cells.all jx=true):tE σ n (.ref id i 0) v=some {val:=.aJ [],rd:=[id],up:=[(id,some ⟨L.set i (e.upd 0 v.cells),c,false⟩)]}:=by simp only[tE,d,f];rw[if_pos ⟨trivial,b,ac,a⟩]
instance{α:Type}{f:α->aa}{l:List α}[h:∀x,bg (f x)]:bq (l.map f):=⟨λ c hc=>by obtain⟨x,_,rfl⟩:=bp.1 hc;exact bg.pure,λ ρ=>by rw[fS];exact(jR λ c hc=>by obtain⟨x,_,rfl⟩:=bp.1 hc;exact bg.fix ρ).trans (List.map_id _)⟩
instance{a b:List aa}[h:bq a][k:bq b]:bq (a++b):=⟨λ c hc=>(List.mem_append.1 hc).elim (h.pure c) (k.pure c),λ ρ=>by rw[HV,h.fix,k.fix]⟩
section
variable{P:Program}{G:Nat->Option (List aa)}{α:Type}
def cy(k c:Nat)(id:Id)(t:Bool)(len i:Nat)(h:i<len:=by omega):aR P G:=ho k (ajE (c:=c) (id:=id) (t:=t) h)
def iq(k n:Nat)(a:Bool)(id:Id)(c:Nat)(f:α->aa)(M:List α)(i:Nat)(v:aa)(h:i<M.length:=by omega)(hv:part a (f M[i]).cells 0 n=some v:=by rfl):aR P G:=.st k [(id,⟨M.map f,c,false⟩)] (.load a n (.ref id i 0)) (λ _=>{val:=v,rd:=[id]}) (λ σ p b=>U7 (b _ cp) (by simp[h]) hv)
def Nm{k:IntKind}{a b:Nat}(h:0<b):eS .rem .int (.int k (a:Int)) (.int k (b:Int))=some (.int k ((a%b:Nat):Int)):=by
 have h1:¬((b:Int)=0):=ac;have e:lG .rem .int (.int k (a:Int)) (.int k (b:Int))=some (.int k ((a%b:Nat):Int)):=by
   have c:pK .rem k (a:Int) (b:Int)=some (.int k ((a%b:Nat):Int)):=by show(if(b:Int)=0 then none else some (aa.int k (Int.tmod a b)))=_;rw[if_neg h1,Int.ofNat_tmod]
   simp only[lG,c];try simp
 unfold eS;rw[e]
def Li(k:Nat)(b:IntKind)(f:α->aa)(l:List α)(a:Nat)(h:0<l.length):aR P G:=ho k (o:=eS .rem .int (.int b (a:Int)) (.int b ((l.map f).length:Nat))) (v:=.int b ((a%l.length:Nat):Int)) (by rw[Nm (by rw[aQ];exact h),aQ])
def qa(k:Nat)(c:IntKind)(a b:Nat)(h:0<b:=by decide):aR P G:=ho k (Nm (k:=c) (a:=a) (b:=b) h)
def Gh(k:Nat)(d:IntKind)(a b c:Nat)(h:a%b=c)(e:0<b:=by decide):aR P G:=ho k (o:=eS .rem .int (.int d (a:Int)) (.int d (b:Int))) (v:=.int d (c:Int)) (by rw[Nm e,h])
def qp{k:Nat}{l:List aa}[h:dw k l]:(l.all λ e=>e.cells.all jx)=true:=List.all_eq_true.2 λ e a=>(h.all e a).one
def Lf(key k bytes q:Nat)(l:List aa)(x:aa)(a:(l.length+1)*bytes<=140737488355328)(h3:(l.all λ e=>e.cells.all jx)=true)(d:x.cells.all jx=true:=by rfl)(hb:0<bytes:=by decide):aR P G:=.st key [([q,0],⟨[x],k,false⟩),([1],⟨l,k,false⟩)] (.append k bytes (.ai [1] k 0 l.length false) (.ai [q,0] k 0 1 false)) (λ p=>{val:=.ai p k 0 (l.length+1) false,rd:=[[1],[q,0]],up:=[([1],none),(p,some ⟨l++[x],k,false⟩)]}) (λ σ p b=>by have h:=b ([q,0],⟨[x],k,false⟩) am;have c:=b ([1],⟨l,k,false⟩) am;exact Aa (σ:=σ) (p:=p) (id:=[1]) (k:=k) (bytes:=bytes) (len:=l.length) (x:=.ai [q,0] k 0 1 false) (els:=l) (ys:=[x]) (rd:=[[q,0]]) (by rw[yK h rfl am];rfl) am c rfl a (pd (bx (tI _ hb) a)) (by simpa using d) h3)
def abb{c:cw}{n w so key d mN:Nat}{A B:List (Nat×aa)}[gX A][gX B]{L row:List aa}[s:dw 1 L][bq L][l:dw d row][bq row](o:mN=row.length)(i:(L.length+1)*24<=140737488355328)(q:Nat)(τ:aD)(h:List (aR P G)->List (aR P G))(eL:L=[]->gT [(τ.a,⟨[.ai τ.b d 0 mN false],1,false⟩),(τ.b,⟨row,d,false⟩)] (fr n ((so,.ai τ.a 1 0 1 false)::B)) w (bT true 1000 c [0] (h []) ⟨fr n ((so,.aH)::A),b5 [],0⟩)=gS .normal [(τ.a,⟨[.ai τ.b d 0 mN false],1,false⟩),(τ.b,⟨row,d,false⟩)] (fr n ((so,.ai τ.a 1 0 1 false)::B)) (bT true 1000 c [0] (h []) ⟨fr n ((so,.aH)::A),b5 [],0⟩):=by intros;kernel_rfl)(u:L≠[]->∀x,x=aa.ai τ.b d 0 mN false->gT [(τ.a,⟨L++[x],1,false⟩),(τ.b,⟨row,d,false⟩)] (fr n ((so,.ai τ.a 1 0 (L.length+1) false)::B)) w (bT true 1000 c [0] (h [Lf key 1 24 q L (.ai τ.b d 0 mN false) i (qp (k:=1))]) ⟨fr n ((so,.ai [1] 1 0 L.length false)::A),b5 [([1],⟨L,1,false⟩)],0⟩)=gS .normal [(τ.a,⟨L++[x],1,false⟩),(τ.b,⟨row,d,false⟩)] (fr n ((so,.ai τ.a 1 0 (L.length+1) false)::B)) (bT true 1000 c [0] (h [Lf key 1 24 q L (.ai τ.b d 0 mN false) i (qp (k:=1))]) ⟨fr n ((so,.ai [1] 1 0 L.length false)::A),b5 [([1],⟨L,1,false⟩)],0⟩):=by rintro _ _ rfl;kernel_rfl)(j:j4 w τ=true:=by kernel_rfl):bF P G c n w .normal (λ q=>(so,bX q.a 1 L)::A) (λ q=>bu q.a 1 L++[]) (λ q=>(so,bX q.a 1 (L++[.sl d row]))::B) (λ q=>bu q.a 1 (L++[.sl d row])++[]):=by
 have r:∀p,bX p 1 (L++[aa.sl d row])=.ai p 1 0 (L.length+1) false:=λ p=>by rw[gQ am,cP];rfl
 have v:∀p,bu p 1 (L++[aa.sl d row])=[(p,⟨L++[.sl d row],1,false⟩)]:=λ p=>gn am;simp only[r,v];by_cases e:L=[];subst e;have key:=bn (P:=P) (G:=G) (c:=c) (n:=n) (w:=w) (e:=.normal) (A:=λ _=>(so,.aH)::A) (B:=λ q=>(so,.ai q.a 1 0 1 false)::B) (bJ:=λ _=>[]) (bS:=λ q=>[(q.a,⟨[.ai q.b d 0 mN false],1,false⟩),(q.b,⟨row,d,false⟩)]) τ (h []) (eL rfl) j;exact key.j9 λ q m g=>by have:=bP.F3 (G:=G) (n:=n) (so:=so) (ln:=1) (F:=B) (t:=false) (L:=[]) g (λ e f=>(cS f).elim) (λ e f=>l.all e f) o;exact this
 simp only[gQ e,gn e];have key:=bn (P:=P) (G:=G) (c:=c) (n:=n) (w:=w) (e:=.normal) (A:=λ q=>(so,.ai q.a 1 0 L.length false)::A) (B:=λ q=>(so,.ai q.a 1 0 (L.length+1) false)::B) (bJ:=λ q=>[(q.a,⟨L,1,false⟩)]) (bS:=λ q=>[(q.a,⟨L++[.ai q.b d 0 mN false],1,false⟩),(q.b,⟨row,d,false⟩)]) τ (h [Lf key 1 24 q L (.ai τ.b d 0 mN false) i (qp (k:=1))]) (u e _ rfl) j;exact key.j9 λ q m g=>by have:=bP.F3 (G:=G) (n:=n) (so:=so) (ln:=L.length+1) (F:=B) (t:=false) (L:=L) g (λ e f=>(s.all e f).size) (λ e f=>l.all e f) o;exact this
def bF.drop{c:cw}{n w k:Nat}{e:cf}{A B:aD->List (Nat×aa)}{bJ:aD->List (Id×aG)}{l:List aa}{y:aD->aG}(h:bF P G c n w e A bJ B (λ q=>bu q.a k l++[(q.b,y q)])):bF P G c n w e A bJ B (λ q=>bu q.a k l++[]):=h.j9 λ q m g=>bP.forget (iN.same _) (λ id=>by
   rw[pQ];by_cases d:l=[];left;rw[d];rfl;rw[gn d];by_cases f:id=q.a;right;subst f;simp[bU,hJ];left;have:(id==q.a)=false:=by simpa using f
   show hJ _ _=_;rw[mr,this];rfl) (a2 _)
def p9(x n:Nat)(id:Id)(c:Nat)(f:α->aa)(M:List α)(i:Nat)(r:α)(a:List α)(d:M.set i r=a)(h:i<M.length:=by omega)(j:(f r).cells.length=n:=by rfl)(h1:n<=(f M[i]).size:=by exact a2 _)(b:(f r).cells.all jx=true:=by rfl)(hu:(f M[i]).upd 0 (f r).cells=f r:=by rfl):aR P G:=.st (x+100000) [(id,⟨M.map f,c,false⟩)] (.store n (.ref id i 0) (f r)) (λ _=>{val:=.aJ [],rd:=[id],up:=[(id,some ⟨a.map f,c,false⟩)]}) (λ σ p g=>by have e:=U8 (g _ cp) (show(M.map f)[i]?=some (f M[i])by simp[h]) j h1 b;rw[hu,<-List.map_set,d]at e;exact e)
def Gc(key k bytes:Nat)(id:Id)(q:Nat)(l:List aa)(x:aa)(a:(l.length+1)*bytes<=140737488355328)(h3:(l.all λ e=>e.cells.all jx)=true)(d:x.cells.all jx=true:=by rfl)(hb:0<bytes:=by decide):aR P G:=.st key [([q,0],⟨[x],k,false⟩),(id,⟨l,k,false⟩)] (.append k bytes (.ai id k 0 l.length false) (.ai [q,0] k 0 1 false)) (λ p=>{val:=.ai p k 0 (l.length+1) false,rd:=[id,[q,0]],up:=[(id,none),(p,some ⟨l++[x],k,false⟩)]}) (λ σ p b=>by have h:=b ([q,0],⟨[x],k,false⟩) am;have c:=b (id,⟨l,k,false⟩) am;exact Aa (σ:=σ) (p:=p) (id:=id) (k:=k) (bytes:=bytes) (len:=l.length) (x:=.ai [q,0] k 0 1 false) (els:=l) (ys:=[x]) (rd:=[[q,0]]) (by rw[yK h rfl am];rfl) am c rfl a (pd (bx (tI _ hb) a)) (by simpa using d) h3)
def I4{i:Nat}(h:i<1000000):cO.wrap ((i:Int)+1)=((i+1:Nat):Int):=by rw[cU];omega
def Sz(key k bytes:Nat)(ys:List aa)(n:Nat)(c:ys.length=n)[h:dw k ys](d:ys≠[])(hb:ys.length*bytes<=140737488355328)(e:0<bytes:=by decide):aR P G:=.st key [] (.append k bytes (.e9 k []) (.sl k ys)) (λ p=>{val:=.ai p k 0 n false,up:=[(p,some ⟨ys,k,false⟩)]}) (λ σ p f=>by
   subst c;have a:ys.isEmpty=false:=by cases ys<;>simp at d⊢
   have b:ys.length<=maxLen:=pd (bx (tI _ e) hb);have h1:=qp (l:=ys) (k:=k);show sg σ p k bytes (.e9 k []) (.sl k ys)=_;unfold sg;rw[show jn σ k (.sl k ys)=some (ys,[])from by simp[jn]];simp only[a,Bool.false_eq_true,if_false];rw[if_pos ⟨trivial,by rw[iM,cF];exact hb,by rw[iM,cF];exact b,by rw[qU];exact h1⟩,iM,cF,qU])
def aoL{F:List (Id×aG)}{q:Id}{k:Nat}{l:List aa}(h:l≠[]->bU F q=some ⟨l,k,false⟩)(b:∀e∈l,cT k e):gZ F (bX q k l) (.sl k l):=by by_cases a:l=[];subst a;exact vp (ga k);rw[gQ a];exact Dw (h a) b
def Mn{q:Id}{k:Nat}{l:List aa}{K:List (Id×aG)}(a:l≠[]):bU (bu q k l++K) q=some ⟨l,k,false⟩:=by rw[gn a];simp[bU]
def aiz{q q':Id}{k:Nat}{l:List aa}{b:aG}(h:q≠q'):bU (bu q k l++[(q',b)]) q'=some b:=by
 unfold bu;split;simp[bU];have:(q'==q)=false:=by simpa using fE h
 show hJ q' ([(q,_)]++[(q',b)])=_;rw[AG,mr,this];simp[hJ]
def fL.P7{m:Nat}{q:aD}(g:fL m q):q.a≠q.b:=λ e=>by have:=g.nd;simp[aD.l]at this;exact this.1.1 e
def bF.aeb{c:cw}{n w so i f d h:Nat}{e:cf}{A:aD->List (Nat×aa)}{bJ:aD->List (Id×aG)}{l L:List aa}(H:bF P G c n w e A bJ (λ q=>[(so,bX q.a f l),(i,.ai q.b d 0 h false)]) (λ q=>bu q.a f l++[(q.b,⟨L,d,false⟩)]))(j:h=L.length)(p:∀e∈l,cT f e)(o:∀e∈L,cT d e):bF P G c n w e A bJ (λ _=>[(so,.sl f l),(i,.sl d L)]) (λ _=>[]):=H.j9 λ q m g=>by subst j;refine bP.F2 ?_ ?_;have:=wW (q:=q.a) (k:=f) (l:=l) (K:=[(q.b,(⟨L,d,false⟩:aG))]) (L:=[q.b]) (AH _);refine List.Nodup.sublist this ?_;simp[fL.P7 g];exact qG i (qG so (lM _ _) (aoL (λ h=>Mn h) p)) (Dw (aiz (fL.P7 g)) o)
end
section
variable{P:Program}{G:Nat->Option (List aa)}
def y7{f:FuncId}{A:List aa}{r:aa}(i:Id)(k:Nat)(l:List aa)(n:Nat)(g:l.length=n)[dw k l][m:bq A](h:ag P G f (A++[.sl k l]) r):aR P G:=uI [(i,⟨l,k,false⟩)] (args:=A++[.ai i k 0 n false]) h (by
 subst g;have e:∀A:List aa,(∀c∈A,cb c)->dc (bU [(i,(⟨l,k,false⟩:aG))]) (A++[.ai i k 0 l.length false]) (A++[.sl k l]):=λ A=>by induction A with|nil=>exact λ _=>bZ (gr (b:=false) (by simp[bU,hJ])) dc.nil|cons a A j=>exact λ d=>bZ (fk (d a cp)) (j λ c hc=>d c (cR _ hc))
 exact e A m.pure)
def Mo{q i:Id}{k:Nat}{l:List aa}{K:List (Id×aG)}(h:i≠q):bU (bu q k l++K) i=bU K i:=by
 unfold bu;split;rfl;have:(i==q)=false:=by simpa using h
 show hJ i ([(q,_)]++K)=_;rw[AG,mr,this];rfl
def Beside(y:aD->List (Id×aG)):Prop:=∀m q,fL m q->∀x∈y q,x.1≠q.a/\∀e∈x.2.els,e.size=x.2.k
def bP.BI{n m so k:Nat}{B:List (Nat×aa)}{y:List (Id×aG)}{a:Id}{l:List aa}(d:∀e∈l,cT k e)(f:∀x∈y,x.1≠a/\∀e∈x.2.els,e.size=x.2.k):bP G [0] ⟨fr n ((so,bX a k l)::B),bU (bu a k l++y),m⟩ ⟨fr n ((so,.sl k l)::B),bU y,m⟩:=bP.l1 (bu a k l) (λ x c=>by unfold bu at c;split at c;exact(cS c).elim;next d=>rw[cq.1 c];exact Mn d) (vg B (qG so (lM _ _) (OE d))) (λ i=>by cases h:bU y i with|none=>exact .inl rfl|some b=>have g:=pg h;have⟨h1,j⟩:=f _ g;exact .inr ⟨b,b,by rw[Mo h1];exact h,rfl,vJ.same (λ x c=>by unfold bu at c;split at c;exact(cS c).elim;rw[cq.1 c];exact fE h1) j⟩) (a2 _)
def bF.BI{c:cw}{n w so k:Nat}{e:cf}{A:aD->List (Nat×aa)}{bJ:aD->List (Id×aG)}{B:aD->List (Nat×aa)}{y:aD->List (Id×aG)}{l:List aa}(h:bF P G c n w e A bJ (λ q=>(so,bX q.a k l)::B q) (λ q=>bu q.a k l++y q))(d:∀e∈l,cT k e)(b:Beside y):bF P G c n w e A bJ (λ q=>(so,.sl k l)::B q) y:=h.j9 λ q m g=>bP.BI d (b m q g)
def Qq{Y Z:aD->aG}(h:∀q,∀e∈(Y q).els,e.size=(Y q).k)(f:∀q,∀e∈(Z q).els,e.size=(Z q).k):Beside (λ q=>[(q.b,Y q),(q.c,Z q)]):=λ m q g x d=>by have a:=g.nd;simp only[aD.l,hZ,ct,cS,or_false,not_or]at a;rcases ct.1 d with rfl|d;exact⟨fE a.1.1,h q⟩;rw[cq.1 d];exact⟨fE a.1.2.1,f q⟩
def nn(a b c d e:aa):aG:=⟨[.agg [a,b,c,d,e]],5,false⟩
def Fl{a b c d e:aa}:∀x∈(nn a b c d e).els,x.size=(nn a b c d e).k:=λ x f=>by rw[cq.1 f];rfl
instance{a b c e:aa}{d:aD->aa}[f:bg a][hb:bg b][hc:bg c][hd:jU d][g:bg e]:oV (λ q=>nn a b c (d q) e):=⟨λ ρ q=>by show aG.mk [.agg [a.aU ρ,b.aU ρ,c.aU ρ,(d q).aU ρ,e.aU ρ]] 5 false=_;rw[f.fix,hb.fix,hc.fix,hd.nat,g.fix];rfl⟩
def bP.aea{n m:Nat}{T:List (Nat×aa)}{q:aD}{L L':List aa}{a0 y u t w b1 b2 b4:aa}{z:aG}(g:fL m q)(A:L.length=L'.length)(E:∀e∈L',e.size=1)(D:∀e∈L,e.size=1)(hv:∀F,fm F (flat L) (flat L'))(N:∀c∈flat L',cb c)(M:∀F,gZ F a0 w)(h1:∀F,gZ F y b1)(K:∀F,gZ F u b2)(h4:∀F,gZ F t b4)(I:∀e∈z.els,e.size=z.k)(v:∀σ:aL,dc σ (flat L) (flat L')):bP G [0] ⟨fr n T,bU (bu q.a 1 L++[(q.b,nn a0 y u (bX q.a 1 L) t),(q.c,z)]),m⟩ ⟨fr n T,bU [(q.b,nn w b1 b2 (.sl 1 L') b4),(q.c,z)],m⟩:=by
 have r:=g.nd;simp only[aD.l,hZ,ct,cS,or_false,not_or]at r;have j:q.b≠q.a:=fE r.1.1;have p:q.c≠q.a:=fE r.1.2.1;have f:(q.c==q.b)=false:=by simpa using fE r.2.1.1
 have B:∀i,i≠q.a->∀x∈bu q.a 1 L,x.1≠i:=λ i s x d=>by unfold bu at d;split at d;exact(cS d).elim;rw[cq.1 d];exact fE s
 have J:gZ (bu q.a 1 L) (bX q.a 1 L) (.sl 1 L'):=by by_cases o:L=[];subst o;have:L'=[]:=List.eq_nil_of_length_eq_zero A.symm;subst this;exact vp (ga 1);rw[gQ o,gn o];refine vp (nU (aq:=⟨L,1,false⟩) (by simp[bU,hJ]) rfl am ?_ A.symm E);rw[sn,kc (a2 _)];exact v _
 refine bP.l1 (bu q.a 1 L) (λ x d=>by unfold bu at d;split at d;exact(cS d).elim;next o=>rw[cq.1 d];exact Mn o) (lM _ _) (λ i=>?_) (a2 _);by_cases s:i=q.b;subst s;refine .inr ⟨nn a0 y u (bX q.a 1 L) t,nn w b1 b2 (.sl 1 L') b4,by rw[Mo j];simp[bU,hJ],by simp[bU,hJ],rfl,.inl rfl,λ _=>B _ j,rfl,Fl,?_⟩;exact⟨M _,h1 _,K _,J,h4 _,trivial⟩;by_cases h:i=q.c;subst h;exact .inr ⟨z,z,by rw[Mo p];show hJ _ _=_;rw[mr,f];simp[hJ],by show hJ _ _=_;rw[mr,f];simp[hJ],vJ.same (B _ p) I⟩;refine .inl ?_;have C:(i==q.b)=false:=by simpa using s
 have H:(i==q.c)=false:=by simpa using h
 show hJ _ _=_;rw[mr,C];show hJ _ [(q.c,z)]=_;rw[mr,H];rfl
end
section
variable{x y z u:aD->aG}[hx:oV x][hy:oV y][hz:oV z][hu:oV u]{k:Nat}{l:List aa}[hl:bq l]
instance:dy (λ q=>bu q.a k l++[(q.c,z q)]):=⟨λ ρ q=>by show fh ρ (bu q.a k l++_)=_;rw[zT,zt];show _++[(ρ q.c,(z q).aU ρ)]=_;rw[hz.nat];rfl,λ q=>wW (.cons _ (.cons_cons _ (na _)))⟩
instance:dy (λ q=>[(q.b,x q),(q.d,y q)]):=⟨λ ρ q=>by show [(ρ q.b,(x q).aU ρ),(ρ q.d,(y q).aU ρ)]=_;rw[hx.nat,hy.nat];rfl,λ q=>.cons _ (.cons_cons _ (.cons _ (.cons_cons _ (na _))))⟩
instance:dy (λ q=>[(q.a,x q),(q.b,y q),(q.c,z q),(q.d,u q)]):=⟨λ ρ q=>by show [(ρ q.a,(x q).aU ρ),(ρ q.b,(y q).aU ρ),(ρ q.c,(z q).aU ρ),(ρ q.d,(u q).aU ρ)]=_;rw[hx.nat,hy.nat,hz.nat,hu.nat];rfl,λ q=>AH _⟩
end
instance(priority:=1100)aq4{b c d e:aa}{a:aD->aa}[f:jU a][hb:bg b][hc:bg c][hd:bg d][g:bg e]:oV (λ q=>nn (a q) b c d e):=⟨λ ρ q=>by show aG.mk [.agg [(a q).aU ρ,b.aU ρ,c.aU ρ,d.aU ρ,e.aU ρ]] 5 false=_;rw[f.nat,hb.fix,hc.fix,hd.fix,g.fix];rfl⟩
section
variable{P:Program}{G:Nat->Option (List aa)}
noncomputable def ah1(aB:dO)(k l s N:Nat)(b:aD)(c:List (Nat×aa))(d:List (Id×aG))(T:Nat->aD->List (Nat×aa))(K:Nat->aD->List (Id×aG))(e:cf)(c5:aD->List (Nat×aa))(cm:aD->List (Id×aG))[fW c5][dy cm](g:T 0 b=c)(n:K 0 b=d)(h:∀i,i<N->bF P G (aZ aB k) aB.aK (bK l) .normal (T i) (K i) (T (i+1)) (K (i+1)))(m:bF P G (aZ aB k) aB.aK (bK l) e (T N) (K N) c5 cm)(j:j4 (lb l s) b=true:=by kernel_rfl)(f:N<=9000:=by omega)(a:e≠.normal:=by simp):aR P G:=.h9 [0] (aZ aB k) (fr aB.aK c) d (lb l s) e (fr aB.aK (c5 (AJ (le l s)))) (b5 (cm (AJ (le l s)))) (le l s+4) (by rw[<-g,<-n];exact Ch (Js j) h m a (Ck f))
def fL.ne{m:Nat}{q:aD}(g:fL m q):q.a≠q.b/\q.a≠q.c/\q.a≠q.d/\q.b≠q.c/\q.b≠q.d/\q.c≠q.d:=by have e:=g.nd;simp only[aD.l,hZ,ct,cS,or_false,not_or]at e;have⟨⟨h1,i,h3⟩,⟨h4,f⟩,h,_⟩:=e;exact⟨h1,i,h3,h4,f,h⟩
def lg{i j:Id}(h:i≠j):(i==j)=false:=by simpa using h
def ej(s:Nat):Nat:=1000000000000000000000000*s+1000
def b6(s:Nat):Nat:=1000000000000000000000000*(s+1)
abbrev w0:Id:=[b6 0,0]
def IZ{s N:Nat}(h:N<=10000000000000000000):ej s+200*N+200<=b6 s:=by unfold ej b6;omega
noncomputable def te(aB:dO)(k s N:Nat)(b:aD)(c:List (Nat×aa))(d:List (Id×aG))(T:Nat->aD->List (Nat×aa))(K:Nat->aD->List (Id×aG))(e:cf)(c5:aD->List (Nat×aa))(cm:aD->List (Id×aG))[fW c5][dy cm](g:T 0 b=c)(m:K 0 b=d)(h:∀i,i<N->bF P G (aZ aB k) aB.aK 200 .normal (T i) (K i) (T (i+1)) (K (i+1)))(l:bF P G (aZ aB k) aB.aK 200 e (T N) (K N) c5 cm)(j:j4 (ej s) b=true:=by kernel_rfl)(f:N<=10000000000000000000:=by omega)(a:e≠.normal:=by simp):aR P G:=.h9 [0] (aZ aB k) (fr aB.aK c) d (ej s) e (fr aB.aK (c5 (AJ (b6 s)))) (b5 (cm (AJ (b6 s)))) (b6 s+4) (by rw[<-g,<-m];exact Ch (Js j) h l a (IZ f))
noncomputable def Ha(aB:dO)(k N:Nat)(b:aD)(c:List (Nat×aa))(d:List (Id×aG))(T:Nat->aD->List (Nat×aa))(K:Nat->aD->List (Id×aG))(e:cf)(c5:aD->List (Nat×aa))(cm:aD->List (Id×aG))[fW c5][dy cm](f:T 0 b=c)(l:K 0 b=d)(h:∀i,i<N->bF P G (aZ aB k) aB.aK (b6 9) .normal (T i) (K i) (T (i+1)) (K (i+1)))(g:bF P G (aZ aB k) aB.aK (b6 9) e (T N) (K N) c5 cm)(j:j4 (ej 0) b=true:=by kernel_rfl)(m:N<=10000000000000000000:=by omega)(a:e≠.normal:=by simp):aR P G:=.h9 [0] (aZ aB k) (fr aB.aK c) d (ej 0) e (fr aB.aK (c5 (AJ 1000000000000000000000000000000000000000000000000))) (b5 (cm (AJ 1000000000000000000000000000000000000000000000000))) 1000000000000000000000000000000000000000000000004 (by rw[<-f,<-l];exact Ch (Js j) h g a (by unfold ej b6;omega))
end
section
variable{P:Program}{G:Nat->Option (List aa)}{α:Type}
def fL.mono{m a:Nat}{q:aD}(g:fL m q)(h:m<=a):fL a q:=⟨g.nd,λ i b j c=>g.old i b j ac⟩
abbrev gY(P:Program)(G:Nat->Option (List aa))(aB:dO)(k:Nat)(e:cf)(A:aD->List (Nat×aa))(bJ:aD->List (Id×aG))(B:aD->List (Nat×aa))(bS:aD->List (Id×aG)):Prop:=bF P G (aZ aB k) aB.aK 200 e A bJ B bS
def ao(x i:Nat):Nat:=x/ah^i%ah
def eD(x k:Nat):List Nat:=(List.range k).map (ao x)
def cu(x i:Nat):ao x i<ah:=bA _ fl
def fJ(i:Nat):0<ah^i:=Nat.pow_pos fl
def mE(x k:Nat):(eD x k).length=k:=by unfold eD;rw[aQ,dx]
def PM(x k:Nat):eD x (k+1)=eD x k++[ao x k]:=by unfold eD;rw[List.range_succ,List.map_append];rfl
def yi(x k:Nat):jV (eD x k):=λ w hw=>by obtain⟨i,_,rfl⟩:=bp.1 hw;exact cu x i
def rU(x i:Nat):x%ah^(i+1)=x%ah^i+ah^i*ao x i:=by rw[ea,Nat.mod_mul];rfl
def tz(x:Nat):∀k,val (eD x k)=x%ah^k|0=>by rw[kg,tN];rfl|k+1=>by rw[PM,IJ,mE,tz x k,rU];simp[val]
def q7{x i:Nat}(h:x<ah^i):ao x i=0:=by unfold ao;rw[hh h];rfl
def A7{x k:Nat}(h:x<ah^(k+1)):ao x k=x/ah^k:=dX (tO (by rwa[ea]at h))
def JX{x k:Nat}(h:x<ah^k)(a:k=0\/ah^(k-1)<=x):eD x k=digits x:=by have:=adb (yi x k) (a.imp (λ e=>by subst e;rfl) λ g=>by rw[tz,mE,dX h];exact g);rw[tz,dX h]at this;exact this.symm
def eK(x:Nat):x<ah^af x:=rQ x
def BJ{x:Nat}(h:x≠0):ah^(af x-1)<=x:=by have:=@ja x (af x-1);have:=gw (n:=x);rcases Nat.lt_or_ge x (ah^(af x-1))with h1|h1<;>omega
def KI(x:Nat):digits x=eD x (af x):=(JX (eK x) (by by_cases h:x=0;subst h;left;exact gw.2 rfl;exact .inr (BJ h))).symm
def vL{x i:Nat}(h:i<af x):(digits x)[i]?=some (ao x i):=by rw[KI];simp[eD,h]
def oR{x i:Nat}(h:af x<=i):ao x i=0:=q7 (gz (eK x) (dT fl h))
instance{ws:List Nat}:bq (us ws):=⟨λ c hc=>by obtain⟨w,_,rfl⟩:=bp.1 hc;exact cb.int _ _,λ ρ=>K2 ws ρ⟩
instance{ws:List Nat}:dw 1 (us ws):=⟨λ c hc=>by obtain⟨w,_,rfl⟩:=bp.1 hc;infer_instance⟩
abbrev Ag(w:Nat):aa:=.int .u32 (w:Int)
end
section
variable{P:Program}{G:Nat->Option (List aa)}
def dI(k:Nat){x i:Nat}(h:i<af x):aR P G:=ho k (E4 (vL h))
def aeK(k c:Nat)(h:c<=4398046511104):aR P G:=.st k [] (.ti 1 4 (.int .u32 0) (.int .i64 0) (.int .i64 (c:Int))) (λ p=>{val:=.ai p 1 0 0 false,up:=[(p,some ⟨[],1,false⟩)]}) (λ σ p _=>aiA ac)
def ag.Iy{f:FuncId}{aB:dO}(h:kE P f aB)(a:List (aR P G))(i:Nat){n x:Nat}{args:List aa}{ws:List Nat}[bq args](b:ws.length=n)(d:ws=digits x)(e:mX aB.results ([([i,0],⟨us ws,1,false⟩)]++rest [([i,0],⟨us ws,1,false⟩)] []) (py aB args a)=mW (.ai [i,0] 1 0 n false) ([([i,0],⟨us ws,1,false⟩)]++rest [([i,0],⟨us ws,1,false⟩)] []) (py aB args a)):ag P G f args (W x):=by subst d;refine ag.pF h a [([i,0],⟨us (digits x),1,false⟩)] (.ai [i,0] 1 0 n false) e ?_ ?_ am λ σ c=>gr (c _ cp) (by rw[jw];exact b);show [(bN 0 [0] _ ([]++[i,0]),aG.aU _ _)]=_;rw[iF,cF];show [([]++[i,0],aG.mk (br _ (us (digits x))) 1 false)]=_;rw[bq.fix];rfl;show aa.ai (bN 0 [0] _ ([]++[i,0])) _ _ _ _=_;rw[iF,cF];rfl
def Gn(k:Nat)(id:Id)(q s n:Nat)(h:n<=4398046511104):aR P G:=.st k [([q,0],⟨[Ag (ao s n)],1,false⟩),(id,⟨us (eD s n),1,false⟩)] (.append 1 4 (.ai id 1 0 n false) (.ai [q,0] 1 0 1 false)) (λ p=>{val:=.ai p 1 0 (n+1) false,rd:=[id,[q,0]],up:=[(id,none),(p,some ⟨us (eD s (n+1)),1,false⟩)]}) (λ σ p a=>by have h1:=a ([q,0],⟨us [ao s n],1,false⟩) (by simp[us]);have b:=a (id,⟨us (eD s n),1,false⟩) am;have e:=Aa (σ:=σ) (p:=p) (id:=id) (k:=1) (bytes:=4) (len:=n) (x:=.ai [q,0] 1 0 1 false) (els:=us (eD s n)) (ys:=us [ao s n]) (rd:=[[q,0]]) (yK h1 rfl (by simp[us])) (by simp[us]) b (by rw[jw,mE]) (by rw[jw];simp;omega) (pd (by rw[jw];simp;omega)) (X8 _) (X8 _);rw[<-an8,<-PM]at e;exact e)
def cJ(a b i:Nat):Nat:=(a%ah^i+b%ah^i)/ah^i
def yG(a b:Nat):cJ a b 0=0:=by unfold cJ;rw[kg,tN,tN]
def ry(a b i:Nat):cJ a b i<=1:=by have:=bA a (fJ i);have:=bA b (fJ i);exact Nat.le_of_lt_succ (tO ac)
def Bu(a b i:Nat):cJ a b (i+1)=(cJ a b i+ao a i+ao b i)/ah:=by unfold cJ;rw[rU a,rU b,ea,<-kC,show a%ah^i+ah^i*ao a i+(b%ah^i+ah^i*ao b i)=a%ah^i+b%ah^i+ah^i*(ao a i+ao b i)by rw[dW];omega,nV _ _ (fJ i),lQ]
def yF(a b i:Nat):ao (a+b) i=(cJ a b i+ao a i+ao b i)%ah:=by
 have c:=hE a (ah^i);have hb:=hE b (ah^i);have e:(a+b)/ah^i=a/ah^i+b/ah^i+cJ a b i:=by
   conv=>lhs;rw[<-c,<-hb]
   rw[show ah^i*(a/ah^i)+a%ah^i+(ah^i*(b/ah^i)+b%ah^i)=a%ah^i+b%ah^i+ah^i*(a/ah^i+b/ah^i)by rw[dW];omega,nV _ _ (fJ i)];unfold cJ;omega
 unfold ao;rw[e];generalize a/ah^i=A,b/ah^i=B,cJ a b i=C;unfold ah;omega
def Rc{a b k:Nat}(c:a<ah^k)(hb:b<ah^k):cJ a b k=(a+b)/ah^k:=by unfold cJ;rw[dX c,dX hb]
def ca(L:Nat)(f:Nat->Nat):List Nat:=(List.range L).map f
def ua(L:Nat)(f:Nat->Nat):(ca L f).length=L:=by unfold ca;rw[aQ,dx]
def aaV{L i:Nat}(f:Nat->Nat)(h:i<L):(ca L f)[i]?=some (f i):=by simp[ca,h]
def sC{L:Nat}{f g:Nat->Nat}(h:∀j,j<L->f j=g j):ca L f=ca L g:=jR λ j a=>h j (List.mem_range.1 a)
def aaW{L i v:Nat}{f g:Nat->Nat}(h:∀j,j<L->g j=if j=i then v else f j):(ca L f).set i v=ca L g:=by refine ie (by simp[ca]) λ j h1 a=>?_;rw[List.getElem_set];simp only[ca,List.getElem_map,List.getElem_range,aQ,dx]at a⊢;rw[h j a];split<;>split<;>first|rfl|omega
def aaX(L:Nat):ca L (λ _=>0)=bM L 0:=ie (by simp[ca]) (by simp[ca])
def iU(s i j:Nat):Nat:=if j<i then ao s j else 0
def Ld{s i:Nat}(L j:Nat)(h:j<L):iU s (i+1) j=if j=i then ao s i else iU s i j:=by unfold iU;split<;>split<;>first|(subst_vars;rfl)|rw[if_pos ac]|rw[if_neg ac]|omega
def F4{s L j:Nat}(h:j<L):iU s L j=ao s j:=if_pos h
abbrev m4(L s i:Nat):aD->List (Id×aG):=λ q=>[(q.a,⟨us (ca L (iU s i)),1,false⟩)]
def aD.o(k:Nat):aD:=⟨[k,0],[2],[3],[4]⟩
def rD(k L:Nat)(f:Nat->Nat)(a:∀j,j<L->f j=0)(h:L<=8388608000000:=by omega):aR P G:=.st k [] (.ti 1 4 (.int .u32 0) (.int .i64 (L:Int)) (.int .i64 (L:Int))) (λ p=>{val:=.ai p 1 0 L false,up:=[(p,some ⟨us (ca L f),1,false⟩)]}) (λ σ p _=>by rw[sC a,aaX];exact aiC ac)
def yY(k L s:Nat)(h:L<=8388608000000:=by omega):aR P G:=rD k L (iU s 0) (λ _ _=>if_neg (fv _)) h
def eg(k:Nat)(id:Id)(L i:Nat)(h:i<L):aR P G:=ho k (ags (q:=id) (t:=false) h)
def gO(x:Nat)(id:Id){L i v:Nat}{f:Nat->Nat}(g:Nat->Nat)(c:i<L)(a:∀j,j<L->g j=if j=i then v else f j):aR P G:=.st (x+100000) [(id,⟨us (ca L f),1,false⟩)] (.store 1 (.ref id i 0) (Ag v)) (λ _=>{val:=.aJ [],rd:=[id],up:=[(id,some ⟨us (ca L g),1,false⟩)]}) (λ σ p b=>by rw[<-aaW a];exact anC (b _ cp) (by rw[ua];exact c))
def oa(x:Nat){L:Nat}(s:Nat){i:Nat}(a:i<L)(q:Id:=[1]):aR P G:=gO x q (iU s (i+1)) a (Ld _)
def hR(k:Nat)(id:Id)(L:Nat)(f:Nat->Nat){i y:Nat}(c:i<L)(a:f i=y):aR P G:=.st k [(id,⟨us (ca L f),1,false⟩)] (.load false 1 (.ref id i 0)) (λ _=>{val:=Ag y,rd:=[id]}) (λ σ p b=>ahW (b _ cp) (by rw[aaV f c,a]))
def qb{nx:FuncId}(L s:Nat)(f:Nat->Nat)(a:∀j,j<L->f j=ao s j)(b:hP P G nx)(c:s<ah^L)(d:L<=8388608000000:=by omega)(id:Id:=w0):aR P G:=y7 id 1 (us (ca L f)) L (by rw[jw,ua]) (A:=[]) (r:=W s) (by have e:ca L f=eD s L:=sC a;have:=b (eD s L) (yi s L) (by rw[mE];omega);rw[tz,dX c]at this;rw[e];exact this)
def Gm{nx:FuncId}(L s:Nat)(c:hP P G nx)(b:s<ah^L)(a:L<=8388608000000:=by omega)(id:Id:=w0):aR P G:=qb L s (iU s L) (λ _=>F4) c b a id
def Gl(k:Nat){a:Int}{c:Nat}(h:a/9223372036854775808=(c:Int)):aR P G:=ho k (o:=eS .shr .int (.int .u64 a) (.int .u64 63)) (v:=.int .u64 (c:Int)) (by rw[Bj al];show some (aa.int .u64 (a.fdiv (2^63)))=_;rw[Int.fdiv_eq_ediv_of_nonneg _ al];exact congrArg (λ x=>some (aa.int .u64 x)) h)
def bk(k:Nat)(n:Nat):aR P G:=ho k (eH n)
def fP(k:Nat){i n:Nat}(h:i<n):aR P G:=hb k (decide_eq_true ac:decide ((i:Int)<(n:Int))=true)
def hQ(k:Nat){i n:Nat}(h:n<=i):aR P G:=hb k (decide_eq_false ac:decide ((i:Int)<(n:Int))=false)
def hI(k:Nat){i n:Nat}(h:i<n)(a:n<=8388608000000:=by omega):aR P G:=hw k (YF i ac)
noncomputable def td(aB:dO)(k s N o:Nat)(b:List (Nat×aa))(T:Nat->aD->List (Nat×aa))(K:Nat->aD->List (Id×aG))(e:cf)[fW (T N)][dy (K N)](d:T 0 (aD.o o)=b)(f:∀i,i<N->gY P G aB k .normal (T i) (K i) (T (i+1)) (K (i+1)))(c:gY P G aB k e (T N) (K N) (T N) (K N))(g:j4 (ej s) (aD.o o)=true:=by kernel_rfl)(hQ:N<=10000000000000000000:=by omega)(a:e≠.normal:=by simp):aR P G:=te aB k s N (aD.o o) b (K 0 (aD.o o)) T K e (T N) (K N) d rfl f c g hQ a
def akn(m n i:Nat):cY.wrap (cY.wrap ((cJ m n i:Int)+cY.wrap (ao m i:Int))+cY.wrap (ao n i:Int))=((cJ m n i+ao m i+ao n i:Nat):Int)/\(ao n i=0->cY.wrap ((cJ m n i:Int)+cY.wrap (ao m i:Int))=((cJ m n i+ao m i+ao n i:Nat):Int))/\jc.wrap ((cJ m n i+ao m i+ao n i:Nat):Int)=(ao (m+n) i:Int)/\eS .shr .int (.int .u64 ((cJ m n i+ao m i+ao n i:Nat):Int)) (.int .u64 32)=some (.int .u64 (cJ m n (i+1):Int)):=by have a:=cu m i;have c:=cu n i;have b:=ry m n i;refine⟨?_,λ z=>?_,?_,?_⟩;unfold ah at*;simp only[h5];omega;rw[z];unfold ah at*;simp only[h5];omega;rw[j8,<-yF];rw[mZ,<-Bu]
def Bt{m n:Nat}(h:af n<=af m):m+n<ah^(af m+1)/\jc.wrap (cJ m n (af m):Int)=(ao (m+n) (af m):Int):=by have b:=gz (eK n) (dT fl h);have a:=eK m;refine⟨?_,?_⟩;rw[ea];have:ah^af m*2<=ah^af m*ah:=fK _ A6;omega;rw[j8,Rc a b];rfl
def ac4(a b i:Nat):ao a i+ao b i+cJ a b i=ao (a+b) i+ah*cJ a b (i+1):=by have:=tP (cJ a b i+ao a i+ao b i) ah;rw[<-yF,<-Bu]at this;omega
def KH{m n:Nat}(h:n<=m)(i:Nat):ao (m-n) i+ao n i+cJ (m-n) n i=ao m i+ah*cJ (m-n) n (i+1):=by have:=ac4 (m-n) n i;rwa[Nat.sub_add_cancel h]at this
def akm{x y c w c':Nat}(e:w+y+c=x+ah*c')(b:x<ah)(d:y<ah)(hw:w<ah)(hc:c<=1)(a:c'<=1):jc.wrap (cY.wrap (cY.wrap (cY.wrap (x:Int)-(c:Int))-cY.wrap (y:Int)))=(w:Int)/\cY.wrap (cY.wrap (cY.wrap (x:Int)-(c:Int))-cY.wrap (y:Int))/9223372036854775808=(c':Int):=by unfold ah at*;refine⟨?_,?_⟩<;>simp only[h5,Ec]<;>omega
def V0{x y c w c':Nat}(e:w+y+c=x+ah*c')(b:x<ah)(d:y<ah)(hw:w<ah)(hc:c<=1)(a:c'<=1):cY.wrap (cY.wrap (cY.wrap (cY.wrap (x:Int)+4294967296)-cY.wrap (y:Int))-(c:Int))=((x+ah-y-c:Nat):Int)/\jc.wrap ((x+ah-y-c:Nat):Int)=(w:Int)/\cY.wrap (1-(((x+ah-y-c)/ah:Nat):Int))=(c':Int):=by unfold ah at*;refine⟨?_,?_,?_⟩<;>simp only[h5,Ec]<;>omega
end
end Go.ay
namespace Go.Proofs.YtpcofcmencgkbaaGreat
def bL{n:Nat}{G:Nat->Option (List aa)}(l:List (aR ab G)){args:List aa}{r:aa}[bq args][bg r](b:mX (ak n).results [] (py (ak n) args l)=mW r [] (py (ak n) args l):=by kernel_rfl)(e:(Bq n).isSome=true:=by kernel_rfl):ag ab G n args r:=ag.Of (hN e) l b
section
variable(G:Nat->Option (List aa)){m n:Nat}
noncomputable abbrev CN(m n i:Nat):aD->List (Nat×aa):=λ q=>[(0,W m),(1,W n),(5,.ai q.a 1 0 i false),(6,.int .u64 (cJ m n i:Int)),(20,W m),(21,.int .i64 (af m:Int)),(22,.int .i64 (i:Int))]
noncomputable abbrev zI(m n i:Nat):aD->List (bt×aG):=λ q=>[(q.a,⟨us (eD (m+n) i),1,false⟩)]
def akw(r:af m<=4194304000000)(i:Nat)(f:i<af m):gY ab G (ak 305) 0 .normal (CN m n i) (zI m n i) (CN m n (i+1)) (zI m n (i+1)):=by have q:=ry m n i;have c:=cu m i;have k:=cu n i;have lt:decide ((i:Int)<(af m:Int))=true:=decide_eq_true ac;have d:cO.wrap ((i:Int)+1)=((i+1:Nat):Int):=YF _ ac;have f1:=ft _ c;have j:=vW (cJ m n i) (ao m i) (by unfold ah at c;omega);by_cases p:i<af n;have ln:decide ((i:Int)<(af n:Int))=true:=decide_eq_true ac;have l:=ft _ k;have o:=vW (cJ m n i+ao m i) (ao n i) (by unfold ah at c k;omega);have a:=j8 (cJ m n i+ao m i+ao n i);rw[<-yF]at a;have b:=mZ (cJ m n i+ao m i+ao n i);rw[<-Bu]at b;exact bn ⟨[27,0],[2],[3],[4]⟩ [hb 23 lt,dI 25 f,hw 29 f1 .u64,hw 30 j .u64,ho 33 (eH n),hb 34 ln,dI 38 p,hw 40 l .u64,hw 41 o .u64,hw 44 a .u32,Gn 46 [1] 26 (m+n) i ac,ho 48 b,hw 49 d];have ln:decide ((i:Int)<(af n:Int))=false:=decide_eq_false ac;have z:=oR (ac:af n<=i);have a:=j8 (cJ m n i+ao m i);have b:=mZ (cJ m n i+ao m i);have e:=yF m n i;have h:=Bu m n i;simp only[z,ij]at e h;rw[<-e]at a;rw[<-h]at b;exact bn ⟨[19,0],[2],[3],[4]⟩ [hb 23 lt,dI 25 f,hw 29 f1 .u64,hw 30 j .u64,ho 33 (eH n),hb 34 ln,hw 44 a .u32,Gn 46 [1] 18 (m+n) i ac,ho 48 b,hw 49 d]
def akv:gY ab G (ak 305) 0 (.exit 0) (CN m n (af m)) (zI m n (af m)) (λ q=>[(5,.ai q.a 1 0 (af m) false),(6,.int .u64 (cJ m n (af m):Int))]) (zI m n (af m)):=bn a3 [hb 23 (decide_eq_false (Int.lt_irrefl (af m:Int)))]
noncomputable abbrev HH(e:af m<=4194304000000)(a b o:Nat)(x:Bool)(d:decide ((af a:Int)<(af b:Int))=x)(f:j4 (ej 0) (aD.o o)=true):List (aR ab G):=[bk 10 a,bk 12 b,hb 13 d,bk 17 m,hI 18 (nb (af m)),aeK 19 (af m+1) ac,bk 21 m,te (ak 305) 0 0 (af m) (aD.o o) [(0,W m),(1,W n),(5,.ai [o,0] 1 0 0 false),(6,.int .u64 0),(20,W m),(21,.int .i64 (af m:Int)),(22,.int .i64 0)] [([o,0],⟨[],1,false⟩)] (CN m n) (zI m n) (.exit 0) (λ q=>[(5,.ai q.a 1 0 (af m) false),(6,.int .u64 (cJ m n (af m):Int))]) (zI m n (af m)) (by simp only[CN,yG];rfl) rfl (akw G e) (akv G) f]
def VA(h:af n<=af m):((cJ m n (af m):Int)>0/\eD (m+n) (af m+1)=digits (m+n))\/(¬(cJ m n (af m):Int)>0/\eD (m+n) (af m)=digits (m+n)):=by have e:=Rc (eK m) (gz (eK n) (dT fl h));have b:=(Bt h).1;by_cases g:m+n<ah^af m;rw[hh g]at e;exact .inr ⟨ac,JX g (by by_cases a:m=0;subst a;exact .inl (gw.2 rfl);exact .inr (bx (BJ a) (nP _ _)))⟩;have:=Pj (jT g) (fJ (af m));exact .inl ⟨ac,JX b (.inr (jT g))⟩
def akx(m n:Nat)(e:af m<=4194304000000)(d:af n<=4194304000000):ag ab G 305 [W m,W n] (W (m+n)):=by by_cases c:af m<af n;have c':=hH c;rw[Pk m n];rcases VA (m:=n) (n:=m) c' with⟨b,a⟩|⟨b,a⟩;exact ag.Iy hN (HH G (n:=m) d m n 13 true (decide_eq_true ac) an++[hb 51 (decide_eq_true b:decide ((cJ n m (af n):Int)>0)=true),hw 54 (Bt c').2 .u32,Gn 56 w0 (b6 0+9) (n+m) (af n) ac]) (b6 0+10) (mE _ _) a an;exact ag.Iy hN (HH G (n:=m) d m n 13 true (decide_eq_true ac) an++[hb 51 (decide_eq_false b:decide ((cJ n m (af n):Int)>0)=false)]) (b6 0) (mE _ _) a an;have c':=jT c;rcases VA (m:=m) (n:=n) c' with⟨b,a⟩|⟨b,a⟩;exact ag.Iy hN (HH G (n:=n) e m n 9 false (decide_eq_false ac) an++[hb 51 (decide_eq_true b:decide ((cJ m n (af m):Int)>0)=true),hw 54 (Bt c').2 .u32,Gn 56 w0 (b6 0+9) (m+n) (af m) ac]) (b6 0+10) (mE _ _) a an;exact ag.Iy hN (HH G (n:=n) e m n 9 false (decide_eq_false ac) an++[hb 51 (decide_eq_false b:decide ((cJ m n (af m):Int)>0)=false)]) (b6 0) (mE _ _) a an
noncomputable abbrev I1(m n i c:Nat):aD->List (Nat×aa):=λ q=>[(0,W m),(1,W n),(5,.ai q.a 1 0 (af m) false),(6,.int .u64 (c:Int)),(13,W m),(14,.int .i64 (af m:Int)),(15,.int .i64 (i:Int))]
def apr(h:n<=m)(j:af m<=4194304000000)(i:Nat)(b:i<af m):gY ab G (ak 306) 0 .normal (I1 m n i (cJ (m-n) n i)) (m4 (af m) (m-n) i) (I1 m n (i+1) (cJ (m-n) n (i+1))) (m4 (af m) (m-n) (i+1)):=by
 have⟨f,d⟩:=akm (KH h i) (cu m i) (cu n i) (cu (m-n) i) (ry (m-n) n i) (ry (m-n) n (i+1));by_cases c:i<af n;exact bn a3 [fP 16 b,dI 18 b,bk 26 n,fP 27 c,dI 31 c,hw 38 f .u32,eg 39 [1] _ i b,oa 39 (m-n) b,Gl 41 d,hI 42 b];have z:=oR (jT c);have e:∀a:Int,cY.wrap (cY.wrap a-cY.wrap ((0:Nat):Int))=cY.wrap a:=λ a=>by simp only[h5];omega
 rw[z,e]at f d;exact bn a3 [fP 16 b,dI 18 b,bk 26 n,hQ 27 (jT c),hw 38 f .u32,eg 39 [1] _ i b,oa 39 (m-n) b,Gl 41 d,hI 42 b]
def ait(c:hP ab G 262)(h:n<=m)(b:af m<=4194304000000):ag ab G 306 [W m,W n] (W (m-n)):=bL [bk 11 m,yY 12 (af m) (m-n),bk 14 m,td (ak 306) 0 0 (af m) 3 (I1 m n 0 0 (aD.o 3)) (λ i=>I1 m n i (cJ (m-n) n i)) (m4 (af m) (m-n)) (.exit 0) (by simp only[yG]) (apr G h b) (bn a3 [hQ 16 (a2 (af m))]),Gm (af m) (m-n) c (gA (Nat.sub_le _ _) (eK m))]
noncomputable abbrev HY(m n i c:Nat):aD->List (Nat×aa):=λ q=>[(0,W m),(1,W n),(5,.ai q.a 1 0 (af m) false),(6,.int .u64 (c:Int)),(7,.int .i64 (i:Int))]
def amg(h:n<=m)(g:af m<=4194304000000)(i:Nat)(a:i<af m):gY ab G (ak 222) 0 .normal (HY m n i (cJ (m-n) n i)) (m4 (af m) (m-n) i) (HY m n (i+1) (cJ (m-n) n (i+1))) (m4 (af m) (m-n) (i+1)):=by have⟨d,e,c⟩:=V0 (KH h i) (cu m i) (cu n i) (cu (m-n) i) (ry (m-n) n i) (ry (m-n) n (i+1));by_cases b:i<af n;exact bn a3 [bk 15 m,fP 16 a,bk 21 n,fP 22 b,dI 25 b,dI 30 a,hw 37 d .u64,hw 41 e .u32,eg 42 [1] _ i a,oa 42 (m-n) a,ho 44 (mZ (ao m i+ah-ao n i-cJ (m-n) n i)),hw 45 c .u64,hI 18 a];have z:=oR (jT b);rw[z]at d e c;exact bn a3 [bk 15 m,fP 16 a,bk 21 n,hQ 22 (jT b),dI 30 a,hw 37 d .u64,hw 41 e .u32,eg 42 [1] _ i a,oa 42 (m-n) a,ho 44 (mZ (ao m i+ah-0-cJ (m-n) n i)),hw 45 c .u64,hI 18 a]
def Wh(c:hP ab G 223)(h:n<=m)(b:af m<=4194304000000):ag ab G 222 [W m,W n] (W (m-n)):=bL [bk 11 m,yY 12 (af m) (m-n),td (ak 222) 0 0 (af m) 3 (HY m n 0 0 (aD.o 3)) (λ i=>HY m n i (cJ (m-n) n i)) (m4 (af m) (m-n)) (.exit 0) (by simp only[yG]) (amg G h b) (bn a3 [bk 15 m,hQ 16 (a2 (af m))]),Gm (af m) (m-n) c (gA (Nat.sub_le _ _) (eK m))]
noncomputable abbrev H0(m n i c:Nat):aD->List (Nat×aa):=λ q=>[(0,W m),(1,W n),(5,.ai q.a 1 0 (af m+1) false),(6,.int .u64 (c:Int)),(7,.int .i64 (i:Int))]
def amr(j:af m<=4194304000000)(i:Nat)(a:i<af m):gY ab G (ak 220) 0 .normal (H0 m n i (cJ m n i)) (m4 (af m+1) (m+n) i) (H0 m n (i+1) (cJ m n (i+1))) (m4 (af m+1) (m+n) (i+1)):=by have⟨h,g,d,f⟩:=akn m n i;have b:i<af m+1:=ac;by_cases c:i<af n;exact bn a3 [bk 21 m,fP 22 a,dI 28 a,bk 34 n,fP 35 c,dI 39 c,hw 42 h .u64,hw 46 d .u32,eg 47 [1] _ i b,oa 47 (m+n) b,ho 49 f,hI 24 a];exact bn a3 [bk 21 m,fP 22 a,dI 28 a,hw 31 (g (oR (jT c))) .u64,bk 34 n,hQ 35 (jT c),hw 46 d .u32,eg 47 [1] _ i b,oa 47 (m+n) b,ho 49 f,hI 24 a]
noncomputable abbrev Wj(f:hP ab G 223)(g:af m<=4194304000000)(h:af n<=af m)(a b o:Nat)(x:Bool)(d:decide ((af a:Int)<(af b:Int))=x)(j:j4 (ej 0) (aD.o o)=true):List (aR ab G):=have e:af m<af m+1:=nb _;[bk 9 a,bk 11 b,hb 12 d,bk 16 m,hI 17 e,yY 18 (af m+1) (m+n),td (ak 220) 0 0 (af m) o (H0 m n 0 0 (aD.o o)) (λ i=>H0 m n i (cJ m n i)) (m4 (af m+1) (m+n)) (.exit 0) (by simp only[yG]) (amr G g) (bn a3 [bk 21 m,hQ 22 (a2 (af m))]) j,bk 52 m,hw 54 (Bt h).2 .u32,eg 55 w0 _ _ e,oa 55 (m+n) e w0,Gm (af m+1) (m+n) f (Bt h).1]
def ams(b:hP ab G 223)(d:af m<=4194304000000)(e:af n<=4194304000000):ag ab G 220 [W m,W n] (W (m+n)):=by by_cases c:af m<af n;rw[Pk];exact bL (Wj G b e (hH c) m n 13 true (decide_eq_true ac) an);exact bL (Wj G b d (jT c) m n 9 false (decide_eq_false ac) an)
end
end Go.Proofs.YtpcofcmencgkbaaGreat
namespace Go.ay
def JV(m w i:Nat):ao (m/w) i=m/ah^i/w%ah:=by unfold ao;rw[kC,kC,c9]
def PL{s:Nat}(m i:Nat)(a:s<=32):ao (m/2^s) i=ao m i/2^s+2^(32-s)*(ao m (i+1)%2^s):=by have h:=Qp (x:=ao m i) (y:=m/ah^i/ah) a (cu m i);rw[show ah*(m/ah^i/ah)+ao m i=m/ah^i from hE _ _]at h;rw[JV,h];congr 2;unfold ao;rw[ea,<-kC,Nat.mod_mod_of_dvd];exact⟨2^(32-s),by rw[<-Iw a,c9]⟩
def Rn{w:Nat}(m i:Nat)(a:0<w)(hw:w<ah):ao (m/w) i=(ah*(m/ah^(i+1)%w)+ao m i)/w/\m/ah^i%w=(ah*(m/ah^(i+1)%w)+ao m i)%w:=by
 have e:m/ah^i=ah*(m/ah^(i+1))+ao m i:=by rw[ea,<-kC];exact(hE _ _).symm
 have d:=cu m i;generalize m/ah^(i+1)=A at*;have c:=hE A w;have f:=bA A a;have b:m/ah^i=(ah*(A%w)+ao m i)+w*(ah*(A/w)):=by
   rw[e];conv=>lhs;rw[<-c]
   rw[dW,oH];omega
 refine⟨?_,by rw[b,vu]⟩;rw[JV,b,nV _ _ a,vu,dX];rw[lK a];have:=fK ah (Nat.succ_le_of_lt f);rw[Nat.mul_succ]at this;omega
def adg{w:Nat}(m i:Nat)(a:0<w)(hw:w<ah):jc.wrap (((ah*(m/ah^(i+1)%w)+ao m i)/w:Nat):Int)=(ao (m/w) i:Int):=by rw[j8,<-(Rn m i a hw).1,dX (cu _ _)]
def adf{w:Nat}(m i:Nat)(a:0<w)(hw:w<ah):eS .rem .int (.int .u64 ((ah*(m/ah^(i+1)%w)+ao m i:Nat):Int)) (.int .u64 (w:Int))=some (.int .u64 ((m/ah^i%w:Nat):Int)):=by rw[C0 _ w (Ed a),(Rn m i a hw).2]
def oz{x:Nat}(h:x<ah):jc.wrap (x:Int)=(x:Int):=by rw[j8,dX h]
def YD{x w:Nat}(h:w=x%ah):jc.wrap (x:Int)=(w:Int):=by rw[j8,h]
def VH{f:Nat->Nat}{i a b:Nat}(j:Nat):(if j=i then b else f j)=if j=i then b else if j=i then a else f j:=by split<;>simp[*]
def oT(m i:Nat):m/ah^i=ah*(m/ah^(i+1))+ao m i:=by rw[ea,<-kC];exact(hE _ _).symm
def Iv{m n:Nat}(a:m≠n):∀k,m/ah^k=n/ah^k->∃i,i<k/\ao m i≠ao n i/\∀j,i<j->m/ah^j=n/ah^j|0,h=>(a (by simpa using h)).elim|k+1,h=>by by_cases e:ao m k=ao n k;have⟨i,h1,b,h3⟩:=Iv a k (by rw[oT m k,oT n k,h,e]);exact⟨i,ac,b,h3⟩;refine⟨k,ac,e,λ j c=>?_⟩;rw[show j=k+1+(j-(k+1))from ac,ic,<-kC,<-kC,h]
def JW{m n j:Nat}(h:m/ah^j=n/ah^j):ao m j=ao n j:=by unfold ao;rw[h]
def XK{m n i:Nat}(h:m/ah^(i+1)=n/ah^(i+1))(a:ao m i<ao n i):m<n:=by refine Nat.lt_of_not_le λ g=>?_;have:=Nat.div_le_div_right (c:=ah^i) g;rw[oT m,oT n,h]at this;omega
def XJ{m n i:Nat}(h:m/ah^(i+1)=n/ah^(i+1))(a:ao m i≠ao n i):e5 (ao m i:Int) (ao n i:Int)=dU m n:=by unfold dU;rcases Ju a with h1|h1;have:=XK h h1;rw[ur ac,ur ac];have:=XK h.symm h1;rw[yD ac,yD ac]
def Q4{m n:Nat}(h:af m≠af n):e5 (af m:Int) (af n:Int)=dU m n:=by unfold dU;rcases Ju h with h1|h1;have a:=T7 h1;rw[ur ac,ur ac];have a:=T7 h1;rw[yD ac,yD ac]
def iT(s i j:Nat):Nat:=if i<=j then ao s j else 0
def F1{s i:Nat}(L:Nat):∀j,j<L->iT s i j=if j=i then ao s i else iT s (i+1) j:=λ j _=>by unfold iT;split<;>split<;>first|(subst_vars;rfl)|rw[if_pos ac]|rw[if_neg ac]|omega
section
variable{P:Program}{G:Nat->Option (List aa)}
def ag.Og{f:FuncId}{aB:dO}(h:kE P f aB)(a:List (aR P G))(i:Nat){n:Nat}{args:List aa}{ws:List Nat}[bq args](b:ws.length=n)(d:mX aB.results ([([i,0],⟨us ws,1,false⟩)]++rest [([i,0],⟨us ws,1,false⟩)] []) (py aB args a)=mW (.ai [i,0] 1 0 n false) ([([i,0],⟨us ws,1,false⟩)]++rest [([i,0],⟨us ws,1,false⟩)] []) (py aB args a):=by kernel_rfl):ag P G f args (.sl 1 (us ws)):=by refine ag.pF h a [([i,0],⟨us ws,1,false⟩)] (.ai [i,0] 1 0 n false) d ?_ ?_ am λ σ c=>gr (c _ cp) (by rw[jw];exact b);show [(bN 0 [0] _ ([]++[i,0]),aG.aU _ _)]=_;rw[iF,cF];show [([]++[i,0],aG.mk (br _ (us ws)) 1 false)]=_;rw[bq.fix];rfl;show aa.ai (bN 0 [0] _ ([]++[i,0])) _ _ _ _=_;rw[iF,cF];rfl
def p5:Nat->Int|0=>-1|i+1=>(i:Int)
def Rq(i:Nat):p5 i=(i:Int)-1:=by cases i<;>simp[p5]
def kp(k i:Nat)(a:i<=8388608000000:=by omega):aR P G:=hw k (x:=cO.wrap ((i:Int)-1)) (y:=p5 i) (by rw[cU,Rq];omega)
def p8(k i:Nat):aR P G:=hb k (decide_eq_true ac:decide ((0:Int)<=(i:Int))=true)
abbrev Aw(L s i:Nat):aD->List (Id×aG):=λ q=>[(q.a,⟨us (ca L (iT s i)),1,false⟩)]
def Lh(k L s:Nat)(h:L<=8388608000000:=by omega):aR P G:=rD k L (iT s L) (λ _ h=>if_neg (Nat.not_le_of_lt h)) h
def SE{nx:FuncId}(L s:Nat)(a:hP P G nx)(b:s<ah^L)(bk:L<=8388608000000:=by omega):aR P G:=qb L s (iT s 0) (λ _ _=>if_pos (dL _)) a b bk
noncomputable def Mf(aB:dO)(k s N o:Nat)(b:List (Nat×aa))(T:Nat->aD->List (Nat×aa))(K:Nat->aD->List (Id×aG))(e:cf)[h1:fW (T 0)][n:dy (K 0)](f:T N (aD.o o)=b)(g:∀i,i<N->gY P G aB k .normal (T (i+1)) (K (i+1)) (T i) (K i))(l:gY P G aB k e (T 0) (K 0) (T 0) (K 0))(d:j4 (ej s) (aD.o o)=true:=by kernel_rfl)(c:N<=10000000000000000000:=by omega)(a:e≠.normal:=by simp):aR P G:=te aB k s N (aD.o o) b (K N (aD.o o)) (λ j=>T (N-j)) (λ j=>K (N-j)) e (T 0) (K 0) f rfl (λ j m=>by have h:=g (N-(j+1)) ac;rwa[show N-(j+1)+1=N-j from ac]at h) (by simp only[Nat.sub_self];exact l) d c a
def Ll(k x j:Nat):aR P G:=ho k (o:=mj false (.sl 1 (us (digits x++zs j)))) (v:=.int .i64 ((af x+j:Nat):Int)) (by simp[mj,jw,af,DT])
def SJ(k x j i w:Nat)(h:(digits x++zs j)[i]?=some w):aR P G:=ho k (GH (es:=us (digits x++zs j)) (GJ:=.i64) (k:=1) (kk:=1) rfl (z8 h))
def ae1(k x j:Nat):aR P G:=ho k (o:=gv 1 (.sl 1 (us (digits x++zs (j+1)))) none (some (.int .i64 ((af x+j:Nat):Int))) none) (v:=.sl 1 (us (digits x++zs j))) (by rw[ann rfl (by rw[jw,cP,DT];show af x+j<=af x+(j+1);omega),Ya];congr 3;rw[show zs (j+1)=zs j++[0]from List.replicate_succ',<-List.append_assoc];exact List.take_left' (by rw[cP,DT];rfl))
def yZ(k i:Nat)(a:i<=9223372036854775806:=by omega):aR P G:=hw k (x:=cO.wrap (((i+1:Nat):Int)-1)) (y:=(i:Int)) (by rw[cU];omega)
def q8{x p:Nat}(h:af x=p+1):ao x p≠0:=by
 have b:x≠0:=λ e=>by rw[gw.2 e]at h;omega
 have h1:=BJ b;have a:=eK x;rw[h]at h1 a;rw[A7 a];exact Ed (Pj h1 (fJ _))
noncomputable def wT(aB:dO)(k s N b o:Nat)(c:List (Nat×aa))(T:Nat->List (Nat×aa))(e:cf)(c5:List (Nat×aa))[h1:fW λ _=>c5](d:T N=c)(hb:b<=N)(f:∀i,b<=i->i<N->gY P G aB k .normal (λ _=>T (i+1)) (λ _=>[]) (λ _=>T i) (λ _=>[]))(l:gY P G aB k e (λ _=>T b) (λ _=>[]) (λ _=>c5) (λ _=>[]))(g:j4 (ej s) (aD.o o)=true:=by kernel_rfl)(n:N<=10000000000000000000:=by omega)(a:e≠.normal:=by simp):aR P G:=te aB k s (N-b) (aD.o o) c [] (λ j _=>T (N-j)) (λ _ _=>[]) e (λ _=>c5) (λ _=>[]) d rfl (λ j m=>by have h:=f (N-(j+1)) ac ac;rwa[show N-(j+1)+1=N-j from ac]at h) (by show gY P G aB k e (λ _=>T (N-(N-b))) _ _ _;rw[show N-(N-b)=b from ac];exact l) g ac a
end
end Go.ay
namespace Go.Proofs.YtpcofcmencgkbaaGreat
section
variable(G:Nat->Option (List aa)){m w:Nat}
noncomputable abbrev rz(m w i r:Nat):aD->List (Nat×aa):=λ q=>[(0,W m),(1,.int .u32 (w:Int)),(6,.ai q.a 1 0 (af m) false),(7,.int .u64 (r:Int)),(8,.int .i64 (p5 i))]
noncomputable abbrev ads(b:0<w)(a:w<ah)(g:af m<=4194304000000)(i:Nat)(c:i<af m):List (aR ab G):=have e:m/ah^(i+1)%w<ah:=Nat.lt_trans (bA _ b) a;have f:ah*(m/ah^(i+1)%w)+ao m i<18446744073709551616:=by have:=cu m i;unfold ah at*;omega
 [p8 16 i,ho 20 (z2 _ e),dI 23 c,hw 25 (ft _ (cu m i)) .u64,ho 26 (CH _ _ e (cu m i)),hw 31 (ft _ a) .u64,ho 32 (CV _ w f (Ed b)),hw 33 (adg m i b a) .u32,eg 34 [1] _ i c,gO 34 [1] (iT (m/w) i) c (F1 _),hw 37 (ft _ a) .u64,ho 38 (adf m i b a),kp 18 i]
def RA(a:0<w)(b:w<ah)(d:af m<=4194304000000)(i:Nat)(e:i<af m):gY ab G (ak 312) 0 .normal (rz m w (i+1) (m/ah^(i+1)%w)) (Aw (af m) (m/w) (i+1)) (rz m w i (m/ah^i%w)) (Aw (af m) (m/w) i):=bn a3 (ads G a b d i e)
def Rz(b:af m<=4194304000000):gY ab G (ak 312) 0 (.exit 0) (rz m w 0 (m/ah^0%w)) (Aw (af m) (m/w) 0) (rz m w 0 (m/ah^0%w)) (Aw (af m) (m/w) 0):=bn a3 []
def QA:aZ (ak 254) 0=aZ (ak 312) 0/\(ak 254).aK=(ak 312).aK:=⟨an,an⟩
def Qy{e:cf}{A B:aD->List (Nat×aa)}{bJ bS:aD->List (bt×aG)}(h:gY ab G (ak 312) 0 e A bJ B bS):gY ab G (ak 254) 0 e A bJ B bS:=by unfold gY;rw[QA.1,QA.2];exact h
def RB(a:m<ah^af m):rz m w (af m) (m/ah^af m%w)=rz m w (af m) 0:=by rw[hh a,Nat.zero_mod]
def adt(e:hP ab G 262)(hu:∀n,n<18446744073709551616->ag ab G 230 [.int .u64 ((n:Nat):Int)] (W n))(b:0<w)(c:w<ah)(d:af m<=4194304000000):ag ab G 312 [W m,.int .u32 (w:Int)] (.aJ [W (m/w),W (m%w)]):=by have h:ag ab G 312 [W m,.int .u32 (w:Int)] (.aJ [W (m/w),W (m/ah^0%w)]):=bL [bk 10 m,Lh 11 (af m) (m/w),bk 13 m,kp 14 (af m),Mf (ak 312) 0 0 (af m) 4 (rz m w (af m) 0 (aD.o 4)) (λ i=>rz m w i (m/ah^i%w)) (Aw (af m) (m/w)) (.exit 0) (congrFun (RB (eK m)) _) (RA G b c d) (Rz G d),SE (af m) (m/w) e (gA (h6 _ _) (eK m)),hc (hu (m/ah^0%w) (by have:=bA (m/ah^0) b;unfold ah at*;omega))];rwa[kg,oI]at h
def ab4(f:hP ab G 223)(b:0<w)(c:w<ah)(d:af m<=4194304000000):ag ab G 254 [W m,.int .u32 (w:Int)] (.aJ [W (m/w),.int .u32 ((m%w:Nat):Int)]):=by have h:ag ab G 254 [W m,.int .u32 (w:Int)] (.aJ [W (m/w),.int .u32 ((m/ah^0%w:Nat):Int)]):=bL [bk 10 m,Lh 11 (af m) (m/w),bk 13 m,kp 14 (af m),Mf (ak 254) 0 0 (af m) 4 (rz m w (af m) 0 (aD.o 4)) (λ i=>rz m w i (m/ah^i%w)) (Aw (af m) (m/w)) (.exit 0) (congrFun (RB (eK m)) _) (λ i e=>Qy G (RA G b c d i e)) (Qy G (Rz G d)),SE (af m) (m/w) f (gA (h6 _ _) (eK m)),hw 42 (oz (Nat.lt_trans (bA (m/ah^0) b) c)) .u32];rwa[kg,oI]at h
end
section
variable(G:Nat->Option (List aa)){m s:Nat}
noncomputable abbrev Ik(m s i:Nat):aD->List (Nat×aa):=λ q=>[(0,W m),(1,.int .i64 (s:Int)),(5,.ai q.a 1 0 (af m) false),(11,W m),(12,.int .i64 (af m:Int)),(13,.int .i64 (i:Int))]
abbrev NJ(m s i j:Nat):Nat:=if j=i then ao m i/2^s else iU (m/2^s) i j
def anz(n:s<=31)(o:af m<=4194304000000)(i:Nat)(a:i<af m):gY ab G (ak 317) 0 .normal (Ik m s i) (m4 (af m) (m/2^s) i) (Ik m s (i+1)) (m4 (af m) (m/2^s) (i+1)):=by have d:=PL m i (ac:s<=32);have l:=cu m i;by_cases c:i+1<af m;have g:=cu m (i+1);have k:=am8 (s:=s) (y:=ao m (i+1)) (ac:s<=32) l;have b:ao m i/2^s<ah:=gA (h6 _ _) l;exact bn a3 [fP 14 a,dI 16 a,ho 22 (NF (ao m i) s ac),eg 23 [1] _ i a,gO 23 [1] (NJ m s i) a (λ j _=>rfl),hI 25 a,bk 27 m,fP 28 c,eg 31 [1] _ i a,hR 32 [1] (af m) (NJ m s i) a (if_pos rfl),hI 35 a,dI 36 c,hw 38 (ft _ g) .u64,hw 40 (show cO.wrap (32-(s:Int))=((32-s:Nat):Int)by rw[cU];omega),ho 41 (ND (ao m (i+1)) (32-s) ac g),hw 42 (j8 (ao m (i+1)*2^(32-s))) .u32,ho 43 (Hv (ao m i/2^s) (ao m (i+1)*2^(32-s)%ah) b (bA _ fl)),eg 44 [1] _ i a,gO 44 [1] (f:=NJ m s i) (iU (m/2^s) (i+1)) a (λ j e=>by rw[Ld _ j e,d,<-k.1];exact VH j),hI 45 a];have z:=oR (x:=m) (ac:af m<=i+1);rw[z,Nat.zero_mod,jy,ij]at d;exact bn a3 [fP 14 a,dI 16 a,ho 22 (NF (ao m i) s ac),eg 23 [1] _ i a,gO 23 [1] (iU (m/2^s) (i+1)) a (λ j e=>by rw[Ld _ j e,d]),hI 25 a,bk 27 m,hQ 28 (jT c),hI 45 a]
def Xe(c:s<=31)(b:af m<=4194304000000):ag ab G 317 [W m,.int .i64 (s:Int)] (.sl 1 (us (ca (af m) (iU (m/2^s) (af m))))):=ag.Og hN [bk 9 m,yY 10 (af m) (m/2^s),bk 12 m,td (ak 317) 0 0 (af m) 3 (Ik m s 0 (aD.o 3)) (Ik m s) (m4 (af m) (m/2^s)) (.exit 0) rfl (anz G c b) (bn a3 [hQ 14 (a2 (af m))])] (b6 0) (ua _ _)
noncomputable abbrev Fi(m s i:Nat):aD->List (Nat×aa):=λ q=>[(0,W m),(1,.int .i64 (s:Int)),(5,.ai q.a 1 0 (af m) false),(6,.int .i64 (i:Int))]
def abV(h:s<=31)(g:af m<=4194304000000)(i:Nat)(a:i<af m):gY ab G (ak 258) 0 .normal (Fi m s i) (m4 (af m) (m/2^s) i) (Fi m s (i+1)) (m4 (af m) (m/2^s) (i+1)):=by have d:=PL m i (ac:s<=32);have b:=cu m i;have c:=cu m (i+1);rw[<-Qp (ac:s<=32) b]at d;by_cases e:i+1<af m;exact bn a3 [bk 13 m,fP 14 a,dI 19 a,hw 21 (ft _ b) .u64,hI 23 a,bk 25 m,fP 26 e,hI 30 a,dI 31 e,hw 33 (ft _ c) .u64,ho 34 (z2 _ c),ho 35 (aj0 _ _ b c),ho 40 (WQ (ah*ao m (i+1)+ao m i) s ac),hw 41 (YD d) .u32,eg 42 [1] _ i a,oa 42 (m/2^s) a,hI 16 a];have z:=oR (x:=m) (ac:af m<=i+1);rw[z,jy,cF]at d;exact bn a3 [bk 13 m,fP 14 a,dI 19 a,hw 21 (ft _ b) .u64,hI 23 a,bk 25 m,hQ 26 (jT e),ho 40 (WQ (ao m i) s ac),hw 41 (YD d) .u32,eg 42 [1] _ i a,oa 42 (m/2^s) a,hI 16 a]
def abW(c:hP ab G 223)(d:s<=31)(b:af m<=4194304000000):ag ab G 258 [W m,.int .i64 (s:Int)] (W (m/2^s)):=bL [bk 9 m,yY 10 (af m) (m/2^s),td (ak 258) 0 0 (af m) 3 (Fi m s 0 (aD.o 3)) (Fi m s) (m4 (af m) (m/2^s)) (.exit 0) rfl (abV G d b) (bn a3 [bk 13 m,hQ 14 (a2 (af m))]),Gm (af m) (m/2^s) c (gA (h6 _ _) (eK m))]
noncomputable abbrev WU(m i:Nat):aD->List (Nat×aa):=λ _=>[(0,W m),(3,.int .u64 ((m/ah^i:Nat):Int)),(4,.int .i64 (p5 i))]
def WV(f:m<18446744073709551616):ag ab G 253 [W m] (.int .u64 (m:Int)):=by have d:af m<=2:=ja (by unfold ah;omega);have h:ag ab G 253 [W m] (.int .u64 ((m/ah^0:Nat):Int)):=bL [bk 6 m,kp 7 (af m),Mf (ak 253) 0 0 (af m) 3 [(0,W m),(3,.int .u64 0),(4,.int .i64 (p5 (af m)))] (WU m) (λ _ _=>[]) (.exit 0) (by unfold WU;rw[hh (eK m)];rfl) (λ i c=>by
   have e:m/ah^i=ah*(m/ah^(i+1))+ao m i:=by rw[ea,<-kC];exact(hE _ _).symm
   have b:m/ah^(i+1)<ah:=by have:=h6 m (ah^i);rw[ea,<-kC,lK fl];unfold ah at*;omega
   exact bn a3 [p8 9 i,ho 13 (z2 _ b),dI 16 c,hw 18 (ft _ (cu m i)) .u64,ho 19 (e▸CH _ _ b (cu m i)),kp 11 i]) (bn a3 [])];rwa[kg,oI]at h
end
section
variable(G:Nat->Option (List aa)){m n:Nat}
noncomputable abbrev np(m n i:Nat):List (Nat×aa):=[(0,W m),(1,W n),(5,.int .i64 (p5 i))]
def KB(p:∀a b:Int,ag ab G 265 [.int .i64 a,.int .i64 b] (.int .i64 (e5 a b)))(hu:∀a b:Int,ag ab G 288 [.int .u32 a,.int .u32 b] (.int .i64 (e5 a b)))(q:af m<=4194304000000):ag ab G 266 [W m,W n] (.int .i64 (dU m n)):=by
 by_cases f:af m=af n;have o:((af m:Int)!=(af n:Int))=false:=by rw[f];exact bne_self_eq_false _
 have rd:∀i,i<af m->ao m i=ao n i->gY ab G (ak 266) 0 .normal (λ _=>np m n (i+1)) (λ _=>[]) (λ _=>np m n i) (λ _=>[]):=λ i e h=>bn a3 [p8 20 i,dI 25 e,dI 29 (f▸e),hb 31 (show((ao m i:Int)!=(ao n i:Int))=false by rw[h];exact bne_self_eq_false _),kp 22 i];by_cases k:m=n;subst k;rw[show dU m m=0 from Q2 rfl];exact bL [bk 7 m,bk 9 m,hb 10 o,bk 17 m,kp 18 (af m),wT (ak 266) 0 0 (af m) 0 0 (np m m (af m)) (np m m) (.exit 0) [] rfl (dL _) (λ i _ e=>rd i e rfl) (bn a3 [])];have⟨i,e,h1,l⟩:=Iv k (af m) (by rw[hh (eK m),f,hh (eK n)]);have d:=hu (ao m i) (ao n i);rw[XJ (l _ (nb i)) h1]at d;exact bL [bk 7 m,bk 9 n,hb 10 o,bk 17 m,kp 18 (af m),wT (ak 266) 0 0 (af m) (i+1) 0 (np m n (af m)) (np m n) .ret [(4,.int .i64 (dU m n))] rfl e (λ j g h=>rd j h (JW (l j g))) (bn a3 [p8 20 i,dI 25 e,dI 29 (f▸e),hb 31 (show((ao m i:Int)!=(ao n i:Int))=true from bne_iff_ne.2 ac),dI 34 e,dI 38 (f▸e),hc d])];have d:=p (af m:Int) (af n:Int);rw[Q4 f]at d;exact bL [bk 7 m,bk 9 n,hb 10 (show((af m:Int)!=(af n:Int))=true from bne_iff_ne.2 ac),bk 12 m,bk 14 n,hc d]
def CW(o:af m<=4194304000000):ag ab G 221 [W m,W n] (.int .i64 (dU m n)):=by
 by_cases b:af m=af n;have c:((af m:Int)!=(af n:Int))=false:=by rw[b];exact bne_self_eq_false _
 have rd:∀i,i<af m->ao m i=ao n i->gY ab G (ak 221) 0 .normal (λ _=>np m n (i+1)) (λ _=>[]) (λ _=>np m n i) (λ _=>[]):=λ i a h=>by have f:decide ((ao m i:Int)<(ao n i:Int))=false:=decide_eq_false ac;have g:decide ((ao m i:Int)>(ao n i:Int))=false:=decide_eq_false ac;exact bn a3 [p8 20 i,dI 25 a,dI 29 (b▸a),hb 31 f,dI 34 a,dI 38 (b▸a),hb 40 g,kp 22 i]
 by_cases d:m=n;subst d;rw[show dU m m=0 from Q2 rfl];exact bL [bk 7 m,bk 9 m,hb 10 c,bk 17 m,kp 18 (af m),wT (ak 221) 0 0 (af m) 0 0 (np m m (af m)) (np m m) (.exit 0) [] rfl (dL _) (λ i _ a=>rd i a rfl) (bn a3 [])];have⟨i,a,h1,l⟩:=Iv d (af m) (by rw[hh (eK m),b,hh (eK n)]);have e:=XJ (l _ (nb i)) h1;rcases Ju h1 with h3|h3;have f:decide ((ao m i:Int)<(ao n i:Int))=true:=decide_eq_true ac;rw[<-e,ur ac];exact bL [bk 7 m,bk 9 n,hb 10 c,bk 17 m,kp 18 (af m),wT (ak 221) 0 0 (af m) (i+1) 0 (np m n (af m)) (np m n) .ret [(4,.int .i64 (-1))] rfl a (λ j g h=>rd j h (JW (l j g))) (bn a3 [p8 20 i,dI 25 a,dI 29 (b▸a),hb 31 f])];have f:decide ((ao m i:Int)<(ao n i:Int))=false:=decide_eq_false ac;have g:decide ((ao m i:Int)>(ao n i:Int))=true:=decide_eq_true ac;rw[<-e,yD ac];exact bL [bk 7 m,bk 9 n,hb 10 c,bk 17 m,kp 18 (af m),wT (ak 221) 0 0 (af m) (i+1) 0 (np m n (af m)) (np m n) .ret [(4,.int .i64 1)] rfl a (λ j g h=>rd j h (JW (l j g))) (bn a3 [p8 20 i,dI 25 a,dI 29 (b▸a),hb 31 f,dI 34 a,dI 38 (b▸a),hb 40 g])];have c:((af m:Int)!=(af n:Int))=true:=bne_iff_ne.2 ac;rw[<-Q4 b];rcases Ju b with h3|h3;rw[ur ac];exact bL [bk 7 m,bk 9 n,hb 10 c,bk 12 m,bk 14 n,hb 15 (decide_eq_true ac:decide ((af m:Int)<(af n:Int))=true)];rw[yD ac];exact bL [bk 7 m,bk 9 n,hb 10 c,bk 12 m,bk 14 n,hb 15 (decide_eq_false ac:decide ((af m:Int)<(af n:Int))=false)]
def anW{f:Nat}(e:kE ab f (ak 262))(x k:Nat)(i:af x+k<=9223372036854775807):ag ab G f [.sl 1 (us (digits x++zs k))] (.sl 1 (us (digits x++zs 0))):=by
 have rd:∀j,0<=j->j<k->gY ab G (ak 262) 0 .normal (λ _=>[(0,.sl 1 (us (digits x++zs (j+1))))]) (λ _=>[]) (λ _=>[(0,.sl 1 (us (digits x++zs j)))]) (λ _=>[]):=λ j _ h=>bn a3 [Ll 4 x (j+1),hb 5 (decide_eq_true ac:decide (((af x+(j+1):Nat):Int)>0)=true),Ll 9 x (j+1),yZ 10 (af x+j),SJ 11 x (j+1) (af x+j) 0 (by rw[List.getElem?_append_right (show(digits x).length<=af x+j from nP _ _),show af x+j-(digits x).length=j from su _ _];exact List.getElem?_replicate_of_lt (nb j)),Ll 17 x (j+1),yZ 18 (af x+j),ae1 19 x j];rcases c:af x with _|p;rw[gw.1 c]at rd⊢;have b:mj false (.sl 1 (us (digits 0++zs 0)))=some (.int .i64 0):=by rw[iQ];rfl
 exact ag.Of e [wT (ak 262) 0 0 k 0 0 [(0,.sl 1 (us (digits 0++zs k)))] (λ j=>[(0,.sl 1 (us (digits 0++zs j)))]) (.exit 0) [(0,.sl 1 (us (digits 0++zs 0)))] rfl (dL _) rd (bn a3 [ho 4 b])] an;have b:mj false (.sl 1 (us (digits x++zs 0)))=some (.int .i64 ((p+1:Nat):Int)):=by have:(digits x).length=p+1:=c;simp[mj,jw,DT,this]
 have g:(digits x++zs 0)[p]?=some (ao x p):=by rw[show zs 0=[]from rfl,pQ];exact vL ac
 have d:((ao x p:Int)==0)=false:=by simpa using q8 c
 exact ag.Of e [wT (ak 262) 0 0 k 0 0 [(0,.sl 1 (us (digits x++zs k)))] (λ j=>[(0,.sl 1 (us (digits x++zs j)))]) (.exit 0) [(0,.sl 1 (us (digits x++zs 0)))] rfl (dL _) rd (bn a3 [ho 4 b,hb 5 (decide_eq_true ac:decide (((p+1:Nat):Int)>0)=true),ho 9 b,yZ 10 p,SJ 11 x 0 p _ g,hb 13 d])] an
def XL{f:Nat}(c:kE ab f (ak 262)):hP ab G f:=λ ws hw e=>by have⟨k,b⟩:=ay.trimmed ws hw;have h:=anW G c (val ws) k (by have:=congrArg List.length b;rw[cP,DT]at this;show(digits (val ws)).length+k<=_;omega);rw[<-b,show zs 0=[]from rfl,pQ]at h;exact h
def nG:hP ab G 262:=XL G hN
def ma:hP ab G 223:=XL G ((an:ak 223=ak 262)▸hN)
end
end Go.Proofs.YtpcofcmencgkbaaGreat
namespace Go.ay
def b7(x y:Nat):Nat->Nat×Nat|0=>(x,y)|i+1=>((b7 x y i).2,(b7 x y i).1%(b7 x y i).2)
def FL(x y:Nat):∀i,cz (b7 x y i).1 (b7 x y i).2=cz x y|0=>rfl|i+1=>by rw[<-FL x y i];show cz (b7 x y i).2 ((b7 x y i).1%(b7 x y i).2)=_;rw[Nat.gcd_comm,<-Nat.gcd_rec,Nat.gcd_comm]
def FM{x y b:Nat}(a:x<=b)(c:y<=b):∀i,(b7 x y i).1<=b/\(b7 x y i).2<=b|0=>⟨a,c⟩|i+1=>⟨(FM a c i).2,bx (Nat.mod_le _ _) (FM a c i).1⟩
def tc(n:Nat):Nat:=if n=0 then 0 else n.log2+1
def ahI{r x:Nat}(h:2*r<=x)(a:0<x):tc r<tc x:=by unfold tc;rw[if_neg (by omega:¬x=0)];split;omega;have:r.log2+1<=x.log2:=(Nat.le_log2 ac).2 (by have:=Nat.log2_self_le (n:=r);rw[ea];omega);omega
def lq(p:Nat×Nat):Nat:=2*(tc p.1+tc p.2)+if p.1<p.2 then 1 else 0
def adA{x y:Nat}(h:0<y):lq (y,x%y)<lq (x,y):=by have a:=bA x h;unfold lq;simp only[];rw[if_neg ac];by_cases c:x<y;rw[if_pos c,dX c];omega;rw[if_neg c];have:tc (x%y)<tc x:=ahI (by have h1:=hE x y;have b:y*1<=y*(x/y):=fK _ (Pj ac h);omega) ac;omega
def TS(n:Nat):tc n<=32*af n:=by unfold tc;split;omega;have h:=eK n;rw[show ah=2^32 from rfl,<-Nat.pow_mul]at h;exact(Nat.log2_lt ac).2 h
def KW(x y:Nat)(C:Nat×Nat->Bool)(f:∀p,C p=true->0<p.2):∃N,N<=lq (x,y)/\(∀i,i<N->C (b7 x y i)=true)/\C (b7 x y N)=false:=by
 have key:∀k,(∀i,i<k->C (b7 x y i)=true)->lq (b7 x y k)+k<=lq (x,y):=λ k=>by induction k with|zero=>exact λ _=>a2 _|succ k c=>intro h;have h1:=c λ i b=>h i ac;have a:_<lq (b7 x y k):=adA (x:=(b7 x y k).1) (f _ (h k ac));show lq ((b7 x y k).2,_)+_<=_;omega
 have d:∀k,(∀i,i<k->C (b7 x y i)=true)\/∃N,N<k/\(∀i,i<N->C (b7 x y i)=true)/\C (b7 x y N)=false:=λ k=>by induction k with|zero=>exact .inl λ i b=>absurd b (fv _)|succ k c=>
     rcases c with h|⟨N,h1,a⟩;cases e:C (b7 x y k)with|true=>exact .inl λ i b=>(Nat.lt_succ_iff_lt_or_eq.1 b).elim (h i) λ g=>g▸e|false=>exact .inr ⟨k,ac,h,e⟩
     exact .inr ⟨N,ac,a⟩
 rcases d (lq (x,y)+1)with h|⟨N,h1,a⟩;have:=key _ h;omega;exact⟨N,ac,a⟩
section
variable{P:Program}{G:Nat->Option (List aa)}
def uC(k y:Nat)(h:y<256):aR P G:=.st k [] (.zd (.str lens) (.int .u8 (y:Int))) (λ _=>{val:=.int .u8 (len8 y:Int)}) (λ σ p _=>by show(if 0<=(y:Int)then dC ((lens[(y:Int).toNat]?).map λ b=>aa.int .u8 b.toNat)else none)=_;rw[if_pos ac,nQ,ahH h];rfl)
def Gk(k x j d:Nat)(e:d=2^j:=by rfl)(a:j<=32:=by decide):aR P G:=ho k (o:=eS .shr .int (.int .u32 (x:Int)) (.int .u64 (j:Int))) (v:=.int .u32 ((x/d:Nat):Int)) (by subst e;have:=NF x j a;rw[Bj ac]at this⊢;exact this)
def G4(y:Nat)(c:Nat)(a:y<256)(hc:c<=24):List (aR P G):=[hw 15 (show IntKind.u8.wrap (y:Int)=(y:Int)by rw[IntKind.wrap_u8'];omega) .u8,uC 16 y a,hw 17 (show cO.wrap (len8 y:Int)=(len8 y:Int)by have:=TQ y;rw[cU];omega),hw 18 (show cO.wrap ((c:Int)+(len8 y:Int))=((c+len8 y:Nat):Int)by have:=TQ y;rw[cU];omega)]
def FK{x y N:Nat}(a:af x<=4194304000000)(b:af y<=4194304000000)(h:N<=lq (x,y)):N<=10000000000000000000:=by have:=TS x;have:=TS y;unfold lq at h;simp only[]at h;split at h<;>omega
def RQ{x y b:Nat}(c:af x<=b)(d:af y<=b)(i:Nat):af (b7 x y i).1<=b/\af (b7 x y i).2<=b:=by have h:=FM (Nat.le_max_left x y) (Nat.le_max_right x y) i;have a:∀n,n<=max x y->af n<=b:=λ n h=>bx (fj h) (by simp only[Nat.max_def];split<;>assumption);exact⟨a _ h.1,a _ h.2⟩
end
end Go.ay
namespace Go.Proofs.YtpcofcmencgkbaaGreat
section
variable(G:Nat->Option (List aa))
abbrev uA:aD->List (bt×aG):=λ q=>[(q.a,⟨[.agg [.bool false,.aH]],2,false⟩)]
abbrev rB(p:Nat×Nat):aD->List (Nat×aa):=λ q=>[(4,.ref q.a 0 0),(5,W p.1),(6,W p.2)]
abbrev EN(f:Nat):Prop:=∀m n,n≠0->af m<=3774873600000->af n<=3774873600000->ag ab G f [W m,W n] (.aJ [W (m/n),W (m%n)])
abbrev Ss(p:Nat×Nat):aD->List (Nat×aa):=λ q=>[(4,.ref q.a 0 0),(9,.int .u64 (p.1:Int)),(10,.int .u64 (p.2:Int))]
def al9(hd:EN G 224)(j:ld ab G 179)(s t:Bool)(x y:Nat)(l:af x<=3774873600000)(b:af y<=3774873600000):ag ab G 176 [.agg [.bool s,W x],.agg [.bool t,W y]] (aM (cz x y:Nat)):=by
 have⟨N,h1,m,h3⟩:=KW x y (λ p=>decide (0<p.2)) λ p h=>by simpa using h
 have c:=RQ l b;have e:(b7 x y N).2=0:=by have:=of_decide_eq_false h3;omega
 have f:=FL x y N;rw[e,Pl]at f;have d:=j false (b7 x y N).1 (bx (c N).1 ac);rw[show ez false (b7 x y N).1=((cz x y:Nat):Int)by rw[f];rfl]at d;exact bL [hc (iY (ma G) x ac),hc (iY (ma G) y ac),td (ak 176) 0 0 N 2 (rB (x,y) (aD.o 2)) (λ i=>rB (b7 x y i)) (λ _=>uA) (.exit 0) rfl (λ i k=>by have g:=of_decide_eq_true (m i k);exact bn a3 [bk 16 (b7 x y i).2,hb 17 (decide_eq_true (by have:=@gw (b7 x y i).2;omega):decide ((af (b7 x y i).2:Int)>0)=true),hc (hd _ _ (Ed g) (c i).1 (c i).2)]) (bn a3 [bk 16 (b7 x y N).2,hb 17 (decide_eq_false (by rw[gw.2 e];decide):decide ((af (b7 x y N).2:Int)>0)=false)]) an (FK ac ac h1),hc d]
def akp(hd:EN G 303)(D:ld ab G 229)(k:∀n,af n<=4194304000000->ag ab G 185 [W n] (W n))(f:∀n,n<18446744073709551616->ag ab G 304 [W n] (.int .u64 ((n:Nat):Int)))(hu:∀n,n<18446744073709551616->ag ab G 230 [.int .u64 ((n:Nat):Int)] (W n))(s t:Bool)(x y:Nat)(v:af x<=3774873600000)(e:af y<=3774873600000):ag ab G 292 [.agg [.bool s,W x],.agg [.bool t,W y]] (aM (cz x y:Nat)):=by
 have⟨N,h1,I,h3⟩:=KW x y (λ p=>decide (2<af p.2\/2<af p.1/\0<af p.2)) λ p h=>by have:=of_decide_eq_true h;have:=@gw p.2;omega
 have m:=RQ v e;have j:=FL x y N;have F:=of_decide_eq_false h3;have H:∀{n:Nat},0<n->decide ((n:Int)>0)=true:=λ h=>decide_eq_true ac;have nx:∀{n:Nat},2<n->decide ((n:Int)>2)=true:=λ h=>decide_eq_true ac;have FO:∀{n:Nat},¬2<n->decide ((n:Int)>2)=false:=λ h=>decide_eq_false ac;have rd:∀i,i<N->gY ab G (ak 292) 0 .normal (rB (b7 x y i)) uA (rB (b7 x y (i+1))) uA:=λ i q=>by
   have l:=of_decide_eq_true (I i q);have L:(b7 x y i).2≠0:=by have:=@gw (b7 x y i).2;omega
   have d:=hd _ _ L (m i).1 (m i).2;by_cases c:2<af (b7 x y i).2;exact bn a3 [bk 18 (b7 x y i).2,hb 19 (nx c),hc d] an;have z:=l.resolve_left c;exact bn a3 [bk 18 (b7 x y i).2,hb 19 (FO c),bk 22 (b7 x y i).1,hb 23 (nx z.1),bk 26 (b7 x y i).2,hb 27 (H z.2),hc d] an
 have C:gY ab G (ak 292) 0 (.exit 0) (rB (b7 x y N)) uA (rB (b7 x y N)) uA:=by by_cases c:2<af (b7 x y N).1;exact bn a3 [bk 18 (b7 x y N).2,hb 19 (FO (n:=af (b7 x y N).2) ac),bk 22 (b7 x y N).1,hb 23 (nx c),bk 26 (b7 x y N).2,hb 27 (decide_eq_false ac:decide ((af (b7 x y N).2:Int)>0)=false)] an;exact bn a3 [bk 18 (b7 x y N).2,hb 19 (FO (n:=af (b7 x y N).2) ac),bk 22 (b7 x y N).1,hb 23 (FO c)] an
 have R:af (cz x y)<=3774873600000:=by rcases Nat.eq_zero_or_pos x with h|h;rw[h,Nat.gcd_zero_left];exact e;exact bx (fj (Nat.gcd_le_left _ h)) v
 have g:=D false (cz x y) ac;by_cases w:(b7 x y N).2=0;rw[w,Pl]at j;rw[<-j]at g⊢;exact bL [hc (iY (nG G) x ac),hc (iY (nG G) y ac),td (ak 292) 0 0 N 2 (rB (x,y) (aD.o 2)) (λ i=>rB (b7 x y i)) (λ _=>uA) (.exit 0) rfl rd C an (FK ac ac h1),bk 39 (b7 x y N).2,hb 40 (show((af (b7 x y N).2:Int)==0)=true by rw[gw.2 w];rfl),hc (k (b7 x y N).1 (bx (m N).1 ac)),hc g];have l:0<af (b7 x y N).2:=by have:=@gw (b7 x y N).2;omega
 have qB:=Cj (ac:af (b7 x y N).1<=2);have u2:=Cj (ac:af (b7 x y N).2<=2);have S:af (b7 x y N).1<=2:=ac;have T:af (b7 x y N).2<=2:=ac;generalize P:(b7 x y N).1=A at*;generalize Q:(b7 x y N).2=B at*;have⟨M,K,O,J⟩:=KW A B (λ p=>decide (p.2≠0)) λ p h=>Nat.pos_of_ne_zero (of_decide_eq_true h);have E:=λ i=>(FM (b:=18446744073709551615) (ac:A<=_) (ac:B<=_) i).1;have u:(b7 A B M).2=0:=by simpa using J
 have r:=FL A B M;rw[u,Pl,j]at r;rw[<-r]at g⊢;subst P Q;exact bL [hc (iY (nG G) x ac),hc (iY (nG G) y ac),td (ak 292) 0 0 N 2 (rB (x,y) (aD.o 2)) (λ i=>rB (b7 x y i)) (λ _=>uA) (.exit 0) rfl rd C an (FK ac ac h1),bk 39 (b7 x y N).2,hb 40 (show((af (b7 x y N).2:Int)==0)=false by simpa using Ed l),hc (f (b7 x y N).1 qB),hc (f (b7 x y N).2 u2),td (ak 292) 1 1 M (b6 0) (Ss ((b7 x y N).1,(b7 x y N).2) (aD.o (b6 0))) (λ i=>Ss (b7 (b7 x y N).1 (b7 x y N).2 i)) (λ _=>uA) (.exit 2) rfl (λ i q=>by have h:(b7 (b7 x y N).1 (b7 x y N).2 i).2≠0:=of_decide_eq_true (O i q);exact bn a3 [hb 49 (show(((b7 (b7 x y N).1 (b7 x y N).2 i).2:Int)!=0)=true from bne_iff_ne.2 ac),ho 53 (C0 (b7 (b7 x y N).1 (b7 x y N).2 i).1 _ h)]) (bn a3 [hb 49 (show(((b7 (b7 x y N).1 (b7 x y N).2 M).2:Int)!=0)=false by rw[u];rfl)]) an (FK ac ac K),hc (hu (b7 (b7 x y N).1 (b7 x y N).2 M).1 (by have:=E M;omega)),hc g]
def zz(a:Int):ag ab G 287 [.int .i64 a] (.bool false):=bL [hb 5 (bne_self_eq_false a)]
def zA(a:Int):ag ab G 298 [.int .u32 a] (.bool false):=bL [hb 5 (bne_self_eq_false a)]
def Kv(a b:Int):ag ab G 265 [.int .i64 a,.int .i64 b] (.int .i64 (e5 a b)):=by rcases n6 a b with⟨e,h⟩|⟨e,h⟩|⟨e,h⟩<;>rw[e];exact bL [hc (zz G a),hc (zz G b),hb 16 (decide_eq_true h)];exact bL [hc (zz G a),hc (zz G b),hb 16 (decide_eq_false ac:decide (a<b)=false),hb 19 (decide_eq_false ac:decide (a>b)=false)];exact bL [hc (zz G a),hc (zz G b),hb 16 (decide_eq_false ac:decide (a<b)=false),hb 19 (decide_eq_true h:decide (a>b)=true)]
def Ky(a b:Int):ag ab G 288 [.int .u32 a,.int .u32 b] (.int .i64 (e5 a b)):=by rcases n6 a b with⟨e,h⟩|⟨e,h⟩|⟨e,h⟩<;>rw[e];exact bL [hc (zA G a),hc (zA G b),hb 16 (decide_eq_true h)];exact bL [hc (zA G a),hc (zA G b),hb 16 (decide_eq_false ac:decide (a<b)=false),hb 19 (decide_eq_false ac:decide (a>b)=false)];exact bL [hc (zA G a),hc (zA G b),hb 16 (decide_eq_false ac:decide (a<b)=false),hb 19 (decide_eq_true h:decide (a>b)=true)]
noncomputable abbrev Sj{f:Nat}(b:hP ab G f)(n:Nat)(c:n<18446744073709551616):List (aR ab G):=[hw 4 (j8 n) .u32,ho 6 (mZ n),hw 7 (oz (by unfold ah;omega:n/ah<ah)) .u32,y7 [6,0] 1 (us [n%ah,n/ah]) 2 rfl (A:=[]) (r:=W n) (by have h:=b [n%ah,n/ah] (by intro w hw;simp at hw;rcases hw with rfl|rfl<;>unfold ah<;>omega) am;rw[show val [n%ah,n/ah]=n by simp[val,tP]]at h;exact h)]
def F0(n:Nat)(b:n<18446744073709551616):ag ab G 230 [.int .u64 (n:Int)] (W n):=bL (Sj G (nG G) n b)
def I3(n:Nat)(b:n<18446744073709551616):ag ab G 180 [.int .u64 (n:Int)] (W n):=bL (Sj G (ma G) n b)
def acL:ag ab G 185 [.sl 1 []] (.sl 1 []):=by refine ag.has (aB:=aph) ⟨_,Tryz.func185,an⟩ ?_;show _/\_;exact⟨⟨.inr rfl,.aH,rfl,ga 1⟩,⟨.inr rfl,_,rfl,View.Oe 1⟩⟩
def QX(n:Nat)(f:af n<=4194304000000):ag ab G 185 [W n] (W n):=by
 by_cases a:n=0;subst a;have h:=acL G;rw[show(aa.sl 1 [])=W 0 by rw[W,iQ];rfl]at h;exact h;have e:eS .eql .slice (W n) .aH=some (.bool false):=by have:=mt gw.1 a;unfold W af at*;cases hd:digits n with|nil=>rw[hd]at this;simp at this|cons w ws=>rfl
 have b:(us (digits n)).length=af n:=jw _;exact ag.Og hN [ho 4 e,Sz 7 1 4 (us (digits n)) (digits n).length b (λ c=>a (gw.1 (by rw[<-b,c];rfl))) (by rw[b];omega)] 5 rfl
def aoy(neg:Bool)(ws:List Nat)(g:ws.length<=9223372036854775807):ag ab G 290 [tZ neg ws] (.bool (rM neg ws)):=by
 have a:mj false (.sl 1 (us ws))=some (.int .i64 ws.length):=by simp[mj,jw]
 unfold rM tZ;by_cases d:ws=[];subst d;cases neg<;>exact bL [];have b:0<ws.length:=List.length_pos_iff.2 d;have⟨w,f⟩:∃w,ws[ws.length-1]?=some w:=⟨_,List.getElem?_eq_getElem ac⟩;rw[if_neg d,f];exact bL [ho 6 a,hb 8 (show((ws.length:Int)==0)=false by simpa using d),hb 16 (decide_eq_true ac:decide ((ws.length:Int)>0)=true),hw 21 (apv ws.length b g),ho 22 (GH (k:=1) (GJ:=.i64) rfl (z8 f)),hb 24 (show((w:Int)!=0)=decide (w≠0)by by_cases c:w=0<;>simp[c])]
def TW(x:Nat)(d:x<ah):ag ab G 322 [.int .u32 (x:Int)] (.int .i64 (ek x:Int)):=by unfold ek;unfold ah at d;have y:∀{a b:Nat},a<=b->decide ((b:Int)≥(a:Int))=true:=λ h=>decide_eq_true ac;have z:∀{a b:Nat},¬a<=b->decide ((b:Int)≥(a:Int))=false:=λ h=>decide_eq_false ac;split;split;exact bL (hb 4 (y (a:=65536) ‹_›)::Gk 6 x 16 65536::hb 8 (y (a:=256) ‹_›)::Gk 10 (x/65536) 8 256::G4 (x/65536/256) 24 ac ac);exact bL (hb 4 (y (a:=65536) ‹_›)::Gk 6 x 16 65536::hb 8 (z (a:=256) ‹_›)::G4 (x/65536) 16 ac ac);split;exact bL (hb 4 (z (a:=65536) ‹_›)::hb 8 (y (a:=256) ‹_›)::Gk 10 x 8 256::G4 (x/256) 8 ac ac);rw[<-cF (len8 x)];exact bL (hb 4 (z (a:=65536) ‹_›)::hb 8 (z (a:=256) ‹_›)::G4 x 0 ac ac)
end
end Go.Proofs.YtpcofcmencgkbaaGreat
namespace Go.ay
def aaP{ws:List Nat}(h:jV ws):ws=eD (val ws) ws.length:=by
 refine ie (mE _ _).symm λ i h1 b=>?_;rw[show(eD (val ws) ws.length)[i]=ao (val ws) i by simp[eD]];have e:val ws=val (ws.take i)+ah^i*val (ws.drop i):=by conv=>lhs;rw[<-List.take_append_drop i ws,IJ,gV,tJ (hH h1)]
 have a:=xD (ws:=ws.take i) λ w hw=>h w (List.mem_of_mem_take hw);rw[gV,tJ (hH h1)]at a;unfold ao;rw[e,nV _ _ (fJ i),hh a,cF,List.drop_eq_getElem_cons h1,val,vu,dX (h _ (List.getElem_mem h1))]
def E3(n:Nat):W n=.sl 1 (us (eD n (af n))):=by rw[W,KI]
def vM{Z w p j:Nat}(h:j<p):ao (Z+ah^p*w) j=ao Z j:=by unfold ao;obtain⟨d,rfl⟩:=Nat.exists_eq_add_of_lt h;rw[show ah^(j+d+1)*w=ah^j*(ah*(ah^d*w))by rw[ea,ic];simp only[oH,c9],nV _ _ (fJ j),vu]
def cn(a b i:Nat):Nat:=a%ah^i*b
def m3(a b i k:Nat):Nat:=ah^i*(ao a i*(b%ah^k))
def eQ(a b i k:Nat):Nat:=(cn a b i%ah^(i+k)+m3 a b i k)/ah^(i+k)
def gq(a b i k j:Nat):Nat:=if j<i+k then ao (cn a b i+m3 a b i k) j else ao (cn a b i) j
def XD(a b i:Nat):m3 a b i 0=0:=by unfold m3;rw[kg,tN,jy,jy]
def N2(a b i k:Nat):m3 a b i (k+1)=m3 a b i k+ah^(i+k)*(ao a i*ao b k):=by unfold m3;rw[rU,ic,dW,dW,fu (ah^i),oH (ah^k)]
def N5(a b i:Nat):eQ a b i 0=0:=by unfold eQ;rw[XD];exact hh (bA _ (fJ _))
def z7(a b i k:Nat):eQ a b i k<ah:=by
 unfold eQ;refine tO ?_;have h1:=bA (cn a b i) (fJ (i+k));have c:m3 a b i k<=ah^i*((ah-1)*ah^k):=fK _ (jd (ZW (cu a i)) (hH (bA _ (fJ k))));have h3:ah^i*((ah-1)*ah^k)+ah^(i+k)=ah^(i+k)*ah:=by rw[oH,<-ic,c9 (ah^(i+k)) ah];exact(Nat.succ_mul _ _).symm
 omega
def Iu(a b i k:Nat):eQ a b i (k+1)=(eQ a b i k+(ao a i*ao b k+ao (cn a b i) (i+k)))/ah/\ao (cn a b i+m3 a b i (k+1)) (i+k)=(eQ a b i k+(ao a i*ao b k+ao (cn a b i) (i+k)))%ah:=by
 rw[N2];generalize c:i+k=p;have e:(cn a b i%ah^p+(m3 a b i k+ah^p*(ao a i*ao b k)))/ah^p=eQ a b i k+ao a i*ao b k:=by unfold eQ;rw[c,<-lQ,nV _ _ (fJ p)]
 constructor;show(cn a b i%ah^(i+k+1)+m3 a b i (k+1))/ah^(i+k+1)=_;rw[N2,c,rU,ea,<-kC,ZX,nV _ _ (fJ p),e];congr 1;omega;unfold ao at e⊢;have d:=hE (cn a b i) (ah^p);rw[show(cn a b i+(m3 a b i k+ah^p*(a/ah^i%ah*(b/ah^k%ah))))=(cn a b i%ah^p+(m3 a b i k+ah^p*(a/ah^i%ah*(b/ah^k%ah))))+ah^p*(cn a b i/ah^p)from ac,nV _ _ (fJ p),e];generalize cn a b i/ah^p=A,a/ah^i%ah*(b/ah^k%ah)=C,eQ a b i k=D;unfold ah;omega
def N8(a b i:Nat):gq a b i 0=ao (cn a b i):=by funext j;unfold gq;rw[XD];split<;>rfl
def N7(a b i k j:Nat):gq a b i (k+1) j=if j=i+k then(eQ a b i k+(ao a i*ao b k+ao (cn a b i) (i+k)))%ah else gq a b i k j:=by unfold gq;rcases tH j (i+k)with h|h|h;rw[if_pos ac,if_neg ac,if_pos h,N2,<-lQ,vM h];subst h;rw[if_pos ac,if_pos rfl,(Iu a b i k).2];rw[if_neg ac,if_neg ac,if_neg ac]
def XC{a b i k:Nat}(hb:b<ah^k):cn a b (i+1)=cn a b i+m3 a b i k:=by unfold cn m3;rw[rU,dX hb,eX,fu]
def XB{a b i k:Nat}(hb:b<ah^k):cn a b i<ah^(i+k):=by unfold cn;rw[ic];exact qV (bA _ (fJ i)) hb
def N6{a b i k:Nat}(hb:b<ah^k)(j:Nat):ao (cn a b (i+1)) j=if j=i+k then eQ a b i k else gq a b i k j:=by have h1:=XB (a:=a) (i:=i) hb;have c:=XB (a:=a) (i:=i+1) hb;unfold gq;rcases tH j (i+k)with h|h|h;rw[if_neg ac,if_pos h,XC hb];subst h;rw[if_pos rfl,A7 (by rwa[ZX]at c),eQ,dX h1,XC hb];rw[if_neg ac,if_neg ac,q7 (gz c (dT fl ac)),q7 (gz h1 (dT fl ac))]
section
variable{P:Program}{G:Nat->Option (List aa)}
abbrev lZ(x L:Nat):aa:=.sl 1 (us (eD x L))
def nz(k x L:Nat):aR P G:=ho k (o:=mj false (lZ x L)) (v:=.int .i64 (L:Int)) (by simp[mj,jw,mE])
def Gd(k x:Nat){L i:Nat}(h:i<L):aR P G:=ho k (GH (es:=us (eD x L)) (e:=Ag (ao x i)) (GJ:=.i64) (k:=1) (kk:=1) rfl (z8 (ws:=eD x L) (i:=i) (w:=ao x i) (by simp[eD,h])))
def kK(k i j:Nat)(h:i+j<=9223372036854775807:=by omega):aR P G:=hw k (P8 i j h)
abbrev dh(L:Nat)(f:Nat->Nat):aD->List (Id×aG):=λ q=>[(q.a,⟨us (ca L f),1,false⟩)]
end
end Go.ay
namespace Go.Proofs.YtpcofcmencgkbaaGreat
section
variable(G:Nat->Option (List aa))(a b k l:Nat)
noncomputable abbrev Dm(i:Nat):aD->List (Nat×aa):=λ q=>[(0,lZ a k),(1,lZ b l),(5,.ai q.a 1 0 (k+l) false),(25,lZ a k),(26,.int .i64 (k:Int)),(27,.int .i64 (i:Int))]
noncomputable abbrev Dl(i j c:Nat):aD->List (Nat×aa):=λ q=>[(0,lZ a k),(1,lZ b l),(5,.ai q.a 1 0 (k+l) false),(6,.int .i64 (i:Int)),(7,.int .u32 (ao a i:Int)),(8,.int .u64 (c:Int)),(25,lZ a k),(26,.int .i64 (k:Int)),(27,.int .i64 (i:Int)),(32,lZ b l),(33,.int .i64 (l:Int)),(34,.int .i64 (j:Int))]
def anN(q:k<=4194304000000)(o:l<=4194304000000)(i:Nat)(p:i<k)(j:Nat)(d:j<l):gY ab G (ak 267) 1 .normal (Dl a b k l i j (eQ a b i j)) (dh (k+l) (gq a b i j)) (Dl a b k l i (j+1) (eQ a b i (j+1))) (dh (k+l) (gq a b i (j+1))):=by
 have f:=cu a i;have g:=cu b j;have m:=cu (cn a b i) (i+j);have hc:=z7 a b i j;have n:=Hh f g;have c:i+j<k+l:=ac;have e:=(Iu a b i j).1;have s:eS .shr .int (.int .u64 ((eQ a b i j+(ao a i*ao b j+ao (cn a b i) (i+j)):Nat):Int)) (.int .u64 32)=some (.int .u64 (eQ a b i (j+1):Int)):=by rw[mZ,e]
 unfold ah at m hc;exact bn a3 [fP 35 d,Gd 37 b d,hw 41 (ft _ f) .u64,hw 43 (ft _ g) .u64,hw 44 (Cp _ _ f g) .u64,kK 48 i j,eg 49 [1] _ _ c,hR 50 [1] (k+l) (gq a b i j) c (by unfold gq;exact if_neg (nW _)),hw 51 (ft _ (cu (cn a b i) (i+j))) .u64,hw 52 (vW (ao a i*ao b j) (ao (cn a b i) (i+j)) ac) .u64,hw 53 (vW (eQ a b i j) (ao a i*ao b j+ao (cn a b i) (i+j)) ac) .u64,kK 57 i j,hw 59 (j8 (eQ a b i j+(ao a i*ao b j+ao (cn a b i) (i+j)))) .u32,eg 60 [1] _ _ c,gO 60 [1] (gq a b i (j+1)) c (λ x _=>N7 a b i j x),ho 62 s,hI 63 d]
def anQ(h:k<=4194304000000)(m:l<=4194304000000)(d:b<ah^l)(i:Nat)(c:i<k):bF ab G (aZ (ak 267) 0) (ak 267).aK (b6 9) .normal (Dm a b k l i) (dh (k+l) (ao (cn a b i))) (Dm a b k l (i+1)) (dh (k+l) (ao (cn a b (i+1)))):=by have e:i+l<k+l:=ac;exact bn (aD.o (b6 0)) [fP 28 c,Gd 30 a c,nz 33 b l,te (ak 267) 1 0 l a3 (Dl a b k l i 0 0 a3) (dh (k+l) (ao (cn a b i)) a3) (λ j=>Dl a b k l i j (eQ a b i j)) (λ j=>dh (k+l) (gq a b i j)) (.exit 2) (Dl a b k l i l (eQ a b i l)) (dh (k+l) (gq a b i l)) (by simp only[N5]) (by simp only[N8]) (anN G a b k l h m i c) (bn a3 [hQ 35 (a2 l)]),nz 67 b l,kK 68 i l,hw 70 (oz (z7 a b i l)) .u32,eg 71 w0 _ _ e,gO 71 w0 (f:=gq a b i l) (ao (cn a b (i+1))) e (λ x _=>N6 d x),hI 72 c]
def anR(q:k<=4194304000000)(p:l<=4194304000000)(d:0<k)(f:0<l)(m:a<ah^k)(c:b<ah^l):ag ab G 267 [lZ a k,lZ b l] (W (a*b)):=by
 have z:∀{n:Nat},0<n->((n:Int)==0)=false:=λ h=>by simp;omega
 have e:cn a b k=a*b:=by unfold cn;rw[dX m]
 exact bL [nz 12 a k,hb 13 (z d),nz 16 b l,hb 17 (z f),nz 20 a k,nz 22 b l,kK 23 k l,rD 24 (k+l) (ao (cn a b 0)) (λ j _=>by unfold cn;rw[kg,tN,sv];exact q7 (fJ j)),nz 26 a k,Ha (ak 267) 0 k (aD.o 14) (Dm a b k l 0 (aD.o 14)) (dh (k+l) (ao (cn a b 0)) (aD.o 14)) (Dm a b k l) (λ i=>dh (k+l) (ao (cn a b i))) (.exit 0) (Dm a b k l k) (dh (k+l) (ao (cn a b k))) rfl rfl (anQ G a b k l q p c) (bn a3 [hQ 28 (a2 k)]),qb (k+l) (a*b) (ao (cn a b k)) (λ j _=>by rw[e]) (nG G) (by rw[ic];exact qV m c) (id:=[1000000000000000000000000000000000000000000000000,0])]
def anS(m n:Nat)(e:af m<=4194304000000)(f:af n<=4194304000000):ag ab G 267 [W m,W n] (W (m*n)):=by
 have nil:m*n=0->∀σ:aL,(∀x∈([]:List (bt×aG)),σ x.1=some x.2)->View σ .aH (W (m*n)):=λ h σ _=>by rw[h,W,iQ];exact ga 1
 have y:∀{n:Nat},af n=0->((af n:Int)==0)=true:=λ h=>by rw[h];rfl
 by_cases d:af m=0;exact ag.pF hN [bk 12 m,hb 13 (y d)] [] .aH an rfl rfl gW (nil (by rw[gw.1 d,sv]));by_cases h1:af n=0;exact ag.pF hN [bk 12 m,hb 13 (show((af m:Int)==0)=false by simp;omega),bk 16 n,hb 17 (y h1)] [] .aH an rfl rfl gW (nil (by rw[gw.1 h1,jy]));rw[E3 m,E3 n];exact anR G m n _ _ e f ac ac (eK m) (eK n)
noncomputable abbrev C4(i:Nat):aD->List (Nat×aa):=λ q=>[(0,lZ a k),(1,lZ b l),(5,.ai q.a 1 0 (k+l) false),(6,.int .i64 (i:Int))]
noncomputable abbrev DI(i j c:Nat):aD->List (Nat×aa):=λ q=>[(0,lZ a k),(1,lZ b l),(5,.ai q.a 1 0 (k+l) false),(6,.int .i64 (i:Int)),(7,.int .u64 (c:Int)),(8,.int .i64 (j:Int))]
def amc(q:k<=4194304000000)(r:l<=4194304000000)(i:Nat)(o:i<k)(j:Nat)(d:j<l):gY ab G (ak 225) 1 .normal (DI a b k l i j (eQ a b i j)) (dh (k+l) (gq a b i j)) (DI a b k l i (j+1) (eQ a b i (j+1))) (dh (k+l) (gq a b i (j+1))):=by
 have f:=cu a i;have g:=cu b j;have m:=cu (cn a b i) (i+j);have hc:=z7 a b i j;have p:=Hh f g;have c:i+j<k+l:=ac;have e:=(Iu a b i j).1;have s:eS .shr .int (.int .u64 ((eQ a b i j+(ao a i*ao b j+ao (cn a b i) (i+j)):Nat):Int)) (.int .u64 32)=some (.int .u64 (eQ a b i (j+1):Int)):=by rw[mZ,e]
 unfold ah at m hc;have n:cY.wrap (((eQ a b i j+ao (cn a b i) (i+j):Nat):Int)+((ao a i*ao b j:Nat):Int))=((eQ a b i j+(ao a i*ao b j+ao (cn a b i) (i+j)):Nat):Int):=by rw[h5];omega
 exact bn a3 [nz 23 b l,fP 24 d,kK 31 i j,eg 32 [1] _ _ c,hR 33 [1] (k+l) (gq a b i j) c (by unfold gq;exact if_neg (nW _)),hw 34 (ft _ (cu (cn a b i) (i+j))) .u64,hw 35 (vW (eQ a b i j) (ao (cn a b i) (i+j)) ac) .u64,Gd 38 a o,hw 40 (ft _ f) .u64,Gd 43 b d,hw 45 (ft _ g) .u64,hw 46 (Cp _ _ f g) .u64,hw 47 n .u64,kK 51 i j,hw 53 (j8 (eQ a b i j+(ao a i*ao b j+ao (cn a b i) (i+j)))) .u32,eg 54 [1] _ _ c,gO 54 [1] (gq a b i (j+1)) c (λ x _=>N7 a b i j x),ho 56 s,hI 26 d]
def amB(h:k<=4194304000000)(m:l<=4194304000000)(d:b<ah^l)(i:Nat)(c:i<k):bF ab G (aZ (ak 225) 0) (ak 225).aK (b6 9) .normal (C4 a b k l i) (dh (k+l) (ao (cn a b i))) (C4 a b k l (i+1)) (dh (k+l) (ao (cn a b (i+1)))):=by have e:i+l<k+l:=ac;exact bn (aD.o (b6 0)) [nz 17 a k,fP 18 c,te (ak 225) 1 0 l a3 (DI a b k l i 0 0 a3) (dh (k+l) (ao (cn a b i)) a3) (λ j=>DI a b k l i j (eQ a b i j)) (λ j=>dh (k+l) (gq a b i j)) (.exit 2) (DI a b k l i l (eQ a b i l)) (dh (k+l) (gq a b i l)) (by simp only[N5]) (by simp only[N8]) (amc G a b k l h m i c) (bn a3 [nz 23 b l,hQ 24 (a2 l)]),nz 60 b l,kK 61 i l,hw 63 (oz (z7 a b i l)) .u32,eg 64 w0 _ _ e,gO 64 w0 (f:=gq a b i l) (ao (cn a b (i+1))) e (λ x _=>N6 d x),hI 20 c]
def apx(g:k<=4194304000000)(h:l<=4194304000000)(d:a<ah^k)(c:b<ah^l):ag ab G 225 [lZ a k,lZ b l] (W (a*b)):=by
 have e:cn a b k=a*b:=by unfold cn;rw[dX d]
 exact bL [nz 10 a k,nz 12 b l,kK 13 k l,rD 14 (k+l) (ao (cn a b 0)) (λ j _=>by unfold cn;rw[kg,tN,sv];exact q7 (fJ j)),Ha (ak 225) 0 k (aD.o 6) (C4 a b k l 0 (aD.o 6)) (dh (k+l) (ao (cn a b 0)) (aD.o 6)) (C4 a b k l) (λ i=>dh (k+l) (ao (cn a b i))) (.exit 0) (C4 a b k l k) (dh (k+l) (ao (cn a b k))) rfl rfl (amB G a b k l g h c) (bn a3 [nz 17 a k,hQ 18 (a2 k)]),qb (k+l) (a*b) (ao (cn a b k)) (λ j _=>by rw[e]) (ma G) (by rw[ic];exact qV d c) (id:=[1000000000000000000000000000000000000000000000000,0])]
def Wm(m:Nat)(ws:List Nat)(hw:jV ws)(d:af m<=4194304000000)(e:ws.length<=4194304000000):ag ab G 225 [W m,.sl 1 (us ws)] (W (m*val ws)):=by rw[E3 m,aaP hw,tz,dX (xD hw)];exact apx G m (val ws) _ _ d e (eK m) (xD hw)
end
end Go.Proofs.YtpcofcmencgkbaaGreat
namespace Go.ay
section
variable{P:Program}{G:Nat->Option (List aa)}
def kF(P:Program)(G:Nat->Option (List aa))(c:cw)(n w:Nat)(e:cf)(A:aD->List (Nat×aa))(bJ:aD->List (Id×aG))(B:aD->List (Nat×aa))(bS:aD->List (Id×aG)):Prop:=∀(q:aD)(m:Nat),fL m q->bo P G [0] c (λ a s'=>a=e/\bP G [0] s' ⟨fr n (B q),bU (bS q),m+w⟩) ⟨fr n (A q),bU (bJ q),m⟩
def g7{c:cw}{n w:Nat}{e:cf}{A B:aD->List (Nat×aa)}{bJ bS:aD->List (Id×aG)}[fW A][fW B][dy bJ][dy bS](a:List (aR P G))(h:gT (bS a3) (fr n (B a3)) w (bT true 1000 c [0] a ⟨fr n (A a3),b5 (bJ a3),0⟩)=gS e (bS a3) (fr n (B a3)) (bT true 1000 c [0] a ⟨fr n (A a3),b5 (bJ a3),0⟩):=by kernel_rfl):kF P G c n w e A bJ B bS:=λ q m g=>bo.kV q.κ a (fr n (A a3)) (bJ a3) e (fr n (B a3)) (bS a3) w h (by rw[n8,fW.nat,Jv]) (by rw[dy.nat,Jv]) (by rw[n8,fW.nat,Jv]) (by rw[dy.nat,Jv]) (dy.nd g) λ s hw=>⟨rfl,hw⟩
def G9{c:cw}{n N w n0 E:Nat}{e:cf}{q:aD}{T:Nat->aD->List (Nat×aa)}{K:Nat->aD->List (Id×aG)}{c5:aD->List (Nat×aa)}{cm:aD->List (Id×aG)}[fW c5][dy cm](h:fL n0 q)(r:∀i,i<N->kF P G c n w .normal (T i) (K i) (T (i+1)) (K (i+1)))(p:kF P G c n w e (T N) (K N) c5 cm)(g:e≠.normal)(m:n0+w*N+w<=E):bo P G [0] (.loop c) (λ d s'=>d=e/\bP G [0] s' ⟨fr n (c5 q),eP.to (b5 (cm q)),E⟩) ⟨fr n (T 0 q),bU (K 0 q),n0⟩:=by refine bo.zo (α:=Nat) (λ i=>⟨fr n (T i q),bU (K i q),n0+w*i⟩) (λ i=>i<=N) (λ i=>N-i) 0 (by rw[jy];exact bP.refl _ _ _) (dL _) ?_;intro i s;have k:fL (n0+w*i) q:=h.mono (nP _ _);by_cases a:i<N;refine(r i a q _ k).mono λ d s'⟨h1,h3⟩=>?_;subst h1;rw[show n0+w*i+w=n0+w*(i+1)by rw[dW,Nat.mul_one];omega]at h3;exact⟨i+1,a,by show N-(i+1)<N-i;omega,h3⟩;obtain rfl:i=N:=ac;refine(p q _ k).mono λ d s'⟨h1,h3⟩=>?_;subst h1;have h4:=bP.toT (h.nd.sublist (dy.sub (f:=cm) q)) (h3.trans (bP.slots (iN.same _) m));cases d with|normal=>exact(g rfl).elim|exit j=>exact⟨rfl,h4⟩|ret=>exact⟨rfl,h4⟩
noncomputable def uQ(aB:dO)(k s N:Nat)(a:aD)(c:List (Nat×aa))(d:List (Id×aG))(T:Nat->aD->List (Nat×aa))(K:Nat->aD->List (Id×aG))(e:cf)(c5:aD->List (Nat×aa))(cm:aD->List (Id×aG))[fW c5][dy cm](g:T 0 a=c)(m:K 0 a=d)(h:∀i,i<N->kF P G (aZ aB k) aB.aK 200 .normal (T i) (K i) (T (i+1)) (K (i+1)))(l:kF P G (aZ aB k) aB.aK 200 e (T N) (K N) c5 cm)(j:j4 (ej s) a=true:=by kernel_rfl)(f:N<=10000000000000000000:=by omega)(b:e≠.normal:=by simp):aR P G:=.h9 [0] (aZ aB k) (fr aB.aK c) d (ej s) e (fr aB.aK (c5 a)) (b5 (cm a)) (b6 s) (by rw[<-g,<-m];exact G9 (Js j) h l b (bx (IZ f) (a2 _)))
def di(X q b k:Nat):Nat:=(X%ah^k+q*(b%ah^k))/ah^k
def alF(X q b:Nat):di X q b 0=0:=by unfold di;rw[kg,tN,tN,jy]
def V1{q:Nat}(X b k:Nat)(a:q<ah):di X q b k<ah:=by
 refine tO ?_;have h1:=bA X (fJ k);have c:q*(b%ah^k)<=(ah-1)*ah^k:=jd (ZW a) (hH (bA _ (fJ k)));have h3:(ah-1)*ah^k+ah^k=ah^k*ah:=by rw[c9 (ah^k)];exact(Nat.succ_mul _ _).symm
 omega
def uZ(X q b k:Nat):di X q b k+q*ao b k+ao X k=ao (X+q*b) k+ah*di X q b (k+1):=by
 have e:(X%ah^(k+1)+q*(b%ah^(k+1)))/ah^k=di X q b k+q*ao b k+ao X k:=by unfold di;rw[rU,rU,dW,oH q,show X%ah^k+ah^k*ao X k+(q*(b%ah^k)+ah^k*(q*ao b k))=(X%ah^k+q*(b%ah^k))+ah^k*(q*ao b k+ao X k)by rw[dW];omega,nV _ _ (fJ k)];omega
 have d:ao (X+q*b) k=(di X q b k+q*ao b k+ao X k)%ah:=by
   rw[<-e];have h1:=hE X (ah^(k+1));have a:=hE b (ah^(k+1));conv=>lhs;rw[<-h1,<-a]
   rw[show ah^(k+1)*(X/ah^(k+1))+X%ah^(k+1)+q*(ah^(k+1)*(b/ah^(k+1))+b%ah^(k+1))=(X%ah^(k+1)+q*(b%ah^(k+1)))+ah^(k+1)*(X/ah^(k+1)+q*(b/ah^(k+1)))by rw[dW,dW,oH q];omega,vM (nb k)];rfl
 rw[d,<-e];show _=_+ah*((X%ah^(k+1)+q*(b%ah^(k+1)))/ah^(k+1));rw[show ah^(k+1)=ah^k*ah from ea ..,<-kC,tP]
def anG{p c x w c':Nat}(e:c+p+w=x+ah*c')(b:x<ah)(a:p<=18446744065119617025)(hc:c<ah)(hw:w<ah):cY.wrap ((p:Int)+(c:Int))=((p+c:Nat):Int)/\jc.wrap (cY.wrap ((x:Int)-(((p+c)%ah:Nat):Int)))=(w:Int)/\cY.wrap ((x:Int)-(((p+c)%ah:Nat):Int))/9223372036854775808=((if x<(p+c)%ah then 1 else 0:Nat):Int)/\cY.wrap ((((p+c)/ah:Nat):Int)+((if x<(p+c)%ah then 1 else 0:Nat):Int))=(c':Int):=by unfold ah at*;simp only[h5,Ec];split<;>refine⟨?_,?_,?_,?_⟩<;>omega
def anD{c x w c':Nat}(e:c+w=x+ah*c')(a:x<ah)(hc:c<ah)(hw:w<ah):jc.wrap (cY.wrap ((x:Int)-(c:Int)))=(w:Int)/\cY.wrap ((x:Int)-(c:Int))/9223372036854775808=(c':Int):=by unfold ah at*;simp only[h5,Ec];refine⟨?_,?_⟩<;>omega
def cj.Ob{f:FuncId}{aB:dO}(h:kE P f aB)(a:List (aR P G))(A:aD->List aa)(V:aD->aa)(K U:aD->List (Id×aG))[pV A][jU V][dy K][dy U](b:mX aB.results (U a3++rest (U a3) (K a3)) (bT true 1000 aB.body [0] a ⟨A a3++bM (aB.aK-(A a3).length) (.aJ []),b5 (K a3),0⟩)=mW (V a3) (U a3++rest (U a3) (K a3)) (bT true 1000 aB.body [0] a ⟨A a3++bM (aB.aK-(A a3).length) (.aJ []),b5 (K a3),0⟩))(q:aD)(p:Id)(hd:((K q).map (·.1)).Nodup)(qd:((U q).map (·.1)).Nodup):cj P G f (A q) p (K q) {val:=V q,rd:=(K q).map (·.1),up:=(U q).map λ x=>(x.1,some x.2)}:=eB h q.κ a (A a3) (K a3) (V a3) (U a3) b (pV.nat _ _) (dy.nat _ _) (jU.nat _ _) (dy.nat _ _) hd qd
def wf(f:Nat->Nat)(o X i j:Nat):Nat:=if o<=j/\j<o+i then ao X (j-o)else f j
def OO(f:Nat->Nat)(o X:Nat):wf f o X 0=f:=by funext j;unfold wf;exact if_neg ac
def Ah(f:Nat->Nat)(o X i j:Nat):wf f o X (i+1) j=if j=o+i then ao X i else wf f o X i j:=by unfold wf;by_cases h:j=o+i;subst h;rw[if_pos ac,if_pos rfl,su];rw[if_neg h];split<;>split<;>first|rfl|omega
def I0(f:Nat->Nat)(o X i:Nat):wf f o X i (o+i)=f (o+i):=if_neg ac
def lu(k:Nat)(id:Id)(o n i:Nat)(t:Bool)(h:i<n):aR P G:=ho k (agr (q:=id) (off:=o) (t:=t) h)
structure vU(L o v q X u:Nat)(f:Nat->Nat):Prop where
 hv:af v<=4194304000000
 bk:o+af v+1<=L
 SC:L<=8388608000000
 hq:q<ah
 hu:u<ah^(af v+1)hf:∀i,i<=af v->f (o+i)=ao u i
 Gp:X+q*v=u+ah^(af v+1)
end
section
variable{L o v q X u:Nat}{f:Nat->Nat}
def vU.eq(H:vU L o v q X u f){i:Nat}(a:i<=af v):di X q v i+q*ao v i+ao X i=f (o+i)+ah*di X q v (i+1)/\f (o+i)<ah:=by have h:=uZ X q v i;have e:=vM (Z:=u) (w:=1) (ac:i<af v+1);rw[Nat.mul_one]at e;rw[H.Gp,e]at h;rw[H.hf i a];exact⟨h,cu _ _⟩
def vU.last(H:vU L o v q X u f):di X q v (af v+1)=if u<q*v then 1 else 0:=by have a:=H.Gp;have hu:=H.hu;unfold di;rw[dX (gz (eK v) (dT fl (Nat.le_succ _)))];generalize ah^(af v+1)=B at*;split;rw[dX ac,a,Nat.div_eq_iff ac];omega;rw[show X=u-q*v+B from ac,Nat.add_mod_right,dX ac];exact hh ac
end
end Go.ay
namespace Go.Proofs.YtpcofcmencgkbaaGreat
section
variable(G:Nat->Option (List aa))(L o v q X:Nat)(f:Nat->Nat)
noncomputable abbrev Dh(i c:Nat):aD->List (Nat×aa):=λ r=>[(0,.ai r.a 1 o (af v+1) false),(1,W v),(2,.int .u64 (q:Int)),(6,.bool false),(7,.int .u64 (c:Int)),(13,W v),(14,.int .i64 (af v:Int)),(15,.int .i64 (i:Int))]
variable{L o v q X f}{u:Nat}
def anE(H:vU L o v q X u f)(i:Nat)(a:i<af v):kF ab G (aZ (ak 315) 0) (ak 315).aK 200 .normal (Dh o v q i (di X q v i)) (dh L (wf f o X i)) (Dh o v q (i+1) (di X q v (i+1))) (dh L (wf f o X (i+1))):=by have kJ:=H.bk;have l:=H.SC;have⟨e,c⟩:=H.eq (hH a);rw[c9 q]at e;have⟨g,k,h,d⟩:=anG e c (Hh (cu v i) H.hq) (V1 X v i H.hq) (cu X i);exact g7 [fP 16 a,dI 18 a,hw 21 (ft _ (cu v i)) .u64,hw 23 (Cp _ _ (cu v i) H.hq) .u64,hw 25 g .u64,lu 28 [1] o (af v+1) i false ac,hR 29 [1] L (wf f o X i) ac (I0 f o X i),hw 30 (ft _ c) .u64,hw 32 (j8 (ao v i*q+di X q v i)) .u32,hw 33 (ft _ (bA (ao v i*q+di X q v i) fl)) .u64,hw 38 k .u32,lu 39 [1] o (af v+1) i false ac,gO 39 [1] (f:=wf f o X i) (wf f o X (i+1)) (ac:o+i<L) (λ j _=>Ah f o X i j),ho 41 (mZ (ao v i*q+di X q v i)),Gl 43 h,hw 44 d .u64,hI 45 a (by have:=H.hv;omega)]
def anF(H:vU L o v q X u f)(id p:bt):cj ab G 315 [.ai id 1 o (af v+1) false,W v,.int .u64 (q:Int)] p [(id,⟨us (ca L f),1,false⟩)] {val:=.bool (decide (u<q*v)),rd:=[id],up:=[(id,some ⟨us (ca L (wf f o X (af v+1))),1,false⟩)]}:=by
 have kJ:=H.bk;have k:=H.SC;have d:((di X q v (af v+1):Int)==1)=decide (u<q*v):=by rw[H.last];split<;>simp[*]
 have⟨e,c⟩:=H.eq (a2 _);rw[oR (a2 _),jy,ij]at e;have⟨h,g⟩:=anD e c (V1 X v _ H.hq) (cu X _);exact cj.Ob hN [bk 14 v,uQ (ak 315) 0 0 (af v) a3 (Dh o v q 0 0 a3) (dh L f a3) (λ i=>Dh o v q i (di X q v i)) (λ i=>dh L (wf f o X i)) (.exit 0) (Dh o v q (af v) (di X q v (af v))) (dh L (wf f o X (af v))) (by simp only[alF]) (by simp only[OO]) (anE G H) (g7 [hQ 16 (a2 (af v))]) an (by have:=H.hv;omega),bk 48 v,lu 49 [1] o (af v+1) (af v) false ac,hR 50 [1] L (wf f o X (af v)) ac (I0 f o X _),hw 51 (ft _ c) .u64,bk 56 v,hw 58 h .u32,lu 59 [1] o (af v+1) (af v) false ac,gO 59 [1] (f:=wf f o X (af v)) (wf f o X (af v+1)) (ac:o+af v<L) (λ j _=>Ah f o X _ j),Gl 61 g,hb 62 d] (λ r=>[.ai r.a 1 o (af v+1) false,W v,.int .u64 (q:Int)]) (λ _=>.bool (decide (u<q*v))) (dh L f) (dh L (wf f o X (af v+1))) an ⟨id,[2],[3],[4]⟩ p am am
noncomputable abbrev DG(o v i c:Nat):aD->List (Nat×aa):=λ r=>[(0,.ai r.a 1 o (af v+1) false),(1,W v),(4,.int .u64 (c:Int)),(7,W v),(8,.int .i64 (af v:Int)),(9,.int .i64 (i:Int))]
def alM(hv:af v<=4194304000000)(kJ:o+af v+1<=L)(h:∀i,i<=af v->f (o+i)=ao u i)(i:Nat)(a:i<af v):kF ab G (aZ (ak 316) 0) (ak 316).aK 200 .normal (DG o v i (cJ u v i)) (dh L (wf f o (u+v) i)) (DG o v (i+1) (cJ u v (i+1))) (dh L (wf f o (u+v) (i+1))):=by have e:=h i (hH a);have x:=cu u i;have y:=cu v i;have c:=ry u v i;have b:=j8 (cJ u v i+(ao u i+ao v i));rw[<-lQ,<-yF]at b;have g:=mZ (cJ u v i+(ao u i+ao v i));rw[<-lQ,<-Bu]at g;exact g7 [fP 10 a,dI 12 a,lu 17 [1] o (af v+1) i false ac,hR 18 [1] L (wf f o (u+v) i) ac ((I0 f o (u+v) i).trans e),hw 19 (ft _ x) .u64,hw 21 (ft _ y) .u64,hw 22 (vW (ao u i) (ao v i) (by unfold ah at*;omega)) .u64,hw 23 (show cY.wrap ((cJ u v i:Int)+((ao u i+ao v i:Nat):Int))=((cJ u v i+ao u i+ao v i:Nat):Int)by rw[h5];unfold ah at*;omega) .u64,hw 27 b .u32,lu 28 [1] o (af v+1) i false ac,gO 28 [1] (f:=wf f o (u+v) i) (wf f o (u+v) (i+1)) (ac:o+i<L) (λ j _=>Ah f o (u+v) i j),ho 30 g,hI 31 a]
def alN(hv:af v<=4194304000000)(kJ:o+af v+1<=L)(b:∀i,i<=af v->f (o+i)=ao u i)(id p:bt):cj ab G 316 [.ai id 1 o (af v+1) false,W v] p [(id,⟨us (ca L f),1,false⟩)] {val:=.aJ [],rd:=[id],up:=[(id,some ⟨us (ca L (wf f o (u+v) (af v+1))),1,false⟩)]}:=by have k:=yF u v (af v);have c:=ry u v (af v);rw[oR (a2 (af v)),ij]at k;have x:=cu u (af v);exact cj.Ob hN [bk 8 v,uQ (ak 316) 0 0 (af v) a3 (DG o v 0 0 a3) (dh L f a3) (λ i=>DG o v i (cJ u v i)) (λ i=>dh L (wf f o (u+v) i)) (.exit 0) (DG o v (af v) (cJ u v (af v))) (dh L (wf f o (u+v) (af v))) (by simp only[yG]) (by simp only[OO]) (alM G hv kJ b) (g7 [hQ 10 (a2 (af v))]),bk 34 v,lu 35 [1] o (af v+1) (af v) false ac,hR 36 [1] L (wf f o (u+v) (af v)) ac ((I0 f o (u+v) _).trans (b _ (a2 _))),hw 38 (oz (show cJ u v (af v)<ah by unfold ah;omega)) .u32,hw 39 (show jc.wrap ((ao u (af v):Int)+(cJ u v (af v):Int))=(ao (u+v) (af v):Int)by rw[k,Ec];unfold ah;omega) .u32,lu 40 [1] o (af v+1) (af v) false ac,gO 40 [1] (f:=wf f o (u+v) (af v)) (wf f o (u+v) (af v+1)) (ac:o+af v<L) (λ j _=>Ah f o (u+v) _ j)] (λ r=>[.ai r.a 1 o (af v+1) false,W v]) (λ _=>.aJ []) (dh L f) (dh L (wf f o (u+v) (af v+1))) an ⟨id,[2],[3],[4]⟩ p am am
end
end Go.Proofs.YtpcofcmencgkbaaGreat
namespace Go.ay
def mY(m s i:Nat):Nat:=m%ah^i*2^s/ah^i
def am6(m s:Nat):mY m s 0=0:=by unfold mY;rw[kg,tN,sv]
def De(m s i:Nat):mY m s i<2^s:=tO (Nat.mul_lt_mul_of_pos_right (bA m (fJ i)) (Nat.two_pow_pos s))
def WK{s:Nat}(m i:Nat)(b:s<=31):mY m s i|||ao m i*2^s%ah=ao (m*2^s) i/\ao m i*2^s/ah=mY m s (i+1):=by
 have⟨h1,a,h3⟩:=am7 (ac:s<=32) (De m s i) (cu m i);have e:(m%ah^(i+1)*2^s)/ah^i=mY m s i+ao m i*2^s:=by unfold mY;rw[rU,eX,fu,nV _ _ (fJ i)]
 have d:mY m s i+ao m i*2^s=(mY m s i+ao m i*2^s%ah)+ah*(ao m i*2^s/ah):=by have:=tP (ao m i*2^s) ah;omega
 refine⟨?_,?_⟩;have h:=hE m (ah^(i+1));rw[h1];conv=>rhs;rw[<-h,eX,fu,Pk,vM (nb i)]
 show _=_/_%_;rw[e,d,vu,dX a];show _=_/ah^(i+1);rw[ea,<-kC,<-ea,e,d,nV _ _ fl,hh a,cF]
def fT(m s i j:Nat):Nat:=if j<i then ao (m*2^s) j else if j=i then mY m s i else 0
def u6(m s i j:Nat):Nat:=if j=i then ao (m*2^s) i else fT m s i j
def WN(m s:Nat)(j:Nat):fT m s 0 j=0:=by unfold fT;rw[if_neg (fv _),am6];split<;>rfl
def WL(m s i:Nat):fT m s i i=mY m s i:=by unfold fT;rw[if_neg (nW _),if_pos rfl]
def WM(m s i j:Nat):fT m s (i+1) j=if j=i+1 then mY m s (i+1)else u6 m s i j:=by unfold u6 fT;rcases tH j i with h|h|h;rw[if_pos ac,if_neg ac,if_neg ac,if_pos h];subst h;rw[if_pos ac,if_neg ac,if_pos rfl];rw[if_neg ac,if_neg (ac:¬j=i),if_neg (ac:¬j<i),if_neg (ac:¬j=i)]
def Ih{m s k j:Nat}(b:s<=31)(a:m<ah^k)(h:j<k+1):fT m s k j=ao (m*2^s) j:=by
 unfold fT;split;rfl;have:j=k:=ac;subst this;have hb:m*2^s<ah^(j+1):=by rw[ea];exact qV a (by have:=dT (n:=2) al b;unfold ah;omega)
 rw[if_pos rfl,A7 hb];unfold mY;rw[dX a]
section
variable{P:Program}{G:Nat->Option (List aa)}
def cj.XN{f:FuncId}{aB:dO}(h:kE P f aB)(a:List (aR P G))(i:Nat){n:Nat}{args:List aa}{ws:List Nat}[bq args](p:Id)(b:mX aB.results ([([i,0],⟨us ws,1,false⟩)]++rest [([i,0],⟨us ws,1,false⟩)] []) (py aB args a)=mW (.ai [i,0] 1 0 n false) ([([i,0],⟨us ws,1,false⟩)]++rest [([i,0],⟨us ws,1,false⟩)] []) (py aB args a)):cj P G f args p [] {val:=.ai (i::p) 1 0 n false,rd:=[],up:=[(i::p,some ⟨us ws,1,false⟩)]}:=by refine eB (up:=[(i::p,⟨us ws,1,false⟩)]) h (λ _=>[]) a args [] (.ai [i,0] 1 0 n false) [([i,0],⟨us ws,1,false⟩)] b (bq.fix _) rfl ?_ ?_ gW am;show aa.ai (bN 0 p _ ([]++[i,0])) _ _ _ _=_;rw[iF,cF];rfl;show [(bN 0 p _ ([]++[i,0]),aG.aU _ _)]=_;rw[iF,cF];show [([]++i::p,aG.mk (br _ (us ws)) 1 false)]=_;rw[bq.fix];rfl
end
end Go.ay
namespace Go.Proofs.YtpcofcmencgkbaaGreat
section
variable(G:Nat->Option (List aa)){m s:Nat}
noncomputable abbrev DK(m s i:Nat):aD->List (Nat×aa):=λ q=>[(0,W m),(1,.int .i64 (s:Int)),(5,.ai q.a 1 0 (af m+1) false),(13,W m),(14,.int .i64 (af m:Int)),(15,.int .i64 (i:Int))]
def ane(d:s<=31)(n:af m<=4194304000000)(i:Nat)(c:i<af m):gY ab G (ak 314) 0 .normal (DK m s i) (dh (af m+1) (fT m s i)) (DK m s (i+1)) (dh (af m+1) (fT m s (i+1))):=by
 have⟨l,g⟩:=WK m i d;have e:=cu m i;have b:i<af m+1:=ac;have a:i+1<af m+1:=ac;have hc:=gz (De m s i) (show 2^s<=ah from bx (dT al d) al);have k:ao m i*2^s/ah<ah:=by rw[g];exact gz (De m s _) (bx (dT al d) al)
 exact bn a3 [fP 16 c,dI 18 c,hw 21 (ft _ e) .u64,ho 23 (ND (ao m i) s ac e),eg 26 [1] _ _ b,hR 27 [1] (af m+1) (fT m s i) b (WL m s i),hw 29 (j8 (ao m i*2^s)) .u32,ho 30 (Hv (mY m s i) (ao m i*2^s%ah) hc (bA _ fl)),eg 31 [1] _ _ b,gO 31 [1] (u6 m s i) b (λ j _=>by unfold u6;rw[<-l]),hI 34 c,ho 36 (mZ (ao m i*2^s)),hw 37 (oz k) .u32,eg 38 [1] _ _ a,gO 38 [1] (f:=u6 m s i) (v:=ao m i*2^s/ah) (fT m s (i+1)) a (λ j _=>by rw[WM,g]),hI 39 c]
def WR(c:s<=31)(b:af m<=4194304000000)(p:bt):cj ab G 314 [W m,.int .i64 (s:Int)] p [] {val:=.ai (b6 0::p) 1 0 (af m+1) false,rd:=[],up:=[(b6 0::p,some ⟨us (ca (af m+1) (fT m s (af m))),1,false⟩)]}:=have d:af m<af m+1:=nb _;cj.XN hN [bk 10 m,hI 11 d,rD 12 (af m+1) (fT m s 0) (λ j _=>WN m s j),bk 14 m,te (ak 314) 0 0 (af m) (aD.o 4) (DK m s 0 (aD.o 4)) (dh (af m+1) (fT m s 0) (aD.o 4)) (DK m s) (λ i=>dh (af m+1) (fT m s i)) (.exit 0) (DK m s (af m)) (dh (af m+1) (fT m s (af m))) rfl rfl (ane G c b) (bn a3 [hQ 16 (a2 (af m))])] (b6 0) p an
noncomputable abbrev DJ(m s i:Nat):aD->List (Nat×aa):=λ q=>[(0,W m),(1,.int .i64 (s:Int)),(5,.ai q.a 1 0 (af m+1) false),(6,.int .i64 (i:Int))]
def apy(d:s<=31)(n:af m<=4194304000000)(i:Nat)(c:i<af m):gY ab G (ak 256) 0 .normal (DJ m s i) (dh (af m+1) (fT m s i)) (DJ m s (i+1)) (dh (af m+1) (fT m s (i+1))):=by
 have⟨l,g⟩:=WK m i d;have e:=cu m i;have b:i<af m+1:=ac;have a:i+1<af m+1:=ac;have hc:=gz (De m s i) (show 2^s<=ah from bx (dT al d) al);have k:ao m i*2^s/ah<ah:=by rw[g];exact gz (De m s _) (bx (dT al d) al)
 exact bn a3 [bk 14 m,fP 15 c,dI 20 c,hw 22 (ft _ e) .u64,ho 24 (ND (ao m i) s ac e),eg 29 [1] _ _ b,hR 30 [1] (af m+1) (fT m s i) b (WL m s i),hw 32 (j8 (ao m i*2^s)) .u32,ho 33 (Hv (mY m s i) (ao m i*2^s%ah) hc (bA _ fl)),eg 34 [1] _ _ b,gO 34 [1] (u6 m s i) b (λ j _=>by unfold u6;rw[<-l]),hI 37 c,ho 39 (mZ (ao m i*2^s)),hw 40 (oz k) .u32,eg 41 [1] _ _ a,gO 41 [1] (f:=u6 m s i) (v:=ao m i*2^s/ah) (fT m s (i+1)) a (λ j _=>by rw[WM,g]),hI 17 c]
def WJ(c:s<=31)(b:af m<=4194304000000)(p:bt):cj ab G 256 [W m,.int .i64 (s:Int)] p [] {val:=.ai (b6 0::p) 1 0 (af m+1) false,rd:=[],up:=[(b6 0::p,some ⟨us (ca (af m+1) (fT m s (af m))),1,false⟩)]}:=have d:af m<af m+1:=nb _;cj.XN hN [bk 9 m,hI 10 d,rD 11 (af m+1) (fT m s 0) (λ j _=>WN m s j),te (ak 256) 0 0 (af m) (aD.o 4) (DJ m s 0 (aD.o 4)) (dh (af m+1) (fT m s 0) (aD.o 4)) (DJ m s) (λ i=>dh (af m+1) (fT m s i)) (.exit 0) (DJ m s (af m)) (dh (af m+1) (fT m s (af m))) rfl rfl (apy G c b) (bn a3 [bk 14 m,hQ 15 (a2 (af m))])] (b6 0) p an
end
end Go.Proofs.YtpcofcmencgkbaaGreat
