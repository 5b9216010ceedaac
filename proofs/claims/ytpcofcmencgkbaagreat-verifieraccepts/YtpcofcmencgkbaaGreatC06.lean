/- For the claim of VerifierAccepts: parts TV1, TV2, TV3, LP4, LP5, LP6, LP7, LP8, LPC, LPI, DG, DH, ZW0, ZW1, ZW2, DI, ZW3, ZW4, ZW5, ZW6, DJ, ZW7, ZW8, DK, ZW9, DL, ZWA. -/
import Derived.Test.YtpcofcmencgkbaaGreatC05
import Derived.Test.YtpcofcmencgkbaaGreatC04
import Derived.Test.YtpcofcmencgkbaaGreatC03
set_option linter.defProp false
set_option linter.unusedSectionVars false
set_option linter.unusedSimpArgs false
set_option linter.unusedVariables false
set_option maxRecDepth 100000
open Bool renaming false_eq_true->iz
open Go.IntKind renaming i64->cV,u32->jH,u64->da,wrap_i64->c0,wrap_u32->E5,wrap_u64->iy
open Go.Proofs.Tryz renaming prog->ab
open Go.aA renaming Id->bz
open Go.aA.aa renaming one->j4
open Go.aA.y0 renaming same->yJ
open Go.aA.ae renaming gH->du,iX->eG
open Go.aA.fh renaming start->Kf
open Go.aA.aB renaming fin->BB,sT->Kh,s->aO
open Go.aA.aQ renaming of->bB
open Go.aA.View renaming ar->e8,ah->nc,pure->fx
open Go.aA.dy renaming cons->bZ,pure->jJ
open Go.aA.gD renaming view->qM
open Go.aA.e6 renaming same->ji
open Go.aA.bN renaming nw->BA
open Int renaming toNat_natCast->nU
open List renaming append_nil->mn,drop_zero->nY,ext_getElem->jL,getElem?_eq_getElem->eu,length_append->cy,length_map->aL,length_nil->gR,length_range->cR,length_take->eZ,lookup->dC,lookup_cons->jh,map_congr_left->kq,mem_append->hJ,mem_cons->cp,mem_cons_of_mem->cX,mem_cons_self->cg,mem_flatMap->g3,mem_map->bd,mem_singleton->bU,nil_append->jK,nil_sublist->nZ,nodup_cons->h5,nodup_nil->gA,not_mem_nil->ct,replicate->bI,singleton_append->mo,take_of_length_le->jI
open List.Sublist renaming refl->Bz
open Nat renaming add_assoc->my,add_mul_div_left->oV,add_mul_mod_self_left->wz,add_right_comm->abi,add_sub_cancel_left->tt,add_zero->j7,div_add_mod->h8,div_div_eq_div_mul->ll,div_eq_of_lt->h6,div_le_self->h7,div_lt_iff_lt_mul->mm,div_lt_of_lt_mul->uP,div_one->pL,div_pos->Qi,gcd->cJ,gcd_zero_right->Qj,le_add_right->pH,le_mul_of_pos_right->r0,le_of_lt->h9,le_of_not_lt->ku,le_refl->a2,le_sub_one_of_lt->abh,le_trans->bx,lt_of_le_of_lt->gN,lt_of_lt_of_le->gM,lt_or_gt_of_ne->Kg,lt_succ_iff_lt_or_eq->Bx,lt_succ_self->nb,lt_trichotomy->wm,min_eq_left->uK,mod_add_div->uQ,mod_eq_of_lt->dL,mod_lt->bG,mod_one->qO,mul_add->ej,mul_comm->dm,mul_le_mul->kr,mul_le_mul_left->fS,mul_left_comm->pK,mul_lt_mul''->r6,mul_zero->j5,ne_of_gt->E6,not_lt_zero->ew,pow_add->iI,pow_le_pow_right->dR,pow_succ->eo,pow_zero->kR,zero_add->cI,zero_le->dF,zero_mul->tu
open Ne renaming symm->dS
open Prod renaming ext->na
set_option maxHeartbeats 4000000
open Go.aA Go.Proofs Go.Lib
namespace Go.aA.ae
def add_comm:∀{h:Nat}(a b:ae h),add a b=add b a|0,a,b=>Rat.add_comm a b|_+1,a,b=>na (add_comm a.1 b.1) (add_comm a.2 b.2)
def add_zero:∀{h:Nat}(a:ae h),add a (rat h 0)=a|0,a=>Rat.add_zero a|_+1,a=>na (add_zero a.1) (add_zero a.2)
def zero_add{h:Nat}(a:ae h):add (rat h 0) a=a:=by rw[add_comm,add_zero]
def zero_mul:∀{h:Nat}(t:aI h)(a:ae h),mul t (rat h 0) a=rat h 0|0,_,a=>Rat.zero_mul a|h+1,t,a=>by show(add (mul t.1 (rat h 0) a.1) (mul t.1 (mul t.1 (rat h 0) a.2) t.2),add (mul t.1 (rat h 0) a.2) (mul t.1 (rat h 0) a.1))=_;simp only[zero_mul,add_zero];rfl
def mul_comm:∀{h:Nat}(t:aI h)(a b:ae h),mul t a b=mul t b a|0,_,a,b=>Rat.mul_comm a b|h+1,t,a,b=>by show(add (mul t.1 a.1 b.1) (mul t.1 (mul t.1 a.2 b.2) t.2),add (mul t.1 a.1 b.2) (mul t.1 a.2 b.1))=(add (mul t.1 b.1 a.1) (mul t.1 (mul t.1 b.2 a.2) t.2),add (mul t.1 b.1 a.2) (mul t.1 b.2 a.1));rw[mul_comm t.1 a.1 b.1,mul_comm t.1 a.2 b.2,mul_comm t.1 a.1 b.2,mul_comm t.1 a.2 b.1,add_comm (mul t.1 b.2 a.1)]
def mul_zero{h:Nat}(t:aI h)(a:ae h):mul t a (rat h 0)=rat h 0:=by rw[mul_comm,zero_mul]
def mul_neg:∀{h:Nat}(t:aI h)(a b:ae h),mul t (neg a) b=neg (mul t a b)
 |0,_,a,b=>Rat.neg_mul a b|h+1,t,a,b=>by
   have d:∀{k:Nat}(x y:ae k),add (neg x) (neg y)=neg (add x y):=λ{k}=>by induction k with|zero=>intro x y;exact Rat.neg_add.symm|succ k c=>intro x y;exact na (c _ _) (c _ _)
   show(add (mul t.1 (neg a.1) b.1) (mul t.1 (mul t.1 (neg a.2) b.2) t.2),add (mul t.1 (neg a.1) b.2) (mul t.1 (neg a.2) b.1))=(neg (add _ _),neg (add _ _));simp only[mul_neg,d]
def dG(k:Nat):{h:Nat}->ae h->Prop|0,a=>cO k a|_+1,a=>dG k a.1/\dG k a.2
def Oz{k:Nat}:∀{h:Nat}{a:ae h},(∀q∈flat a,cO k q)->dG k a|0,a,h=>h a (bU.2 rfl)|_+1,a,h=>⟨Oz λ q b=>h q (List.mem_append_left _ b),Oz λ q b=>h q (List.mem_append_right _ b)⟩
def dG.flat{k:Nat}:∀{h:Nat}{a:ae h},dG k a->∀q∈flat a,cO k q|0,a,h,q,b=>by rw[bU.1 b];exact h|_+1,a,h,q,b=>(hJ.1 b).elim (h.1.flat q) (h.2.flat q)
def sh{h:Nat}{a:ae h}{n:Nat}(b:ms a n)(c:n<=4398046511104):dG 419430400000 a:=Oz (VR b ac)
end Go.aA.ae
namespace Go.aA
structure dn{h:Nat}(t:aI h)(c:Nat):Prop where
 bQ:ae.kU t c
 rd:ae.Rd t c
def dn.low{h:Nat}{t:aI (h+1)}{c:Nat}(H:dn t c):dn t.1 c:=⟨H.bQ.2,H.rd.2⟩
def dn.top{h:Nat}{t:aI (h+1)}{c:Nat}(H:dn t c):ae.ms t.2 c:=H.rd.1
instance{q:Rat}:cT 4 (aZ q):=⟨inferInstance,rfl,KU q,rfl⟩
instance{l:List Rat}:cT 1 (bk l):=⟨inferInstance,rfl,DW l,rfl⟩
instance{h:Nat}{a:ae h}:cT 1 (aK a):=inferInstanceAs(cT 1 (bk (ae.flat a)))
instance{R:List (List Rat)}:cT 1 (aW R):=⟨inferInstance,rfl,λ d hd=>by have:(aW R).cells=[aW R]:=rfl;rw[this,bU]at hd;subst hd;exact bg.pure,rfl⟩
instance{n:aC}:cT 2 (aw n):=⟨inferInstance,rfl,λ d hd=>by have:(aw n).cells=[aW n.T.2.ay,aK n.a]:=rfl;rw[this]at hd;simp only[cp,ct,or_false]at hd;rcases hd with rfl|rfl<;>exact bg.pure,rfl⟩
instance{x:ak}:cT 2 x.T:=inferInstanceAs(cT 2 (aw x.2))
theorem cT.list{k m:Nat}{l:List aa}(h:∀c∈l,cT m c):bg (.sl k l):=bg.slice (λ c hc=>by have⟨e,a,hc⟩:=g3.1 hc;exact(h e a).cells c hc) λ c hc ρ=>(h c hc).pu.fix ρ
theorem cT.map{α:Type}{k m:Nat}{f:α->aa}(h:∀x,cT m (f x))(l:List α):bg (.sl k (l.map f)):=cT.list λ c hc=>by obtain⟨x,_,rfl⟩:=bd.1 hc;exact h x
instance{l:List ak}:bg (aj l):=cT.map (m:=2) (λ x=>inferInstance) l
instance{l:List ak}:cT 1 (aj l):=⟨inferInstance,rfl,λ d hd=>by have:(aj l).cells=[aj l]:=rfl;rw[this,bU]at hd;subst hd;exact bg.pure,rfl⟩
def aD(m:List (List ak)):aa:=.sl 1 (m.map aj)
instance{m:List (List ak)}:bg (aD m):=cT.map (m:=1) (λ x=>inferInstance) m
instance{i:IntKind}{n:Int}:cT 1 (.int i n):=⟨inferInstance,rfl,λ d hd=>by have:(aa.int i n).cells=[.int i n]:=rfl;rw[this,bU]at hd;subst hd;exact bg.pure,rfl⟩
def oz(l:List Int):aa:=.sl 1 (l.map λ n=>.int .i64 n)
instance{l:List Int}:bg (oz l):=cT.map (m:=1) (λ x=>inferInstance) l
def first(p:Nat->Bool)(N:Nat):(∀i,i<N->p i=false)\/∃i,i<N/\p i=true/\∀j,j<i->p j=false:=by induction N with|zero=>exact .inl λ i h=>absurd h (ew i)|succ N d=>
   rcases d with h|⟨i,h1,c,b⟩;cases e:p N with|true=>exact .inr ⟨N,nb N,e,h⟩|false=>refine .inl λ i a=>?_;rcases Bx.1 a with h1|rfl;exact h i h1;exact e
   exact .inr ⟨i,Nat.lt_succ_of_lt h1,c,b⟩
def ajK{α:Type}{f:α->aa}{l:List α}{i:Nat}(h:i<l.length):decide ((i:Int)<((l.map f).length:Int))=true:=by rw[aL];exact decide_eq_true ac
def ajJ{α:Type}{f:α->aa}{l:List α}:decide ((l.length:Int)<((l.map f).length:Int))=false:=by rw[aL];exact decide_eq_false ac
def Ma{α:Type}{f:α->aa}{k:Nat}{l:List α}{i:Nat}(h:i<l.length):kM k (.sl k (l.map f)) (.int .i64 (i:Int))=some (.cE (f l[i]).cells 0):=by unfold kM;simp only[];rw[if_pos ⟨trivial,ac⟩,nU,List.getElem?_map,eu h];rfl
def arP(i:Nat)(h:i<9000:=by omega):cV.wrap ((i:Int)+1)=((i+1:Nat):Int):=by rw[c0];omega
section
variable{P:Program}{G:Nat->Option (List aa)}{α:Type}
def bu(k:Nat)(f:α->aa){l:List α}{i:Nat}(h:i<l.length:=by omega):aV P G:=hb k (ajK (f:=f) h)
def cS(k:Nat)(f:α->aa)(l:List α):aV P G:=hb k (ajJ (f:=f) (l:=l))
def aU(k c:Nat)(f:α->aa){l:List α}{i:Nat}(h:i<l.length:=by omega):aV P G:=ho k (Ma (f:=f) (k:=c) h)
def a5(k i:Nat)(h:i<9000:=by omega):aV P G:=hw k (arP i h)
def h3{h:Nat}(a:h+1<=3):h=0\/h=1\/h=2:=ac
def h4{h:Nat}(a:h<=3):h=0\/h=1\/h=2\/h=3:=ac
end
end Go.aA
namespace Go.aA.ae
def pair{h:Nat}(a b:ae h):ae (h+1):=(a,b)
def bM{h:Nat}(a:ae h):Bool:=(flat a).all λ q:Rat=>decide (q=0)
def qe:∀{h:Nat}{a:ae h},bM a=true↔a=rat h 0
 |0,a=>by
   have b:∀q:Rat,(decide (q=0)&&true)=true↔q=0:=λ q=>by rw[Bool.and_true,decide_eq_true_iff]
   exact b a|h+1,a=>by show((flat a.1++flat a.2).all _)=true↔a=(rat h 0,rat h 0);rw[List.all_append,Bool.and_eq_true];exact(and_congr qe qe).trans ⟨λ h=>na h.1 h.2,λ h=>by rw[h];exact⟨rfl,rfl⟩⟩
def air{h:Nat}{t:aI h}(b:t.bJ){a:ae h}:bM a=true↔val t a=0:=qe.trans ⟨λ e=>by rw[e,val_zero],(red b).1 a⟩
def Di(h:Nat)(n:Nat):ms (rat h 0) n:=vK h (dF _) (Nat.one_le_two_pow)
end Go.aA.ae
namespace Go.aA
def qk(c:Nat):Nat->Nat|0=>c|h+1=>qk c h+(c+c)
def ui(c:Nat):∀{h:Nat},h<=3->qk c h<=7*c|0,_=>by show c<=_;omega|1,_=>by show c+(c+c)<=_;omega|2,_=>by show c+(c+c)+(c+c)<=_;omega|3,_=>by show c+(c+c)+(c+c)+(c+c)<=_;omega
def VE(c h:Nat):c<=qk c h:=by induction h with|zero=>exact a2 _|succ h a=>show c<=qk c h+(c+c);omega
def aI.dG(k:Nat):{h:Nat}->aI h->Prop|0,_=>True|_+1,t=>aI.dG k t.1/\ae.dG k t.2
def dn.sh:∀{h:Nat}{t:aI h}{c:Nat},dn t c->c<=4398046511104->aI.dG 419430400000 t|0,_,_,_,_=>trivial|_+1,_,_,H,hc=>⟨H.low.sh hc,ae.sh H.top hc⟩
def ke{h:Nat}(a:ae h):aJ:=⟨(ae.flat a).map aZ,4,false⟩
def aoh{ρ:Id->Id}(l:List Rat):bD ρ (l.map aZ)=l.map aZ:=by rw[ga,List.map_map];exact kq λ x _=>bg.fix ρ
def aff{ρ:Id->Id}{h:Nat}{a:ae h}:(ke a).aY ρ=ke a:=by unfold ke;rw[rK,aoh]
def hV{ρ:Id->Id}{i:Id}{h:Nat}{a:ae h}:ft ρ [(i,ke a)]=[(ρ i,ke a)]:=by rw[rI,rJ,aff]
def aqS{σ:aQ}{i:Id}{l:List Rat}{n:Nat}{t b:Bool}(h:σ i=some ⟨l.map aZ,4,b⟩)(a:l.length=n):View σ (.ah i 4 0 n t) (bk l):=by
 subst a;refine nc (av:=⟨l.map aZ,4,b⟩) h rfl am ?_ am λ d hd=>?_;rw[nY,jI am];exact jJ λ c hc=>by simp only[flat,g3,bd]at hc;have⟨_,⟨x,_,rfl⟩,hc⟩:=hc;exact KU x c hc
 obtain⟨x,_,rfl⟩:=bd.1 hd;rfl
def ea{σ:aQ}{i:Id}{h:Nat}{a:ae h}{t:Bool}(e:σ i=some (ke a)):View σ (.ah i 4 0 (2^h) t) (aK a):=aqS e (ae.sB a)
def hY{σ:aQ}{i:Id}{R:List (List Rat)}{n:Nat}{t b:Bool}(h:σ i=some ⟨R.map bk,1,b⟩)(a:R.length=n):View σ (.ah i 1 0 n t) (aW R):=by
 subst a;refine nc (av:=⟨R.map bk,1,b⟩) h rfl am ?_ am λ d hd=>?_;rw[nY,jI am];exact jJ λ c hc=>by simp only[flat,g3,bd]at hc;have⟨_,⟨x,_,rfl⟩,hc⟩:=hc;exact DW x c hc
 obtain⟨x,_,rfl⟩:=bd.1 hd;rfl
class b9(k:Nat)(l:List aa):Prop where all:∀c∈l,cT k c
instance{k:Nat}:b9 k []:=⟨λ c h=>(ct h).elim⟩
instance{k:Nat}{c:aa}{l:List aa}[h:cT k c][g:b9 k l]:b9 k (c::l):=⟨λ d hd=>by rcases cp.1 hd with rfl|hd;exact h;exact g.all d hd⟩
instance{α:Type}{k:Nat}{f:α->aa}{l:List α}[h:∀x,cT k (f x)]:b9 k (l.map f):=⟨λ d hd=>by obtain⟨x,_,rfl⟩:=bd.1 hd;exact h x⟩
instance{k:Nat}{l:List aa}[h:b9 k l]:bg (.sl k l):=cT.list h.all
def gK{σ:aQ}{i:Id}{l:List aa}{k n:Nat}{t b:Bool}[h:b9 k l](e:σ i=some ⟨l,k,b⟩)(a:l.length=n:=by rfl):View σ (.ah i k 0 n t) (.sl k l):=by subst a;refine nc (av:=⟨l,k,b⟩) e rfl am ?_ rfl λ d hd=>(h.all d hd).size;rw[nY,jI (a2 _)];exact jJ λ c hc=>by have⟨d,hd,hc⟩:=g3.1 hc;exact(h.all d hd).cells c hc
def one{σ:aQ}{i:Id}{b:aJ}(h:∀x∈[(i,b)],σ x.1=some x.2):σ i=some b:=h (i,b) cg
section
variable{P:Program}{G:Nat->Option (List aa)}
def c3{f:FuncId}{args:List aa}{r:Id->bR}(h:∀p,cv P G f args p [] (r p)):aV P G:=.rel f args [] r (λ p _=>h p) (λ p x a=>by cases a)
def j0{f:FuncId}{A:List aa}{r:aa}(i:Id)(k:Nat)(l:List aa)[b9 k l][a:bn A](h:ag P G f (A++[.sl k l]) r):aV P G:=vx [(i,⟨l,k,false⟩)] (args:=A++[.ah i k 0 l.length false]) h (by
 have:∀A:List aa,(∀c∈A,cd c)->dy (bB [(i,(⟨l,k,false⟩:aJ))]) (A++[.ah i k 0 l.length false]) (A++[.sl k l]):=λ A=>by induction A with|nil=>exact λ _=>bZ (gK (b:=false) (by simp[bB])) dy.nil|cons c A e=>exact λ a=>bZ (fx (a c cg)) (e λ d hd=>a d (cX _ hd))
 exact this A a.pure)
def Ul{f:FuncId}{A B:List aa}{r:aa}(i:Id)(k:Nat)(l:List aa)[b9 k l][a:bn A][e:bn B](h:ag P G f (A++.sl k l::B) r):aV P G:=vx [(i,⟨l,k,false⟩)] (args:=A++.ah i k 0 l.length false::B) h (by
 have:∀A:List aa,(∀c∈A,cd c)->dy (bB [(i,(⟨l,k,false⟩:aJ))]) (A++.ah i k 0 l.length false::B) (A++.sl k l::B):=λ A=>by induction A with|nil=>exact λ _=>bZ (gK (b:=false) (by simp[bB])) (jJ e.pure)|cons c A g=>exact λ a=>bZ (fx (a c cg)) (g λ d hd=>a d (cX _ hd))
 exact this A a.pure)
def FK(P:Program)(G:Nat->Option (List aa))(f:FuncId)(args:List aa)(L:List (List Nat)){h:Nat}(a:ae h):Prop:=∃l,l∈L/\∀p,cv P G f args p [] {val:=.ah (l++p) 4 0 (2^h) false,rd:=[],up:=[(l++p,some (ke a))]}
def tG{i:Id}{b:aJ}:aQ.app (λ _=>none) [(i,some b)] i=some b:=aQ.vQ (λ _=>none) i (some b)
def FK.fL{f:FuncId}{args:List aa}{L:List (List Nat)}{h:Nat}{a:ae h}(H:FK P G f args L a):ag P G f args (aK a):=by have⟨l,_,b⟩:=H;exact ag.Dw (b []) (ea tG)
def fZ(c:Nat):Nat->Nat->Nat|0,n=>n|h+1,n=>fZ c h n+fZ c h (n+eG c h c+c)+fZ c h (n+n+c)+fZ c h (n+du c h (n+n+c)+3+c)+(n+eG c h (du c h (n+du c h (n+n+c)+3+c)+1)+20*c)+(eG c h c+n+20*c)+2^(h+1)*(n+10*c)
def xA(c:Nat):∀(h n:Nat),n+n<=eG c h n|0,_=>a2 _|h+1,n=>by have:=xA c h (n+n+c);show _<=n+eG c h (n+n+c)+c;omega
def vr(c:Nat):∀(h n:Nat),n+n<=du c h n|0,_=>a2 _|h+1,n=>by have:=vr c h n;show _<=_+_+du c h n+_;omega
end
end Go.aA
namespace Go.aA.ae
section
variable{h:Nat}{t:aI (h+1)}{a:ae (h+1)}{c n:Nat}
def RL(b:t.bJ)(hv:val t.1 a.2≠0){m:ae h}(d:val t.1 m*val t.1 m=val t.1 (norm t a)):val t.1 (mul t.1 (add a.1 m) (rat h (1/2)))=(val t.1 a.1+val t.1 m)/2/\val t.1 (mul t.1 (add a.1 (neg m)) (rat h (1/2)))=(val t.1 a.1-val t.1 m)/2:=by rw[JA b.1.pos,JA b.1.pos,val_add,val_add,val_neg];exact⟨rfl,by rw[show val t.1 a.1+-val t.1 m=val t.1 a.1-val t.1 m from ap]⟩
def ad0(f:t.bJ)(hv:val t.1 a.2≠0){n:az}(g:n*n=val t.1 (norm t a)){w:ae h}(hw:val t.1 w*val t.1 w=(val t.1 a.1+n)/2):val t.1 w≠0/\val t.1 (add w w)≠0/\val t ((w,mul t.1 a.2 (inv t.1 (add w w))):ae (h+1))*val t ((w,mul t.1 a.2 (inv t.1 (add w w))):ae (h+1))=val t a:=by
 have j:=Wk f hv g;have d:val t.1 w≠0:=λ e=>by rw[e]at hw;exact j ap
 have b:val t.1 (add w w)≠0:=by rw[val_add];intro e;exact d ap
 refine⟨d,b,apS f hv g hw ?_⟩;have k:=(red f.1).2 _ b;rw[val_mul f.1.pos];rw[val_add]at k;generalize val t.1 (inv t.1 (add w w))=i at*;generalize val t.1 w=x at*;grind
def aoD(b:t.bJ)(H:dn t c)(hv:val t.1 a.2=0)(d:ms a n){w:ae (h+1)}(e:val t w*val t w=val t a):ms w (gH c h n+gH c h (n+iX c h c+c)):=by
 have⟨p,q⟩:=Ei b e;rw[hv]at q;have c3:val t.1 t.2≠0:=by have:=b.2.1;grind
 have aau:∀x:ae h,val t.1 x=0->x=rat h 0:=(red b.1).1;rcases az.ry (x:=val t.1 w.1) (y:=val t.1 w.2) ap with e|e;have g:=(red b.1).2 _ c3;have f:val t.1 w.2*val t.1 w.2=val t.1 (mul t.1 a.1 (inv t.1 t.2)):=by rw[val_mul b.1.pos,<-p,e];generalize val t.1 (inv t.1 t.2)=i at*;generalize val t.1 t.2=r at*;grind
 have k:=uu b.1 H.low.bQ H.low.rd f (Ad H.low.bQ.bQ (Ae d).1 (HX b.1 H.low.bQ H.top c3));rw[show w=((rat h 0,w.2):ae (h+1))from na (aau _ e) rfl];exact kj (vJ (Di h 0) k) ac;have k:=uu (a:=a.1) (w:=w.1) b.1 H.low.bQ H.low.rd (by rw[<-p,e];grind) (Ae d).1;rw[show w=((w.1,rat h 0):ae (h+1))from na rfl (aau _ e)];exact kj (vJ k (Di h 0)) ac
end
end Go.aA.ae
namespace Go.aA
def AP{w v:az}(b:0<=v)(e:w*w=v)(hw:0<=w):w=az.rt v:=by have a:=az.lL b;have c:=az.Oq v;rcases az.OI (e.trans a.symm)with h|h;exact h;have:w=0:=ap;have:az.rt v=0:=ap;grind
def Jd{h:Nat}{t:aI h}{a:ae h}(b:0<=ae.val t a):ae.si t a↔aF.In ⟨h,t⟩ (az.rt (ae.val t a)):=by constructor;rintro⟨w,e⟩;by_cases hw:0<=ae.val t w;exact⟨w,AP b e hw⟩;exact⟨ae.neg w,AP b (by rw[ae.val_neg,<-e];grind) (by rw[ae.val_neg];grind)⟩;rintro⟨w,e⟩;exact⟨w,by rw[e];exact az.lL b⟩
def sR{h:Nat}(a:ae h):Prop:=match h,a with|3,a=>a.2.bM=true|_,_=>True
def gW(c:Nat)(n:Nat):Prop:=fZ c 2 n+fZ c 2 (n+eG c 2 c+c)+(eG c 2 c+n+20*c)+8*(du c 2 n+du c 2 (n+eG c 2 c+c)+10*c)<=2199023255552
def Xh(c:Nat):∀h n,fZ c h n<=fZ c (h+1) n:=λ h n=>by show _<=fZ c h n+_+_+_+_+_+_;omega
def IE{c h n:Nat}(b:h<=2):fZ c h n<=fZ c 2 n:=by have a0:fZ c 0 n<=fZ c 1 n:=Xh c 0 n;have a:fZ c 1 n<=fZ c 2 n:=Xh c 1 n;have:h=0\/h=1\/h=2:=ac;rcases this with rfl|rfl|rfl<;>omega
def alo{c len i:Nat}{id:Id}{t:Bool}(h:i<len):kM c (.ah id c 0 len t) (.int .i64 (i:Int))=some (.ref id i 0):=by show(if c=c/\(0:Int)<=(i:Int)/\(i:Int)<(len:Int)then some (aa.ref id (0+((i:Int)).toNat) 0)else none)=_;rw[if_pos ⟨rfl,ac,ac⟩,nU,cI]
def NJ{σ:aQ}{id:Id}{L:List aa}{c i n:Nat}{b a:Bool}{e v:aa}(d:σ id=some ⟨L,c,b⟩)(f:L[i]?=some e)(hv:part a e.cells 0 n=some v):lg σ a n (.ref id i 0)=some {val:=v,rd:=[id]}:=by simp only[lg,d,f,hv,Option.map_some]
def Wn{σ:aQ}{id:Id}{L:List aa}{c i n:Nat}{e v:aa}(d:σ id=some ⟨L,c,false⟩)(f:L[i]?=some e)(b:v.cells.length=n)(h1:n<=e.size)(a:v.cells.all j4=true):uF σ n (.ref id i 0) v=some {val:=.aM [],rd:=[id],up:=[(id,some ⟨L.set i (e.upd 0 v.cells),c,false⟩)]}:=by simp only[uF,d,f];rw[if_pos ⟨trivial,b,ac,a⟩]
instance{α:Type}{f:α->aa}{l:List α}[h:∀x,bg (f x)]:bn (l.map f):=⟨λ c hc=>by obtain⟨x,_,rfl⟩:=bd.1 hc;exact bg.pure,λ ρ=>by rw[ga];exact(kq λ c hc=>by obtain⟨x,_,rfl⟩:=bd.1 hc;exact bg.fix ρ).trans (List.map_id _)⟩
instance{a b:List aa}[h:bn a][k:bn b]:bn (a++b):=⟨λ c hc=>(hJ.1 hc).elim (h.pure c) (k.pure c),λ ρ=>by rw[IL,h.fix,k.fix]⟩
section
variable{P:Program}{G:Nat->Option (List aa)}{α:Type}
def cQ(k c:Nat)(id:Id)(t:Bool)(len i:Nat)(h:i<len:=by omega):aV P G:=ho k (alo (c:=c) (id:=id) (t:=t) h)
def iN(k n:Nat)(a:Bool)(id:Id)(c:Nat)(f:α->aa)(M:List α)(i:Nat)(v:aa)(h:i<M.length:=by omega)(hv:part a (f M[i]).cells 0 n=some v:=by rfl):aV P G:=.st k [(id,⟨M.map f,c,false⟩)] (.load a n (.ref id i 0)) (λ _=>{val:=v,rd:=[id]}) (λ σ p b=>NJ (b _ cg) (by simp[h]) hv)
def IJ{k:IntKind}{a b:Nat}(h:0<b):eY .rem .int (.int k (a:Int)) (.int k (b:Int))=some (.int k ((a%b:Nat):Int)):=by
 have h1:¬((b:Int)=0):=ac;have e:mi .rem .int (.int k (a:Int)) (.int k (b:Int))=some (.int k ((a%b:Nat):Int)):=by
   have c:qG .rem k (a:Int) (b:Int)=some (.int k ((a%b:Nat):Int)):=by show(if(b:Int)=0 then none else some (aa.int k (Int.tmod a b)))=_;rw[if_neg h1,Int.ofNat_tmod]
   simp only[mi,c];try simp
 unfold eY;rw[e]
def xn(k:Nat)(b:IntKind)(f:α->aa)(l:List α)(a:Nat)(h:0<l.length):aV P G:=ho k (o:=eY .rem .int (.int b (a:Int)) (.int b ((l.map f).length:Nat))) (v:=.int b ((a%l.length:Nat):Int)) (by rw[IJ (by rw[aL];exact h),aL])
def sH(k:Nat)(c:IntKind)(a b:Nat)(h:0<b:=by decide):aV P G:=ho k (IJ (k:=c) (a:=a) (b:=b) h)
def G5(k:Nat)(d:IntKind)(a b c:Nat)(h:a%b=c)(e:0<b:=by decide):aV P G:=ho k (o:=eY .rem .int (.int d (a:Int)) (.int d (b:Int))) (v:=.int d (c:Int)) (by rw[IJ e,h])
def g9{k:Nat}{l:List aa}[h:b9 k l]:(l.all λ e=>e.cells.all j4)=true:=List.all_eq_true.2 λ e a=>(h.all e a).one
def zF(key k bytes:Nat)(ys:List aa)[h:b9 k ys](d:ys≠[])(hb:ys.length*bytes<=140737488355328)(c:0<bytes:=by decide):aV P G:=.st key [] (.append k bytes (.eW k []) (.sl k ys)) (λ p=>{val:=.ah p k 0 ys.length false,up:=[(p,some ⟨ys,k,false⟩)]}) (λ σ p e=>by
   have a:ys.isEmpty=false:=by cases ys<;>simp at d⊢
   have b:ys.length<=maxLen:=oD (bx (r0 _ c) hb);have h1:=g9 (l:=ys) (k:=k);show qD σ p k bytes (.eW k []) (.sl k ys)=_;unfold qD;rw[show iM σ k (.sl k ys)=some (ys,[])from by simp[iM]];simp only[a,iz,if_false];rw[if_pos ⟨trivial,by rw[gR,cI];exact hb,by rw[gR,cI];exact b,by rw[jK];exact h1⟩,gR,cI,jK])
def age(key k bytes:Nat)(id:Id)(els ys:List aa)[b9 k els][b9 k ys](c:ys≠[])(hb:(els.length+ys.length)*bytes<=140737488355328)(a:0<bytes:=by decide):aV P G:=.st key [(id,⟨els,k,false⟩)] (.append k bytes (.ah id k 0 els.length false) (.sl k ys)) (λ p=>{val:=.ah p k 0 (els.length+ys.length) false,rd:=[id],up:=[(id,none),(p,some ⟨els++ys,k,false⟩)]}) (λ σ p b=>yl (by simp[iM]) c (b _ cg) rfl hb (oD (bx (r0 _ a) hb)) (g9 (k:=k)) (g9 (k:=k)))
def Mb(key k bytes q:Nat)(l:List aa)(x:aa)(a:(l.length+1)*bytes<=140737488355328)(h3:(l.all λ e=>e.cells.all j4)=true)(d:x.cells.all j4=true:=by rfl)(hb:0<bytes:=by decide):aV P G:=.st key [([q,0],⟨[x],k,false⟩),([1],⟨l,k,false⟩)] (.append k bytes (.ah [1] k 0 l.length false) (.ah [q,0] k 0 1 false)) (λ p=>{val:=.ah p k 0 (l.length+1) false,rd:=[[1],[q,0]],up:=[([1],none),(p,some ⟨l++[x],k,false⟩)]}) (λ σ p b=>by have h:=b ([q,0],⟨[x],k,false⟩) am;have c:=b ([1],⟨l,k,false⟩) am;exact yl (σ:=σ) (p:=p) (id:=[1]) (k:=k) (bytes:=bytes) (len:=l.length) (x:=.ah [q,0] k 0 1 false) (els:=l) (ys:=[x]) (rd:=[[q,0]]) (by rw[zr h rfl am];rfl) am c rfl a (oD (bx (r0 _ hb) a)) (by simpa using d) h3)
def F0{c:cD}{n w so key d lC:Nat}{A B:List (Nat×aa)}[hL A][hL B]{L row:List aa}[s:b9 1 L][bn L][l:b9 d row][bn row](o:lC=row.length)(i:(L.length+1)*24<=140737488355328)(q:Nat)(τ:aB)(h:List (aV P G)->List (aV P G))(eU:L=[]->hE [(τ.a,⟨[.ah τ.b d 0 lC false],1,false⟩),(τ.b,⟨row,d,false⟩)] (fr n ((so,.ah τ.a 1 0 1 false)::B)) w (bY true 1000 c [0] (h []) ⟨fr n ((so,.ar)::A),b8 [],0⟩)=hh .normal [(τ.a,⟨[.ah τ.b d 0 lC false],1,false⟩),(τ.b,⟨row,d,false⟩)] (fr n ((so,.ah τ.a 1 0 1 false)::B)) (bY true 1000 c [0] (h []) ⟨fr n ((so,.ar)::A),b8 [],0⟩):=by intros;kernel_rfl)(u:L≠[]->∀x,x=aa.ah τ.b d 0 lC false->hE [(τ.a,⟨L++[x],1,false⟩),(τ.b,⟨row,d,false⟩)] (fr n ((so,.ah τ.a 1 0 (L.length+1) false)::B)) w (bY true 1000 c [0] (h [Mb key 1 24 q L (.ah τ.b d 0 lC false) i (g9 (k:=1))]) ⟨fr n ((so,.ah [1] 1 0 L.length false)::A),b8 [([1],⟨L,1,false⟩)],0⟩)=hh .normal [(τ.a,⟨L++[x],1,false⟩),(τ.b,⟨row,d,false⟩)] (fr n ((so,.ah τ.a 1 0 (L.length+1) false)::B)) (bY true 1000 c [0] (h [Mb key 1 24 q L (.ah τ.b d 0 lC false) i (g9 (k:=1))]) ⟨fr n ((so,.ah [1] 1 0 L.length false)::A),b8 [([1],⟨L,1,false⟩)],0⟩):=by rintro _ _ rfl;kernel_rfl)(j:kJ w τ=true:=by kernel_rfl):bb P G c n w .normal (λ q=>(so,bt q.a 1 L)::A) (λ q=>a8 q.a 1 L++[]) (λ q=>(so,bt q.a 1 (L++[.sl d row]))::B) (λ q=>a8 q.a 1 (L++[.sl d row])++[]):=by
 have r:∀p,bt p 1 (L++[aa.sl d row])=.ah p 1 0 (L.length+1) false:=λ p=>by rw[dP am,cy];rfl
 have v:∀p,a8 p 1 (L++[aa.sl d row])=[(p,⟨L++[.sl d row],1,false⟩)]:=λ p=>dK am;simp only[r,v];by_cases e:L=[];subst e;have key:=a9 (P:=P) (G:=G) (c:=c) (n:=n) (w:=w) (e:=.normal) (A:=λ _=>(so,.ar)::A) (B:=λ q=>(so,.ah q.a 1 0 1 false)::B) (bC:=λ _=>[]) (bO:=λ q=>[(q.a,⟨[.ah q.b d 0 lC false],1,false⟩),(q.b,⟨row,d,false⟩)]) τ (h []) (eU rfl) j;exact key.hZ λ q m g=>by have:=bN.GR (G:=G) (n:=n) (so:=so) (ln:=1) (F:=B) (t:=false) (L:=[]) g (λ e f=>(ct f).elim) (λ e f=>l.all e f) o;exact this
 simp only[dP e,dK e];have key:=a9 (P:=P) (G:=G) (c:=c) (n:=n) (w:=w) (e:=.normal) (A:=λ q=>(so,.ah q.a 1 0 L.length false)::A) (B:=λ q=>(so,.ah q.a 1 0 (L.length+1) false)::B) (bC:=λ q=>[(q.a,⟨L,1,false⟩)]) (bO:=λ q=>[(q.a,⟨L++[.ah q.b d 0 lC false],1,false⟩),(q.b,⟨row,d,false⟩)]) τ (h [Mb key 1 24 q L (.ah τ.b d 0 lC false) i (g9 (k:=1))]) (u e _ rfl) j;exact key.hZ λ q m g=>by have:=bN.GR (G:=G) (n:=n) (so:=so) (ln:=L.length+1) (F:=B) (t:=false) (L:=L) g (λ e f=>(s.all e f).size) (λ e f=>l.all e f) o;exact this
def bb.drop{c:cD}{n w k:Nat}{e:cn}{A B:aB->List (Nat×aa)}{bC:aB->List (Id×aJ)}{l:List aa}{y:aB->aJ}(h:bb P G c n w e A bC B (λ q=>a8 q.a k l++[(q.b,y q)])):bb P G c n w e A bC B (λ q=>a8 q.a k l++[]):=h.hZ λ q m g=>bN.forget (jn.same _) (λ id=>by
   rw[mn];by_cases d:l=[];left;rw[d];rfl;rw[dK d];by_cases f:id=q.a;right;subst f;simp[bB,dC];left;have:(id==q.a)=false:=by simpa using f
   show dC _ _=_;rw[jh,this];rfl) (a2 _)
def qd(x n:Nat)(id:Id)(c:Nat)(f:α->aa)(M:List α)(i:Nat)(r:α)(a:List α)(d:M.set i r=a)(h:i<M.length:=by omega)(j:(f r).cells.length=n:=by rfl)(h1:n<=(f M[i]).size:=by exact a2 _)(b:(f r).cells.all j4=true:=by rfl)(hu:(f M[i]).upd 0 (f r).cells=f r:=by rfl):aV P G:=.st (x+100000) [(id,⟨M.map f,c,false⟩)] (.store n (.ref id i 0) (f r)) (λ _=>{val:=.aM [],rd:=[id],up:=[(id,some ⟨a.map f,c,false⟩)]}) (λ σ p g=>by have e:=Wn (g _ cg) (show(M.map f)[i]?=some (f M[i])by simp[h]) j h1 b;rw[hu,<-List.map_set,d]at e;exact e)
def l5(key k bytes:Nat)(id:Id)(q:Nat)(l:List aa)(x:aa)(a:(l.length+1)*bytes<=140737488355328)(h3:(l.all λ e=>e.cells.all j4)=true)(d:x.cells.all j4=true:=by rfl)(hb:0<bytes:=by decide):aV P G:=.st key [([q,0],⟨[x],k,false⟩),(id,⟨l,k,false⟩)] (.append k bytes (.ah id k 0 l.length false) (.ah [q,0] k 0 1 false)) (λ p=>{val:=.ah p k 0 (l.length+1) false,rd:=[id,[q,0]],up:=[(id,none),(p,some ⟨l++[x],k,false⟩)]}) (λ σ p b=>by have h:=b ([q,0],⟨[x],k,false⟩) am;have c:=b (id,⟨l,k,false⟩) am;exact yl (σ:=σ) (p:=p) (id:=id) (k:=k) (bytes:=bytes) (len:=l.length) (x:=.ah [q,0] k 0 1 false) (els:=l) (ys:=[x]) (rd:=[[q,0]]) (by rw[zr h rfl am];rfl) am c rfl a (oD (bx (r0 _ hb) a)) (by simpa using d) h3)
def JR{i:Nat}(h:i<1000000):cV.wrap ((i:Int)+1)=((i+1:Nat):Int):=by rw[c0];omega
def TK(key k bytes:Nat)(ys:List aa)(n:Nat)(c:ys.length=n)[h:b9 k ys](d:ys≠[])(hb:ys.length*bytes<=140737488355328)(e:0<bytes:=by decide):aV P G:=.st key [] (.append k bytes (.eW k []) (.sl k ys)) (λ p=>{val:=.ah p k 0 n false,up:=[(p,some ⟨ys,k,false⟩)]}) (λ σ p f=>by
   subst c;have a:ys.isEmpty=false:=by cases ys<;>simp at d⊢
   have b:ys.length<=maxLen:=oD (bx (r0 _ e) hb);have h1:=g9 (l:=ys) (k:=k);show qD σ p k bytes (.eW k []) (.sl k ys)=_;unfold qD;rw[show iM σ k (.sl k ys)=some (ys,[])from by simp[iM]];simp only[a,iz,if_false];rw[if_pos ⟨trivial,by rw[gR,cI];exact hb,by rw[gR,cI];exact b,by rw[jK];exact h1⟩,gR,cI,jK])
def arc{F:List (Id×aJ)}{q:Id}{k:Nat}{l:List aa}(h:l≠[]->bB F q=some ⟨l,k,false⟩)(b:∀e∈l,cT k e):gD F (bt q k l) (.sl k l):=by by_cases a:l=[];subst a;exact qM (e8 k);rw[dP a];exact wh (h a) b
def Nd{q:Id}{k:Nat}{l:List aa}{K:List (Id×aJ)}(a:l≠[]):bB (a8 q k l++K) q=some ⟨l,k,false⟩:=by rw[dK a];simp[bB]
def akk{q q':Id}{k:Nat}{l:List aa}{b:aJ}(h:q≠q'):bB (a8 q k l++[(q',b)]) q'=some b:=by
 unfold a8;split;simp[bB];have:(q'==q)=false:=by simpa using dS h
 show dC q' ([(q,_)]++[(q',b)])=_;rw[mo,jh,this];simp[dC]
def fh.FU{m:Nat}{q:aB}(g:fh m q):q.a≠q.b:=λ e=>by have:=g.nd;simp[aB.l]at this;exact this.1.1 e
def bb.afV{c:cD}{n w so i f d h:Nat}{e:cn}{A:aB->List (Nat×aa)}{bC:aB->List (Id×aJ)}{l L:List aa}(H:bb P G c n w e A bC (λ q=>[(so,bt q.a f l),(i,.ah q.b d 0 h false)]) (λ q=>a8 q.a f l++[(q.b,⟨L,d,false⟩)]))(j:h=L.length)(p:∀e∈l,cT f e)(o:∀e∈L,cT d e):bb P G c n w e A bC (λ _=>[(so,.sl f l),(i,.sl d L)]) (λ _=>[]):=H.hZ λ q m g=>by subst j;refine bN.CB ?_ ?_;have:=xG (q:=q.a) (k:=f) (l:=l) (K:=[(q.b,(⟨L,d,false⟩:aJ))]) (L:=[q.b]) (Bz _);refine List.Nodup.sublist this ?_;simp[fh.FU g];exact lO i (lO so (ji _ _) (arc (λ h=>Nd h) p)) (wh (akk (fh.FU g)) o)
end
section
variable{P:Program}{G:Nat->Option (List aa)}
def ox{f:FuncId}{A:List aa}{r:aa}(i:Id)(k:Nat)(l:List aa)(n:Nat)(g:l.length=n)[b9 k l][m:bn A](h:ag P G f (A++[.sl k l]) r):aV P G:=vx [(i,⟨l,k,false⟩)] (args:=A++[.ah i k 0 n false]) h (by
 subst g;have e:∀A:List aa,(∀c∈A,cd c)->dy (bB [(i,(⟨l,k,false⟩:aJ))]) (A++[.ah i k 0 l.length false]) (A++[.sl k l]):=λ A=>by induction A with|nil=>exact λ _=>bZ (gK (b:=false) (by simp[bB,dC])) dy.nil|cons a A j=>exact λ d=>bZ (fx (d a cg)) (j λ c hc=>d c (cX _ hc))
 exact e A m.pure)
def bN.Tr{n m l k ln:Nat}{X:Nat×aa}{F:List (Nat×aa)}{q:aB}{b:Bool}{f:aJ}{L:List aa}(g:fh m q)(u:ln=L.length)(p:∀e∈L,cT k e)(r:∀e∈f.els,e.size=f.k):bN G [0] ⟨fr n (X::(l,.ah q.b k 0 ln false)::F),bB [(q.a,f),(q.b,⟨L,k,b⟩)],m⟩ ⟨fr n (X::(l,.sl k L)::F),bB [(q.a,f)],m⟩:=by
 subst u;have j:=fh.FU g;have h:(q.b==q.a)=false:=by simpa using dS j
 have hb:bB [(q.a,f),(q.b,(⟨L,k,b⟩:aJ))] q.b=some ⟨L,k,b⟩:=by show dC _ _=_;rw[jh,h];simp[dC]
 refine BA [(q.b,⟨L,k,b⟩)] (λ y t=>by rw[bU.1 t];exact hb) ?_ (λ i=>?_) (a2 _);refine pE F (lO l (lO X.1 (ji _ _) (gD.same _ _)) ?_);refine qM (nc (av:=⟨L,k,b⟩) (by simp[bB,dC]) rfl am ?_ rfl λ d hd=>(p d hd).size);rw[nY,jI (a2 _)];exact jJ λ c hc=>by have⟨e,v,hc⟩:=g3.1 hc;exact(p e v).cells c hc
 by_cases o:i=q.a;subst o;exact .inr ⟨f,f,by simp[bB],by simp[bB],yJ (λ x s=>by rw[bU.1 s];exact dS j) r⟩;refine .inl ?_;have:(i==q.a)=false:=by simpa using o
 show dC _ _=_;rw[jh,this];rfl
def bN.Ts{n m z k ln:Nat}{X:Nat×aa}{F:List (Nat×aa)}{q:aB}{b:Bool}{h f:aJ}{L:List aa}(g:fh m q)(J:ln=L.length)(D:∀e∈L,cT k e)(I:∀e∈h.els,e.size=h.k)(hc:∀e∈f.els,e.size=f.k:=by intro e A;rw[bU.1 A];rfl):bN G [0] ⟨fr n (X::(z,.ah q.b k 0 ln false)::F),bB [(q.a,h),(q.b,⟨L,k,b⟩),(q.c,f)],m⟩ ⟨fr n (X::(z,.sl k L)::F),bB [(q.a,h),(q.c,f)],m⟩:=by
 subst J;have j:=fh.FU g;have u:=g.nd;simp only[aB.l,h5,cp,ct,or_false,not_or]at u;have C:q.a≠q.c:=u.1.2.1;have s:q.b≠q.c:=u.2.1.1;have o:(q.b==q.a)=false:=by simpa using dS j
 have t:(q.c==q.a)=false:=by simpa using dS C
 have v:(q.c==q.b)=false:=by simpa using dS s
 have hb:bB [(q.a,h),(q.b,(⟨L,k,b⟩:aJ)),(q.c,f)] q.b=some ⟨L,k,b⟩:=by show dC _ _=_;rw[jh,o];simp[dC]
 have B:bB [(q.a,h),(q.b,(⟨L,k,b⟩:aJ)),(q.c,f)] q.c=some f:=by show dC _ _=_;rw[jh,t];show dC _ [(q.b,_),(q.c,f)]=_;rw[jh,v];simp[dC]
 have p:bB [(q.a,h),(q.c,f)] q.c=some f:=by show dC _ _=_;rw[jh,t];simp[dC]
 refine BA [(q.b,⟨L,k,b⟩)] (λ y H=>by rw[bU.1 H];exact hb) ?_ (λ i=>?_) (a2 _);refine pE F (lO z (lO X.1 (ji _ _) (gD.same _ _)) ?_);refine qM (nc (av:=⟨L,k,b⟩) (by simp[bB,dC]) rfl am ?_ rfl λ d hd=>(D d hd).size);rw[nY,jI (a2 _)];exact jJ λ c hc=>by have⟨e,A,hc⟩:=g3.1 hc;exact(D e A).cells c hc
 by_cases E:i=q.a;subst E;exact .inr ⟨h,h,by simp[bB],by simp[bB],yJ (λ x w=>by rw[bU.1 w];exact dS j) I⟩;by_cases r:i=q.c;subst r;exact .inr ⟨f,f,B,p,yJ (λ x w=>by rw[bU.1 w];exact s) hc⟩;refine .inl ?_;have h1:(i==q.a)=false:=by simpa using E
 have K:(i==q.c)=false:=by simpa using r
 show dC _ _=_;rw[jh,h1];show dC _ [(q.c,f)]=_;rw[jh,K];rfl
def Nf{q i:Id}{k:Nat}{l:List aa}{K:List (Id×aJ)}(h:i≠q):bB (a8 q k l++K) i=bB K i:=by
 unfold a8;split;rfl;have:(i==q)=false:=by simpa using h
 show dC i ([(q,_)]++K)=_;rw[mo,jh,this];rfl
def Beside(y:aB->List (Id×aJ)):Prop:=∀m q,fh m q->∀x∈y q,x.1≠q.a/\∀e∈x.2.els,e.size=x.2.k
def bN.vp{n m so k:Nat}{B:List (Nat×aa)}{y:List (Id×aJ)}{a:Id}{l:List aa}(d:∀e∈l,cT k e)(f:∀x∈y,x.1≠a/\∀e∈x.2.els,e.size=x.2.k):bN G [0] ⟨fr n ((so,bt a k l)::B),bB (a8 a k l++y),m⟩ ⟨fr n ((so,.sl k l)::B),bB y,m⟩:=BA (a8 a k l) (λ x c=>by unfold a8 at c;split at c;exact(ct c).elim;next d=>rw[bU.1 c];exact Nd d) (pE B (lO so (ji _ _) (PD d))) (λ i=>by cases h:bB y i with|none=>exact .inl rfl|some b=>have g:=qj h;have⟨h1,j⟩:=f _ g;exact .inr ⟨b,b,by rw[Nf h1];exact h,rfl,yJ (λ x c=>by unfold a8 at c;split at c;exact(ct c).elim;rw[bU.1 c];exact dS h1) j⟩) (a2 _)
def bb.vp{c:cD}{n w so k:Nat}{e:cn}{A:aB->List (Nat×aa)}{bC:aB->List (Id×aJ)}{B:aB->List (Nat×aa)}{y:aB->List (Id×aJ)}{l:List aa}(h:bb P G c n w e A bC (λ q=>(so,bt q.a k l)::B q) (λ q=>a8 q.a k l++y q))(d:∀e∈l,cT k e)(b:Beside y):bb P G c n w e A bC (λ q=>(so,.sl k l)::B q) y:=h.hZ λ q m g=>bN.vp d (b m q g)
def F7{Y Z:aB->aJ}(h:∀q,∀e∈(Y q).els,e.size=(Y q).k)(f:∀q,∀e∈(Z q).els,e.size=(Z q).k):Beside (λ q=>[(q.b,Y q),(q.c,Z q)]):=λ m q g x d=>by have a:=g.nd;simp only[aB.l,h5,cp,ct,or_false,not_or]at a;rcases cp.1 d with rfl|d;exact⟨dS a.1.1,h q⟩;rw[bU.1 d];exact⟨dS a.1.2.1,f q⟩
def dh(a b c d e:aa):aJ:=⟨[.agg [a,b,c,d,e]],5,false⟩
def nt{a b c d e:aa}:∀x∈(dh a b c d e).els,x.size=(dh a b c d e).k:=λ x f=>by rw[bU.1 f];rfl
instance{a b c e:aa}{d:aB->aa}[f:bg a][hb:bg b][hc:bg c][hd:ky d][g:bg e]:pY (λ q=>dh a b c (d q) e):=⟨λ ρ q=>by show aJ.mk [.agg [a.aY ρ,b.aY ρ,c.aY ρ,(d q).aY ρ,e.aY ρ]] 5 false=_;rw[f.fix,hb.fix,hc.fix,hd.nat,g.fix];rfl⟩
def bN.L8{n m:Nat}{T:List (Nat×aa)}{q:aB}{L L':List aa}{a0 y u t w b1 b2 b4:aa}{z:aJ}(g:fh m q)(A:L.length=L'.length)(E:∀e∈L',e.size=1)(D:∀e∈L,e.size=1)(hv:∀F,e6 F (flat L) (flat L'))(N:∀c∈flat L',cd c)(M:∀F,gD F a0 w)(h1:∀F,gD F y b1)(K:∀F,gD F u b2)(h4:∀F,gD F t b4)(I:∀e∈z.els,e.size=z.k)(v:∀σ:aQ,dy σ (flat L) (flat L')):bN G [0] ⟨fr n T,bB (a8 q.a 1 L++[(q.b,dh a0 y u (bt q.a 1 L) t),(q.c,z)]),m⟩ ⟨fr n T,bB [(q.b,dh w b1 b2 (.sl 1 L') b4),(q.c,z)],m⟩:=by
 have r:=g.nd;simp only[aB.l,h5,cp,ct,or_false,not_or]at r;have j:q.b≠q.a:=dS r.1.1;have p:q.c≠q.a:=dS r.1.2.1;have f:(q.c==q.b)=false:=by simpa using dS r.2.1.1
 have B:∀i,i≠q.a->∀x∈a8 q.a 1 L,x.1≠i:=λ i s x d=>by unfold a8 at d;split at d;exact(ct d).elim;rw[bU.1 d];exact dS s
 have J:gD (a8 q.a 1 L) (bt q.a 1 L) (.sl 1 L'):=by by_cases o:L=[];subst o;have:L'=[]:=List.eq_nil_of_length_eq_zero A.symm;subst this;exact qM (e8 1);rw[dP o,dK o];refine qM (nc (av:=⟨L,1,false⟩) (by simp[bB,dC]) rfl am ?_ A.symm E);rw[nY,jI (a2 _)];exact v _
 refine BA (a8 q.a 1 L) (λ x d=>by unfold a8 at d;split at d;exact(ct d).elim;next o=>rw[bU.1 d];exact Nd o) (ji _ _) (λ i=>?_) (a2 _);by_cases s:i=q.b;subst s;refine .inr ⟨dh a0 y u (bt q.a 1 L) t,dh w b1 b2 (.sl 1 L') b4,by rw[Nf j];simp[bB,dC],by simp[bB,dC],rfl,.inl rfl,λ _=>B _ j,rfl,nt,?_⟩;exact⟨M _,h1 _,K _,J,h4 _,trivial⟩;by_cases h:i=q.c;subst h;exact .inr ⟨z,z,by rw[Nf p];show dC _ _=_;rw[jh,f];simp[dC],by show dC _ _=_;rw[jh,f];simp[dC],yJ (B _ p) I⟩;refine .inl ?_;have C:(i==q.b)=false:=by simpa using s
 have H:(i==q.c)=false:=by simpa using h
 show dC _ _=_;rw[jh,C];show dC _ [(q.c,z)]=_;rw[jh,H];rfl
end
section
variable{x y z u:aB->aJ}[hx:pY x][hy:pY y][hz:pY z][hu:pY u]{k:Nat}{l:List aa}[hl:bn l]
instance:dI (λ q=>a8 q.a k l++[(q.c,z q)]):=⟨λ ρ q=>by show ft ρ (a8 q.a k l++_)=_;rw[AM,Aa];show _++[(ρ q.c,(z q).aY ρ)]=_;rw[hz.nat];rfl,λ q=>xG (.cons _ (.cons_cons _ (nZ _)))⟩
instance:dI (λ q=>[(q.b,x q),(q.d,y q)]):=⟨λ ρ q=>by show [(ρ q.b,(x q).aY ρ),(ρ q.d,(y q).aY ρ)]=_;rw[hx.nat,hy.nat];rfl,λ q=>.cons _ (.cons_cons _ (.cons _ (.cons_cons _ (nZ _))))⟩
instance:dI (λ q=>[(q.a,x q),(q.b,y q),(q.c,z q),(q.d,u q)]):=⟨λ ρ q=>by show [(ρ q.a,(x q).aY ρ),(ρ q.b,(y q).aY ρ),(ρ q.c,(z q).aY ρ),(ρ q.d,(u q).aY ρ)]=_;rw[hx.nat,hy.nat,hz.nat,hu.nat];rfl,λ q=>Bz _⟩
end
instance(priority:=1100)atr{b c d e:aa}{a:aB->aa}[f:ky a][hb:bg b][hc:bg c][hd:bg d][g:bg e]:pY (λ q=>dh (a q) b c d e):=⟨λ ρ q=>by show aJ.mk [.agg [(a q).aY ρ,b.aY ρ,c.aY ρ,d.aY ρ,e.aY ρ]] 5 false=_;rw[f.nat,hb.fix,hc.fix,hd.fix,g.fix];rfl⟩
section
variable{P:Program}{G:Nat->Option (List aa)}
noncomputable def HN(aG:ee)(k l s N:Nat)(b:aB)(c:List (Nat×aa))(d:List (Id×aJ))(T:Nat->aB->List (Nat×aa))(K:Nat->aB->List (Id×aJ))(e:cn)(dx:aB->List (Nat×aa))(cC:aB->List (Id×aJ))[gq dx][dI cC](g:T 0 b=c)(n:K 0 b=d)(h:∀i,i<N->bb P G (aT aG k) aG.aH (bj l) .normal (T i) (K i) (T (i+1)) (K (i+1)))(m:bb P G (aT aG k) aG.aH (bj l) e (T N) (K N) dx cC)(j:kJ (lb l s) b=true:=by kernel_rfl)(f:N<=9000:=by omega)(a:e≠.normal:=by simp):aV P G:=.iQ [0] (aT aG k) (fr aG.aH c) d (lb l s) e (fr aG.aH (dx (BB (le l s)))) (b8 (cC (BB (le l s)))) (le l s+4) (by rw[<-g,<-n];exact Da (Kf j) h m a (Dd f))
def fh.ne{m:Nat}{q:aB}(g:fh m q):q.a≠q.b/\q.a≠q.c/\q.a≠q.d/\q.b≠q.c/\q.b≠q.d/\q.c≠q.d:=by have e:=g.nd;simp only[aB.l,h5,cp,ct,or_false,not_or]at e;have⟨⟨h1,i,h3⟩,⟨h4,f⟩,h,_⟩:=e;exact⟨h1,i,h3,h4,f,h⟩
def gE{i j:Id}(h:i≠j):(i==j)=false:=by simpa using h
def bN.afS{n m so:Nat}{B:List (Nat×aa)}{q:aB}{l L:List aa}{z:aJ}(g:fh m q)(v:∀e∈l,cT 1 e)(u:∀e∈L,cT 1 e)(w:∀e∈z.els,e.size=z.k):bN G [0] ⟨fr n ((so,.ah q.c 1 0 L.length false)::B),bB [(q.a,⟨l,1,false⟩),(q.b,dh (.ah q.a 1 0 l.length false) .ar .ar .ar .ar),(q.c,⟨L,1,false⟩),(q.d,z)],m⟩ ⟨fr n ((so,.sl 1 L)::B),bB [(q.b,dh (.sl 1 l) .ar .ar .ar .ar),(q.d,z)],m⟩:=by
 have⟨s,o,r,j,p,h⟩:=g.ne;have y:bB [(q.a,(⟨l,1,false⟩:aJ)),(q.c,⟨L,1,false⟩)] q.a=some ⟨l,1,false⟩:=by simp[bB,dC]
 have A:bB [(q.a,(⟨l,1,false⟩:aJ)),(q.c,⟨L,1,false⟩)] q.c=some ⟨L,1,false⟩:=by simp[bB,dC,gE (dS o)]
 refine BA [(q.a,⟨l,1,false⟩),(q.c,⟨L,1,false⟩)] (λ x f=>?_) (pE B (lO so (ji _ _) (wh A u))) (λ i=>?_) (a2 _);rcases cp.1 f with rfl|f;simp[bB,dC];rw[bU.1 f];simp[bB,dC,gE (dS o),gE (dS j)];by_cases h1:i=q.b;subst h1;refine .inr ⟨dh (.ah q.a 1 0 l.length false) .ar .ar .ar .ar,dh (.sl 1 l) .ar .ar .ar .ar,by simp[bB,dC,gE (dS s)],by simp[bB,dC],rfl,.inl rfl,λ _ x f=>?_,rfl,nt,⟨wh y v,ji _ _⟩⟩;rcases cp.1 f with rfl|f;exact s;rw[bU.1 f];exact dS j;by_cases t:i=q.d;subst t;refine .inr ⟨z,z,by simp[bB,dC,gE (dS r),gE (dS p),gE (dS h)],by simp[bB,dC,gE (dS p)],yJ (λ x f=>?_) w⟩;rcases cp.1 f with rfl|f;exact r;rw[bU.1 f];exact h;exact .inl (by simp[bB,dC,gE h1,gE t])
def bN.afT{n m so:Nat}{B:List (Nat×aa)}{q:aB}{z:aJ}(g:fh m q)(h:∀e∈z.els,e.size=z.k):bN G [0] ⟨fr n ((so,.ar)::B),bB [(q.b,dh .ar .ar .ar .ar .ar),(q.d,z)],m⟩ ⟨fr n ((so,.sl 1 [])::B),bB [(q.b,dh (.sl 1 []) .ar .ar .ar .ar),(q.d,z)],m⟩:=by have⟨o,l,p,r,c,j⟩:=g.ne;refine BA [] (λ x a=>(ct a).elim) (pE B (lO so (ji _ _) (qM (e8 1)))) (λ i=>?_) (a2 _);by_cases h1:i=q.b;subst h1;exact .inr ⟨dh .ar .ar .ar .ar .ar,dh (.sl 1 []) .ar .ar .ar .ar,by simp[bB,dC],by simp[bB,dC],rfl,.inl rfl,λ _ x a=>(ct a).elim,rfl,nt,⟨qM (e8 1),ji _ _⟩⟩;by_cases f:i=q.d;subst f;exact .inr ⟨z,z,by simp[bB,dC,gE (dS c)],by simp[bB,dC,gE (dS c)],yJ (λ x a=>(ct a).elim) h⟩;exact .inl (by simp[bB,dC,gE h1,gE f])
def eF(s:Nat):Nat:=1000000000000000000000000*s+1000
def cx(s:Nat):Nat:=1000000000000000000000000*(s+1)
abbrev w0:Id:=[cx 0,0]
def JM{s N:Nat}(h:N<=10000000000000000000):eF s+200*N+200<=cx s:=by unfold eF cx;omega
noncomputable def ug(aG:ee)(k s N:Nat)(b:aB)(c:List (Nat×aa))(d:List (Id×aJ))(T:Nat->aB->List (Nat×aa))(K:Nat->aB->List (Id×aJ))(e:cn)(dx:aB->List (Nat×aa))(cC:aB->List (Id×aJ))[gq dx][dI cC](g:T 0 b=c)(m:K 0 b=d)(h:∀i,i<N->bb P G (aT aG k) aG.aH 200 .normal (T i) (K i) (T (i+1)) (K (i+1)))(l:bb P G (aT aG k) aG.aH 200 e (T N) (K N) dx cC)(j:kJ (eF s) b=true:=by kernel_rfl)(f:N<=10000000000000000000:=by omega)(a:e≠.normal:=by simp):aV P G:=.iQ [0] (aT aG k) (fr aG.aH c) d (eF s) e (fr aG.aH (dx (BB (cx s)))) (b8 (cC (BB (cx s)))) (cx s+4) (by rw[<-g,<-m];exact Da (Kf j) h l a (JM f))
noncomputable def HR(aG:ee)(k N:Nat)(b:aB)(c:List (Nat×aa))(d:List (Id×aJ))(T:Nat->aB->List (Nat×aa))(K:Nat->aB->List (Id×aJ))(e:cn)(dx:aB->List (Nat×aa))(cC:aB->List (Id×aJ))[gq dx][dI cC](f:T 0 b=c)(l:K 0 b=d)(h:∀i,i<N->bb P G (aT aG k) aG.aH (cx 9) .normal (T i) (K i) (T (i+1)) (K (i+1)))(g:bb P G (aT aG k) aG.aH (cx 9) e (T N) (K N) dx cC)(j:kJ (eF 0) b=true:=by kernel_rfl)(m:N<=10000000000000000000:=by omega)(a:e≠.normal:=by simp):aV P G:=.iQ [0] (aT aG k) (fr aG.aH c) d (eF 0) e (fr aG.aH (dx (BB 1000000000000000000000000000000000000000000000000))) (b8 (cC (BB 1000000000000000000000000000000000000000000000000))) 1000000000000000000000000000000000000000000000004 (by rw[<-f,<-l];exact Da (Kf j) h g a (by unfold eF cx;omega))
end
section
variable{P:Program}{G:Nat->Option (List aa)}{α:Type}
def fh.mono{m a:Nat}{q:aB}(g:fh m q)(h:m<=a):fh a q:=⟨g.nd,λ i b j c=>g.old i b j ac⟩
abbrev hM(P:Program)(G:Nat->Option (List aa))(aG:ee)(k:Nat)(e:cn)(A:aB->List (Nat×aa))(bC:aB->List (Id×aJ))(B:aB->List (Nat×aa))(bO:aB->List (Id×aJ)):Prop:=bb P G (aT aG k) aG.aH 200 e A bC B bO
def au(x i:Nat):Nat:=x/ai^i%ai
def eM(x k:Nat):List Nat:=(List.range k).map (au x)
def cG(x i:Nat):au x i<ai:=bG _ fz
def fR(i:Nat):0<ai^i:=Nat.pow_pos fz
def nk(x k:Nat):(eM x k).length=k:=by unfold eM;rw[aL,cR]
def QN(x k:Nat):eM x (k+1)=eM x k++[au x k]:=by unfold eM;rw[List.range_succ,List.map_append];rfl
def y2(x k:Nat):kz (eM x k):=λ w hw=>by obtain⟨i,_,rfl⟩:=bd.1 hw;exact cG x i
def sU(x i:Nat):x%ai^(i+1)=x%ai^i+ai^i*au x i:=by rw[eo,Nat.mod_mul];rfl
def uB(x:Nat):∀k,val (eM x k)=x%ai^k|0=>by rw[kR,qO];rfl|k+1=>by rw[QN,Jy,nk,uB x k,sU];simp[val]
def sc{x i:Nat}(h:x<ai^i):au x i=0:=by unfold au;rw[h6 h];rfl
def BW{x k:Nat}(h:x<ai^(k+1)):au x k=x/ai^k:=dL (uP (by rwa[eo]at h))
def KN{x k:Nat}(h:x<ai^k)(a:k=0\/ai^(k-1)<=x):eM x k=digits x:=by have:=aeR (y2 x k) (a.imp (λ e=>by subst e;rfl) λ g=>by rw[uB,nk,dL h];exact g);rw[uB,dL h]at this;exact this.symm
def eS(x:Nat):x<ai^af x:=sS x
def CC{x:Nat}(h:x≠0):ai^(af x-1)<=x:=by have:=@jF x (af x-1);have:=gL (n:=x);rcases Nat.lt_or_ge x (ai^(af x-1))with h1|h1<;>omega
def Ly(x:Nat):digits x=eM x (af x):=(KN (eS x) (by by_cases h:x=0;subst h;left;exact gL.2 rfl;exact .inr (CC h))).symm
def wR{x i:Nat}(h:i<af x):(digits x)[i]?=some (au x i):=by rw[Ly];simp[eM,h]
def pV{x i:Nat}(h:af x<=i):au x i=0:=sc (gM (eS x) (dR fz h))
instance{ws:List Nat}:bn (us ws):=⟨λ c hc=>by obtain⟨w,_,rfl⟩:=bd.1 hc;exact cd.int _ _,λ ρ=>LV ws ρ⟩
instance{ws:List Nat}:b9 1 (us ws):=⟨λ c hc=>by obtain⟨w,_,rfl⟩:=bd.1 hc;infer_instance⟩
abbrev Bb(w:Nat):aa:=.int .u32 (w:Int)
end
section
variable{P:Program}{G:Nat->Option (List aa)}
def dU(k:Nat){x i:Nat}(h:i<af x):aV P G:=ho k (FT (wR h))
def agt(k c:Nat)(h:c<=4398046511104):aV P G:=.st k [] (.uk 1 4 (.int .u32 0) (.int .i64 0) (.int .i64 (c:Int))) (λ p=>{val:=.ah p 1 0 0 false,up:=[(p,some ⟨[],1,false⟩)]}) (λ σ p _=>akl ac)
def ag.Jp{f:FuncId}{aG:ee}(h:lp P f aG)(a:List (aV P G))(i:Nat){n x:Nat}{args:List aa}{ws:List Nat}[bn args](b:ws.length=n)(d:ws=digits x)(e:nI aG.results ([([i,0],⟨us ws,1,false⟩)]++rest [([i,0],⟨us ws,1,false⟩)] []) (qu aG args a)=nH (.ah [i,0] 1 0 n false) ([([i,0],⟨us ws,1,false⟩)]++rest [([i,0],⟨us ws,1,false⟩)] []) (qu aG args a)):ag P G f args (W x):=by subst d;refine ag.oN h a [([i,0],⟨us (digits x),1,false⟩)] (.ah [i,0] 1 0 n false) e ?_ ?_ am λ σ c=>gK (c _ cg) (by rw[j2];exact b);show [(bT 0 [0] _ ([]++[i,0]),aJ.aY _ _)]=_;rw[jb,cI];show [([]++[i,0],aJ.mk (bD _ (us (digits x))) 1 false)]=_;rw[bn.fix];rfl;show aa.ah (bT 0 [0] _ ([]++[i,0])) _ _ _ _=_;rw[jb,cI];rfl
def Hb(k:Nat)(id:Id)(q s n:Nat)(h:n<=4398046511104):aV P G:=.st k [([q,0],⟨[Bb (au s n)],1,false⟩),(id,⟨us (eM s n),1,false⟩)] (.append 1 4 (.ah id 1 0 n false) (.ah [q,0] 1 0 1 false)) (λ p=>{val:=.ah p 1 0 (n+1) false,rd:=[id,[q,0]],up:=[(id,none),(p,some ⟨us (eM s (n+1)),1,false⟩)]}) (λ σ p a=>by have h1:=a ([q,0],⟨us [au s n],1,false⟩) (by simp[us]);have b:=a (id,⟨us (eM s n),1,false⟩) am;have e:=yl (σ:=σ) (p:=p) (id:=id) (k:=1) (bytes:=4) (len:=n) (x:=.ah [q,0] 1 0 1 false) (els:=us (eM s n)) (ys:=us [au s n]) (rd:=[[q,0]]) (zr h1 rfl (by simp[us])) (by simp[us]) b (by rw[j2,nk]) (by rw[j2];simp;omega) (oD (by rw[j2];simp;omega)) (Zx _) (Zx _);rw[<-aqy,<-QN]at e;exact e)
def cY(a b i:Nat):Nat:=(a%ai^i+b%ai^i)/ai^i
def zn(a b:Nat):cY a b 0=0:=by unfold cY;rw[kR,qO,qO]
def sy(a b i:Nat):cY a b i<=1:=by have:=bG a (fR i);have:=bG b (fR i);exact Nat.le_of_lt_succ (uP ac)
def Cm(a b i:Nat):cY a b (i+1)=(cY a b i+au a i+au b i)/ai:=by unfold cY;rw[sU a,sU b,eo,<-ll,show a%ai^i+ai^i*au a i+(b%ai^i+ai^i*au b i)=a%ai^i+b%ai^i+ai^i*(au a i+au b i)by rw[ej];omega,oV _ _ (fR i),my]
def zm(a b i:Nat):au (a+b) i=(cY a b i+au a i+au b i)%ai:=by
 have c:=h8 a (ai^i);have hb:=h8 b (ai^i);have e:(a+b)/ai^i=a/ai^i+b/ai^i+cY a b i:=by
   conv=>lhs;rw[<-c,<-hb]
   rw[show ai^i*(a/ai^i)+a%ai^i+(ai^i*(b/ai^i)+b%ai^i)=a%ai^i+b%ai^i+ai^i*(a/ai^i+b/ai^i)by rw[ej];omega,oV _ _ (fR i)];unfold cY;omega
 unfold au;rw[e];generalize a/ai^i=A,b/ai^i=B,cY a b i=C;unfold ai;omega
def Sf{a b k:Nat}(c:a<ai^k)(hb:b<ai^k):cY a b k=(a+b)/ai^k:=by unfold cY;rw[dL c,dL hb]
def cj(L:Nat)(f:Nat->Nat):List Nat:=(List.range L).map f
def u3(L:Nat)(f:Nat->Nat):(cj L f).length=L:=by unfold cj;rw[aL,cR]
def acj{L i:Nat}(f:Nat->Nat)(h:i<L):(cj L f)[i]?=some (f i):=by simp[cj,h]
def tB{L:Nat}{f g:Nat->Nat}(h:∀j,j<L->f j=g j):cj L f=cj L g:=kq λ j a=>h j (List.mem_range.1 a)
def ack{L i v:Nat}{f g:Nat->Nat}(h:∀j,j<L->g j=if j=i then v else f j):(cj L f).set i v=cj L g:=by refine jL (by simp[cj]) λ j h1 a=>?_;rw[List.getElem_set];simp only[cj,List.getElem_map,List.getElem_range,aL,cR]at a⊢;rw[h j a];split<;>split<;>first|rfl|omega
def acm(L:Nat):cj L (λ _=>0)=bI L 0:=jL (by simp[cj]) (by simp[cj])
def jx(s i j:Nat):Nat:=if j<i then au s j else 0
def L9{s i:Nat}(L j:Nat)(h:j<L):jx s (i+1) j=if j=i then au s i else jx s i j:=by unfold jx;split<;>split<;>first|(subst_vars;rfl)|rw[if_pos ac]|rw[if_neg ac]|omega
def GU{s L j:Nat}(h:j<L):jx s L j=au s j:=if_pos h
abbrev nS(L s i:Nat):aB->List (Id×aJ):=λ q=>[(q.a,⟨us (cj L (jx s i)),1,false⟩)]
def aB.o(k:Nat):aB:=⟨[k,0],[2],[3],[4]⟩
def sF(k L:Nat)(f:Nat->Nat)(a:∀j,j<L->f j=0)(h:L<=8388608000000:=by omega):aV P G:=.st k [] (.uk 1 4 (.int .u32 0) (.int .i64 (L:Int)) (.int .i64 (L:Int))) (λ p=>{val:=.ah p 1 0 L false,up:=[(p,some ⟨us (cj L f),1,false⟩)]}) (λ σ p _=>by rw[tB a,acm];exact akn ac)
def zH(k L s:Nat)(h:L<=8388608000000:=by omega):aV P G:=sF k L (jx s 0) (λ _ _=>if_neg (ew _)) h
def et(k:Nat)(id:Id)(L i:Nat)(h:i<L):aV P G:=ho k (ah6 (q:=id) (t:=false) h)
def g6(x:Nat)(id:Id){L i v:Nat}{f:Nat->Nat}(g:Nat->Nat)(c:i<L)(a:∀j,j<L->g j=if j=i then v else f j):aV P G:=.st (x+100000) [(id,⟨us (cj L f),1,false⟩)] (.store 1 (.ref id i 0) (Bb v)) (λ _=>{val:=.aM [],rd:=[id],up:=[(id,some ⟨us (cj L g),1,false⟩)]}) (λ σ p b=>by rw[<-ack a];exact apZ (b _ cg) (by rw[u3];exact c))
def o9(x:Nat){L:Nat}(s:Nat){i:Nat}(a:i<L)(q:Id:=[1]):aV P G:=g6 x q (jx s (i+1)) a (L9 _)
def ik(k:Nat)(id:Id)(L:Nat)(f:Nat->Nat){i y:Nat}(c:i<L)(a:f i=y):aV P G:=.st k [(id,⟨us (cj L f),1,false⟩)] (.load false 1 (.ref id i 0)) (λ _=>{val:=Bb y,rd:=[id]}) (λ σ p b=>ajC (b _ cg) (by rw[acj f c,a]))
def rh{oo:FuncId}(L s:Nat)(f:Nat->Nat)(a:∀j,j<L->f j=au s j)(b:ig P G oo)(c:s<ai^L)(d:L<=8388608000000:=by omega)(id:Id:=w0):aV P G:=ox id 1 (us (cj L f)) L (by rw[j2,u3]) (A:=[]) (r:=W s) (by have e:cj L f=eM s L:=tB a;have:=b (eM s L) (y2 s L) (by rw[nk];omega);rw[uB,dL c]at this;rw[e];exact this)
def Ha{oo:FuncId}(L s:Nat)(c:ig P G oo)(b:s<ai^L)(a:L<=8388608000000:=by omega)(id:Id:=w0):aV P G:=rh L s (jx s L) (λ _=>GU) c b a id
def G9(k:Nat){a:Int}{c:Nat}(h:a/9223372036854775808=(c:Int)):aV P G:=ho k (o:=eY .shr .int (.int .u64 a) (.int .u64 63)) (v:=.int .u64 (c:Int)) (by rw[B9 al];show some (aa.int .u64 (a.fdiv (2^63)))=_;rw[Int.fdiv_eq_ediv_of_nonneg _ al];exact congrArg (λ x=>some (aa.int .u64 x)) h)
def bw(k:Nat)(n:Nat):aV P G:=ho k (eQ n)
def fY(k:Nat){i n:Nat}(h:i<n):aV P G:=hb k (decide_eq_true ac:decide ((i:Int)<(n:Int))=true)
def ij(k:Nat){i n:Nat}(h:n<=i):aV P G:=hb k (decide_eq_false ac:decide ((i:Int)<(n:Int))=false)
def hI(k:Nat){i n:Nat}(h:i<n)(a:n<=8388608000000:=by omega):aV P G:=hw k (Z1 i ac)
noncomputable def uf(aG:ee)(k s N o:Nat)(b:List (Nat×aa))(T:Nat->aB->List (Nat×aa))(K:Nat->aB->List (Id×aJ))(e:cn)[gq (T N)][dI (K N)](d:T 0 (aB.o o)=b)(f:∀i,i<N->hM P G aG k .normal (T i) (K i) (T (i+1)) (K (i+1)))(c:hM P G aG k e (T N) (K N) (T N) (K N))(g:kJ (eF s) (aB.o o)=true:=by kernel_rfl)(ij:N<=10000000000000000000:=by omega)(a:e≠.normal:=by simp):aV P G:=ug aG k s N (aB.o o) b (K 0 (aB.o o)) T K e (T N) (K N) d rfl f c g ij a
def amC(m n i:Nat):da.wrap (da.wrap ((cY m n i:Int)+da.wrap (au m i:Int))+da.wrap (au n i:Int))=((cY m n i+au m i+au n i:Nat):Int)/\(au n i=0->da.wrap ((cY m n i:Int)+da.wrap (au m i:Int))=((cY m n i+au m i+au n i:Nat):Int))/\jH.wrap ((cY m n i+au m i+au n i:Nat):Int)=(au (m+n) i:Int)/\eY .shr .int (.int .u64 ((cY m n i+au m i+au n i:Nat):Int)) (.int .u64 32)=some (.int .u64 (cY m n (i+1):Int)):=by have a:=cG m i;have c:=cG n i;have b:=sy m n i;refine⟨?_,λ z=>?_,?_,?_⟩;unfold ai at*;simp only[iy];omega;rw[z];unfold ai at*;simp only[iy];omega;rw[kN,<-zm];rw[nK,<-Cm]
def Cl{m n:Nat}(h:af n<=af m):m+n<ai^(af m+1)/\jH.wrap (cY m n (af m):Int)=(au (m+n) (af m):Int):=by have b:=gM (eS n) (dR fz h);have a:=eS m;refine⟨?_,?_⟩;rw[eo];have:ai^af m*2<=ai^af m*ai:=fS _ BV;omega;rw[kN,Sf a b];rfl
def aeK(a b i:Nat):au a i+au b i+cY a b i=au (a+b) i+ai*cY a b (i+1):=by have:=uQ (cY a b i+au a i+au b i) ai;rw[<-zm,<-Cm]at this;omega
def Lx{m n:Nat}(h:n<=m)(i:Nat):au (m-n) i+au n i+cY (m-n) n i=au m i+ai*cY (m-n) n (i+1):=by have:=aeK (m-n) n i;rwa[Nat.sub_add_cancel h]at this
def amB{x y c w c':Nat}(e:w+y+c=x+ai*c')(b:x<ai)(d:y<ai)(hw:w<ai)(hc:c<=1)(a:c'<=1):jH.wrap (da.wrap (da.wrap (da.wrap (x:Int)-(c:Int))-da.wrap (y:Int)))=(w:Int)/\da.wrap (da.wrap (da.wrap (x:Int)-(c:Int))-da.wrap (y:Int))/9223372036854775808=(c':Int):=by unfold ai at*;refine⟨?_,?_⟩<;>simp only[iy,E5]<;>omega
def Xt{x y c w c':Nat}(e:w+y+c=x+ai*c')(b:x<ai)(d:y<ai)(hw:w<ai)(hc:c<=1)(a:c'<=1):da.wrap (da.wrap (da.wrap (da.wrap (x:Int)+4294967296)-da.wrap (y:Int))-(c:Int))=((x+ai-y-c:Nat):Int)/\jH.wrap ((x+ai-y-c:Nat):Int)=(w:Int)/\da.wrap (1-(((x+ai-y-c)/ai:Nat):Int))=(c':Int):=by unfold ai at*;refine⟨?_,?_,?_⟩<;>simp only[iy,E5]<;>omega
end
end Go.aA
namespace Go.Proofs.YtpcofcmencgkbaaGreat
def bK{n:Nat}{G:Nat->Option (List aa)}(l:List (aV ab G)){args:List aa}{r:aa}[bn args][bg r](b:nI (ao n).results [] (qu (ao n) args l)=nH r [] (qu (ao n) args l):=by kernel_rfl)(e:(Ci n).isSome=true:=by kernel_rfl):ag ab G n args r:=ag.Pf (hN e) l b
section
variable(G:Nat->Option (List aa)){m n:Nat}
noncomputable abbrev DL(m n i:Nat):aB->List (Nat×aa):=λ q=>[(0,W m),(1,W n),(5,.ah q.a 1 0 i false),(6,.int .u64 (cY m n i:Int)),(20,W m),(21,.int .i64 (af m:Int)),(22,.int .i64 (i:Int))]
noncomputable abbrev Av(m n i:Nat):aB->List (bz×aJ):=λ q=>[(q.a,⟨us (eM (m+n) i),1,false⟩)]
def amP(r:af m<=4194304000000)(i:Nat)(f:i<af m):hM ab G (ao 305) 0 .normal (DL m n i) (Av m n i) (DL m n (i+1)) (Av m n (i+1)):=by have q:=sy m n i;have c:=cG m i;have k:=cG n i;have lt:decide ((i:Int)<(af m:Int))=true:=decide_eq_true ac;have d:cV.wrap ((i:Int)+1)=((i+1:Nat):Int):=Z1 _ ac;have f1:=fC _ c;have j:=w5 (cY m n i) (au m i) (by unfold ai at c;omega);by_cases p:i<af n;have ln:decide ((i:Int)<(af n:Int))=true:=decide_eq_true ac;have l:=fC _ k;have o:=w5 (cY m n i+au m i) (au n i) (by unfold ai at c k;omega);have a:=kN (cY m n i+au m i+au n i);rw[<-zm]at a;have b:=nK (cY m n i+au m i+au n i);rw[<-Cm]at b;exact a9 ⟨[27,0],[2],[3],[4]⟩ [hb 23 lt,dU 25 f,hw 29 f1 .u64,hw 30 j .u64,ho 33 (eQ n),hb 34 ln,dU 38 p,hw 40 l .u64,hw 41 o .u64,hw 44 a .u32,Hb 46 [1] 26 (m+n) i ac,ho 48 b,hw 49 d];have ln:decide ((i:Int)<(af n:Int))=false:=decide_eq_false ac;have z:=pV (ac:af n<=i);have a:=kN (cY m n i+au m i);have b:=nK (cY m n i+au m i);have e:=zm m n i;have h:=Cm m n i;simp only[z,j7]at e h;rw[<-e]at a;rw[<-h]at b;exact a9 ⟨[19,0],[2],[3],[4]⟩ [hb 23 lt,dU 25 f,hw 29 f1 .u64,hw 30 j .u64,ho 33 (eQ n),hb 34 ln,hw 44 a .u32,Hb 46 [1] 18 (m+n) i ac,ho 48 b,hw 49 d]
def amO:hM ab G (ao 305) 0 (.exit 0) (DL m n (af m)) (Av m n (af m)) (λ q=>[(5,.ah q.a 1 0 (af m) false),(6,.int .u64 (cY m n (af m):Int))]) (Av m n (af m)):=a9 aO [hb 23 (decide_eq_false (Int.lt_irrefl (af m:Int)))]
noncomputable abbrev Iy(e:af m<=4194304000000)(a b o:Nat)(x:Bool)(d:decide ((af a:Int)<(af b:Int))=x)(f:kJ (eF 0) (aB.o o)=true):List (aV ab G):=[bw 10 a,bw 12 b,hb 13 d,bw 17 m,hI 18 (nb (af m)),agt 19 (af m+1) ac,bw 21 m,ug (ao 305) 0 0 (af m) (aB.o o) [(0,W m),(1,W n),(5,.ah [o,0] 1 0 0 false),(6,.int .u64 0),(20,W m),(21,.int .i64 (af m:Int)),(22,.int .i64 0)] [([o,0],⟨[],1,false⟩)] (DL m n) (Av m n) (.exit 0) (λ q=>[(5,.ah q.a 1 0 (af m) false),(6,.int .u64 (cY m n (af m):Int))]) (Av m n (af m)) (by simp only[DL,zn];rfl) rfl (amP G e) (amO G) f]
def WW(h:af n<=af m):((cY m n (af m):Int)>0/\eM (m+n) (af m+1)=digits (m+n))\/(¬(cY m n (af m):Int)>0/\eM (m+n) (af m)=digits (m+n)):=by have e:=Sf (eS m) (gM (eS n) (dR fz h));have b:=(Cl h).1;by_cases g:m+n<ai^af m;rw[h6 g]at e;exact .inr ⟨ac,KN g (by by_cases a:m=0;subst a;exact .inl (gL.2 rfl);exact .inr (bx (CC a) (pH _ _)))⟩;have:=Qi (ku g) (fR (af m));exact .inl ⟨ac,KN b (.inr (ku g))⟩
def amQ(m n:Nat)(e:af m<=4194304000000)(d:af n<=4194304000000):ag ab G 305 [W m,W n] (W (m+n)):=by by_cases c:af m<af n;have c':=h9 c;rw[Nat.add_comm m n];rcases WW (m:=n) (n:=m) c' with⟨b,a⟩|⟨b,a⟩;exact ag.Jp hN (Iy G (n:=m) d m n 13 true (decide_eq_true ac) an++[hb 51 (decide_eq_true b:decide ((cY n m (af n):Int)>0)=true),hw 54 (Cl c').2 .u32,Hb 56 w0 (cx 0+9) (n+m) (af n) ac]) (cx 0+10) (nk _ _) a an;exact ag.Jp hN (Iy G (n:=m) d m n 13 true (decide_eq_true ac) an++[hb 51 (decide_eq_false b:decide ((cY n m (af n):Int)>0)=false)]) (cx 0) (nk _ _) a an;have c':=ku c;rcases WW (m:=m) (n:=n) c' with⟨b,a⟩|⟨b,a⟩;exact ag.Jp hN (Iy G (n:=n) e m n 9 false (decide_eq_false ac) an++[hb 51 (decide_eq_true b:decide ((cY m n (af m):Int)>0)=true),hw 54 (Cl c').2 .u32,Hb 56 w0 (cx 0+9) (m+n) (af m) ac]) (cx 0+10) (nk _ _) a an;exact ag.Jp hN (Iy G (n:=n) e m n 9 false (decide_eq_false ac) an++[hb 51 (decide_eq_false b:decide ((cY m n (af m):Int)>0)=false)]) (cx 0) (nk _ _) a an
noncomputable abbrev JO(m n i c:Nat):aB->List (Nat×aa):=λ q=>[(0,W m),(1,W n),(5,.ah q.a 1 0 (af m) false),(6,.int .u64 (c:Int)),(13,W m),(14,.int .i64 (af m:Int)),(15,.int .i64 (i:Int))]
def arM(h:n<=m)(j:af m<=4194304000000)(i:Nat)(b:i<af m):hM ab G (ao 306) 0 .normal (JO m n i (cY (m-n) n i)) (nS (af m) (m-n) i) (JO m n (i+1) (cY (m-n) n (i+1))) (nS (af m) (m-n) (i+1)):=by
 have⟨f,d⟩:=amB (Lx h i) (cG m i) (cG n i) (cG (m-n) i) (sy (m-n) n i) (sy (m-n) n (i+1));by_cases c:i<af n;exact a9 aO [fY 16 b,dU 18 b,bw 26 n,fY 27 c,dU 31 c,hw 38 f .u32,et 39 [1] _ i b,o9 39 (m-n) b,G9 41 d,hI 42 b];have z:=pV (ku c);have e:∀a:Int,da.wrap (da.wrap a-da.wrap ((0:Nat):Int))=da.wrap a:=λ a=>by simp only[iy];omega
 rw[z,e]at f d;exact a9 aO [fY 16 b,dU 18 b,bw 26 n,ij 27 (ku c),hw 38 f .u32,et 39 [1] _ i b,o9 39 (m-n) b,G9 41 d,hI 42 b]
def akg(c:ig ab G 262)(h:n<=m)(b:af m<=4194304000000):ag ab G 306 [W m,W n] (W (m-n)):=bK [bw 11 m,zH 12 (af m) (m-n),bw 14 m,uf (ao 306) 0 0 (af m) 3 (JO m n 0 0 (aB.o 3)) (λ i=>JO m n i (cY (m-n) n i)) (nS (af m) (m-n)) (.exit 0) (by simp only[zn]) (arM G h b) (a9 aO [ij 16 (a2 (af m))]),Ha (af m) (m-n) c (gN (Nat.sub_le _ _) (eS m))]
noncomputable abbrev IU(m n i c:Nat):aB->List (Nat×aa):=λ q=>[(0,W m),(1,W n),(5,.ah q.a 1 0 (af m) false),(6,.int .u64 (c:Int)),(7,.int .i64 (i:Int))]
def aow(h:n<=m)(g:af m<=4194304000000)(i:Nat)(a:i<af m):hM ab G (ao 222) 0 .normal (IU m n i (cY (m-n) n i)) (nS (af m) (m-n) i) (IU m n (i+1) (cY (m-n) n (i+1))) (nS (af m) (m-n) (i+1)):=by have⟨d,e,c⟩:=Xt (Lx h i) (cG m i) (cG n i) (cG (m-n) i) (sy (m-n) n i) (sy (m-n) n (i+1));by_cases b:i<af n;exact a9 aO [bw 15 m,fY 16 a,bw 21 n,fY 22 b,dU 25 b,dU 30 a,hw 37 d .u64,hw 41 e .u32,et 42 [1] _ i a,o9 42 (m-n) a,ho 44 (nK (au m i+ai-au n i-cY (m-n) n i)),hw 45 c .u64,hI 18 a];have z:=pV (ku b);rw[z]at d e c;exact a9 aO [bw 15 m,fY 16 a,bw 21 n,ij 22 (ku b),dU 30 a,hw 37 d .u64,hw 41 e .u32,et 42 [1] _ i a,o9 42 (m-n) a,ho 44 (nK (au m i+ai-0-cY (m-n) n i)),hw 45 c .u64,hI 18 a]
def XJ(c:ig ab G 223)(h:n<=m)(b:af m<=4194304000000):ag ab G 222 [W m,W n] (W (m-n)):=bK [bw 11 m,zH 12 (af m) (m-n),uf (ao 222) 0 0 (af m) 3 (IU m n 0 0 (aB.o 3)) (λ i=>IU m n i (cY (m-n) n i)) (nS (af m) (m-n)) (.exit 0) (by simp only[zn]) (aow G h b) (a9 aO [bw 15 m,ij 16 (a2 (af m))]),Ha (af m) (m-n) c (gN (Nat.sub_le _ _) (eS m))]
noncomputable abbrev IW(m n i c:Nat):aB->List (Nat×aa):=λ q=>[(0,W m),(1,W n),(5,.ah q.a 1 0 (af m+1) false),(6,.int .u64 (c:Int)),(7,.int .i64 (i:Int))]
def aoI(j:af m<=4194304000000)(i:Nat)(a:i<af m):hM ab G (ao 220) 0 .normal (IW m n i (cY m n i)) (nS (af m+1) (m+n) i) (IW m n (i+1) (cY m n (i+1))) (nS (af m+1) (m+n) (i+1)):=by have⟨h,g,d,f⟩:=amC m n i;have b:i<af m+1:=ac;by_cases c:i<af n;exact a9 aO [bw 21 m,fY 22 a,dU 28 a,bw 34 n,fY 35 c,dU 39 c,hw 42 h .u64,hw 46 d .u32,et 47 [1] _ i b,o9 47 (m+n) b,ho 49 f,hI 24 a];exact a9 aO [bw 21 m,fY 22 a,dU 28 a,hw 31 (g (pV (ku c))) .u64,bw 34 n,ij 35 (ku c),hw 46 d .u32,et 47 [1] _ i b,o9 47 (m+n) b,ho 49 f,hI 24 a]
noncomputable abbrev XL(f:ig ab G 223)(g:af m<=4194304000000)(h:af n<=af m)(a b o:Nat)(x:Bool)(d:decide ((af a:Int)<(af b:Int))=x)(j:kJ (eF 0) (aB.o o)=true):List (aV ab G):=have e:af m<af m+1:=nb _;[bw 9 a,bw 11 b,hb 12 d,bw 16 m,hI 17 e,zH 18 (af m+1) (m+n),uf (ao 220) 0 0 (af m) o (IW m n 0 0 (aB.o o)) (λ i=>IW m n i (cY m n i)) (nS (af m+1) (m+n)) (.exit 0) (by simp only[zn]) (aoI G g) (a9 aO [bw 21 m,ij 22 (a2 (af m))]) j,bw 52 m,hw 54 (Cl h).2 .u32,et 55 w0 _ _ e,o9 55 (m+n) e w0,Ha (af m+1) (m+n) f (Cl h).1]
def aoJ(b:ig ab G 223)(d:af m<=4194304000000)(e:af n<=4194304000000):ag ab G 220 [W m,W n] (W (m+n)):=by by_cases c:af m<af n;rw[Nat.add_comm];exact bK (XL G b e (h9 c) m n 13 true (decide_eq_true ac) an);exact bK (XL G b d (ku c) m n 9 false (decide_eq_false ac) an)
end
end Go.Proofs.YtpcofcmencgkbaaGreat
namespace Go.aA
def KL(m w i:Nat):au (m/w) i=m/ai^i/w%ai:=by unfold au;rw[ll,ll,dm]
def QM{s:Nat}(m i:Nat)(a:s<=32):au (m/2^s) i=au m i/2^s+2^(32-s)*(au m (i+1)%2^s):=by have h:=Rr (x:=au m i) (y:=m/ai^i/ai) a (cG m i);rw[show ai*(m/ai^i/ai)+au m i=m/ai^i from h8 _ _]at h;rw[KL,h];congr 2;unfold au;rw[eo,<-ll,Nat.mod_mod_of_dvd];exact⟨2^(32-s),by rw[<-Jn a,dm]⟩
def Sr{w:Nat}(m i:Nat)(a:0<w)(hw:w<ai):au (m/w) i=(ai*(m/ai^(i+1)%w)+au m i)/w/\m/ai^i%w=(ai*(m/ai^(i+1)%w)+au m i)%w:=by
 have e:m/ai^i=ai*(m/ai^(i+1))+au m i:=by rw[eo,<-ll];exact(h8 _ _).symm
 have d:=cG m i;generalize m/ai^(i+1)=A at*;have c:=h8 A w;have f:=bG A a;have b:m/ai^i=(ai*(A%w)+au m i)+w*(ai*(A/w)):=by
   rw[e];conv=>lhs;rw[<-c]
   rw[ej,pK];omega
 refine⟨?_,by rw[b,wz]⟩;rw[KL,b,oV _ _ a,wz,dL];rw[mm a];have:=fS ai (Nat.succ_le_of_lt f);rw[Nat.mul_succ]at this;omega
def aeU{w:Nat}(m i:Nat)(a:0<w)(hw:w<ai):jH.wrap (((ai*(m/ai^(i+1)%w)+au m i)/w:Nat):Int)=(au (m/w) i:Int):=by rw[kN,<-(Sr m i a hw).1,dL (cG _ _)]
def aeT{w:Nat}(m i:Nat)(a:0<w)(hw:w<ai):eY .rem .int (.int .u64 ((ai*(m/ai^(i+1)%w)+au m i:Nat):Int)) (.int .u64 (w:Int))=some (.int .u64 ((m/ai^i%w:Nat):Int)):=by rw[D3 _ w (E6 a),(Sr m i a hw).2]
def pC{x:Nat}(h:x<ai):jH.wrap (x:Int)=(x:Int):=by rw[kN,dL h]
def ZZ{x w:Nat}(h:w=x%ai):jH.wrap (x:Int)=(w:Int):=by rw[kN,h]
def W9{f:Nat->Nat}{i a b:Nat}(j:Nat):(if j=i then b else f j)=if j=i then b else if j=i then a else f j:=by split<;>simp[*]
def pW(m i:Nat):m/ai^i=ai*(m/ai^(i+1))+au m i:=by rw[eo,<-ll];exact(h8 _ _).symm
def Jl{m n:Nat}(a:m≠n):∀k,m/ai^k=n/ai^k->∃i,i<k/\au m i≠au n i/\∀j,i<j->m/ai^j=n/ai^j|0,h=>(a (by simpa using h)).elim|k+1,h=>by by_cases e:au m k=au n k;have⟨i,h1,b,h3⟩:=Jl a k (by rw[pW m k,pW n k,h,e]);exact⟨i,ac,b,h3⟩;refine⟨k,ac,e,λ j c=>?_⟩;rw[show j=k+1+(j-(k+1))from ac,iI,<-ll,<-ll,h]
def KM{m n j:Nat}(h:m/ai^j=n/ai^j):au m j=au n j:=by unfold au;rw[h]
def Y9{m n i:Nat}(h:m/ai^(i+1)=n/ai^(i+1))(a:au m i<au n i):m<n:=by refine Nat.lt_of_not_le λ g=>?_;have:=Nat.div_le_div_right (c:=ai^i) g;rw[pW m,pW n,h]at this;omega
def Y8{m n i:Nat}(h:m/ai^(i+1)=n/ai^(i+1))(a:au m i≠au n i):fi (au m i:Int) (au n i:Int)=eg m n:=by unfold eg;rcases Kg a with h1|h1;have:=Y9 h h1;rw[vi ac,vi ac];have:=Y9 h.symm h1;rw[zl ac,zl ac]
def R9{m n:Nat}(h:af m≠af n):fi (af m:Int) (af n:Int)=eg m n:=by unfold eg;rcases Kg h with h1|h1;have a:=Vj h1;rw[vi ac,vi ac];have a:=Vj h1;rw[zl ac,zl ac]
def jw(s i j:Nat):Nat:=if i<=j then au s j else 0
def GQ{s i:Nat}(L:Nat):∀j,j<L->jw s i j=if j=i then au s i else jw s (i+1) j:=λ j _=>by unfold jw;split<;>split<;>first|(subst_vars;rfl)|rw[if_pos ac]|rw[if_neg ac]|omega
section
variable{P:Program}{G:Nat->Option (List aa)}
def ag.Pg{f:FuncId}{aG:ee}(h:lp P f aG)(a:List (aV P G))(i:Nat){n:Nat}{args:List aa}{ws:List Nat}[bn args](b:ws.length=n)(d:nI aG.results ([([i,0],⟨us ws,1,false⟩)]++rest [([i,0],⟨us ws,1,false⟩)] []) (qu aG args a)=nH (.ah [i,0] 1 0 n false) ([([i,0],⟨us ws,1,false⟩)]++rest [([i,0],⟨us ws,1,false⟩)] []) (qu aG args a):=by kernel_rfl):ag P G f args (.sl 1 (us ws)):=by refine ag.oN h a [([i,0],⟨us ws,1,false⟩)] (.ah [i,0] 1 0 n false) d ?_ ?_ am λ σ c=>gK (c _ cg) (by rw[j2];exact b);show [(bT 0 [0] _ ([]++[i,0]),aJ.aY _ _)]=_;rw[jb,cI];show [([]++[i,0],aJ.mk (bD _ (us ws)) 1 false)]=_;rw[bn.fix];rfl;show aa.ah (bT 0 [0] _ ([]++[i,0])) _ _ _ _=_;rw[jb,cI];rfl
def ra:Nat->Int|0=>-1|i+1=>(i:Int)
def Su(i:Nat):ra i=(i:Int)-1:=by cases i<;>simp[ra]
def k5(k i:Nat)(a:i<=8388608000000:=by omega):aV P G:=hw k (x:=cV.wrap ((i:Int)-1)) (y:=ra i) (by rw[c0,Su];omega)
def rf(k i:Nat):aV P G:=hb k (decide_eq_true ac:decide ((0:Int)<=(i:Int))=true)
abbrev Bn(L s i:Nat):aB->List (Id×aJ):=λ q=>[(q.a,⟨us (cj L (jw s i)),1,false⟩)]
def Mc(k L s:Nat)(h:L<=8388608000000:=by omega):aV P G:=sF k L (jw s L) (λ _ h=>if_neg (Nat.not_le_of_lt h)) h
def TT{oo:FuncId}(L s:Nat)(a:ig P G oo)(b:s<ai^L)(bw:L<=8388608000000:=by omega):aV P G:=rh L s (jw s 0) (λ _ _=>if_pos (dF _)) a b bw
noncomputable def M4(aG:ee)(k s N o:Nat)(b:List (Nat×aa))(T:Nat->aB->List (Nat×aa))(K:Nat->aB->List (Id×aJ))(e:cn)[h1:gq (T 0)][n:dI (K 0)](f:T N (aB.o o)=b)(g:∀i,i<N->hM P G aG k .normal (T (i+1)) (K (i+1)) (T i) (K i))(l:hM P G aG k e (T 0) (K 0) (T 0) (K 0))(d:kJ (eF s) (aB.o o)=true:=by kernel_rfl)(c:N<=10000000000000000000:=by omega)(a:e≠.normal:=by simp):aV P G:=ug aG k s N (aB.o o) b (K N (aB.o o)) (λ j=>T (N-j)) (λ j=>K (N-j)) e (T 0) (K 0) f rfl (λ j m=>by have h:=g (N-(j+1)) ac;rwa[show N-(j+1)+1=N-j from ac]at h) (by simp only[Nat.sub_self];exact l) d c a
def Mf(k x j:Nat):aV P G:=ho k (o:=m2 false (.sl 1 (us (digits x++zs j)))) (v:=.int .i64 ((af x+j:Nat):Int)) (by simp[m2,j2,af,EN])
def TY(k x j i w:Nat)(h:(digits x++zs j)[i]?=some w):aV P G:=ho k (Hr (es:=us (digits x++zs j)) (Ht:=.i64) (k:=1) (kk:=1) rfl (A4 h))
def agK(k x j:Nat):aV P G:=ho k (o:=gi 1 (.sl 1 (us (digits x++zs (j+1)))) none (some (.int .i64 ((af x+j:Nat):Int))) none) (v:=.sl 1 (us (digits x++zs j))) (by rw[apF rfl (by rw[j2,cy,EN];show af x+j<=af x+(j+1);omega),Zz];congr 3;rw[show zs (j+1)=zs j++[0]from List.replicate_succ',<-List.append_assoc];exact List.take_left' (by rw[cy,EN];rfl))
def zI(k i:Nat)(a:i<=9223372036854775806:=by omega):aV P G:=hw k (x:=cV.wrap (((i+1:Nat):Int)-1)) (y:=(i:Int)) (by rw[c0];omega)
def se{x p:Nat}(h:af x=p+1):au x p≠0:=by
 have b:x≠0:=λ e=>by rw[gL.2 e]at h;omega
 have h1:=CC b;have a:=eS x;rw[h]at h1 a;rw[BW a];exact E6 (Qi h1 (fR _))
noncomputable def xE(aG:ee)(k s N b o:Nat)(c:List (Nat×aa))(T:Nat->List (Nat×aa))(e:cn)(dx:List (Nat×aa))[h1:gq λ _=>dx](d:T N=c)(hb:b<=N)(f:∀i,b<=i->i<N->hM P G aG k .normal (λ _=>T (i+1)) (λ _=>[]) (λ _=>T i) (λ _=>[]))(l:hM P G aG k e (λ _=>T b) (λ _=>[]) (λ _=>dx) (λ _=>[]))(g:kJ (eF s) (aB.o o)=true:=by kernel_rfl)(n:N<=10000000000000000000:=by omega)(a:e≠.normal:=by simp):aV P G:=ug aG k s (N-b) (aB.o o) c [] (λ j _=>T (N-j)) (λ _ _=>[]) e (λ _=>dx) (λ _=>[]) d rfl (λ j m=>by have h:=f (N-(j+1)) ac ac;rwa[show N-(j+1)+1=N-j from ac]at h) (by show hM P G aG k e (λ _=>T (N-(N-b))) _ _ _;rw[show N-(N-b)=b from ac];exact l) g ac a
end
end Go.aA
namespace Go.Proofs.YtpcofcmencgkbaaGreat
section
variable(G:Nat->Option (List aa)){m w:Nat}
noncomputable abbrev sz(m w i r:Nat):aB->List (Nat×aa):=λ q=>[(0,W m),(1,.int .u32 (w:Int)),(6,.ah q.a 1 0 (af m) false),(7,.int .u64 (r:Int)),(8,.int .i64 (ra i))]
noncomputable abbrev ae6(b:0<w)(a:w<ai)(g:af m<=4194304000000)(i:Nat)(c:i<af m):List (aV ab G):=have e:m/ai^(i+1)%w<ai:=Nat.lt_trans (bG _ b) a;have f:ai*(m/ai^(i+1)%w)+au m i<18446744073709551616:=by have:=cG m i;unfold ai at*;omega
 [rf 16 i,ho 20 (AY _ e),dU 23 c,hw 25 (fC _ (cG m i)) .u64,ho 26 (DD _ _ e (cG m i)),hw 31 (fC _ a) .u64,ho 32 (DX _ w f (E6 b)),hw 33 (aeU m i b a) .u32,et 34 [1] _ i c,g6 34 [1] (jw (m/w) i) c (GQ _),hw 37 (fC _ a) .u64,ho 38 (aeT m i b a),k5 18 i]
def SE(a:0<w)(b:w<ai)(d:af m<=4194304000000)(i:Nat)(e:i<af m):hM ab G (ao 312) 0 .normal (sz m w (i+1) (m/ai^(i+1)%w)) (Bn (af m) (m/w) (i+1)) (sz m w i (m/ai^i%w)) (Bn (af m) (m/w) i):=a9 aO (ae6 G a b d i e)
def SD(b:af m<=4194304000000):hM ab G (ao 312) 0 (.exit 0) (sz m w 0 (m/ai^0%w)) (Bn (af m) (m/w) 0) (sz m w 0 (m/ai^0%w)) (Bn (af m) (m/w) 0):=a9 aO []
def Rz:aT (ao 254) 0=aT (ao 312) 0/\(ao 254).aH=(ao 312).aH:=⟨an,an⟩
def Ry{e:cn}{A B:aB->List (Nat×aa)}{bC bO:aB->List (bz×aJ)}(h:hM ab G (ao 312) 0 e A bC B bO):hM ab G (ao 254) 0 e A bC B bO:=by unfold hM;rw[Rz.1,Rz.2];exact h
def SF(a:m<ai^af m):sz m w (af m) (m/ai^af m%w)=sz m w (af m) 0:=by rw[h6 a,Nat.zero_mod]
def ae7(e:ig ab G 262)(hu:∀n,n<18446744073709551616->ag ab G 230 [.int .u64 ((n:Nat):Int)] (W n))(b:0<w)(c:w<ai)(d:af m<=4194304000000):ag ab G 312 [W m,.int .u32 (w:Int)] (.aM [W (m/w),W (m%w)]):=by have h:ag ab G 312 [W m,.int .u32 (w:Int)] (.aM [W (m/w),W (m/ai^0%w)]):=bK [bw 10 m,Mc 11 (af m) (m/w),bw 13 m,k5 14 (af m),M4 (ao 312) 0 0 (af m) 4 (sz m w (af m) 0 (aB.o 4)) (λ i=>sz m w i (m/ai^i%w)) (Bn (af m) (m/w)) (.exit 0) (congrFun (SF (eS m)) _) (SE G b c d) (SD G d),TT (af m) (m/w) e (gN (h7 _ _) (eS m)),hc (hu (m/ai^0%w) (by have:=bG (m/ai^0) b;unfold ai at*;omega))];rwa[kR,pL]at h
def adA(f:ig ab G 223)(b:0<w)(c:w<ai)(d:af m<=4194304000000):ag ab G 254 [W m,.int .u32 (w:Int)] (.aM [W (m/w),.int .u32 ((m%w:Nat):Int)]):=by have h:ag ab G 254 [W m,.int .u32 (w:Int)] (.aM [W (m/w),.int .u32 ((m/ai^0%w:Nat):Int)]):=bK [bw 10 m,Mc 11 (af m) (m/w),bw 13 m,k5 14 (af m),M4 (ao 254) 0 0 (af m) 4 (sz m w (af m) 0 (aB.o 4)) (λ i=>sz m w i (m/ai^i%w)) (Bn (af m) (m/w)) (.exit 0) (congrFun (SF (eS m)) _) (λ i e=>Ry G (SE G b c d i e)) (Ry G (SD G d)),TT (af m) (m/w) f (gN (h7 _ _) (eS m)),hw 42 (pC (Nat.lt_trans (bG (m/ai^0) b) c)) .u32];rwa[kR,pL]at h
end
section
variable(G:Nat->Option (List aa)){m s:Nat}
noncomputable abbrev Je(m s i:Nat):aB->List (Nat×aa):=λ q=>[(0,W m),(1,.int .i64 (s:Int)),(5,.ah q.a 1 0 (af m) false),(11,W m),(12,.int .i64 (af m:Int)),(13,.int .i64 (i:Int))]
abbrev OK(m s i j:Nat):Nat:=if j=i then au m i/2^s else jx (m/2^s) i j
def apW(n:s<=31)(o:af m<=4194304000000)(i:Nat)(a:i<af m):hM ab G (ao 317) 0 .normal (Je m s i) (nS (af m) (m/2^s) i) (Je m s (i+1)) (nS (af m) (m/2^s) (i+1)):=by have d:=QM m i (ac:s<=32);have l:=cG m i;by_cases c:i+1<af m;have g:=cG m (i+1);have k:=apq (s:=s) (y:=au m (i+1)) (ac:s<=32) l;have b:au m i/2^s<ai:=gN (h7 _ _) l;exact a9 aO [fY 14 a,dU 16 a,ho 22 (OB (au m i) s ac),et 23 [1] _ i a,g6 23 [1] (OK m s i) a (λ j _=>rfl),hI 25 a,bw 27 m,fY 28 c,et 31 [1] _ i a,ik 32 [1] (af m) (OK m s i) a (if_pos rfl),hI 35 a,dU 36 c,hw 38 (fC _ g) .u64,hw 40 (show cV.wrap (32-(s:Int))=((32-s:Nat):Int)by rw[c0];omega),ho 41 (OA (au m (i+1)) (32-s) ac g),hw 42 (kN (au m (i+1)*2^(32-s))) .u32,ho 43 (Ig (au m i/2^s) (au m (i+1)*2^(32-s)%ai) b (bG _ fz)),et 44 [1] _ i a,g6 44 [1] (f:=OK m s i) (jx (m/2^s) (i+1)) a (λ j e=>by rw[L9 _ j e,d,<-k.1];exact W9 j),hI 45 a];have z:=pV (x:=m) (ac:af m<=i+1);rw[z,Nat.zero_mod,j5,j7]at d;exact a9 aO [fY 14 a,dU 16 a,ho 22 (OB (au m i) s ac),et 23 [1] _ i a,g6 23 [1] (jx (m/2^s) (i+1)) a (λ j e=>by rw[L9 _ j e,d]),hI 25 a,bw 27 m,ij 28 (ku c),hI 45 a]
def YF(c:s<=31)(b:af m<=4194304000000):ag ab G 317 [W m,.int .i64 (s:Int)] (.sl 1 (us (cj (af m) (jx (m/2^s) (af m))))):=ag.Pg hN [bw 9 m,zH 10 (af m) (m/2^s),bw 12 m,uf (ao 317) 0 0 (af m) 3 (Je m s 0 (aB.o 3)) (Je m s) (nS (af m) (m/2^s)) (.exit 0) rfl (apW G c b) (a9 aO [ij 14 (a2 (af m))])] (cx 0) (u3 _ _)
noncomputable abbrev Ga(m s i:Nat):aB->List (Nat×aa):=λ q=>[(0,W m),(1,.int .i64 (s:Int)),(5,.ah q.a 1 0 (af m) false),(6,.int .i64 (i:Int))]
def adr(h:s<=31)(g:af m<=4194304000000)(i:Nat)(a:i<af m):hM ab G (ao 258) 0 .normal (Ga m s i) (nS (af m) (m/2^s) i) (Ga m s (i+1)) (nS (af m) (m/2^s) (i+1)):=by have d:=QM m i (ac:s<=32);have b:=cG m i;have c:=cG m (i+1);rw[<-Rr (ac:s<=32) b]at d;by_cases e:i+1<af m;exact a9 aO [bw 13 m,fY 14 a,dU 19 a,hw 21 (fC _ b) .u64,hI 23 a,bw 25 m,fY 26 e,hI 30 a,dU 31 e,hw 33 (fC _ c) .u64,ho 34 (AY _ c),ho 35 (al0 _ _ b c),ho 40 (Yf (ai*au m (i+1)+au m i) s ac),hw 41 (ZZ d) .u32,et 42 [1] _ i a,o9 42 (m/2^s) a,hI 16 a];have z:=pV (x:=m) (ac:af m<=i+1);rw[z,j5,cI]at d;exact a9 aO [bw 13 m,fY 14 a,dU 19 a,hw 21 (fC _ b) .u64,hI 23 a,bw 25 m,ij 26 (ku e),ho 40 (Yf (au m i) s ac),hw 41 (ZZ d) .u32,et 42 [1] _ i a,o9 42 (m/2^s) a,hI 16 a]
def ads(c:ig ab G 223)(d:s<=31)(b:af m<=4194304000000):ag ab G 258 [W m,.int .i64 (s:Int)] (W (m/2^s)):=bK [bw 9 m,zH 10 (af m) (m/2^s),uf (ao 258) 0 0 (af m) 3 (Ga m s 0 (aB.o 3)) (Ga m s) (nS (af m) (m/2^s)) (.exit 0) rfl (adr G d b) (a9 aO [bw 13 m,ij 14 (a2 (af m))]),Ha (af m) (m/2^s) c (gN (h7 _ _) (eS m))]
noncomputable abbrev Yk(m i:Nat):aB->List (Nat×aa):=λ _=>[(0,W m),(3,.int .u64 ((m/ai^i:Nat):Int)),(4,.int .i64 (ra i))]
def Yl(f:m<18446744073709551616):ag ab G 253 [W m] (.int .u64 (m:Int)):=by have d:af m<=2:=jF (by unfold ai;omega);have h:ag ab G 253 [W m] (.int .u64 ((m/ai^0:Nat):Int)):=bK [bw 6 m,k5 7 (af m),M4 (ao 253) 0 0 (af m) 3 [(0,W m),(3,.int .u64 0),(4,.int .i64 (ra (af m)))] (Yk m) (λ _ _=>[]) (.exit 0) (by unfold Yk;rw[h6 (eS m)];rfl) (λ i c=>by
   have e:m/ai^i=ai*(m/ai^(i+1))+au m i:=by rw[eo,<-ll];exact(h8 _ _).symm
   have b:m/ai^(i+1)<ai:=by have:=h7 m (ai^i);rw[eo,<-ll,mm fz];unfold ai at*;omega
   exact a9 aO [rf 9 i,ho 13 (AY _ b),dU 16 c,hw 18 (fC _ (cG m i)) .u64,ho 19 (e▸DD _ _ b (cG m i)),k5 11 i]) (a9 aO [])];rwa[kR,pL]at h
end
section
variable(G:Nat->Option (List aa)){m n:Nat}
noncomputable abbrev oc(m n i:Nat):List (Nat×aa):=[(0,W m),(1,W n),(5,.int .i64 (ra i))]
def Lp(p:∀a b:Int,ag ab G 265 [.int .i64 a,.int .i64 b] (.int .i64 (fi a b)))(hu:∀a b:Int,ag ab G 288 [.int .u32 a,.int .u32 b] (.int .i64 (fi a b)))(q:af m<=4194304000000):ag ab G 266 [W m,W n] (.int .i64 (eg m n)):=by
 by_cases f:af m=af n;have o:((af m:Int)!=(af n:Int))=false:=by rw[f];exact bne_self_eq_false _
 have rd:∀i,i<af m->au m i=au n i->hM ab G (ao 266) 0 .normal (λ _=>oc m n (i+1)) (λ _=>[]) (λ _=>oc m n i) (λ _=>[]):=λ i e h=>a9 aO [rf 20 i,dU 25 e,dU 29 (f▸e),hb 31 (show((au m i:Int)!=(au n i:Int))=false by rw[h];exact bne_self_eq_false _),k5 22 i];by_cases k:m=n;subst k;rw[show eg m m=0 from R7 rfl];exact bK [bw 7 m,bw 9 m,hb 10 o,bw 17 m,k5 18 (af m),xE (ao 266) 0 0 (af m) 0 0 (oc m m (af m)) (oc m m) (.exit 0) [] rfl (dF _) (λ i _ e=>rd i e rfl) (a9 aO [])];have⟨i,e,h1,l⟩:=Jl k (af m) (by rw[h6 (eS m),f,h6 (eS n)]);have d:=hu (au m i) (au n i);rw[Y8 (l _ (nb i)) h1]at d;exact bK [bw 7 m,bw 9 n,hb 10 o,bw 17 m,k5 18 (af m),xE (ao 266) 0 0 (af m) (i+1) 0 (oc m n (af m)) (oc m n) .ret [(4,.int .i64 (eg m n))] rfl e (λ j g h=>rd j h (KM (l j g))) (a9 aO [rf 20 i,dU 25 e,dU 29 (f▸e),hb 31 (show((au m i:Int)!=(au n i:Int))=true from bne_iff_ne.2 ac),dU 34 e,dU 38 (f▸e),hc d])];have d:=p (af m:Int) (af n:Int);rw[R9 f]at d;exact bK [bw 7 m,bw 9 n,hb 10 (show((af m:Int)!=(af n:Int))=true from bne_iff_ne.2 ac),bw 12 m,bw 14 n,hc d]
def DY(o:af m<=4194304000000):ag ab G 221 [W m,W n] (.int .i64 (eg m n)):=by
 by_cases b:af m=af n;have c:((af m:Int)!=(af n:Int))=false:=by rw[b];exact bne_self_eq_false _
 have rd:∀i,i<af m->au m i=au n i->hM ab G (ao 221) 0 .normal (λ _=>oc m n (i+1)) (λ _=>[]) (λ _=>oc m n i) (λ _=>[]):=λ i a h=>by have f:decide ((au m i:Int)<(au n i:Int))=false:=decide_eq_false ac;have g:decide ((au m i:Int)>(au n i:Int))=false:=decide_eq_false ac;exact a9 aO [rf 20 i,dU 25 a,dU 29 (b▸a),hb 31 f,dU 34 a,dU 38 (b▸a),hb 40 g,k5 22 i]
 by_cases d:m=n;subst d;rw[show eg m m=0 from R7 rfl];exact bK [bw 7 m,bw 9 m,hb 10 c,bw 17 m,k5 18 (af m),xE (ao 221) 0 0 (af m) 0 0 (oc m m (af m)) (oc m m) (.exit 0) [] rfl (dF _) (λ i _ a=>rd i a rfl) (a9 aO [])];have⟨i,a,h1,l⟩:=Jl d (af m) (by rw[h6 (eS m),b,h6 (eS n)]);have e:=Y8 (l _ (nb i)) h1;rcases Kg h1 with h3|h3;have f:decide ((au m i:Int)<(au n i:Int))=true:=decide_eq_true ac;rw[<-e,vi ac];exact bK [bw 7 m,bw 9 n,hb 10 c,bw 17 m,k5 18 (af m),xE (ao 221) 0 0 (af m) (i+1) 0 (oc m n (af m)) (oc m n) .ret [(4,.int .i64 (-1))] rfl a (λ j g h=>rd j h (KM (l j g))) (a9 aO [rf 20 i,dU 25 a,dU 29 (b▸a),hb 31 f])];have f:decide ((au m i:Int)<(au n i:Int))=false:=decide_eq_false ac;have g:decide ((au m i:Int)>(au n i:Int))=true:=decide_eq_true ac;rw[<-e,zl ac];exact bK [bw 7 m,bw 9 n,hb 10 c,bw 17 m,k5 18 (af m),xE (ao 221) 0 0 (af m) (i+1) 0 (oc m n (af m)) (oc m n) .ret [(4,.int .i64 1)] rfl a (λ j g h=>rd j h (KM (l j g))) (a9 aO [rf 20 i,dU 25 a,dU 29 (b▸a),hb 31 f,dU 34 a,dU 38 (b▸a),hb 40 g])];have c:((af m:Int)!=(af n:Int))=true:=bne_iff_ne.2 ac;rw[<-R9 b];rcases Kg b with h3|h3;rw[vi ac];exact bK [bw 7 m,bw 9 n,hb 10 c,bw 12 m,bw 14 n,hb 15 (decide_eq_true ac:decide ((af m:Int)<(af n:Int))=true)];rw[zl ac];exact bK [bw 7 m,bw 9 n,hb 10 c,bw 12 m,bw 14 n,hb 15 (decide_eq_false ac:decide ((af m:Int)<(af n:Int))=false)]
def aqm{f:Nat}(e:lp ab f (ao 262))(x k:Nat)(i:af x+k<=9223372036854775807):ag ab G f [.sl 1 (us (digits x++zs k))] (.sl 1 (us (digits x++zs 0))):=by
 have rd:∀j,0<=j->j<k->hM ab G (ao 262) 0 .normal (λ _=>[(0,.sl 1 (us (digits x++zs (j+1))))]) (λ _=>[]) (λ _=>[(0,.sl 1 (us (digits x++zs j)))]) (λ _=>[]):=λ j _ h=>a9 aO [Mf 4 x (j+1),hb 5 (decide_eq_true ac:decide (((af x+(j+1):Nat):Int)>0)=true),Mf 9 x (j+1),zI 10 (af x+j),TY 11 x (j+1) (af x+j) 0 (by rw[List.getElem?_append_right (show(digits x).length<=af x+j from pH _ _),show af x+j-(digits x).length=j from tt _ _];exact List.getElem?_replicate_of_lt (nb j)),Mf 17 x (j+1),zI 18 (af x+j),agK 19 x j];rcases c:af x with _|p;rw[gL.1 c]at rd⊢;have b:m2 false (.sl 1 (us (digits 0++zs 0)))=some (.int .i64 0):=by rw[jt];rfl
 exact ag.Pf e [xE (ao 262) 0 0 k 0 0 [(0,.sl 1 (us (digits 0++zs k)))] (λ j=>[(0,.sl 1 (us (digits 0++zs j)))]) (.exit 0) [(0,.sl 1 (us (digits 0++zs 0)))] rfl (dF _) rd (a9 aO [ho 4 b])] an;have b:m2 false (.sl 1 (us (digits x++zs 0)))=some (.int .i64 ((p+1:Nat):Int)):=by have:(digits x).length=p+1:=c;simp[m2,j2,EN,this]
 have g:(digits x++zs 0)[p]?=some (au x p):=by rw[show zs 0=[]from rfl,mn];exact wR ac
 have d:((au x p:Int)==0)=false:=by simpa using se c
 exact ag.Pf e [xE (ao 262) 0 0 k 0 0 [(0,.sl 1 (us (digits x++zs k)))] (λ j=>[(0,.sl 1 (us (digits x++zs j)))]) (.exit 0) [(0,.sl 1 (us (digits x++zs 0)))] rfl (dF _) rd (a9 aO [ho 4 b,hb 5 (decide_eq_true ac:decide (((p+1:Nat):Int)>0)=true),ho 9 b,zI 10 p,TY 11 x 0 p _ g,hb 13 d])] an
def Zb{f:Nat}(c:lp ab f (ao 262)):ig ab G f:=λ ws hw e=>by have⟨k,b⟩:=aA.trimmed ws hw;have h:=aqm G c (val ws) k (by have:=congrArg List.length b;rw[cy,EN]at this;show(digits (val ws)).length+k<=_;omega);rw[<-b,show zs 0=[]from rfl,mn]at h;exact h
def oK:ig ab G 262:=Zb G hN
def mQ:ig ab G 223:=Zb G ((an:ao 223=ao 262)▸hN)
end
end Go.Proofs.YtpcofcmencgkbaaGreat
namespace Go.aA
def b7(x y:Nat):Nat->Nat×Nat|0=>(x,y)|i+1=>((b7 x y i).2,(b7 x y i).1%(b7 x y i).2)
def Gy(x y:Nat):∀i,cJ (b7 x y i).1 (b7 x y i).2=cJ x y|0=>rfl|i+1=>by rw[<-Gy x y i];show cJ (b7 x y i).2 ((b7 x y i).1%(b7 x y i).2)=_;rw[Nat.gcd_comm,<-Nat.gcd_rec,Nat.gcd_comm]
def Gz{x y b:Nat}(a:x<=b)(c:y<=b):∀i,(b7 x y i).1<=b/\(b7 x y i).2<=b|0=>⟨a,c⟩|i+1=>⟨(Gz a c i).2,bx (Nat.mod_le _ _) (Gz a c i).1⟩
def ud(n:Nat):Nat:=if n=0 then 0 else n.log2+1
def ajo{r x:Nat}(h:2*r<=x)(a:0<x):ud r<ud x:=by unfold ud;rw[if_neg (by omega:¬x=0)];split;omega;have:r.log2+1<=x.log2:=(Nat.le_log2 ac).2 (by have:=Nat.log2_self_le (n:=r);rw[eo];omega);omega
def l2(p:Nat×Nat):Nat:=2*(ud p.1+ud p.2)+if p.1<p.2 then 1 else 0
def afj{x y:Nat}(h:0<y):l2 (y,x%y)<l2 (x,y):=by have a:=bG x h;unfold l2;simp only[];rw[if_neg ac];by_cases c:x<y;rw[if_pos c,dL c];omega;rw[if_neg c];have:ud (x%y)<ud x:=ajo (by have h1:=h8 x y;have b:y*1<=y*(x/y):=fS _ (Qi ac h);omega) ac;omega
def U7(n:Nat):ud n<=32*af n:=by unfold ud;split;omega;have h:=eS n;rw[show ai=2^32 from rfl,<-Nat.pow_mul]at h;exact(Nat.log2_lt ac).2 h
def LO(x y:Nat)(C:Nat×Nat->Bool)(f:∀p,C p=true->0<p.2):∃N,N<=l2 (x,y)/\(∀i,i<N->C (b7 x y i)=true)/\C (b7 x y N)=false:=by
 have key:∀k,(∀i,i<k->C (b7 x y i)=true)->l2 (b7 x y k)+k<=l2 (x,y):=λ k=>by induction k with|zero=>exact λ _=>a2 _|succ k c=>intro h;have h1:=c λ i b=>h i ac;have a:_<l2 (b7 x y k):=afj (x:=(b7 x y k).1) (f _ (h k ac));show l2 ((b7 x y k).2,_)+_<=_;omega
 have d:∀k,(∀i,i<k->C (b7 x y i)=true)\/∃N,N<k/\(∀i,i<N->C (b7 x y i)=true)/\C (b7 x y N)=false:=λ k=>by induction k with|zero=>exact .inl λ i b=>absurd b (ew _)|succ k c=>
     rcases c with h|⟨N,h1,a⟩;cases e:C (b7 x y k)with|true=>exact .inl λ i b=>(Bx.1 b).elim (h i) λ g=>g▸e|false=>exact .inr ⟨k,ac,h,e⟩
     exact .inr ⟨N,ac,a⟩
 rcases d (l2 (x,y)+1)with h|⟨N,h1,a⟩;have:=key _ h;omega;exact⟨N,ac,a⟩
section
variable{P:Program}{G:Nat->Option (List aa)}
def vt(k y:Nat)(h:y<256):aV P G:=.st k [] (.zV (.str lens) (.int .u8 (y:Int))) (λ _=>{val:=.int .u8 (len8 y:Int)}) (λ σ p _=>by show(if 0<=(y:Int)then dN ((lens[(y:Int).toNat]?).map λ b=>aa.int .u8 b.toNat)else none)=_;rw[if_pos ac,nU,ajn h];rfl)
def G8(k x j d:Nat)(e:d=2^j:=by rfl)(a:j<=32:=by decide):aV P G:=ho k (o:=eY .shr .int (.int .u32 (x:Int)) (.int .u64 (j:Int))) (v:=.int .u32 ((x/d:Nat):Int)) (by subst e;have:=OB x j a;rw[B9 ac]at this⊢;exact this)
def HJ(y:Nat)(c:Nat)(a:y<256)(hc:c<=24):List (aV P G):=[hw 15 (show IntKind.u8.wrap (y:Int)=(y:Int)by rw[IntKind.wrap_u8'];omega) .u8,vt 16 y a,hw 17 (show cV.wrap (len8 y:Int)=(len8 y:Int)by have:=U5 y;rw[c0];omega),hw 18 (show cV.wrap ((c:Int)+(len8 y:Int))=((c+len8 y:Nat):Int)by have:=U5 y;rw[c0];omega)]
def Gx{x y N:Nat}(a:af x<=4194304000000)(b:af y<=4194304000000)(h:N<=l2 (x,y)):N<=10000000000000000000:=by have:=U7 x;have:=U7 y;unfold l2 at h;simp only[]at h;split at h<;>omega
def SW{x y b:Nat}(c:af x<=b)(d:af y<=b)(i:Nat):af (b7 x y i).1<=b/\af (b7 x y i).2<=b:=by have h:=Gz (Nat.le_max_left x y) (Nat.le_max_right x y) i;have a:∀n,n<=max x y->af n<=b:=λ n h=>bx (fv h) (by simp only[Nat.max_def];split<;>assumption);exact⟨a _ h.1,a _ h.2⟩
end
end Go.aA
namespace Go.Proofs.YtpcofcmencgkbaaGreat
section
variable(G:Nat->Option (List aa))
abbrev vq:aB->List (bz×aJ):=λ q=>[(q.a,⟨[.agg [.bool false,.ar]],2,false⟩)]
abbrev sC(p:Nat×Nat):aB->List (Nat×aa):=λ q=>[(4,.ref q.a 0 0),(5,W p.1),(6,W p.2)]
abbrev FD(f:Nat):Prop:=∀m n,n≠0->af m<=3774873600000->af n<=3774873600000->ag ab G f [W m,W n] (.aM [W (m/n),W (m%n)])
abbrev TA(p:Nat×Nat):aB->List (Nat×aa):=λ q=>[(4,.ref q.a 0 0),(9,.int .u64 (p.1:Int)),(10,.int .u64 (p.2:Int))]
def aor(hd:FD G 224)(j:lX ab G 179)(s t:Bool)(x y:Nat)(l:af x<=3774873600000)(b:af y<=3774873600000):ag ab G 176 [.agg [.bool s,W x],.agg [.bool t,W y]] (aS (cJ x y:Nat)):=by
 have⟨N,h1,m,h3⟩:=LO x y (λ p=>decide (0<p.2)) λ p h=>by simpa using h
 have c:=SW l b;have e:(b7 x y N).2=0:=by have:=of_decide_eq_false h3;omega
 have f:=Gy x y N;rw[e,Qj]at f;have d:=j false (b7 x y N).1 (bx (c N).1 ac);rw[show eE false (b7 x y N).1=((cJ x y:Nat):Int)by rw[f];rfl]at d;exact bK [hc (jD (mQ G) x ac),hc (jD (mQ G) y ac),uf (ao 176) 0 0 N 2 (sC (x,y) (aB.o 2)) (λ i=>sC (b7 x y i)) (λ _=>vq) (.exit 0) rfl (λ i k=>by have g:=of_decide_eq_true (m i k);exact a9 aO [bw 16 (b7 x y i).2,hb 17 (decide_eq_true (by have:=@gL (b7 x y i).2;omega):decide ((af (b7 x y i).2:Int)>0)=true),hc (hd _ _ (E6 g) (c i).1 (c i).2)]) (a9 aO [bw 16 (b7 x y N).2,hb 17 (decide_eq_false (by rw[gL.2 e];decide):decide ((af (b7 x y N).2:Int)>0)=false)]) an (Gx ac ac h1),hc d]
def amF(hd:FD G 303)(D:lX ab G 229)(k:∀n,af n<=4194304000000->ag ab G 185 [W n] (W n))(f:∀n,n<18446744073709551616->ag ab G 304 [W n] (.int .u64 ((n:Nat):Int)))(hu:∀n,n<18446744073709551616->ag ab G 230 [.int .u64 ((n:Nat):Int)] (W n))(s t:Bool)(x y:Nat)(v:af x<=3774873600000)(e:af y<=3774873600000):ag ab G 292 [.agg [.bool s,W x],.agg [.bool t,W y]] (aS (cJ x y:Nat)):=by
 have⟨N,h1,I,h3⟩:=LO x y (λ p=>decide (2<af p.2\/2<af p.1/\0<af p.2)) λ p h=>by have:=of_decide_eq_true h;have:=@gL p.2;omega
 have m:=SW v e;have j:=Gy x y N;have F:=of_decide_eq_false h3;have H:∀{n:Nat},0<n->decide ((n:Int)>0)=true:=λ h=>decide_eq_true ac;have oo:∀{n:Nat},2<n->decide ((n:Int)>2)=true:=λ h=>decide_eq_true ac;have cm:∀{n:Nat},¬2<n->decide ((n:Int)>2)=false:=λ h=>decide_eq_false ac;have rd:∀i,i<N->hM ab G (ao 292) 0 .normal (sC (b7 x y i)) vq (sC (b7 x y (i+1))) vq:=λ i q=>by
   have l:=of_decide_eq_true (I i q);have L:(b7 x y i).2≠0:=by have:=@gL (b7 x y i).2;omega
   have d:=hd _ _ L (m i).1 (m i).2;by_cases c:2<af (b7 x y i).2;exact a9 aO [bw 18 (b7 x y i).2,hb 19 (oo c),hc d] an;have z:=l.resolve_left c;exact a9 aO [bw 18 (b7 x y i).2,hb 19 (cm c),bw 22 (b7 x y i).1,hb 23 (oo z.1),bw 26 (b7 x y i).2,hb 27 (H z.2),hc d] an
 have C:hM ab G (ao 292) 0 (.exit 0) (sC (b7 x y N)) vq (sC (b7 x y N)) vq:=by by_cases c:2<af (b7 x y N).1;exact a9 aO [bw 18 (b7 x y N).2,hb 19 (cm (n:=af (b7 x y N).2) ac),bw 22 (b7 x y N).1,hb 23 (oo c),bw 26 (b7 x y N).2,hb 27 (decide_eq_false ac:decide ((af (b7 x y N).2:Int)>0)=false)] an;exact a9 aO [bw 18 (b7 x y N).2,hb 19 (cm (n:=af (b7 x y N).2) ac),bw 22 (b7 x y N).1,hb 23 (cm c)] an
 have R:af (cJ x y)<=3774873600000:=by rcases Nat.eq_zero_or_pos x with h|h;rw[h,Nat.gcd_zero_left];exact e;exact bx (fv (Nat.gcd_le_left _ h)) v
 have g:=D false (cJ x y) ac;by_cases w:(b7 x y N).2=0;rw[w,Qj]at j;rw[<-j]at g⊢;exact bK [hc (jD (oK G) x ac),hc (jD (oK G) y ac),uf (ao 292) 0 0 N 2 (sC (x,y) (aB.o 2)) (λ i=>sC (b7 x y i)) (λ _=>vq) (.exit 0) rfl rd C an (Gx ac ac h1),bw 39 (b7 x y N).2,hb 40 (show((af (b7 x y N).2:Int)==0)=true by rw[gL.2 w];rfl),hc (k (b7 x y N).1 (bx (m N).1 ac)),hc g];have l:0<af (b7 x y N).2:=by have:=@gL (b7 x y N).2;omega
 have rP:=Dc (ac:af (b7 x y N).1<=2);have u2:=Dc (ac:af (b7 x y N).2<=2);have S:af (b7 x y N).1<=2:=ac;have T:af (b7 x y N).2<=2:=ac;generalize P:(b7 x y N).1=A at*;generalize Q:(b7 x y N).2=B at*;have⟨M,K,O,J⟩:=LO A B (λ p=>decide (p.2≠0)) λ p h=>Nat.pos_of_ne_zero (of_decide_eq_true h);have E:=λ i=>(Gz (b:=18446744073709551615) (ac:A<=_) (ac:B<=_) i).1;have u:(b7 A B M).2=0:=by simpa using J
 have r:=Gy A B M;rw[u,Qj,j]at r;rw[<-r]at g⊢;subst P Q;exact bK [hc (jD (oK G) x ac),hc (jD (oK G) y ac),uf (ao 292) 0 0 N 2 (sC (x,y) (aB.o 2)) (λ i=>sC (b7 x y i)) (λ _=>vq) (.exit 0) rfl rd C an (Gx ac ac h1),bw 39 (b7 x y N).2,hb 40 (show((af (b7 x y N).2:Int)==0)=false by simpa using E6 l),hc (f (b7 x y N).1 rP),hc (f (b7 x y N).2 u2),uf (ao 292) 1 1 M (cx 0) (TA ((b7 x y N).1,(b7 x y N).2) (aB.o (cx 0))) (λ i=>TA (b7 (b7 x y N).1 (b7 x y N).2 i)) (λ _=>vq) (.exit 2) rfl (λ i q=>by have h:(b7 (b7 x y N).1 (b7 x y N).2 i).2≠0:=of_decide_eq_true (O i q);exact a9 aO [hb 49 (show(((b7 (b7 x y N).1 (b7 x y N).2 i).2:Int)!=0)=true from bne_iff_ne.2 ac),ho 53 (D3 (b7 (b7 x y N).1 (b7 x y N).2 i).1 _ h)]) (a9 aO [hb 49 (show(((b7 (b7 x y N).1 (b7 x y N).2 M).2:Int)!=0)=false by rw[u];rfl)]) an (Gx ac ac K),hc (hu (b7 (b7 x y N).1 (b7 x y N).2 M).1 (by have:=E M;omega)),hc g]
def Ai(a:Int):ag ab G 287 [.int .i64 a] (.bool false):=bK [hb 5 (bne_self_eq_false a)]
def Aj(a:Int):ag ab G 298 [.int .u32 a] (.bool false):=bK [hb 5 (bne_self_eq_false a)]
def Lk(a b:Int):ag ab G 265 [.int .i64 a,.int .i64 b] (.int .i64 (fi a b)):=by rcases o6 a b with⟨e,h⟩|⟨e,h⟩|⟨e,h⟩<;>rw[e];exact bK [hc (Ai G a),hc (Ai G b),hb 16 (decide_eq_true h)];exact bK [hc (Ai G a),hc (Ai G b),hb 16 (decide_eq_false ac:decide (a<b)=false),hb 19 (decide_eq_false ac:decide (a>b)=false)];exact bK [hc (Ai G a),hc (Ai G b),hb 16 (decide_eq_false ac:decide (a<b)=false),hb 19 (decide_eq_true h:decide (a>b)=true)]
def Lm(a b:Int):ag ab G 288 [.int .u32 a,.int .u32 b] (.int .i64 (fi a b)):=by rcases o6 a b with⟨e,h⟩|⟨e,h⟩|⟨e,h⟩<;>rw[e];exact bK [hc (Aj G a),hc (Aj G b),hb 16 (decide_eq_true h)];exact bK [hc (Aj G a),hc (Aj G b),hb 16 (decide_eq_false ac:decide (a<b)=false),hb 19 (decide_eq_false ac:decide (a>b)=false)];exact bK [hc (Aj G a),hc (Aj G b),hb 16 (decide_eq_false ac:decide (a<b)=false),hb 19 (decide_eq_true h:decide (a>b)=true)]
noncomputable abbrev Tq{f:Nat}(b:ig ab G f)(n:Nat)(c:n<18446744073709551616):List (aV ab G):=[hw 4 (kN n) .u32,ho 6 (nK n),hw 7 (pC (by unfold ai;omega:n/ai<ai)) .u32,ox [6,0] 1 (us [n%ai,n/ai]) 2 rfl (A:=[]) (r:=W n) (by have h:=b [n%ai,n/ai] (by intro w hw;simp at hw;rcases hw with rfl|rfl<;>unfold ai<;>omega) am;rw[show val [n%ai,n/ai]=n by simp[val,uQ]]at h;exact h)]
def GO(n:Nat)(b:n<18446744073709551616):ag ab G 230 [.int .u64 (n:Int)] (W n):=bK (Tq G (oK G) n b)
def JQ(n:Nat)(b:n<18446744073709551616):ag ab G 180 [.int .u64 (n:Int)] (W n):=bK (Tq G (mQ G) n b)
def ael:ag ab G 185 [.sl 1 []] (.sl 1 []):=by refine ag.has (aG:=arD) ⟨_,Tryz.func185,an⟩ ?_;show _/\_;exact⟨⟨.inr rfl,.ar,rfl,e8 1⟩,⟨.inr rfl,_,rfl,View.Jm 1⟩⟩
def R2(n:Nat)(f:af n<=4194304000000):ag ab G 185 [W n] (W n):=by
 by_cases a:n=0;subst a;have h:=ael G;rw[show(aa.sl 1 [])=W 0 by rw[W,jt];rfl]at h;exact h;have e:eY .eql .slice (W n) .ar=some (.bool false):=by have:=mt gL.1 a;unfold W af at*;cases hd:digits n with|nil=>rw[hd]at this;simp at this|cons w ws=>rfl
 have b:(us (digits n)).length=af n:=j2 _;exact ag.Pg hN [ho 4 e,TK 7 1 4 (us (digits n)) (digits n).length b (λ c=>a (gL.1 (by rw[<-b,c];rfl))) (by rw[b];omega)] 5 rfl
def aq0(neg:Bool)(ws:List Nat)(g:ws.length<=9223372036854775807):ag ab G 290 [u1 neg ws] (.bool (sP neg ws)):=by
 have a:m2 false (.sl 1 (us ws))=some (.int .i64 ws.length):=by simp[m2,j2]
 unfold sP u1;by_cases d:ws=[];subst d;cases neg<;>exact bK [];have b:0<ws.length:=List.length_pos_iff.2 d;have⟨w,f⟩:∃w,ws[ws.length-1]?=some w:=⟨_,eu ac⟩;rw[if_neg d,f];exact bK [ho 6 a,hb 8 (show((ws.length:Int)==0)=false by simpa using d),hb 16 (decide_eq_true ac:decide ((ws.length:Int)>0)=true),hw 21 (arQ ws.length b g),ho 22 (Hr (k:=1) (Ht:=.i64) rfl (A4 f)),hb 24 (show((w:Int)!=0)=decide (w≠0)by by_cases c:w=0<;>simp[c])]
def Vb(x:Nat)(d:x<ai):ag ab G 322 [.int .u32 (x:Int)] (.int .i64 (ey x:Int)):=by unfold ey;unfold ai at d;have y:∀{a b:Nat},a<=b->decide ((b:Int)≥(a:Int))=true:=λ h=>decide_eq_true ac;have z:∀{a b:Nat},¬a<=b->decide ((b:Int)≥(a:Int))=false:=λ h=>decide_eq_false ac;split;split;exact bK (hb 4 (y (a:=65536) ‹_›)::G8 6 x 16 65536::hb 8 (y (a:=256) ‹_›)::G8 10 (x/65536) 8 256::HJ (x/65536/256) 24 ac ac);exact bK (hb 4 (y (a:=65536) ‹_›)::G8 6 x 16 65536::hb 8 (z (a:=256) ‹_›)::HJ (x/65536) 16 ac ac);split;exact bK (hb 4 (z (a:=65536) ‹_›)::hb 8 (y (a:=256) ‹_›)::G8 10 x 8 256::HJ (x/256) 8 ac ac);rw[<-cI (len8 x)];exact bK (hb 4 (z (a:=65536) ‹_›)::hb 8 (z (a:=256) ‹_›)::HJ x 0 ac ac)
end
end Go.Proofs.YtpcofcmencgkbaaGreat
namespace Go.aA
def acb{ws:List Nat}(h:kz ws):ws=eM (val ws) ws.length:=by
 refine jL (nk _ _).symm λ i h1 b=>?_;rw[show(eM (val ws) ws.length)[i]=au (val ws) i by simp[eM]];have e:val ws=val (ws.take i)+ai^i*val (ws.drop i):=by conv=>lhs;rw[<-List.take_append_drop i ws,Jy,eZ,uK (h9 h1)]
 have a:=yj (ws:=ws.take i) λ w hw=>h w (List.mem_of_mem_take hw);rw[eZ,uK (h9 h1)]at a;unfold au;rw[e,oV _ _ (fR i),h6 a,cI,List.drop_eq_getElem_cons h1,val,wz,dL (h _ (List.getElem_mem h1))]
def FR(n:Nat):W n=.sl 1 (us (eM n (af n))):=by rw[W,Ly]
def wS{Z w p j:Nat}(h:j<p):au (Z+ai^p*w) j=au Z j:=by unfold au;obtain⟨d,rfl⟩:=Nat.exists_eq_add_of_lt h;rw[show ai^(j+d+1)*w=ai^j*(ai*(ai^d*w))by rw[eo,iI];simp only[pK,dm],oV _ _ (fR j),wz]
def cz(a b i:Nat):Nat:=a%ai^i*b
def nQ(a b i k:Nat):Nat:=ai^i*(au a i*(b%ai^k))
def e7(a b i k:Nat):Nat:=(cz a b i%ai^(i+k)+nQ a b i k)/ai^(i+k)
def gJ(a b i k j:Nat):Nat:=if j<i+k then au (cz a b i+nQ a b i k) j else au (cz a b i) j
def Y3(a b i:Nat):nQ a b i 0=0:=by unfold nQ;rw[kR,qO,j5,j5]
def O2(a b i k:Nat):nQ a b i (k+1)=nQ a b i k+ai^(i+k)*(au a i*au b k):=by unfold nQ;rw[sU,iI,ej,ej,Nat.mul_assoc (ai^i),pK (ai^k)]
def O6(a b i:Nat):e7 a b i 0=0:=by unfold e7;rw[Y3];exact h6 (bG _ (fR _))
def A2(a b i k:Nat):e7 a b i k<ai:=by
 unfold e7;refine uP ?_;have h1:=bG (cz a b i) (fR (i+k));have c:nQ a b i k<=ai^i*((ai-1)*ai^k):=fS _ (kr (abh (cG a i)) (h9 (bG _ (fR k))));have h3:ai^i*((ai-1)*ai^k)+ai^(i+k)=ai^(i+k)*ai:=by rw[pK,<-iI,dm (ai^(i+k)) ai];exact(Nat.succ_mul _ _).symm
 omega
def Jk(a b i k:Nat):e7 a b i (k+1)=(e7 a b i k+(au a i*au b k+au (cz a b i) (i+k)))/ai/\au (cz a b i+nQ a b i (k+1)) (i+k)=(e7 a b i k+(au a i*au b k+au (cz a b i) (i+k)))%ai:=by
 rw[O2];generalize c:i+k=p;have e:(cz a b i%ai^p+(nQ a b i k+ai^p*(au a i*au b k)))/ai^p=e7 a b i k+au a i*au b k:=by unfold e7;rw[c,<-my,oV _ _ (fR p)]
 constructor;show(cz a b i%ai^(i+k+1)+nQ a b i (k+1))/ai^(i+k+1)=_;rw[O2,c,sU,eo,<-ll,abi,oV _ _ (fR p),e];congr 1;omega;unfold au at e⊢;have d:=h8 (cz a b i) (ai^p);rw[show(cz a b i+(nQ a b i k+ai^p*(a/ai^i%ai*(b/ai^k%ai))))=(cz a b i%ai^p+(nQ a b i k+ai^p*(a/ai^i%ai*(b/ai^k%ai))))+ai^p*(cz a b i/ai^p)from ac,oV _ _ (fR p),e];generalize cz a b i/ai^p=A,a/ai^i%ai*(b/ai^k%ai)=C,e7 a b i k=D;unfold ai;omega
def O9(a b i:Nat):gJ a b i 0=au (cz a b i):=by funext j;unfold gJ;rw[Y3];split<;>rfl
def O8(a b i k j:Nat):gJ a b i (k+1) j=if j=i+k then(e7 a b i k+(au a i*au b k+au (cz a b i) (i+k)))%ai else gJ a b i k j:=by unfold gJ;rcases wm j (i+k)with h|h|h;rw[if_pos ac,if_neg ac,if_pos h,O2,<-my,wS h];subst h;rw[if_pos ac,if_pos rfl,(Jk a b i k).2];rw[if_neg ac,if_neg ac,if_neg ac]
def Y2{a b i k:Nat}(hb:b<ai^k):cz a b (i+1)=cz a b i+nQ a b i k:=by unfold cz nQ;rw[sU,dL hb,Nat.add_mul,Nat.mul_assoc]
def Y1{a b i k:Nat}(hb:b<ai^k):cz a b i<ai^(i+k):=by unfold cz;rw[iI];exact r6 (bG _ (fR i)) hb
def O7{a b i k:Nat}(hb:b<ai^k)(j:Nat):au (cz a b (i+1)) j=if j=i+k then e7 a b i k else gJ a b i k j:=by have h1:=Y1 (a:=a) (i:=i) hb;have c:=Y1 (a:=a) (i:=i+1) hb;unfold gJ;rcases wm j (i+k)with h|h|h;rw[if_neg ac,if_pos h,Y2 hb];subst h;rw[if_pos rfl,BW (by rwa[abi]at c),e7,dL h1,Y2 hb];rw[if_neg ac,if_neg ac,sc (gM c (dR fz ac)),sc (gM h1 (dR fz ac))]
section
variable{P:Program}{G:Nat->Option (List aa)}
abbrev mG(x L:Nat):aa:=.sl 1 (us (eM x L))
def ou(k x L:Nat):aV P G:=ho k (o:=m2 false (mG x L)) (v:=.int .i64 (L:Int)) (by simp[m2,j2,nk])
def G2(k x:Nat){L i:Nat}(h:i<L):aV P G:=ho k (Hr (es:=us (eM x L)) (e:=Bb (au x i)) (Ht:=.i64) (k:=1) (kk:=1) rfl (A4 (ws:=eM x L) (i:=i) (w:=au x i) (by simp[eM,h])))
def ly(k i j:Nat)(h:i+j<=9223372036854775807:=by omega):aV P G:=hw k (Q9 i j h)
abbrev dr(L:Nat)(f:Nat->Nat):aB->List (Id×aJ):=λ q=>[(q.a,⟨us (cj L f),1,false⟩)]
end
end Go.aA
namespace Go.Proofs.YtpcofcmencgkbaaGreat
section
variable(G:Nat->Option (List aa))(a b k l:Nat)
noncomputable abbrev Ep(i:Nat):aB->List (Nat×aa):=λ q=>[(0,mG a k),(1,mG b l),(5,.ah q.a 1 0 (k+l) false),(25,mG a k),(26,.int .i64 (k:Int)),(27,.int .i64 (i:Int))]
noncomputable abbrev Eo(i j c:Nat):aB->List (Nat×aa):=λ q=>[(0,mG a k),(1,mG b l),(5,.ah q.a 1 0 (k+l) false),(6,.int .i64 (i:Int)),(7,.int .u32 (au a i:Int)),(8,.int .u64 (c:Int)),(25,mG a k),(26,.int .i64 (k:Int)),(27,.int .i64 (i:Int)),(32,mG b l),(33,.int .i64 (l:Int)),(34,.int .i64 (j:Int))]
def aqc(q:k<=4194304000000)(o:l<=4194304000000)(i:Nat)(p:i<k)(j:Nat)(d:j<l):hM ab G (ao 267) 1 .normal (Eo a b k l i j (e7 a b i j)) (dr (k+l) (gJ a b i j)) (Eo a b k l i (j+1) (e7 a b i (j+1))) (dr (k+l) (gJ a b i (j+1))):=by
 have f:=cG a i;have g:=cG b j;have m:=cG (cz a b i) (i+j);have hc:=A2 a b i j;have n:=HZ f g;have c:i+j<k+l:=ac;have e:=(Jk a b i j).1;have s:eY .shr .int (.int .u64 ((e7 a b i j+(au a i*au b j+au (cz a b i) (i+j)):Nat):Int)) (.int .u64 32)=some (.int .u64 (e7 a b i (j+1):Int)):=by rw[nK,e]
 unfold ai at m hc;exact a9 aO [fY 35 d,G2 37 b d,hw 41 (fC _ f) .u64,hw 43 (fC _ g) .u64,hw 44 (Dj _ _ f g) .u64,ly 48 i j,et 49 [1] _ _ c,ik 50 [1] (k+l) (gJ a b i j) c (by unfold gJ;exact if_neg (Nat.lt_irrefl _)),hw 51 (fC _ (cG (cz a b i) (i+j))) .u64,hw 52 (w5 (au a i*au b j) (au (cz a b i) (i+j)) ac) .u64,hw 53 (w5 (e7 a b i j) (au a i*au b j+au (cz a b i) (i+j)) ac) .u64,ly 57 i j,hw 59 (kN (e7 a b i j+(au a i*au b j+au (cz a b i) (i+j)))) .u32,et 60 [1] _ _ c,g6 60 [1] (gJ a b i (j+1)) c (λ x _=>O8 a b i j x),ho 62 s,hI 63 d]
def aqf(h:k<=4194304000000)(m:l<=4194304000000)(d:b<ai^l)(i:Nat)(c:i<k):bb ab G (aT (ao 267) 0) (ao 267).aH (cx 9) .normal (Ep a b k l i) (dr (k+l) (au (cz a b i))) (Ep a b k l (i+1)) (dr (k+l) (au (cz a b (i+1)))):=by have e:i+l<k+l:=ac;exact a9 (aB.o (cx 0)) [fY 28 c,G2 30 a c,ou 33 b l,ug (ao 267) 1 0 l aO (Eo a b k l i 0 0 aO) (dr (k+l) (au (cz a b i)) aO) (λ j=>Eo a b k l i j (e7 a b i j)) (λ j=>dr (k+l) (gJ a b i j)) (.exit 2) (Eo a b k l i l (e7 a b i l)) (dr (k+l) (gJ a b i l)) (by simp only[O6]) (by simp only[O9]) (aqc G a b k l h m i c) (a9 aO [ij 35 (a2 l)]),ou 67 b l,ly 68 i l,hw 70 (pC (A2 a b i l)) .u32,et 71 w0 _ _ e,g6 71 w0 (f:=gJ a b i l) (au (cz a b (i+1))) e (λ x _=>O7 d x),hI 72 c]
def aqg(q:k<=4194304000000)(p:l<=4194304000000)(d:0<k)(f:0<l)(m:a<ai^k)(c:b<ai^l):ag ab G 267 [mG a k,mG b l] (W (a*b)):=by
 have z:∀{n:Nat},0<n->((n:Int)==0)=false:=λ h=>by simp;omega
 have e:cz a b k=a*b:=by unfold cz;rw[dL m]
 exact bK [ou 12 a k,hb 13 (z d),ou 16 b l,hb 17 (z f),ou 20 a k,ou 22 b l,ly 23 k l,sF 24 (k+l) (au (cz a b 0)) (λ j _=>by unfold cz;rw[kR,qO,tu];exact sc (fR j)),ou 26 a k,HR (ao 267) 0 k (aB.o 14) (Ep a b k l 0 (aB.o 14)) (dr (k+l) (au (cz a b 0)) (aB.o 14)) (Ep a b k l) (λ i=>dr (k+l) (au (cz a b i))) (.exit 0) (Ep a b k l k) (dr (k+l) (au (cz a b k))) rfl rfl (aqf G a b k l q p c) (a9 aO [ij 28 (a2 k)]),rh (k+l) (a*b) (au (cz a b k)) (λ j _=>by rw[e]) (oK G) (by rw[iI];exact r6 m c) (id:=[1000000000000000000000000000000000000000000000000,0])]
def aqh(m n:Nat)(e:af m<=4194304000000)(f:af n<=4194304000000):ag ab G 267 [W m,W n] (W (m*n)):=by
 have nil:m*n=0->∀σ:aQ,(∀x∈([]:List (bz×aJ)),σ x.1=some x.2)->View σ .ar (W (m*n)):=λ h σ _=>by rw[h,W,jt];exact e8 1
 have y:∀{n:Nat},af n=0->((af n:Int)==0)=true:=λ h=>by rw[h];rfl
 by_cases d:af m=0;exact ag.oN hN [bw 12 m,hb 13 (y d)] [] .ar an rfl rfl gA (nil (by rw[gL.1 d,tu]));by_cases h1:af n=0;exact ag.oN hN [bw 12 m,hb 13 (show((af m:Int)==0)=false by simp;omega),bw 16 n,hb 17 (y h1)] [] .ar an rfl rfl gA (nil (by rw[gL.1 h1,j5]));rw[FR m,FR n];exact aqg G m n _ _ e f ac ac (eS m) (eS n)
noncomputable abbrev D6(i:Nat):aB->List (Nat×aa):=λ q=>[(0,mG a k),(1,mG b l),(5,.ah q.a 1 0 (k+l) false),(6,.int .i64 (i:Int))]
noncomputable abbrev EG(i j c:Nat):aB->List (Nat×aa):=λ q=>[(0,mG a k),(1,mG b l),(5,.ah q.a 1 0 (k+l) false),(6,.int .i64 (i:Int)),(7,.int .u64 (c:Int)),(8,.int .i64 (j:Int))]
def aou(q:k<=4194304000000)(r:l<=4194304000000)(i:Nat)(o:i<k)(j:Nat)(d:j<l):hM ab G (ao 225) 1 .normal (EG a b k l i j (e7 a b i j)) (dr (k+l) (gJ a b i j)) (EG a b k l i (j+1) (e7 a b i (j+1))) (dr (k+l) (gJ a b i (j+1))):=by
 have f:=cG a i;have g:=cG b j;have m:=cG (cz a b i) (i+j);have hc:=A2 a b i j;have p:=HZ f g;have c:i+j<k+l:=ac;have e:=(Jk a b i j).1;have s:eY .shr .int (.int .u64 ((e7 a b i j+(au a i*au b j+au (cz a b i) (i+j)):Nat):Int)) (.int .u64 32)=some (.int .u64 (e7 a b i (j+1):Int)):=by rw[nK,e]
 unfold ai at m hc;have n:da.wrap (((e7 a b i j+au (cz a b i) (i+j):Nat):Int)+((au a i*au b j:Nat):Int))=((e7 a b i j+(au a i*au b j+au (cz a b i) (i+j)):Nat):Int):=by rw[iy];omega
 exact a9 aO [ou 23 b l,fY 24 d,ly 31 i j,et 32 [1] _ _ c,ik 33 [1] (k+l) (gJ a b i j) c (by unfold gJ;exact if_neg (Nat.lt_irrefl _)),hw 34 (fC _ (cG (cz a b i) (i+j))) .u64,hw 35 (w5 (e7 a b i j) (au (cz a b i) (i+j)) ac) .u64,G2 38 a o,hw 40 (fC _ f) .u64,G2 43 b d,hw 45 (fC _ g) .u64,hw 46 (Dj _ _ f g) .u64,hw 47 n .u64,ly 51 i j,hw 53 (kN (e7 a b i j+(au a i*au b j+au (cz a b i) (i+j)))) .u32,et 54 [1] _ _ c,g6 54 [1] (gJ a b i (j+1)) c (λ x _=>O8 a b i j x),ho 56 s,hI 26 d]
def aoS(h:k<=4194304000000)(m:l<=4194304000000)(d:b<ai^l)(i:Nat)(c:i<k):bb ab G (aT (ao 225) 0) (ao 225).aH (cx 9) .normal (D6 a b k l i) (dr (k+l) (au (cz a b i))) (D6 a b k l (i+1)) (dr (k+l) (au (cz a b (i+1)))):=by have e:i+l<k+l:=ac;exact a9 (aB.o (cx 0)) [ou 17 a k,fY 18 c,ug (ao 225) 1 0 l aO (EG a b k l i 0 0 aO) (dr (k+l) (au (cz a b i)) aO) (λ j=>EG a b k l i j (e7 a b i j)) (λ j=>dr (k+l) (gJ a b i j)) (.exit 2) (EG a b k l i l (e7 a b i l)) (dr (k+l) (gJ a b i l)) (by simp only[O6]) (by simp only[O9]) (aou G a b k l h m i c) (a9 aO [ou 23 b l,ij 24 (a2 l)]),ou 60 b l,ly 61 i l,hw 63 (pC (A2 a b i l)) .u32,et 64 w0 _ _ e,g6 64 w0 (f:=gJ a b i l) (au (cz a b (i+1))) e (λ x _=>O7 d x),hI 20 c]
def arS(g:k<=4194304000000)(h:l<=4194304000000)(d:a<ai^k)(c:b<ai^l):ag ab G 225 [mG a k,mG b l] (W (a*b)):=by
 have e:cz a b k=a*b:=by unfold cz;rw[dL d]
 exact bK [ou 10 a k,ou 12 b l,ly 13 k l,sF 14 (k+l) (au (cz a b 0)) (λ j _=>by unfold cz;rw[kR,qO,tu];exact sc (fR j)),HR (ao 225) 0 k (aB.o 6) (D6 a b k l 0 (aB.o 6)) (dr (k+l) (au (cz a b 0)) (aB.o 6)) (D6 a b k l) (λ i=>dr (k+l) (au (cz a b i))) (.exit 0) (D6 a b k l k) (dr (k+l) (au (cz a b k))) rfl rfl (aoS G a b k l g h c) (a9 aO [ou 17 a k,ij 18 (a2 k)]),rh (k+l) (a*b) (au (cz a b k)) (λ j _=>by rw[e]) (mQ G) (by rw[iI];exact r6 d c) (id:=[1000000000000000000000000000000000000000000000000,0])]
def XO(m:Nat)(ws:List Nat)(hw:kz ws)(d:af m<=4194304000000)(e:ws.length<=4194304000000):ag ab G 225 [W m,.sl 1 (us ws)] (W (m*val ws)):=by rw[FR m,acb hw,uB,dL (yj hw)];exact arS G m (val ws) _ _ d e (eS m) (yj hw)
end
end Go.Proofs.YtpcofcmencgkbaaGreat
namespace Go.aA
section
variable{P:Program}{G:Nat->Option (List aa)}
def lq(P:Program)(G:Nat->Option (List aa))(c:cD)(n w:Nat)(e:cn)(A:aB->List (Nat×aa))(bC:aB->List (Id×aJ))(B:aB->List (Nat×aa))(bO:aB->List (Id×aJ)):Prop:=∀(q:aB)(m:Nat),fh m q->bA P G [0] c (λ a s'=>a=e/\bN G [0] s' ⟨fr n (B q),bB (bO q),m+w⟩) ⟨fr n (A q),bB (bC q),m⟩
def hU{c:cD}{n w:Nat}{e:cn}{A B:aB->List (Nat×aa)}{bC bO:aB->List (Id×aJ)}[gq A][gq B][dI bC][dI bO](a:List (aV P G))(h:hE (bO aO) (fr n (B aO)) w (bY true 1000 c [0] a ⟨fr n (A aO),b8 (bC aO),0⟩)=hh e (bO aO) (fr n (B aO)) (bY true 1000 c [0] a ⟨fr n (A aO),b8 (bC aO),0⟩):=by kernel_rfl):lq P G c n w e A bC B bO:=λ q m g=>bA.jC q.κ a (fr n (A aO)) (bC aO) e (fr n (B aO)) (bO aO) w h (by rw[o7,gq.nat,Kh]) (by rw[dI.nat,Kh]) (by rw[o7,gq.nat,Kh]) (by rw[dI.nat,Kh]) (dI.nd g) λ s hw=>⟨rfl,hw⟩
def HQ{c:cD}{n N w n0 E:Nat}{e:cn}{q:aB}{T:Nat->aB->List (Nat×aa)}{K:Nat->aB->List (Id×aJ)}{dx:aB->List (Nat×aa)}{cC:aB->List (Id×aJ)}[gq dx][dI cC](h:fh n0 q)(r:∀i,i<N->lq P G c n w .normal (T i) (K i) (T (i+1)) (K (i+1)))(p:lq P G c n w e (T N) (K N) dx cC)(g:e≠.normal)(m:n0+w*N+w<=E):bA P G [0] (.loop c) (λ d s'=>d=e/\bN G [0] s' ⟨fr n (dx q),e5.to (b8 (cC q)),E⟩) ⟨fr n (T 0 q),bB (K 0 q),n0⟩:=by refine bA.z7 (α:=Nat) (λ i=>⟨fr n (T i q),bB (K i q),n0+w*i⟩) (λ i=>i<=N) (λ i=>N-i) 0 (by rw[j5];exact bN.refl _ _ _) (dF _) ?_;intro i s;have k:fh (n0+w*i) q:=h.mono (pH _ _);by_cases a:i<N;refine(r i a q _ k).mono λ d s'⟨h1,h3⟩=>?_;subst h1;rw[show n0+w*i+w=n0+w*(i+1)by rw[ej,Nat.mul_one];omega]at h3;exact⟨i+1,a,by show N-(i+1)<N-i;omega,h3⟩;obtain rfl:i=N:=ac;refine(p q _ k).mono λ d s'⟨h1,h3⟩=>?_;subst h1;have h4:=bN.toT (h.nd.sublist (dI.sub (f:=cC) q)) (h3.trans (bN.slots (jn.same _) m));cases d with|normal=>exact(g rfl).elim|exit j=>exact⟨rfl,h4⟩|ret=>exact⟨rfl,h4⟩
noncomputable def vF(aG:ee)(k s N:Nat)(a:aB)(c:List (Nat×aa))(d:List (Id×aJ))(T:Nat->aB->List (Nat×aa))(K:Nat->aB->List (Id×aJ))(e:cn)(dx:aB->List (Nat×aa))(cC:aB->List (Id×aJ))[gq dx][dI cC](g:T 0 a=c)(m:K 0 a=d)(h:∀i,i<N->lq P G (aT aG k) aG.aH 200 .normal (T i) (K i) (T (i+1)) (K (i+1)))(l:lq P G (aT aG k) aG.aH 200 e (T N) (K N) dx cC)(j:kJ (eF s) a=true:=by kernel_rfl)(f:N<=10000000000000000000:=by omega)(b:e≠.normal:=by simp):aV P G:=.iQ [0] (aT aG k) (fr aG.aH c) d (eF s) e (fr aG.aH (dx a)) (b8 (cC a)) (cx s) (by rw[<-g,<-m];exact HQ (Kf j) h l b (bx (JM f) (a2 _)))
def cL(X q b k:Nat):Nat:=(X%ai^k+q*(b%ai^k))/ai^k
def anW(X q b:Nat):cL X q b 0=0:=by unfold cL;rw[kR,qO,qO,j5]
def Xu{q:Nat}(X b k:Nat)(a:q<ai):cL X q b k<ai:=by
 refine uP ?_;have h1:=bG X (fR k);have c:q*(b%ai^k)<=(ai-1)*ai^k:=kr (abh a) (h9 (bG _ (fR k)));have h3:(ai-1)*ai^k+ai^k=ai^k*ai:=by rw[dm (ai^k)];exact(Nat.succ_mul _ _).symm
 omega
def py(X q b k:Nat):cL X q b k+q*au b k+au X k=au (X+q*b) k+ai*cL X q b (k+1):=by
 have e:(X%ai^(k+1)+q*(b%ai^(k+1)))/ai^k=cL X q b k+q*au b k+au X k:=by unfold cL;rw[sU,sU,ej,pK q,show X%ai^k+ai^k*au X k+(q*(b%ai^k)+ai^k*(q*au b k))=(X%ai^k+q*(b%ai^k))+ai^k*(q*au b k+au X k)by rw[ej];omega,oV _ _ (fR k)];omega
 have d:au (X+q*b) k=(cL X q b k+q*au b k+au X k)%ai:=by
   rw[<-e];have h1:=h8 X (ai^(k+1));have a:=h8 b (ai^(k+1));conv=>lhs;rw[<-h1,<-a]
   rw[show ai^(k+1)*(X/ai^(k+1))+X%ai^(k+1)+q*(ai^(k+1)*(b/ai^(k+1))+b%ai^(k+1))=(X%ai^(k+1)+q*(b%ai^(k+1)))+ai^(k+1)*(X/ai^(k+1)+q*(b/ai^(k+1)))by rw[ej,ej,pK q];omega,wS (nb k)];rfl
 rw[d,<-e];show _=_+ai*((X%ai^(k+1)+q*(b%ai^(k+1)))/ai^(k+1));rw[show ai^(k+1)=ai^k*ai from eo ..,<-ll,uQ]
def ap3{p c x w c':Nat}(e:c+p+w=x+ai*c')(b:x<ai)(a:p<=18446744065119617025)(hc:c<ai)(hw:w<ai):da.wrap ((p:Int)+(c:Int))=((p+c:Nat):Int)/\jH.wrap (da.wrap ((x:Int)-(((p+c)%ai:Nat):Int)))=(w:Int)/\da.wrap ((x:Int)-(((p+c)%ai:Nat):Int))/9223372036854775808=((if x<(p+c)%ai then 1 else 0:Nat):Int)/\da.wrap ((((p+c)/ai:Nat):Int)+((if x<(p+c)%ai then 1 else 0:Nat):Int))=(c':Int):=by unfold ai at*;simp only[iy,E5];split<;>refine⟨?_,?_,?_,?_⟩<;>omega
def ap0{c x w c':Nat}(e:c+w=x+ai*c')(a:x<ai)(hc:c<ai)(hw:w<ai):jH.wrap (da.wrap ((x:Int)-(c:Int)))=(w:Int)/\da.wrap ((x:Int)-(c:Int))/9223372036854775808=(c':Int):=by unfold ai at*;simp only[iy,E5];refine⟨?_,?_⟩<;>omega
def cv.Pc{f:FuncId}{aG:ee}(h:lp P f aG)(a:List (aV P G))(A:aB->List aa)(V:aB->aa)(K U:aB->List (Id×aJ))[qT A][ky V][dI K][dI U](b:nI aG.results (U aO++rest (U aO) (K aO)) (bY true 1000 aG.body [0] a ⟨A aO++bI (aG.aH-(A aO).length) (.aM []),b8 (K aO),0⟩)=nH (V aO) (U aO++rest (U aO) (K aO)) (bY true 1000 aG.body [0] a ⟨A aO++bI (aG.aH-(A aO).length) (.aM []),b8 (K aO),0⟩))(q:aB)(p:Id)(hd:((K q).map (·.1)).Nodup)(rj:((U q).map (·.1)).Nodup):cv P G f (A q) p (K q) {val:=V q,rd:=(K q).map (·.1),up:=(U q).map λ x=>(x.1,some x.2)}:=cv.jC h q.κ a (A aO) (K aO) (V aO) (U aO) b (qT.nat _ _) (dI.nat _ _) (ky.nat _ _) (dI.nat _ _) hd rj
def wf(f:Nat->Nat)(o X i j:Nat):Nat:=if o<=j/\j<o+i then au X (j-o)else f j
def PL(f:Nat->Nat)(o X:Nat):wf f o X 0=f:=by funext j;unfold wf;exact if_neg ac
def Bc(f:Nat->Nat)(o X i j:Nat):wf f o X (i+1) j=if j=o+i then au X i else wf f o X i j:=by unfold wf;by_cases h:j=o+i;subst h;rw[if_pos ac,if_pos rfl,tt];rw[if_neg h];split<;>split<;>first|rfl|omega
def JN(f:Nat->Nat)(o X i:Nat):wf f o X i (o+i)=f (o+i):=if_neg ac
def l4(k:Nat)(id:Id)(o n i:Nat)(t:Bool)(h:i<n):aV P G:=ho k (ah5 (q:=id) (off:=o) (t:=t) h)
structure w3(L o v q X u:Nat)(f:Nat->Nat):Prop where
 hv:af v<=4194304000000
 bw:o+af v+1<=L
 TP:L<=8388608000000
 hq:q<ai
 hu:u<ai^(af v+1)hf:∀i,i<=af v->f (o+i)=au u i
 Hc:X+q*v=u+ai^(af v+1)
end
section
variable{L o v q X u:Nat}{f:Nat->Nat}
def w3.eq(H:w3 L o v q X u f){i:Nat}(a:i<=af v):cL X q v i+q*au v i+au X i=f (o+i)+ai*cL X q v (i+1)/\f (o+i)<ai:=by have h:=py X q v i;have e:=wS (Z:=u) (w:=1) (ac:i<af v+1);rw[Nat.mul_one]at e;rw[H.Hc,e]at h;rw[H.hf i a];exact⟨h,cG _ _⟩
def w3.last(H:w3 L o v q X u f):cL X q v (af v+1)=if u<q*v then 1 else 0:=by have a:=H.Hc;have hu:=H.hu;unfold cL;rw[dL (gM (eS v) (dR fz (Nat.le_succ _)))];generalize ai^(af v+1)=B at*;split;rw[dL ac,a,Nat.div_eq_iff ac];omega;rw[show X=u-q*v+B from ac,Nat.add_mod_right,dL ac];exact h6 ac
end
end Go.aA
namespace Go.Proofs.YtpcofcmencgkbaaGreat
section
variable(G:Nat->Option (List aa))(L o v q X:Nat)(f:Nat->Nat)
noncomputable abbrev Ej(i c:Nat):aB->List (Nat×aa):=λ r=>[(0,.ah r.a 1 o (af v+1) false),(1,W v),(2,.int .u64 (q:Int)),(6,.bool false),(7,.int .u64 (c:Int)),(13,W v),(14,.int .i64 (af v:Int)),(15,.int .i64 (i:Int))]
variable{L o v q X f}{u:Nat}
def ap1(H:w3 L o v q X u f)(i:Nat)(a:i<af v):lq ab G (aT (ao 315) 0) (ao 315).aH 200 .normal (Ej o v q i (cL X q v i)) (dr L (wf f o X i)) (Ej o v q (i+1) (cL X q v (i+1))) (dr L (wf f o X (i+1))):=by have lx:=H.bw;have l:=H.TP;have⟨e,c⟩:=H.eq (h9 a);rw[dm q]at e;have⟨g,k,h,d⟩:=ap3 e c (HZ (cG v i) H.hq) (Xu X v i H.hq) (cG X i);exact hU [fY 16 a,dU 18 a,hw 21 (fC _ (cG v i)) .u64,hw 23 (Dj _ _ (cG v i) H.hq) .u64,hw 25 g .u64,l4 28 [1] o (af v+1) i false ac,ik 29 [1] L (wf f o X i) ac (JN f o X i),hw 30 (fC _ c) .u64,hw 32 (kN (au v i*q+cL X q v i)) .u32,hw 33 (fC _ (bG (au v i*q+cL X q v i) fz)) .u64,hw 38 k .u32,l4 39 [1] o (af v+1) i false ac,g6 39 [1] (f:=wf f o X i) (wf f o X (i+1)) (ac:o+i<L) (λ j _=>Bc f o X i j),ho 41 (nK (au v i*q+cL X q v i)),G9 43 h,hw 44 d .u64,hI 45 a (by have:=H.hv;omega)]
def ap2(H:w3 L o v q X u f)(id p:bz):cv ab G 315 [.ah id 1 o (af v+1) false,W v,.int .u64 (q:Int)] p [(id,⟨us (cj L f),1,false⟩)] {val:=.bool (decide (u<q*v)),rd:=[id],up:=[(id,some ⟨us (cj L (wf f o X (af v+1))),1,false⟩)]}:=by
 have lx:=H.bw;have k:=H.TP;have d:((cL X q v (af v+1):Int)==1)=decide (u<q*v):=by rw[H.last];split<;>simp[*]
 have⟨e,c⟩:=H.eq (a2 _);rw[pV (a2 _),j5,j7]at e;have⟨h,g⟩:=ap0 e c (Xu X v _ H.hq) (cG X _);exact cv.Pc hN [bw 14 v,vF (ao 315) 0 0 (af v) aO (Ej o v q 0 0 aO) (dr L f aO) (λ i=>Ej o v q i (cL X q v i)) (λ i=>dr L (wf f o X i)) (.exit 0) (Ej o v q (af v) (cL X q v (af v))) (dr L (wf f o X (af v))) (by simp only[anW]) (by simp only[PL]) (ap1 G H) (hU [ij 16 (a2 (af v))]) an (by have:=H.hv;omega),bw 48 v,l4 49 [1] o (af v+1) (af v) false ac,ik 50 [1] L (wf f o X (af v)) ac (JN f o X _),hw 51 (fC _ c) .u64,bw 56 v,hw 58 h .u32,l4 59 [1] o (af v+1) (af v) false ac,g6 59 [1] (f:=wf f o X (af v)) (wf f o X (af v+1)) (ac:o+af v<L) (λ j _=>Bc f o X _ j),G9 61 g,hb 62 d] (λ r=>[.ah r.a 1 o (af v+1) false,W v,.int .u64 (q:Int)]) (λ _=>.bool (decide (u<q*v))) (dr L f) (dr L (wf f o X (af v+1))) an ⟨id,[2],[3],[4]⟩ p am am
noncomputable abbrev EF(o v i c:Nat):aB->List (Nat×aa):=λ r=>[(0,.ah r.a 1 o (af v+1) false),(1,W v),(4,.int .u64 (c:Int)),(7,W v),(8,.int .i64 (af v:Int)),(9,.int .i64 (i:Int))]
def an2(hv:af v<=4194304000000)(lx:o+af v+1<=L)(h:∀i,i<=af v->f (o+i)=au u i)(i:Nat)(a:i<af v):lq ab G (aT (ao 316) 0) (ao 316).aH 200 .normal (EF o v i (cY u v i)) (dr L (wf f o (u+v) i)) (EF o v (i+1) (cY u v (i+1))) (dr L (wf f o (u+v) (i+1))):=by have e:=h i (h9 a);have x:=cG u i;have y:=cG v i;have c:=sy u v i;have b:=kN (cY u v i+(au u i+au v i));rw[<-my,<-zm]at b;have g:=nK (cY u v i+(au u i+au v i));rw[<-my,<-Cm]at g;exact hU [fY 10 a,dU 12 a,l4 17 [1] o (af v+1) i false ac,ik 18 [1] L (wf f o (u+v) i) ac ((JN f o (u+v) i).trans e),hw 19 (fC _ x) .u64,hw 21 (fC _ y) .u64,hw 22 (w5 (au u i) (au v i) (by unfold ai at*;omega)) .u64,hw 23 (show da.wrap ((cY u v i:Int)+((au u i+au v i:Nat):Int))=((cY u v i+au u i+au v i:Nat):Int)by rw[iy];unfold ai at*;omega) .u64,hw 27 b .u32,l4 28 [1] o (af v+1) i false ac,g6 28 [1] (f:=wf f o (u+v) i) (wf f o (u+v) (i+1)) (ac:o+i<L) (λ j _=>Bc f o (u+v) i j),ho 30 g,hI 31 a]
def an3(hv:af v<=4194304000000)(lx:o+af v+1<=L)(b:∀i,i<=af v->f (o+i)=au u i)(id p:bz):cv ab G 316 [.ah id 1 o (af v+1) false,W v] p [(id,⟨us (cj L f),1,false⟩)] {val:=.aM [],rd:=[id],up:=[(id,some ⟨us (cj L (wf f o (u+v) (af v+1))),1,false⟩)]}:=by have k:=zm u v (af v);have c:=sy u v (af v);rw[pV (a2 (af v)),j7]at k;have x:=cG u (af v);exact cv.Pc hN [bw 8 v,vF (ao 316) 0 0 (af v) aO (EF o v 0 0 aO) (dr L f aO) (λ i=>EF o v i (cY u v i)) (λ i=>dr L (wf f o (u+v) i)) (.exit 0) (EF o v (af v) (cY u v (af v))) (dr L (wf f o (u+v) (af v))) (by simp only[zn]) (by simp only[PL]) (an2 G hv lx b) (hU [ij 10 (a2 (af v))]),bw 34 v,l4 35 [1] o (af v+1) (af v) false ac,ik 36 [1] L (wf f o (u+v) (af v)) ac ((JN f o (u+v) _).trans (b _ (a2 _))),hw 38 (pC (show cY u v (af v)<ai by unfold ai;omega)) .u32,hw 39 (show jH.wrap ((au u (af v):Int)+(cY u v (af v):Int))=(au (u+v) (af v):Int)by rw[k,E5];unfold ai;omega) .u32,l4 40 [1] o (af v+1) (af v) false ac,g6 40 [1] (f:=wf f o (u+v) (af v)) (wf f o (u+v) (af v+1)) (ac:o+af v<L) (λ j _=>Bc f o (u+v) _ j)] (λ r=>[.ah r.a 1 o (af v+1) false,W v]) (λ _=>.aM []) (dr L f) (dr L (wf f o (u+v) (af v+1))) an ⟨id,[2],[3],[4]⟩ p am am
end
end Go.Proofs.YtpcofcmencgkbaaGreat
