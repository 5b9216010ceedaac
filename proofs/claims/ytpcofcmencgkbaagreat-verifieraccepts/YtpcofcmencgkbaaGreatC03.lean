/- For the claim of VerifierAccepts: parts VL17, VL18, VL19, VL20, VL22, VL24, VL25, VL26, VLA, VL27, VL28, VL29, VL38, VL39, VL40, GI, ZHas, CLex, CB, WN, CI1, CI2, CI3, CI4, CI5, CI6, CI7, CI8, CI9, CI10, CI12, CI14, CI15, CI16, CI18. -/
import Derived.Test.YtpcofcmencgkbaaGreatC02
import Derived.LoopN
import Derived.KernelRfl
import Derived.Test.YtpcofcmencgkbaaGreatProg
import Derived.Laws.Bits64
import Derived.Laws.BitsAllLaws
set_option linter.defProp false
set_option linter.unusedSectionVars false
set_option linter.unusedSimpArgs false
set_option linter.unusedVariables false
set_option maxRecDepth 100000
open Array renaming replicate->wo,toList_append->aaG,toList_replicate->aaH
open BitVec renaming ofInt->jk,ofInt_natCast->yA,toNat_ofNat->J3,toNat_or->aaO
open Bool renaming and_eq_true->gj,false_eq_true->iz
open Go.Ending renaming returned->P1
open Go.IntKind renaming i64->cV,u32->jH,u64->da,wrap_i64->c0,wrap_u64->iy
open Go.Proofs.Tryz renaming prog->ab
open Go.aA.aa renaming one->j4
open Go.aA.g4 renaming refl->P2
open Go.aA.ax renaming keep->uZ
open Go.aA.eO renaming keep->BR
open Go.aA.aQ renaming app->mz,put->wO,nF->wN,vQ->BQ
open Int renaming fdiv_eq_ediv_of_nonneg->yz,natCast_mul->pI,natCast_pow->aaP,toNat_natCast->nU
open List renaming all_eq_true->ek,cons_append->yx,drop_take->Fx,flatMap_cons->aaK,getD_eq_getElem?_getD->dE,getElem?_eq_getElem->eu,getElem?_eq_some_iff->fl,getElem?_map->kv,getElem?_of_mem->aaL,getElem?_replicate->aaI,getLast?_cons_cons->aaM,length->uI,length_cons->fU,length_eq_zero_iff->P3,lookup_cons->jh,lookup_eq_none_iff->aaJ,mapM_cons->uR,map_cons->mw,map_take->ET,mem_append_left->tl,mem_append_right->Bp,mem_cons->cp,mem_cons_of_mem->cX,mem_map->bd,mem_of_getElem?->ER,mem_singleton->bU,nodup_cons->h5,replicate->bI,size_toArray->r3
open List.cons renaming injEq->P4
open Nat renaming beq->rZ,div_eq_of_lt->h6,div_le_self->h7,div_lt_iff_lt_mul->mm,div_lt_self->J2,le_add_right->pH,le_of_ble_eq_true->EU,le_refl->a2,le_trans->bx,lt_of_le_of_lt->gN,lt_of_lt_of_le->gM,mod_eq_of_lt->dL,mod_lt->bG,mul_add->ej,mul_comm->dm,mul_le_mul->kr,mul_le_mul_left->fS,or_lt_two_pow->aaN,pos_of_ne_zero->lP,pow_add->iI,pow_succ->eo,strongRecOn->yv,two_pow_add_eq_or_of_lt->Bq,two_pow_pos->lQ,zero_add->cI
open Option renaming bind_eq_some_iff->yN,map_eq_some_iff->eI,map_some->fk,ne_none_iff_exists'->J1,pure_def->yL
open Option.some renaming injEq->bf
open Prod.mk renaming injEq->c5
open Go.aA Go.Proofs
namespace Go.aA
section
variable{P:Program}{G:Nat->Option (List aa)}{own:Nat->Prop}{E:Env}{w:World}{σ:aQ}
def cd(c:aa):Prop:=∀E w v,ax E w c v->ax E.bare w c v
def cd.bool(b:Bool):cd (.bool b):=λ _ _ _ h=>by simpa[ax]using h
def cd.int(k:IntKind)(n:Int):cd (.int k n):=λ _ _ _ h=>by simpa[ax]using h
def cd.str(l:List UInt8):cd (.str l):=λ _ _ _ h=>by simpa[ax]using h
def cd.jA:cd .jA:=λ _ _ _ h=>by simpa[ax]using h
def cd.kl:cd .kl:=λ _ _ _ h=>by simpa[ax]using h
def cd.ar:cd .ar:=λ _ _ _ h=>by simpa[ax]using h
def cd.nG{cs:List aa}(h:∀c∈cs,cd c):∀{vs:List Value},bq E w cs vs->bq E.bare w cs vs:=by induction cs with|nil=>intro vs a;simpa[bq]using a|cons c cs b=>intro vs a;simp only[bq]at a⊢;have⟨v,rest,e,h1,f⟩:=a;exact⟨v,rest,e,h c am _ _ _ h1,b (λ x d=>h x (by simp[d])) f⟩
def cd.x5{cs:List aa}(h:∀c∈cs,cd c){b o:Nat}(f:eK E w b o cs):eK E.bare w b o cs:=λ j c d=>let⟨v,e,a⟩:=f j c d;⟨v,e,h c (ER d) _ _ _ a⟩
def cd.agg{cs:List aa}(h:∀c∈cs,cd c):cd (.agg cs):=λ E w v a=>by simp only[ax]at a⊢;have⟨xs,e,a⟩:=a;exact⟨xs,e,cd.nG h a⟩
def cd.aM{cs:List aa}(h:∀c∈cs,cd c):cd (.aM cs):=λ E w v a=>by simp only[ax]at a⊢;have⟨xs,e,a⟩:=a;exact⟨xs,e,cd.nG h a⟩
def cd.fn{f:Fn}{a c:List aa}(h:∀x∈a,cd x)(g:∀x∈c,cd x):cd (.fn f a c):=λ E w v b=>by simp only[ax]at b⊢;have⟨xs,ys,e,h1,d⟩:=b;exact⟨xs,ys,e,cd.nG h h1,cd.nG g d⟩
def cd.sl{k:Nat}{es:List aa}(h:∀c∈flat es,cd c):cd (.sl k es):=λ E w v d=>by simp only[ax]at d⊢;have⟨a,cap,e,h1,f,i,g⟩:=d;exact⟨a,cap,e,h1,f,i,g.imp id λ⟨b,o,j,hb,d⟩=>⟨b,o,j,hb,mU.2 (cd.x5 h (mU.1 d))⟩⟩
def cd.eW{k:Nat}{es:List aa}(h:∀c∈flat es,cd c):cd (.eW k es):=λ E w v d=>by simp only[ax]at d⊢;have⟨a,e,f,i,g⟩:=d;exact⟨a,e,f,i,g.imp id λ⟨b,o,j,hb,d⟩=>⟨b,o,j,hb,mU.2 (cd.x5 h (mU.1 d))⟩⟩
def cd.cE{cs:List aa}{o:Nat}(h:∀c∈cs,cd c):cd (.cE cs o):=λ E w v a=>by simp only[ax]at a⊢;have⟨b,q,e,hb,a⟩:=a;exact⟨b,q,e,hb,rL.2 (cd.x5 h (rL.1 a))⟩
def sf(c:aa):Prop:=∀E w E' w' v,ax E w c v->ax E' w' c v
def sf.int(k:IntKind)(n:Int):sf (.int k n):=λ _ _ _ _ _ h=>by simpa[ax]using h
def sf.str(l:List UInt8):sf (.str l):=λ _ _ _ _ _ h=>by simpa[ax]using h
def Env.jv(E:Env)(σ:aQ):Env:=⟨λ _=>none,λ b=>E.ok b\/∃id av k N,σ id=some av/\E.μ id=some (b,k,N)⟩
def View(σ:aQ)(c d:aa):Prop:=∀G own E w v,Inv G own E w σ->ax E w c v->ax (E.jv σ) w d v
def dy(σ:aQ)(cs ds:List aa):Prop:=cs.length=ds.length/\∀(j:Nat)(c d:aa),cs[j]?=some c->ds[j]?=some d->View σ c d
def fm.jv(E:Env)(σ:aQ)(w:World):fm E.bare (E.jv σ) w w:=⟨λ _ _ h=>by simp[Env.bare]at h,λ _ h=>.inl h,λ _ _=>rfl⟩
def View.pure{c:aa}(h:cd c):View σ c c:=λ _ _ E w v _ a=>uZ (fm.jv E σ w) c v (h E w v a)
def dy.pure{cs:List aa}(h:∀c∈cs,cd c):dy σ cs cs:=⟨rfl,λ j c d a hd=>by rw[a]at hd;cases hd;exact View.pure (h c (ER a))⟩
def dy.nil:dy σ [] []:=⟨rfl,am⟩
def dy.cons{c d:aa}{cs ds:List aa}(h:View σ c d)(e:dy σ cs ds):dy σ (c::cs) (d::ds):=⟨by simp[e.1],λ j x y a b=>by cases j with|zero=>simp at a b;subst a;subst b;exact h|succ j=>exact e.2 j x y (by simpa using a) (by simpa using b)⟩
def dy.nG{cs ds:List aa}(h:dy σ cs ds)(f:Inv G own E w σ){vs:List Value}(i:bq E w cs vs):bq (E.jv σ) w ds vs:=by
 have⟨g,c⟩:=fu.1 i;refine fu.2 ⟨by rw[g,h.1],λ j d hd=>?_⟩;have b:j<cs.length:=by rw[h.1];exact(fl.1 hd).1
 have⟨v,e,a⟩:=c j cs[j] (by simp[b]);exact⟨v,e,h.2 j _ d (by simp[b]) hd G own E w v f a⟩
def dy.x5{cs ds:List aa}(h:dy σ cs ds)(g:Inv G own E w σ){b o:Nat}(e:eK E w b o cs):eK (E.jv σ) w b o ds:=by
 intro j d hd;have c:j<cs.length:=by rw[h.1];exact(fl.1 hd).1
 have⟨v,f,a⟩:=e j cs[j] (by simp[c]);exact⟨v,f,h.2 j _ d (by simp[c]) hd G own E w v g a⟩
def View.agg{cs ds:List aa}(h:dy σ cs ds):View σ (.agg cs) (.agg ds):=λ G own E w v b a=>by simp only[ax]at a⊢;have⟨xs,e,a⟩:=a;exact⟨xs,e,h.nG b a⟩
def View.aM{cs ds:List aa}(h:dy σ cs ds):View σ (.aM cs) (.aM ds):=λ G own E w v b a=>by simp only[ax]at a⊢;have⟨xs,e,a⟩:=a;exact⟨xs,e,h.nG b a⟩
def View.ar(k:Nat):View σ .ar (.sl k []):=λ G own E w v b a=>by simp only[ax]at a⊢;exact⟨none,0,a,a2 _,Nat.zero_le _,am,.inl trivial⟩
def View.Jm(k:Nat):View σ (.eW k []) (.sl k []):=λ G own E w v c b=>by simp only[ax]at b⊢;have⟨a,e,_⟩:=b;exact⟨a,0,e,a2 _,Nat.zero_le _,am,.inl trivial⟩
def View.eW{k:Nat}{es ds:List aa}(h:dy σ (flat es) (flat ds))(f:es.length=ds.length)(j:∀d∈ds,d.size=k):View σ (.eW k es) (.sl k ds):=λ G own E w v m c=>by simp only[ax]at c⊢;have⟨a,e,i,n,g⟩:=c;refine⟨a,es.length,by rw[<-f];exact e,by rw[<-f];exact a2 _,i,j,?_⟩;rcases g with g|⟨b,o,l,hb,c⟩;left;subst g;simpa using f.symm;right;exact⟨b,o,l,.inl hb,mU.2 (h.x5 m (mU.1 c))⟩
def View.ah{id:Id}{av:aJ}{k off len:Nat}{t:Bool}{ds:List aa}(m:σ id=some av)(q:av.k=k)(c:off+len<=av.els.length)(h:dy σ (flat ((av.els.drop off).take len)) (flat ds))(n:ds.length=len)(b:∀d∈ds,d.size=k):View σ (.ah id k off len t) (.sl k ds):=λ G own E w v j i=>by
 have⟨g,N,o,ty,a⟩:=j.blk id av m;simp only[ax]at i⊢;have⟨x,s,cap,f,e,h1,y,u,_⟩:=i;rw[a.μ]at f;simp only[bf,c5]at f;have⟨rfl,_,rfl⟩:=f;refine⟨_,cap,by rw[n];exact e,by rw[n];exact h1,ac,b,.inr ⟨g,off*k,rfl,.inr ⟨id,av,av.k,N,m,a.μ⟩,?_⟩⟩;refine mU.2 (h.x5 j ?_);have:=AO (l:=off) (r:=off+len) a.k a.row ac c;rw[cI,q]at this;have p:(av.els.take (off+len)).drop off=(av.els.drop off).take len:=by rw[Fx];congr 1;omega
 rwa[p]at this
def ag(P:Program)(G:Nat->Option (List aa))(f:FuncId)(args:List aa)(r:aa):Prop:=(∃fn,P.funcs[f]?=some fn/\(fn.name== "runtime.NumGoroutine")=false/\fn.body.isSome=true)/\∀w vs ok,Inv G (λ k=>w.heap.size<=k) ⟨λ _=>none,ok⟩ w (λ _=>none)->bq ⟨λ _=>none,ok⟩ w args vs->Calls P f vs.toArray w λ e w'=>∃v a,e=.returned v/\Adv (λ k=>w.heap.size<=k) ⟨λ _=>none,ok⟩ ⟨λ _=>none,a⟩ w w'/\(∀b,a b->b<w'.heap.size)/\ax ⟨λ _=>none,a⟩ w' r v
def cv.Wq{f:FuncId}{args:List aa}{r:aa}(h:ag P G f args r)(u:∀c∈args,cd c)(p:Id):cv P G f args p [] {val:=r}:=by refine⟨h.1,λ own E w σ vs _ m A K=>?_⟩;have s:Inv G (λ k=>w.heap.size<=k) ⟨λ _=>none,E.ok⟩ w (λ _=>none):=⟨m.hR,λ id av h=>by simp at h,λ i j x y h=>absurd rfl h,m.jX,λ k q=>q⟩;refine(h.2 w vs E.ok s (cd.nG u A)).mono λ e w' C=>?_;obtain⟨v,d,rfl,a,n,H⟩:=C;have l:Adv own E ⟨E.μ,d⟩ w w':=⟨⟨λ _ _ h=>h,a.step.ok,a.step.same⟩,a.os,a.tape,a.output,a.size,λ k q _=>a.block k q ac,λ b hb=>(a.rC b hb).imp id λ h=>m.new b h⟩;refine⟨v,⟨E.μ,d⟩,rfl,l,?_,?_,λ _ _=>rfl⟩;refine m.keep l rfl n λ id av g N F t=>?_;have⟨J,I,D,ty,o⟩:=m.blk id av F;rw[o.μ]at t;simp only[bf,c5]at t;have⟨rfl,_,rfl⟩:=t;have z:=l0 o.heap;exact⟨a.block _ z ac,λ B hb=>(a.rC _ hb).elim (o.no B) (λ h=>ac)⟩;exact uZ (⟨λ _ _ h=>by simp at h,λ _ h=>h,λ _ _=>rfl⟩:fm ⟨λ _=>none,d⟩ ⟨E.μ,d⟩ w' w') r v H
def qs(s:dD):o0->Option aa|.tmp t=>some (s.t.getD t (.aM []))|.cell x a n=>(lg s.σ a n (s.t.getD x (.aM []))).map (·.val)
def sY(a:List o0)(s:dD):Option aa:=match a.mapM (qs s)with|some [v]=>some v|some vs=>some (.aM vs)|none=>none
def VA{α β:Type}{f:α->Sem β}:∀(l:List α)(vs:List β),vs.length=l.length->(∀(i:Nat)(a:α)(v:β),l[i]?=some a->vs[i]?=some v->(f a).run P w=.ok v w)->(l.mapM f).run P w=.ok vs w|[],vs,b,_=>by have:vs=[]:=List.eq_nil_of_length_eq_zero b;subst this;rfl|a::l,[],b,_=>by simp at b|a::l,v::vs,b,h=>by have c:=h 0 a v rfl rfl;have d:=VA l vs (by simpa using b) (λ i x y e g=>h (i+1) x y (by simpa using e) (by simpa using g));simp[uR,c,d]
def aom{π:Id}{s:dD}{a:Act}(j:pX G π own E w s a){k:ResultVar}{n:o0}(b:Cg P k=some n){c:aa}(h:qs s n=some c):∃v,(match k with|.tmp t=>(pure (a.tmps.getD t undef):Sem Value)|.cell x t=>do loadVar t (<-asAddr (a.tmps.getD x undef))).run P w=.ok v w/\ax E w c v:=by cases k with|tmp t=>simp only[Cg,bf]at b;subst b;simp only[qs,bf]at h;subst h;exact⟨_,rfl,j.frame.get t⟩|cell x t=>simp only[Cg]at b;cases f:pg P t with|none=>simp[f]at b|some g=>cases e:P.info? t with|none=>simp[f,e]at b|some i=>simp only[f,e]at b;split at b;cases b;simp only[qs,eI]at h;obtain⟨r,p,rfl⟩:=h;obtain⟨⟨v,h1,o⟩,_,u,l⟩:=ZQ j.inv f e (j.frame.get x) p;refine⟨v,?_,o⟩;simp only[];rw[l]at h1⊢;simpa[Instr.loadAt,Instr.sureAddr,asAddr]using h1;simp at b
def XH{π:Id}{s:dD}{a:Act}(M:pX G π own E w s a){fn:Func}{H:List o0}(A:fn.results.toList.mapM (Cg P)=some H){c:aa}(h:sY H s=some c):∃v,(results fn a.tmps).run P w=.ok v w/\ax E w c v:=by unfold sY at h;cases o:H.mapM (qs s)with|none=>simp[o]at h|some cs=>
   have r:cs.length=fn.results.toList.length:=by rw[vG o,vG A]
   let F:ResultVar->Sem Value:=λ m=>match m with|.tmp t=>(pure (a.tmps.getD t undef):Sem Value)|.cell x t=>do loadVar t (<-asAddr (a.tmps.getD x undef))
   have u:∀j,j<cs.length->∃v,(∀m,fn.results.toList[j]?=some m->(F m).run P w=.ok v w)/\∀c,cs[j]?=some c->ax E w c v:=by intro j l;have⟨L,h1,S⟩:=mapM_some_get o j cs[j] (by simp[l]);have⟨m,N,Q⟩:=mapM_some_get A j L h1;have⟨v,K,J⟩:=aom M Q S;refine⟨v,λ O k=>?_,λ c A=>?_⟩;rw[N]at k;cases k;exact K;simp only[l,eu,bf]at A;subst A;exact J
   let val:Nat->Value:=λ j=>if l:j<cs.length then Classical.choose (u j l)else undef;have p:∀j(l:j<cs.length),(∀m,fn.results.toList[j]?=some m->(F m).run P w=.ok (val j) w)/\∀c,cs[j]?=some c->ax E w c (val j):=by intro j l;simp only[val,l,dif_pos];exact Classical.choose_spec (u j l)
   let vs:List Value:=(List.range cs.length).map val;have n:vs.length=cs.length:=by simp[vs]
   have y:(fn.results.toList.mapM F).run P w=.ok vs w:=by
     refine VA _ vs (by rw[n,r]) λ i m v k C=>?_;have I:i<cs.length:=by have:=(fl.1 C).1;omega
     have:v=val i:=by simp[vs,I]at C;exact C.symm
     subst this;exact(p i I).1 m k
   have f:bq E w cs vs:=fu.2 ⟨n,λ j c l=>by have B:=(fl.1 l).1;exact⟨val j,by simp[vs,B],(p j B).2 c l⟩⟩;have z:(results fn a.tmps).run P w=(pure (if h:vs.toArray.size=1 then vs.toArray[0]else .tuple vs.toArray):Sem Value).run P w:=by unfold results;rw[Array.mapM_eq_mapM_toList];simp only[Sem.run_bind,Sem.run_map];exact congrArg (λ x:Result (List Value)=>(x.andThen λ b w'=>Result.ok b.toArray w').andThen λ b w'=>Sem.run P (pure (if h:b.size=1 then b[0]else Value.tuple b)) w') y
   rw[z];refine⟨_,rfl,?_⟩;simp only[o]at h;split at h;rename_i U g;simp only[bf]at g h;subst h;have q:vs.toArray.size=1:=by simp[n,g]
   rw[dif_pos q];rw[g]at f;simp only[bq]at f;obtain⟨v,rest,C,h1,rfl⟩:=f;simpa[C]using h1;rename_i R D g;simp only[bf]at g h;subst h;subst g;have q:¬vs.toArray.size=1:=by intro e;simp[n]at e;have⟨x,T⟩:=List.length_eq_one_iff.1 e;exact D x (by rw[T])
   rw[dif_neg q];simp only[ax];exact⟨_,rfl,by simpa using f⟩;simp at*
def ag.NN{f:FuncId}{fn:Func}{aG:ee}(J:P.funcs[f]?=some fn)(l:xe P fn=some aG){args:List aa}{r:aa}(h:bA P G [] aG.body (λ e s'=>(e=.normal\/e=.ret)/\∃eU,sY aG.results s'=some eU/\View s'.σ eU r) ⟨args++bI (aG.aH-args.length) (.aM []),λ _=>none,0⟩):ag P G f args r:=by
 unfold xe at l;split at l;simp at l;rename_i o;split at l;rename_i c R hb F;simp only[eI]at l;obtain⟨qE,B,rfl⟩:=l;refine⟨⟨fn,J,by simpa using o,by simp[hb]⟩,λ w vs ok M I=>?_⟩;refine calls_of_wp J hb ?_;have A:vs.length=args.length:=bq.len I;have K:pX G [] (λ k=>w.heap.size<=k) ⟨λ _=>none,ok⟩ w ⟨args++bI (fn.ntmps-args.length) (.aM []),λ _=>none,0⟩ {tmps:=vs.toArray++wo (fn.ntmps-vs.toArray.size) undef,defers:=[]}:=by
   refine⟨?_,M,λ _ _ _=>rfl,rfl⟩;show bq _ w _ _;simp only[aaG,aaH,r3,A];refine bq.append I (fu.2 ⟨am,λ j c z=>?_⟩);have C:j<fn.ntmps-args.length:=by have:=(fl.1 z).1;simpa using this
   simp only[aaI,C,if_true,bf]at z⊢;subst z;exact⟨undef,rfl,by simp only[ax,undef];exact⟨#[],rfl,by simp[bq]⟩⟩
 refine h c B _ _ w _ _ K ?_;intro e s' E' w' a' Q a i;obtain⟨O,eU,u,n⟩:=Q;obtain⟨v,y,x⟩:=XH i F u;have q:∃v,(results fn a'.tmps).run P w'=.ok v w'/\∃v' m,P1 v=.returned v'/\Adv (λ k=>w.heap.size<=k) ⟨λ _=>none,ok⟩ ⟨λ _=>none,m⟩ w w'/\(∀b,m b->b<w'.heap.size)/\ax ⟨λ _=>none,m⟩ w' r v':=by refine⟨v,y,v,(E'.jv s'.σ).ok,rfl,?_,?_,?_⟩;refine⟨⟨λ _ _ h=>by simp at h,λ b hb=>.inl (a.step.ok b hb),a.step.same⟩,a.os,a.tape,a.output,a.size,a.block,?_⟩;rintro b(hb|⟨id,av,k,N,D,d⟩);exact a.rC b hb;obtain⟨g,L,t,ty,p⟩:=i.inv.blk id av D;rw[p.μ]at d;simp only[bf,c5]at d;right;rw[<-d.1];exact p.own;rintro b(hb|⟨id,av,k,N,D,d⟩);exact i.inv.hR b hb;obtain⟨g,L,t,ty,p⟩:=i.inv.blk id av D;rw[p.μ]at d;simp only[bf,c5]at d;rw[<-d.1];exact l0 p.heap;exact n G _ E' w' v i.inv x
 rcases O with rfl|rfl;exact⟨i.defers,q⟩;exact⟨i.defers,q⟩;simp at l
end
section
variable{P:Program}{G:Nat->Option (List aa)}{π:Id}{Q:cn->dD->Prop}{s:dD}
def jn:List aa->List aa->Prop|[],[]=>True|c::cs,d::ds=>(d=.top\/d=c)/\jn cs ds|_,_=>False
def jn.rep{E:Env}{w:World}:∀{cs ds:List aa}{vs:List Value},jn cs ds->bq E w cs vs->bq E w ds vs|[],[],_,_,h=>h|c::cs,d::ds,vs,a,h=>by simp only[jn]at a;simp only[bq]at h⊢;have⟨v,rest,e,h1,b⟩:=h;refine⟨v,rest,e,?_,jn.rep a.2 b⟩;rcases a.1 with rfl|rfl;simp[ax];exact h1|[],_::_,_,h,_=>by simp[jn]at h|_::_,[],_,h,_=>by simp[jn]at h
def bN.forget{t c:List aa}{σ b:aQ}{n d:Nat}(f:jn t c)(e:∀id,b id=none\/b id=σ id)(g:n<=d):bN G π ⟨t,σ,n⟩ ⟨c,b,d⟩:=λ own E w _ a=>⟨E,P2 own π E w,f.rep a.frame,a.inv.sub e,a.free.mono g,a.defers⟩
def bN.slots{t b:List aa}{σ:aQ}{n a:Nat}(c:jn t b)(d:n<=a):bN G π ⟨t,σ,n⟩ ⟨b,σ,a⟩:=bN.forget c (λ _=>.inr rfl) d
def FQ(P:Program)(G:Nat->Option (List aa))(π:Id)(x:cD)(Q:cn->dD->Prop):Nat->dD->Prop|0,_=>False|n+1,s=>bA P G π x (Then (FQ P G π x Q n) Q) s
def bA.rounds{x:cD}(n:Nat)(h:FQ P G π x Q n s):bA P G π (.loop x) Q s:=by
 intro c g own E w a R q t;cases c<;>simp only[gF,bf,reduceCtorEq]at g;case loop o=>cases h1:gF P o with|none=>simp[h1]at g|some qE=>
     simp only[h1,fk,bf,cD.loop.injEq]at g;subst g;refine wp_loop_rounds n ?_;have key:∀n s j f i,FQ P G π qE Q n s->g4 own π E j w f->pX G π own j f s i->Code.rounds P o R n i f:=by intro n;induction n with|zero=>intro s j f i h _ _;exact h.elim|succ n y=>intro s j f i h p q;refine h o h1 own j f i _ q ?_;intro e s' E' w' a' m b d;cases e with|normal=>exact y s' E' w' a' m (p.trans b) d|exit id=>exact t (.exit id) s' E' w' a' m (p.trans b) d|ret=>exact t .ret s' E' w' a' m (p.trans b) d
     exact key n s E w a h (P2 own π E w) q
 case region=>exfalso;revert g;unfold p9;(repeat' split)<;>simp
 all_goals(exfalso;revert g;(repeat' split)<;>simp)
def dY.Hx{α:Type}:dY α->Bool|.call _ _=>true|_=>false
def aua(G:Nat->Option (List aa))(σ:aQ)(p:Id)(d:Option Nat)(op:dY dO)(g:Option (Nat×Bool))(t:List aa):Option (List aa×bR×aQ):=match oP t g with|none=>none|some false=>some (iq t d (.aM []),{val:=.aM []},σ)|some true=>match ck σ p (op.map (dO.ev G t))with|some r=>some (iq t d r.val,r,σ.app r.up)|none=>none
end
section
variable(P:Program)(G:Nat->Option (List aa))(π:Id)
def vs(a:Nat)(Q:cn->dD->Prop)(n:Nat)(os:List dT)(i:Nat)(t:List aa)(σ:aQ):Prop:=rW P G π a (λ t σ=>Q .normal ⟨t,σ,n⟩) os i t σ
def Ex(a:Nat)(Q:cn->dD->Prop)(n:Nat)(d:List (Nat×Nat))(os:List dT)(i:Nat)(b:List bR)(t:List aa)(σ:aQ):Prop:=qH P G π a (λ c t σ=>B6 c d/\Q .normal ⟨t,σ,n⟩) os i b t σ
variable{P}{G}{π}
variable{base:Nat}{Q:cn->dD->Prop}{n:Nat}{ps:List (Nat×Nat)}{d:Option Nat}{g:Option (Nat×Bool)}{os:List dT}{i:Nat}{acc:List bR}{t:List aa}{σ:aQ}
def JI{σ:aQ}{p:Id}{op:dY aa}{K:bR->Prop}(h:op.Hx=false):uE P G σ p op K=(match ck σ p op with|some r=>K r|none=>False):=by cases op<;>first|rfl|simp[dY.Hx]at h
def Q5(a:List o0)(r:aa)(e:cn)(s:dD):Prop:=(e=.normal\/e=.ret)/\∃eU,sY a s=some eU/\View s.σ eU r
def QY{α:Type}(G:Nat->Option (List aa))(π:Id)(st:α->dD)(b:α->Prop)(m:α->Nat)(a:α)(Q:cn->dD->Prop):cn->dD->Prop|.normal,s'=>∃a',b a'/\m a'<m a/\bN G π s' (st a')|.exit i,s'=>Q (.exit i) s'|.ret,s'=>Q .ret s'
def ag.of{f:FuncId}{fn:Func}{aG:ee}(b:P.funcs[f]?=some fn)(a:xe P fn=some aG){args:List aa}{r:aa}(h:rX P G [] aG.body (Q5 aG.results r) ⟨args++bI (aG.aH-args.length) (.aM []),λ _=>none,0⟩):ag P G f args r:=ag.NN b a (bA.of h)
def aQ.of(S:List (Id×aJ)):aQ:=λ i=>S.lookup i
def qj{S:List (Id×aJ)}{i:Id}{b:aJ}:S.lookup i=some b->(i,b)∈S:=by induction S with|nil=>intro h;simp at h|cons x S a=>
   intro h;have⟨j,c⟩:=x;simp only[jh]at h;split at h;rename_i d;have:i=j:=by simpa using d
   subst this;cases h;simp;exact cX _ (a h)
def aQ.xS{S:List (Id×aJ)}{σ:aQ}(h:∀x∈S,σ x.1=some x.2)(i:Id):aQ.of S i=none\/aQ.of S i=σ i:=by cases a:S.lookup i with|none=>exact .inl a|some b=>right;show S.lookup i=σ i;rw[a];exact(h _ (qj a)).symm
def aQ.acB(up:List (Id×Option aJ))(σ c:aQ)(i:Id)(h:(∃x∈up,x.1=i)\/σ i=c i):σ.app up i=c.app up i:=by induction up generalizing σ c with|nil=>rcases h with⟨x,f,_⟩|h;simp at f;exact h|cons x up g=>have⟨j,b⟩:=x;simp only[mz];apply g;by_cases d:i=j;right;subst d;simp[wO];rcases h with⟨y,a,e⟩|h;simp only[cp]at a;rcases a with rfl|a;exact absurd e.symm d;exact .inl ⟨y,a,e⟩;right;simp[wO,d,h]
def aQ.F2(up:List (Id×Option aJ))(σ:aQ)(i:Id)(h:∀x∈up,x.1≠i):σ.app up i=σ i:=by induction up generalizing σ with|nil=>rfl|cons x up a=>have⟨j,b⟩:=x;simp only[mz];rw[a _ λ y c=>h y (cX _ c),wN];exact λ e=>h (j,b) am e.symm
end
section
variable{P:Program}{G:Nat->Option (List aa)}
def Fin(G:Nat->Option (List aa))(p:Id)(S:List (Id×aJ))(a:aQ)(eU:aa)(r:bR):Prop:=∀own E w v,Inv G own E w a->ax E w eU v->E.μ p=none->∃E',g4 own p E E' w w/\Inv G own E' w ((aQ.of S).app r.up)/\ax E' w r.val v
def ace(G:Nat->Option (List aa))(p:Id)(S:List (Id×aJ))(a:List o0)(r:bR)(e:cn)(s:dD):Prop:=(e=.normal\/e=.ret)/\∃eU,sY a s=some eU/\Fin G p S s.σ eU r
def cv.alF{f:FuncId}{fn:Func}{aG:ee}(hf:P.funcs[f]?=some fn)(Q:xe P fn=some aG){args:List aa}{p:Id}{S:List (Id×aJ)}{r:bR}(h:bA P G p aG.body (ace G p S aG.results r) ⟨args++bI (aG.aH-args.length) (.aM []),aQ.of S,0⟩):cv P G f args p S r:=by
 unfold xe at Q;split at Q;simp at Q;rename_i T;split at Q;rename_i c rs hb ahB;simp only[eI]at Q;obtain⟨qE,ahJ,rfl⟩:=Q;refine⟨⟨fn,hf,by simpa using T,by simp[hb]⟩,λ own E w σ vs hS H hr kB=>?_⟩;refine calls_of_wp hf hb ?_;have agL:vs.length=args.length:=bq.len hr;let m:Nat->Prop:=λ g=>(∃x∈S,∃y,E.μ x.1=some y/\y.1=g)\/w.heap.size<=g;have O:∀i,aQ.of S i=none\/aQ.of S i=σ i:=aQ.xS hS;have D:∀g,m g->own g:=by rintro g(⟨x,o,y,J,rfl⟩|hg);have⟨g,N,l,ty,a⟩:=H.blk _ _ (hS x o);have:=a.μ.symm.trans J;cases this;exact a.own;exact H.new g hg
 have Hg:Inv G m E w (aQ.of S):=by refine⟨H.hR,λ id av q=>?_,(H.sub O).inj,H.jX,λ k hk=>.inr hk⟩;have hm:=qj q;have⟨g,N,l,ty,a⟩:=H.blk _ _ (hS _ hm);exact⟨g,N,l,ty,a.μ,a.heap,a.size,a.len,a.most,.inl ⟨_,hm,_,a.μ,rfl⟩,a.ok,a.no,a.k,a.row⟩
 have hm:pX G p m E w ⟨args++bI (fn.ntmps-args.length) (.aM []),aQ.of S,0⟩ {tmps:=vs.toArray++wo (fn.ntmps-vs.toArray.size) undef,defers:=[]}:=by
   refine⟨?_,Hg,λ j hj _=>kB j hj,rfl⟩;show bq _ w _ _;simp only[aaG,aaH,r3,agL];refine bq.append hr (fu.2 ⟨am,λ j c hj=>?_⟩);have rk:j<fn.ntmps-args.length:=by have:=(fl.1 hj).1;simpa using this
   simp only[aaI,rk,if_true,bf]at hj⊢;subst hj;exact⟨undef,rfl,by simp only[ax,undef];exact⟨#[],rfl,by simp[bq]⟩⟩
 refine h c ahJ m E w _ _ hm ?_;intro e s' E' w' a' hq had A;have⟨I,eU,c3,Z⟩:=hq;have⟨v,j0,ahH⟩:=XH A ahB c3;have⟨L,W,z,ahI⟩:=Z m E' w' v A.inv ahH A.free.self;have d:g4 m p E L w w':=had.trans W;have U:Adv own E L w w':=⟨d.step,d.os,d.tape,d.output,d.size,λ k hk ho=>d.block k hk λ h=>ho (D k h),λ b hb=>(d.rC b hb).imp id (D b)⟩;have key:∀i av,σ i=some av->aQ.of S i=none->∀g N l ty,pU E own w i av g N l ty->¬m g:=by
   intro i av q t g N l ty a;rintro(⟨x,o,y,J,I⟩|hg);refine H.inj x.1 i y (g,av.k,N) (by simp[hS x o]) (by simp[q]) ?_ J a.μ I;intro e;have:=hS x o;have h1:(aQ.of S) x.1≠none:=by show S.lookup x.1≠none;intro hl;rw[aaJ]at hl;have:=hl x o;simp at this
   rw[e]at h1;exact h1 t;have:=l0 a.heap;omega
 have fin:∃R,P1 v=.returned R/\lV G own E w σ p r R L w':=by
   refine⟨v,rfl,U,?_,ahI,d.ids⟩;have n:∀i,(σ.app r.up i=(aQ.of S).app r.up i)\/(σ.app r.up i=σ i/\(aQ.of S i=none)):=by intro i;by_cases h:(∃x∈r.up,x.1=i)\/σ i=aQ.of S i;exact .inl (aQ.acB r.up σ (aQ.of S) i h);right;have h1:∀x∈r.up,x.1≠i:=λ x o e=>h (.inl ⟨x,o,e⟩);refine⟨aQ.F2 r.up σ i h1,?_⟩;rcases O i with F|F;exact F;exact absurd (.inr F.symm) h
   have u:∀i av,σ i=some av->aQ.of S i=none->∃g N l ty,pU E own w i av g N l ty/\pU L own w' i av g N l ty/\¬m g:=by intro i av q t;have⟨g,N,l,ty,a⟩:=H.blk i av q;have s:=key i av q t g N l ty a;refine⟨g,N,l,ty,a,a.keep d.step (d.block g (l0 a.heap) s) (λ hf nz=>?_),s⟩;exact(d.rC g nz).elim (a.no hf) s
   refine⟨z.hR,λ i av q=>?_,λ i j x y C B Y o J=>?_,z.jX,λ k hk=>H.new k (bx d.size hk)⟩;rcases n i with h1|⟨h1,F⟩;rw[h1]at q;have⟨g,N,l,ty,a⟩:=z.blk i av q;exact⟨g,N,l,ty,a.μ,a.heap,a.size,a.len,a.most,D g a.own,a.ok,a.no,a.k,a.row⟩;rw[h1]at q;have⟨g,N,l,ty,_,a,_⟩:=u i av q F;exact⟨g,N,l,ty,a⟩;have new:∀i x,σ.app r.up i≠none->σ.app r.up i=(aQ.of S).app r.up i->L.μ i=some x->m x.1:=by intro i x t I o;rw[I]at t;cases hb:(aQ.of S).app r.up i with|none=>exact absurd hb t|some av=>have⟨g,N,l,ty,a⟩:=z.blk i av hb;have:=a.μ.symm.trans o;cases this;exact a.own
   have X:∀i x,σ.app r.up i≠none->σ.app r.up i=σ i->aQ.of S i=none->L.μ i=some x->¬m x.1:=by intro i x t I q o;rw[I]at t;cases hb:σ i with|none=>exact absurd hb t|some av=>have⟨g,N,l,ty,_,a,s⟩:=u i av hb q;have:=a.μ.symm.trans o;cases this;exact s
   rcases n i with h1|⟨h1,F⟩<;>rcases n j with V|⟨V,h4⟩;exact z.inj i j x y (h1▸C) (V▸B) Y o J;intro e;exact X j y B V h4 J (e▸new i x C h1 o);intro e;exact X i x C h1 F o (e▸new j y B V J);have K:∀i x,σ.app r.up i≠none->σ.app r.up i=σ i->aQ.of S i=none->L.μ i=some x->E.μ i=some x:=by intro i x t I q o;rw[I]at t;cases hb:σ i with|none=>exact absurd hb t|some av=>have⟨g,N,l,ty,a,agk,s⟩:=u i av hb q;rw[a.μ,<-agk.μ,o]
   exact H.inj i j x y (h1▸C) (V▸B) Y (K i x C h1 F o) (K j y B V h4 J)
 have M:∃v0,(results fn a'.tmps).run P w'=.ok v0 w'/\∃R E',P1 v0=.returned R/\lV G own E w σ p r R E' w':=by have⟨R,h1,F⟩:=fin;exact⟨v,j0,R,L,h1,F⟩
 rcases I with rfl|rfl;exact⟨A.defers,M⟩;exact⟨A.defers,M⟩;simp at Q
def Fin.same{p:Id}{S:List (Id×aJ)}{a:aQ}{eU:aa}{r:bR}(d:r.val=eU)(c:∀i,(aQ.of S).app r.up i=none\/(aQ.of S).app r.up i=a i):Fin G p S a eU r:=λ own E w _ e b _=>⟨E,P2 own p E w,e.sub c,d▸b⟩
end
section
open Go.RowKit
def cv.alG{P:Program}{G:Nat->Option (List aa)}{f:FuncId}{fn:Func}(o:P.funcs[f]?=some fn)(i:(fn.name== "runtime.NumGoroutine")=false)(hb:fn.body.isSome=true){args:List aa}{p:Id}{S:List (Id×aJ)}{val:aa}{rd:List Id}(h:∀own E w σ vs,(∀x∈S,σ x.1=some x.2)->Inv G own E w σ->bq E w args vs->Calls P f vs.toArray w λ e w'=>∃v,e=.returned v/\Below w.heap.size w w'/\QO val v):cv P G f args p S {val,rd}:=by refine⟨⟨fn,o,i,hb⟩,λ own E w σ vs r j q _=>(h own E w σ vs r j q).mono λ e w' s=>?_⟩;obtain⟨v,rfl,a,m⟩:=s;have c:Adv own E E w w':=⟨⟨λ _ _ h=>h,λ _ h=>h,λ b hb=>a.block b (j.hR b hb)⟩,a.os,a.tape,a.output,a.size,λ k t _=>a.block k t,λ _ h=>.inl h⟩;refine⟨v,E,rfl,c,?_,m E w',λ _ _=>rfl⟩;refine j.keep c rfl (λ b hb=>gM (j.hR b hb) a.size) λ id av g N n l=>?_;have⟨z,y,u,ty,d⟩:=j.blk id av n;rw[d.μ]at l;simp only[bf,c5]at l;have⟨rfl,_,rfl⟩:=l;exact⟨a.block _ (l0 d.heap),d.no⟩
def aii{G:Nat->Option (List aa)}{own:Nat->Prop}{E:Env}{w:World}{σ:aQ}(q:Inv G own E w σ){x:aa}{v:Value}(p:ax E w x v){k:IntKind}{zs:List Int}{rd:List Id}(h:iM σ 1 x=some (zs.map (aa.int k),rd)):∃a cap,v=.slice a zs.length cap/\zs.length<=cap/\(zs=[]\/∃b o,a=some ⟨b,o,none⟩/\b<w.heap.size/\∀j,j<zs.length->w.cell? ⟨b,o+j,none⟩=some (.int k (zs[j]?.getD 0))):=by obtain⟨_,a,cap,rfl,d,c⟩:=Gv q p h;refine⟨a,cap,am,by simpa using d,?_⟩;rcases c with c|⟨b,o,rfl,c⟩;left;simpa using c;cases zs with|nil=>exact .inl rfl|cons z zs=>
   right;have e:flat ((z::zs).map (aa.int k))=(z::zs).map (aa.int k):=by generalize z::zs=l;induction l with|nil=>rfl|cons y l n=>simp only[mw,flat,aaK,aa.cells]at n⊢;rw[n];rfl
   rw[e]at c;have m:∀j,j<(z::zs).length->w.cell? ⟨b,o+j,none⟩=some (.int k ((z::zs)[j]?.getD 0)):=by intro j i;have⟨v,h1,f⟩:=c j (.int k (z::zs)[j]) (by rw[kv,eu i];rfl);simp only[ax]at f;subst f;rw[h1,eu i];rfl
   refine⟨b,o,rfl,?_,m⟩;have:=m 0 am;cases g:w.heap[b]? with|none=>simp[World.cell?,g]at this|some r=>exact(Array.getElem?_eq_some_iff.1 g).1
end
def aJ.jx(b:aJ):aJ:={b with fr:=true}
def nw(S:List (Id×aJ)):List (Id×Option aJ):=S.map λ x=>(x.1,some x.2.jx)
open Classical in theorem Rj{σ:aQ}(i:Id):∀(S:List (Id×aJ))(pT:aQ),(∀x∈S,σ x.1=some x.2)->pT.app (nw S) i=if∃x∈S,x.1=i then(σ i).map aJ.jx else pT i
 |[],pT,_=>by simp[nw,mz]|x::S,pT,h=>by
   show mz (pT.put x.1 (some x.2.jx)) (nw S) i=_;rw[Rj i S _ fun y hy=>h y (cX _ hy)];by_cases h1:∃y∈S,y.1=i;.rw[if_pos h1,if_pos];obtain⟨y,hy,e⟩:=h1;exact⟨y,cX _ hy,e⟩
   . rw[if_neg h1];by_cases h2:i=x.1;.subst h2;rw[if_pos ⟨x,am,rfl⟩,h x am,BQ];rfl
     . rw[if_neg,wN _ _ _ h2];rintro⟨y,hy,e⟩;rcases cp.1 hy with rfl|hy;.exact h2 e.symm
       .exact h1 ⟨y,hy,e⟩
def Ws{S:List (Id×aJ)}{σ:aQ}(c:∀x∈S,σ x.1=some x.2){x:Id×aJ}(d:x∈S):aQ.of S x.1=some x.2:=by cases a:S.lookup x.1 with|none=>rw[aaJ]at a;have:=a x d;simp at this|some b=>have:=c _ (qj a);rw[c x d]at this;show S.lookup x.1=_;rw[a];exact this.symm
section
variable{P:Program}{G:Nat->Option (List aa)}
def Inv.jv{own:Nat->Prop}{E:Env}{w:World}{σ:aQ}{S:List (Id×aJ)}(a:Inv G own E w σ)(n:∀x∈S,σ x.1=some x.2):Inv G (λ k=>w.heap.size<=k) (E.jv (aQ.of S)) w (λ _=>none)where
 hR:=by rintro b(hb|⟨id,av,k,N,l,c⟩);exact a.hR b hb;obtain⟨g,t,f,ty,e⟩:=a.blk id av (n _ (qj l));rw[e.μ]at c;simp only[bf,c5]at c;rw[<-c.1];exact l0 e.heap
 blk:=λ id av h=>by simp at h
 inj:=λ i j x y h=>absurd rfl h;jX:=λ g cs q=>by obtain⟨h1,s⟩:=a.jX g cs q;exact⟨.inl h1,BR (⟨λ _ _ h=>h,λ _ h=>.inl h,λ _ _=>rfl⟩:fm E.bare (E.jv (aQ.of S)).bare w w) rfl cs 0 s⟩
 new:=λ k r=>r
def cv.alI{f:FuncId}{args args':List aa}{r:aa}{p:Id}{S:List (Id×aJ)}(h:ag P G f args' r)(Z:dy (aQ.of S) args args'):cv P G f args p S {val:=r,rd:=S.map (·.1),up:=nw S}:=by
 refine⟨h.1,λ own E w σ vs q m hr kB=>?_⟩;have I:=Z.nG (m.sub (aQ.xS q)) hr;refine(h.2 w vs _ (m.jv q) I).mono λ e w' Q=>?_;obtain⟨v,o,rfl,a,F,M⟩:=Q;have c:Adv own E ⟨E.μ,o⟩ w w':=by refine⟨⟨λ _ _ h=>h,λ b hb=>a.step.ok b (.inl hb),λ b hb=>a.step.same b (.inl hb)⟩,a.os,a.tape,a.output,a.size,λ k R _=>a.block k R ac,λ b hb=>?_⟩;rcases a.rC b hb with(h1|⟨id,av,k,N,K,u⟩)|h1;exact .inl h1;have⟨g,oZ,n,ty,d⟩:=m.blk id av (q _ (qj K));rw[d.μ]at u;simp only[bf,c5]at u;rw[<-u.1];exact .inr d.own;exact .inr (m.new b h1)
 refine⟨v,⟨E.μ,o⟩,rfl,c,?_,uZ (⟨λ _ _ h=>by simp at h,λ _ h=>h,λ _ _=>rfl⟩:fm ⟨λ _=>none,o⟩ ⟨E.μ,o⟩ w' w') r v M,λ _ _=>rfl⟩;have s:=λ i=>Rj (σ:=σ) i S σ q;refine⟨F,λ id av K=>?_,λ i j x y D L J z X=>?_,λ g cs H=>?_,λ k R=>m.new k (bx a.size R)⟩;have l:σ.app (nw S) id=some av:=K;rw[s id]at l;split at l;rename_i O;obtain⟨x,z,rfl⟩:=O;rw[q x z]at l;simp only[fk,bf]at l;subst l;have⟨g,N,n,ty,d⟩:=m.blk _ _ (q x z);have hb:=a.block g (l0 d.heap) (by have:=l0 d.heap;omega);exact⟨g,N,n,ty,d.μ,hb.trans d.heap,d.size,d.len,d.most,d.own,λ _=>a.step.ok g (.inr ⟨x.1,x.2,x.2.k,N,Ws q z,d.μ⟩),λ T=>by simp[aJ.jx]at T,d.k,eK.keep c.step hb d.row⟩;rename_i A;have⟨g,N,n,ty,d⟩:=m.blk _ _ l;have H:=l0 d.heap;refine⟨g,N,n,ty,d.keep c.step (a.block g H ac) λ T hb=>?_⟩;rcases a.rC g hb with(h1|⟨U,W,k2,FJ,B,C⟩)|h1;exact d.no T h1;have u:=qj B;refine m.inj id U _ _ (by simp[l]) (by simp[q _ u]) ?_ d.μ C rfl;rintro rfl;exact A ⟨_,u,rfl⟩;omega;have t:∀i,σ.app (nw S) i≠none->σ i≠none:=by intro i Y Q;apply Y;rw[s i,Q];split<;>rfl
 exact m.inj i j x y (t i D) (t j L) J z X;have⟨h1,V⟩:=m.jX g cs H;exact⟨c.step.ok g h1,BR c.step.bare (c.step.same g h1) cs 0 V⟩
def cv.of_flat{f:FuncId}{args args':List aa}{r:aa}{p:Id}{S:List (Id×aJ)}(h:ag P G f args' r)(o:dy (aQ.of S) args args')(t:sf r):cv P G f args p S {val:=r,rd:=S.map (·.1)}:=by refine⟨h.1,λ own E w σ vs n i x C=>?_⟩;have m:=o.nG (i.sub (aQ.xS n)) x;refine(h.2 w vs _ (i.jv n) m).mono λ e w' u=>?_;obtain⟨v,z,rfl,a,s,j⟩:=u;have c:Adv own E E w w':=⟨⟨λ _ _ h=>h,λ b hb=>hb,λ b hb=>a.step.same b (.inl hb)⟩,a.os,a.tape,a.output,a.size,λ k y _=>a.block k y ac,λ b hb=>.inl hb⟩;refine⟨v,E,rfl,c,?_,t _ _ _ _ _ j,λ _ _=>rfl⟩;refine i.keep c rfl (λ b hb=>gM (i.hR b hb) a.size) λ id av g N q l=>?_;have⟨F,D,B,ty,d⟩:=i.blk id av q;rw[d.μ]at l;simp only[bf,c5]at l;have⟨rfl,_,rfl⟩:=l;have A:=l0 d.heap;exact⟨a.block _ A ac,d.no⟩
def ag.alH{f:FuncId}{args:List aa}{r:bR}(h:cv P G f args [] [] r)(g:sf r.val):ag P G f args r.val:=by refine⟨h.1,λ w vs ok c d=>?_⟩;refine(h.2 _ _ w _ vs am c d (λ _ _=>rfl)).mono λ e w' i=>?_;obtain⟨v,E',rfl,a⟩:=i;refine⟨v,ok,rfl,⟨⟨λ _ _ h=>h,λ _ h=>h,a.jo.step.same⟩,a.jo.os,a.jo.tape,a.jo.output,a.jo.size,a.jo.block,λ _ h=>.inl h⟩,λ b hb=>?_,g _ _ _ _ _ a.rep⟩;exact gM (c.hR b hb) a.jo.size
def ym:aa->Bool->Option Bool|.bool b,want=>some (b==want)|.top,_=>none|.j9,_=>none|_,_=>some false
end
section
variable(P:Program)(G:Nat->Option (List aa))(π:Id)
def ZH(base:Nat)(Q:cn->dD->Prop)(n:Nat)(ps:List (Nat×Nat))(o:dT)(os:List dT)(i:Nat)(acc:List bR)(t:List aa)(σ:aQ):Option Bool->Prop|some true=>Ex P G π base Q n ps (⟨o.dst,o.op,none⟩::os) i acc t σ|some false=>Ex P G π base Q n ps os (i+1) ({val:=.aM []}::acc) (iq t o.dst (.aM [])) σ|none=>False
variable{P}{G}{π}
variable{base:Nat}{Q:cn->dD->Prop}{n:Nat}{ps:List (Nat×Nat)}{d:Option Nat}{os:List dT}{i:Nat}{acc:List bR}{t:List aa}{σ:aQ}
theorem arB{j:Nat}{want:Bool}:oP t (some (j,want))=ym (t.getD j (.aM [])) want:=by rw[dE];show(match t[j]? with|some (.bool b)=>some (b==want)|some .top|some .j9=>none|_=>some false)=_;cases t[j]? with|none=>rfl|some c=>cases c<;>rfl
theorem dg{op:dY dO}{j:Nat}{want:Bool}:Ex P G π base Q n ps (⟨d,op,some (j,want)⟩::os) i acc t σ=ZH P G π base Q n ps ⟨d,op,none⟩ os i acc t σ (ym (t.getD j (.aM [])) want):=by rw[<-arB];unfold Ex ZH;simp only[qH];cases oP t (some (j,want))with|none=>rfl|some b=>cases b<;>rfl
end
section
variable{σ:aQ}{p:Id}
theorem Rs{k:IntKind}{a b:Int}(h:b≠0):eY .quo .int (.int k a) (.int k b)=some (.int k (k.wrap (a.tdiv b))):=by simp only[eY];rw[show mi .quo .int (.int k a) (.int k b)=some (.int k (k.wrap (a.tdiv b)))from by simp[mi,qG,h]]
theorem adl{k:IntKind}{a b:Int}(h:b≠0):eY .rem .int (.int k a) (.int k b)=some (.int k (a.tmod b)):=by simp only[eY];rw[show mi .rem .int (.int k a) (.int k b)=some (.int k (a.tmod b))from by simp[mi,qG,h]]
theorem Lb{k k':IntKind}{a b:Int}(h:0<=b):eY .shl .int (.int k a) (.int k' b)=some (.int k (k.wrap (a*2^(min b.toNat k.bits)))):=by simp only[eY];rw[show mi .shl .int (.int k a) (.int k' b)=some (.int k (k.wrap (a*2^(min b.toNat k.bits))))from by simp[mi,qG,Int.not_lt.2 h]]
theorem B9{k k':IntKind}{a b:Int}(h:0<=b):eY .shr .int (.int k a) (.int k' b)=some (.int k (a.fdiv (2^(min b.toNat k.bits)))):=by simp only[eY];rw[show mi .shr .int (.int k a) (.int k' b)=some (.int k (a.fdiv (2^(min b.toNat k.bits))))from by simp[mi,qG,Int.not_lt.2 h]]
abbrev xQ(d x:Nat):dT:=⟨some d,.mv (.t x),none⟩
abbrev alr(d:Nat)(b:Bool):dT:=⟨some d,.mv (.c (.bool b)),none⟩
abbrev Wo(d:Nat):dT:=⟨some d,.mv (.c .ar),none⟩
abbrev NI(d n x:Nat):dT:=⟨some d,.load false n (.t x),none⟩
abbrev alv(d n x:Nat):dT:=⟨some d,.load true n (.t x),none⟩
abbrev alu(d o x:Nat):dT:=⟨some d,.vn o (.t x),none⟩
abbrev alw(d x:Nat):dT:=⟨some d,.box (.t x),none⟩
abbrev NK(d x y:Nat):dT:=⟨some d,.pick (.t x) (.t y) (.c (.bool false)),none⟩
abbrev als(d f x:Nat):dT:=⟨some d,.call (.f f) [.t x],none⟩
abbrev alq(d k b x y:Nat):dT:=⟨some d,.append k b (.t x) (.t y),none⟩
abbrev lx(d n x g:Nat)(b:Bool):dT:=⟨some d,.load false n (.t x),some (g,b)⟩
abbrev GY(d n x g:Nat)(b:Bool):dT:=⟨some d,.load true n (.t x),some (g,b)⟩
abbrev GX(d o x g:Nat)(b:Bool):dT:=⟨some d,.vn o (.t x),some (g,b)⟩
abbrev zk(l:List dT)(c:cD):cD:=.seq (.mR none l) c
abbrev adO(l:List dT):cD:=.mR none l
def lp(P:Program)(f:FuncId)(aG:ee):Prop:=∃fn,P.funcs[f]?=some fn/\xe P fn=some aG
end
section
variable{P:Program}{G:Nat->Option (List aa)}
def ag.has{f:FuncId}{aG:ee}(h:lp P f aG){args:List aa}{r:aa}(k:rX P G [] aG.body (Q5 aG.results r) ⟨args++bI (aG.aH-args.length) (.aM []),λ _=>none,0⟩):ag P G f args r:=by have⟨fn,h1,a⟩:=h;exact ag.of h1 a k
def aro{σ:aQ}{a:Bool}{n e o:Nat}{id:Id}{av:aJ}{el:aa}(h:σ id=some av)(b:av.els[e]?=some el):lg σ a n (.ref id e o)=(part a el.cells o n).map λ v=>{val:=v,rd:=[id]}:=by simp[lg,h,b]
end
section
variable{P:Program}{G:Nat->Option (List aa)}{own:Nat->Prop}{E:Env}{w:World}{σ:aQ}
def View.fn{σ:aQ}{f:Fn}{a c a' c':List aa}(i:dy σ a a')(h:dy σ c c'):View σ (.fn f a c) (.fn f a' c'):=λ G own E w v d b=>by simp only[ax]at b⊢;have⟨xs,ys,e,h1,g⟩:=b;exact⟨xs,ys,e,i.nG d h1,h.nG d g⟩
def View.ref{σ:aQ}{id:Id}{av:aJ}{e o:Nat}{el:aa}{cs:List aa}(m:σ id=some av)(i:av.els[e]?=some el)(h:dy σ el.cells cs):View σ (.ref id e o) (.cE cs o):=λ G own E w v j f=>by
 have⟨g,N,p,ty,a⟩:=j.blk id av m;simp only[ax]at f⊢;obtain⟨s,k',q,c,rfl⟩:=f;rw[a.μ]at c;simp only[bf,c5]at c;have⟨rfl,rfl,rfl⟩:=c;refine⟨g,e*av.k,rfl,.inr ⟨id,av,av.k,N,m,a.μ⟩,?_⟩;refine rL.2 (h.x5 j ?_);have b:=(fl.1 i).1;have:=AO (l:=e) (r:=e+1) a.k a.row ac ac;rw[cI]at this;have n:(av.els.take (e+1)).drop e=[el]:=by rw[Fx,show e+1-e=1 from ac,List.drop_eq_getElem_cons b];have⟨_,d⟩:=fl.1 i;simp[d]
 rw[n]at this;simpa[flat]using this
def gD(F:List (Id×aJ))(c d:aa):Prop:=∀G own E w v,Inv G own E w (aQ.of F)->ax E w c v->ax ⟨E.μ,(E.jv (aQ.of F)).ok⟩ w d v
def e6(F:List (Id×aJ)):List aa->List aa->Prop|[],[]=>True|c::cs,d::ds=>gD F c d/\e6 F cs ds|_,_=>False
def gD.same(F:List (Id×aJ))(c:aa):gD F c c:=λ _ _ E w v _ a=>uZ (⟨λ _ _ h=>h,λ _ h=>.inl h,λ _ _=>rfl⟩:fm E ⟨E.μ,(E.jv (aQ.of F)).ok⟩ w w) _ v a
def gD.view{F:List (Id×aJ)}{c d:aa}(h:View (aQ.of F) c d):gD F c d:=λ _ _ E w v a b=>uZ (⟨λ _ _ h=>by simp[Env.jv]at h,λ _ h=>h,λ _ _=>rfl⟩:fm (E.jv (aQ.of F)) ⟨E.μ,(E.jv (aQ.of F)).ok⟩ w w) _ v (h _ _ _ _ _ a b)
def e6.same(F:List (Id×aJ)):∀cs:List aa,e6 F cs cs|[]=>trivial|c::cs=>⟨gD.same F c,e6.same F cs⟩
def e6.nG{F:List (Id×aJ)}(b:Inv G own E w (aQ.of F)):∀{cs ds:List aa}{vs:List Value},e6 F cs ds->bq E w cs vs->bq ⟨E.μ,(E.jv (aQ.of F)).ok⟩ w ds vs|[],[],_,_,h=>by simpa[bq]using h|c::cs,d::ds,vs,a,h=>by simp only[e6]at a;simp only[bq]at h⊢;have⟨v,rest,e,h1,f⟩:=h;exact⟨v,rest,e,a.1 _ _ _ _ _ b h1,e6.nG b a.2 f⟩|[],_::_,_,h,_=>by simp[e6]at h|_::_,[],_,h,_=>by simp[e6]at h
def e6.get{F:List (Id×aJ)}:∀{cs ds:List aa},e6 F cs ds->∀(j:Nat)(d:aa),ds[j]?=some d->∃c,cs[j]?=some c/\gD F c d|[],[],_,j,d,h=>by simp at h|c::cs,d::ds,a,0,b,h=>by simp at h;subst h;exact⟨c,rfl,a.1⟩|c::cs,d::ds,a,j+1,b,h=>by simpa using e6.get a.2 j b (by simpa using h)|[],_::_,h,_,_,_=>by simp[e6]at h|_::_,[],h,_,_,_=>by simp[e6]at h
structure y0(F:List (Id×aJ))(i:Id)(av tL:aJ):Prop where
 k:tL.k=av.k
 fr:tL.fr=av.fr\/(tL.fr=true/\(i,av)∈F)no:tL.fr=false->∀x∈F,x.1≠i
 len:tL.els.length=av.els.length
 ap9:∀e∈tL.els,e.size=av.k
 els:e6 F (flat av.els) (flat tL.els)
def afQ{p:Id}{σ B:aQ}(F:List (Id×aJ))(s:∀x∈F,σ x.1=some x.2)(A:∀i,B i=none\/∃av q,σ i=some av/\B i=some q/\y0 F i av q)(o:Inv G own E w σ):g4 own p E ⟨E.μ,(E.jv (aQ.of F)).ok⟩ w w/\Inv G own ⟨E.μ,(E.jv (aQ.of F)).ok⟩ w B:=by
 have C:Inv G own E w (aQ.of F):=o.sub (aQ.xS s);have n:Adv own E ⟨E.μ,(E.jv (aQ.of F)).ok⟩ w w:=by refine⟨⟨λ _ _ h=>h,λ b hb=>.inl hb,λ b hb=>rfl⟩,rfl,rfl,rfl,a2 _,λ k hk _=>rfl,λ b hb=>?_⟩;rcases hb with h1|⟨id,av,k,N,A,r⟩;exact .inl h1;have⟨g,oZ,z,ty,a⟩:=o.blk id av (s _ (qj A));rw[a.μ]at r;simp only[bf,c5]at r;rw[<-r.1];exact .inr a.own
 refine⟨⟨n,λ _ _=>rfl⟩,(o.jv s).hR,λ id q f=>?_,λ i j x y J Q L W Y=>?_,λ g cs V=>?_,o.new⟩;rcases A id with h|⟨av,t,h1,R,l⟩;rw[h]at f;simp at f;rw[R]at f;cases f;have⟨g,N,z,ty,a⟩:=o.blk id av h1;refine⟨g,N,z,ty,by rw[l.k];exact a.μ,a.heap,by rw[l.k];exact a.size,by rw[l.len];exact a.len,a.most,a.own,λ u=>?_,λ u D=>?_,by rw[l.k];exact l.ap9,?_⟩;rcases l.fr with h|⟨_,h⟩;exact .inl (a.ok (h▸u));exact .inr ⟨id,av,av.k,N,Ws s h,a.μ⟩;have O:av.fr=false:=by rcases l.fr with h|⟨h,_⟩;rw[<-h];exact u;rw[u]at h;simp at h
 rcases D with h|⟨K,t,k2,FJ,S,M⟩;exact a.no O h;have r:=qj S;exact o.inj id K _ _ (by simp[h1]) (by simp[s _ r]) (λ e=>l.no u _ r e.symm) a.μ M rfl;intro j d hd;have⟨c,U,Z⟩:=l.els.get j d hd;have⟨v,I,H⟩:=a.row j c U;exact⟨v,I,Z _ _ _ _ _ C H⟩;have m:∀i,B i≠none->σ i≠none:=by intro i X T;rcases A i with h|⟨av,t,h1,_⟩;exact X h;rw[T]at h1;simp at h1
 exact o.inj i j x y (m i J) (m j Q) L W Y;have⟨h1,R⟩:=o.jX g cs V;exact⟨.inl h1,BR n.step.bare rfl cs 0 R⟩
def bN.nw{π:Id}{t e:List aa}{σ d:aQ}{n f:Nat}(F:List (Id×aJ))(g:∀x∈F,σ x.1=some x.2)(j:e6 F t e)(k:∀i,d i=none\/∃av b,σ i=some av/\d i=some b/\y0 F i av b)(h:n<=f):bN G π ⟨t,σ,n⟩ ⟨e,d,f⟩:=λ own E w a c=>by have⟨h1,l⟩:=afQ (p:=π) F g k c.inv;exact⟨_,h1,j.nG (c.inv.sub (aQ.xS g)) c.frame,l,c.free.mono h,c.defers⟩
def afh{σ:aQ}{k:Nat}{es:List aa}:iM σ k (.sl k es)=some (es,[]):=by simp[iM]
def zr{σ:aQ}{k:Nat}{id:Id}{off len:Nat}{t:Bool}{av:aJ}(h:σ id=some av)(b:av.k=k)(a:off+len<=av.els.length):iM σ k (.ah id k off len t)=some ((av.els.drop off).take len,[id]):=by simp[iM,h,b,a]
def yl{σ:aQ}{p id:Id}{k bytes len:Nat}{x:aa}{els ys:List aa}{rd:List Id}(d:iM σ k x=some (ys,rd))(f:ys≠[])(h:σ id=some ⟨els,k,false⟩)(a:len=els.length)(hb:(len+ys.length)*bytes<=140737488355328)(c:len+ys.length<=maxLen)(h1:(ys.all λ e=>e.cells.all j4)=true)(g:(els.all λ e=>e.cells.all j4)=true):qD σ p k bytes (.ah id k 0 len false) x=some {val:=.ah p k 0 (len+ys.length) false,rd:=id::rd,up:=[(id,none),(p,some ⟨els++ys,k,false⟩)]}:=by
 have b:ys.isEmpty=false:=by cases ys<;>simp at f⊢
 unfold qD;rw[d];simp only[b,h,h1,g,a,iz,if_false];rw[if_pos ⟨trivial,trivial,trivial,a2 _,by rw[<-a];exact hb,by rw[<-a];exact c,trivial⟩];simp
def oD{n:Nat}(h:n<=140737488355328):n<=maxLen:=bx h al
def arx{σ:aQ}{id:Id}{els:List aa}{k n e o:Nat}{el v:aa}(h:σ id=some ⟨els,k,false⟩)(a:els[e]?=some el)(b:v.cells.length=n)(c:o+n<=el.size)(h1:v.cells.all j4=true):uF σ n (.ref id e o) v=some {val:=.aM [],rd:=[id],up:=[(id,some ⟨els.set e (el.upd o v.cells),k,false⟩)]}:=by simp only[uF,h,a];rw[if_pos ⟨trivial,b,c,h1⟩]
mutual def aa.aY(ρ:Id->Id):aa->aa|.fn f a c=>.fn f (bD ρ a) (bD ρ c)|.agg cs=>.agg (bD ρ cs)|.aM cs=>.aM (bD ρ cs)|.sl k es=>.sl k (bD ρ es)|.eW k es=>.eW k (bD ρ es)|.ah i k o l t=>.ah (ρ i) k o l t|.ref i e o=>.ref (ρ i) e o|.cE cs o=>.cE (bD ρ cs) o|.bool b=>.bool b|.int k n=>.int k n|.str l=>.str l|.jA=>.jA|.kl=>.kl|.ar=>.ar|.top=>.top|.j9=>.j9|.nA n=>.nA n def bD(ρ:Id->Id):List aa->List aa|[]=>[]|c::cs=>c.aY ρ::bD ρ cs end
def aJ.aY(ρ:Id->Id)(b:aJ):aJ:=⟨bD ρ b.els,b.k,b.fr⟩
end
section
variable{ρ:Id->Id}
def ga:∀{cs:List aa},bD ρ cs=cs.map (aa.aY ρ)|[]=>rfl|c::cs=>by simp only[bD,mw,ga (cs:=cs)]
def mS{cs:List aa}:(bD ρ cs).length=cs.length:=by rw[ga,List.length_map]
def Og(c:aa):(c.aY ρ).cells=bD ρ c.cells:=by cases c<;>rfl
def XF(c:aa):(c.aY ρ).size=c.size:=by unfold aa.size;rw[Og,mS]
def IL{xs ys:List aa}:bD ρ (xs++ys)=bD ρ xs++bD ρ ys:=by simp only[ga,List.map_append]
def IM:∀{es:List aa},flat (bD ρ es)=bD ρ (flat es)
 |[]=>rfl|e::es=>by
   have h1:flat (e::es)=e.cells++flat es:=by simp[flat]
   have a:flat (bD ρ (e::es))=(e.aY ρ).cells++flat (bD ρ es):=by simp[flat,bD]
   rw[h1,a,Og,IL,IM (es:=es)]
def IP{k:Nat}{es:List aa}(h:∀e∈es,e.size=k):∀e∈bD ρ es,e.size=k:=by intro e a;rw[ga]at a;obtain⟨x,b,rfl⟩:=bd.1 a;rw[XF];exact h x b
def Oh{k:Nat}{es:List aa}(h:∀e∈bD ρ es,e.size=k):∀e∈es,e.size=k:=by intro e a;rw[<-XF (ρ:=ρ)];exact h _ (by rw[ga];exact bd.2 ⟨e,a,rfl⟩)
mutual def ax.aY{E E':Env}{w:World}(j:∀i x,E.μ i=some x->E'.μ (ρ i)=some x)(d:∀b,E.ok b->E'.ok b):∀(c:aa)(v:Value),ax E w c v->ax E' w (c.aY ρ) v|.bool _,_,r=>by simpa[ax,aa.aY]using r|.int _ _,_,r=>by simpa[ax,aa.aY]using r|.str _,_,r=>by simpa[ax,aa.aY]using r|.jA,_,r=>by simpa[ax,aa.aY]using r|.kl,_,r=>by simpa[ax,aa.aY]using r|.ar,_,r=>by simpa[ax,aa.aY]using r|.top,_,_=>by simp[ax,aa.aY]|.j9,_,r=>by simpa[ax,aa.aY]using r|.nA _,_,r=>by simpa[ax,aa.aY]using r|.fn f a c,v,r=>by simp only[ax,aa.aY]at r⊢;have⟨xs,ys,e,n,B⟩:=r;exact⟨xs,ys,e,bq.aY j d a _ n,bq.aY j d c _ B⟩|.agg cs,v,r=>by simp only[ax,aa.aY]at r⊢;have⟨xs,e,n⟩:=r;exact⟨xs,e,bq.aY j d cs _ n⟩|.aM cs,v,r=>by simp only[ax,aa.aY]at r⊢;have⟨xs,e,n⟩:=r;exact⟨xs,e,bq.aY j d cs _ n⟩|.sl k es,v,r=>by simp only[ax,aa.aY]at r⊢;have⟨a,cap,e,h1,q,u,A⟩:=r;refine⟨a,cap,by rw[mS];exact e,by rw[mS];exact h1,q,IP u,A.imp (λ h=>by rw[h];rfl) ?_⟩;rintro⟨b,o,y,hb,l⟩;exact⟨b,o,y,d b hb,cN.aY j d es o l⟩|.eW k es,v,r=>by simp only[ax,aa.aY]at r⊢;have⟨a,e,q,u,A⟩:=r;refine⟨a,by rw[mS];exact e,by rw[mS];exact q,IP u,A.imp (λ h=>by rw[h];rfl) ?_⟩;rintro⟨b,o,y,hb,l⟩;exact⟨b,o,y,d b hb,cN.aY j d es o l⟩|.ah id k off len t,v,r=>by simp only[ax,aa.aY]at r⊢;have⟨g,N,cap,s,rest⟩:=r;exact⟨g,N,cap,j _ _ s,rest⟩|.ref id e o,v,r=>by simp only[ax,aa.aY]at r⊢;have⟨g,k,N,s,rest⟩:=r;exact⟨g,k,N,j _ _ s,rest⟩|.cE cs o,v,r=>by simp only[ax,aa.aY]at r⊢;have⟨b,p,e,hb,l⟩:=r;exact⟨b,p,e,d b hb,eO.aY j d cs p l⟩def bq.aY{E E':Env}{w:World}(j:∀i x,E.μ i=some x->E'.μ (ρ i)=some x)(d:∀b,E.ok b->E'.ok b):∀(cs:List aa)(vs:List Value),bq E w cs vs->bq E' w (bD ρ cs) vs|[],_,r=>by simpa[bq,bD]using r|c::cs,vs,r=>by simp only[bq,bD]at r⊢;have⟨v,rest,e,C,m⟩:=r;exact⟨v,rest,e,ax.aY j d c v C,bq.aY j d cs rest m⟩def cN.aY{E E':Env}{w:World}(j:∀i x,E.μ i=some x->E'.μ (ρ i)=some x)(d:∀b,E.ok b->E'.ok b){b:Nat}:∀(es:List aa)(o:Nat),cN E w b o es->cN E' w b o (bD ρ es)|[],_,_=>by simp[cN,bD]|.agg cs::es,o,r=>by simp only[cN,bD,aa.aY,mS]at r⊢;exact⟨eO.aY j d cs o r.1,cN.aY j d es _ r.2⟩|.bool _::es,o,r|.int _ _::es,o,r|.str _::es,o,r|.jA::es,o,r|.kl::es,o,r|.ar::es,o,r|.top::es,o,r|.j9::es,o,r|.nA _::es,o,r|.fn _ _ _::es,o,r|.aM _::es,o,r|.sl _ _::es,o,r|.eW _ _::es,o,r|.ah _ _ _ _ _::es,o,r|.ref _ _ _::es,o,r|.cE _ _::es,o,r=>by simp only[cN,bD,aa.aY]at r⊢;have⟨⟨v,z,l⟩,m⟩:=r;have:=ax.aY j d _ v l;simp only[aa.aY]at this;exact⟨⟨v,z,this⟩,cN.aY j d es _ m⟩def eO.aY{E E':Env}{w:World}(j:∀i x,E.μ i=some x->E'.μ (ρ i)=some x)(d:∀b,E.ok b->E'.ok b){b:Nat}:∀(cs:List aa)(o:Nat),eO E w b o cs->eO E' w b o (bD ρ cs)|[],_,_=>by simp[eO,bD]|c::cs,o,r=>by simp only[eO,bD]at r⊢;have⟨⟨v,z,l⟩,m⟩:=r;exact⟨⟨v,z,ax.aY j d c v l⟩,eO.aY j d cs _ m⟩end
mutual def ax.dQ{E E':Env}{w:World}(j:∀i x,E'.μ (ρ i)=some x->E.μ i=some x)(d:∀b,E'.ok b->E.ok b):∀(c:aa)(v:Value),ax E' w (c.aY ρ) v->ax E w c v|.bool _,_,r=>by simpa[ax,aa.aY]using r|.int _ _,_,r=>by simpa[ax,aa.aY]using r|.str _,_,r=>by simpa[ax,aa.aY]using r|.jA,_,r=>by simpa[ax,aa.aY]using r|.kl,_,r=>by simpa[ax,aa.aY]using r|.ar,_,r=>by simpa[ax,aa.aY]using r|.top,_,_=>by simp[ax]|.j9,_,r=>by simpa[ax,aa.aY]using r|.nA _,_,r=>by simpa[ax,aa.aY]using r|.fn f a c,v,r=>by simp only[ax,aa.aY]at r⊢;have⟨xs,ys,e,y,F⟩:=r;exact⟨xs,ys,e,bq.dQ j d a _ y,bq.dQ j d c _ F⟩|.agg cs,v,r=>by simp only[ax,aa.aY]at r⊢;have⟨xs,e,y⟩:=r;exact⟨xs,e,bq.dQ j d cs _ y⟩|.aM cs,v,r=>by simp only[ax,aa.aY]at r⊢;have⟨xs,e,y⟩:=r;exact⟨xs,e,bq.dQ j d cs _ y⟩|.sl k es,v,r=>by simp only[ax,aa.aY,mS]at r⊢;have⟨a,cap,e,h1,D,B,C⟩:=r;refine⟨a,cap,e,h1,D,Oh B,C.imp (λ h=>by have:=congrArg uI h;rw[mS]at this;exact P3.1 this) ?_⟩;rintro⟨b,o,A,hb,l⟩;exact⟨b,o,A,d b hb,cN.dQ j d es o l⟩|.eW k es,v,r=>by simp only[ax,aa.aY,mS]at r⊢;have⟨a,e,D,B,C⟩:=r;refine⟨a,e,D,Oh B,C.imp (λ h=>by have:=congrArg uI h;rw[mS]at this;exact P3.1 this) ?_⟩;rintro⟨b,o,A,hb,l⟩;exact⟨b,o,A,d b hb,cN.dQ j d es o l⟩|.ah id k off len t,v,r=>by simp only[ax,aa.aY]at r⊢;have⟨g,N,cap,z,rest⟩:=r;exact⟨g,N,cap,j _ _ z,rest⟩|.ref id e o,v,r=>by simp only[ax,aa.aY]at r⊢;have⟨g,k,N,z,rest⟩:=r;exact⟨g,k,N,j _ _ z,rest⟩|.cE cs o,v,r=>by simp only[ax,aa.aY]at r⊢;have⟨b,p,e,hb,l⟩:=r;exact⟨b,p,e,d b hb,eO.dQ j d cs p l⟩def bq.dQ{E E':Env}{w:World}(j:∀i x,E'.μ (ρ i)=some x->E.μ i=some x)(d:∀b,E'.ok b->E.ok b):∀(cs:List aa)(vs:List Value),bq E' w (bD ρ cs) vs->bq E w cs vs|[],_,r=>by simpa[bq,bD]using r|c::cs,vs,r=>by simp only[bq,bD]at r⊢;have⟨v,rest,e,H,m⟩:=r;exact⟨v,rest,e,ax.dQ j d c v H,bq.dQ j d cs rest m⟩def cN.dQ{E E':Env}{w:World}(j:∀i x,E'.μ (ρ i)=some x->E.μ i=some x)(d:∀b,E'.ok b->E.ok b){b:Nat}:∀(es:List aa)(o:Nat),cN E' w b o (bD ρ es)->cN E w b o es|[],_,_=>by simp[cN]|.agg cs::es,o,r=>by simp only[cN,bD,aa.aY,mS]at r⊢;exact⟨eO.dQ j d cs o r.1,cN.dQ j d es _ r.2⟩|.bool b1::es,o,r=>by simp only[cN,bD,aa.aY]at r⊢;have⟨⟨v,n,l⟩,m⟩:=r;exact⟨⟨v,n,ax.dQ j d (.bool b1) v l⟩,cN.dQ j d es _ m⟩|.int q s::es,o,r=>by simp only[cN,bD,aa.aY]at r⊢;have⟨⟨v,n,l⟩,m⟩:=r;exact⟨⟨v,n,ax.dQ j d (.int q s) v l⟩,cN.dQ j d es _ m⟩|.str q::es,o,r=>by simp only[cN,bD,aa.aY]at r⊢;have⟨⟨v,n,l⟩,m⟩:=r;exact⟨⟨v,n,ax.dQ j d (.str q) v l⟩,cN.dQ j d es _ m⟩|.jA::es,o,r=>by simp only[cN,bD,aa.aY]at r⊢;have⟨⟨v,n,l⟩,m⟩:=r;exact⟨⟨v,n,ax.dQ j d .jA v l⟩,cN.dQ j d es _ m⟩|.kl::es,o,r=>by simp only[cN,bD,aa.aY]at r⊢;have⟨⟨v,n,l⟩,m⟩:=r;exact⟨⟨v,n,ax.dQ j d .kl v l⟩,cN.dQ j d es _ m⟩|.ar::es,o,r=>by simp only[cN,bD,aa.aY]at r⊢;have⟨⟨v,n,l⟩,m⟩:=r;exact⟨⟨v,n,ax.dQ j d .ar v l⟩,cN.dQ j d es _ m⟩|.top::es,o,r=>by simp only[cN,bD,aa.aY]at r⊢;have⟨⟨v,n,l⟩,m⟩:=r;exact⟨⟨v,n,ax.dQ j d .top v l⟩,cN.dQ j d es _ m⟩|.j9::es,o,r=>by simp only[cN,bD,aa.aY]at r⊢;have⟨⟨v,n,l⟩,m⟩:=r;exact⟨⟨v,n,ax.dQ j d .j9 v l⟩,cN.dQ j d es _ m⟩|.nA q::es,o,r=>by simp only[cN,bD,aa.aY]at r⊢;have⟨⟨v,n,l⟩,m⟩:=r;exact⟨⟨v,n,ax.dQ j d (.nA q) v l⟩,cN.dQ j d es _ m⟩|.fn q s u::es,o,r=>by simp only[cN,bD,aa.aY]at r⊢;have⟨⟨v,n,l⟩,m⟩:=r;exact⟨⟨v,n,ax.dQ j d (.fn q s u) v (by simpa only[aa.aY]using l)⟩,cN.dQ j d es _ m⟩|.aM q::es,o,r=>by simp only[cN,bD,aa.aY]at r⊢;have⟨⟨v,n,l⟩,m⟩:=r;exact⟨⟨v,n,ax.dQ j d (.aM q) v (by simpa only[aa.aY]using l)⟩,cN.dQ j d es _ m⟩|.sl q s::es,o,r=>by simp only[cN,bD,aa.aY]at r⊢;have⟨⟨v,n,l⟩,m⟩:=r;exact⟨⟨v,n,ax.dQ j d (.sl q s) v (by simpa only[aa.aY]using l)⟩,cN.dQ j d es _ m⟩|.eW q s::es,o,r=>by simp only[cN,bD,aa.aY]at r⊢;have⟨⟨v,n,l⟩,m⟩:=r;exact⟨⟨v,n,ax.dQ j d (.eW q s) v (by simpa only[aa.aY]using l)⟩,cN.dQ j d es _ m⟩|.ah q s u I G::es,o,r=>by simp only[cN,bD,aa.aY]at r⊢;have⟨⟨v,n,l⟩,m⟩:=r;exact⟨⟨v,n,ax.dQ j d (.ah q s u I G) v (by simpa only[aa.aY]using l)⟩,cN.dQ j d es _ m⟩|.ref q s u::es,o,r=>by simp only[cN,bD,aa.aY]at r⊢;have⟨⟨v,n,l⟩,m⟩:=r;exact⟨⟨v,n,ax.dQ j d (.ref q s u) v (by simpa only[aa.aY]using l)⟩,cN.dQ j d es _ m⟩|.cE q s::es,o,r=>by simp only[cN,bD,aa.aY]at r⊢;have⟨⟨v,n,l⟩,m⟩:=r;exact⟨⟨v,n,ax.dQ j d (.cE q s) v (by simpa only[aa.aY]using l)⟩,cN.dQ j d es _ m⟩def eO.dQ{E E':Env}{w:World}(j:∀i x,E'.μ (ρ i)=some x->E.μ i=some x)(d:∀b,E'.ok b->E.ok b){b:Nat}:∀(cs:List aa)(o:Nat),eO E' w b o (bD ρ cs)->eO E w b o cs|[],_,_=>by simp[eO]|c::cs,o,r=>by simp only[eO,bD]at r⊢;have⟨⟨v,n,l⟩,m⟩:=r;exact⟨⟨v,n,ax.dQ j d c v l⟩,eO.dQ j d cs _ m⟩end
def eK.aY{E E':Env}{w:World}(c:∀i x,E.μ i=some x->E'.μ (ρ i)=some x)(a:∀b,E.ok b->E'.ok b){b o:Nat}{cs:List aa}(h:eK E w b o cs):eK E' w b o (bD ρ cs):=rL.1 (eO.aY c a cs o (rL.2 h))
def eK.dQ{E E':Env}{w:World}(c:∀i x,E'.μ (ρ i)=some x->E.μ i=some x)(a:∀b,E'.ok b->E.ok b){b o:Nat}{cs:List aa}(h:eK E' w b o (bD ρ cs)):eK E w b o cs:=rL.1 (eO.dQ c a cs o (rL.2 h))
def bT(n:Nat)(π:Id)(κ:Nat->Id):Id->Id|[]=>[]|a::c=>match c with
   |[]=>match a with|0=>π|k+1=>κ (k+1)
   |b::d=>match b,d with|0,[]=>(n+a)::π|_,_=>a::bT n π κ c
def jb{n:Nat}{π:Id}{κ:Nat->Id}{q:Nat}:∀l:Id,bT n π κ (l++[q,0])=l++((n+q)::π)|[]=>rfl|[a]=>by simp[bT]|a::b::l=>by have:=jb (n:=n) (π:=π) (κ:=κ) (q:=q) (b::l);simp only[yx]at this⊢;rw[<-this];cases h:l++[q,0]with|nil=>simp at h|cons c cs=>cases b<;>simp[bT]
def Jq{i:Id}(h:[0]<:+i):i=[0]\/∃l q,i=l++[q,0]:=by obtain⟨t,rfl⟩:=h;rcases List.eq_nil_or_concat t with rfl|⟨l,q,rfl⟩;exact .inl rfl;exact .inr ⟨l,q,am⟩
def aos{n:Nat}{π:Id}{κ:Nat->Id}{i j:Id}(c:[0]<:+i)(b:[0]<:+j)(h:bT n π κ i=bT n π κ j):i=j:=by
 rcases Jq c with rfl|⟨l,q,rfl⟩<;>rcases Jq b with rfl|⟨l',q',rfl⟩;rfl;rw[jb]at h;have:=congrArg uI h;simp[bT]at this;omega;rw[jb]at h;have:=congrArg uI h;simp[bT]at this;omega;rw[jb,jb]at h;have d:l.length=l'.length:=by have:=congrArg uI h;simp at this;omega
 have⟨h1,a⟩:=List.append_inj h d;simp only[P4,and_true]at a;have:q=q':=ac;rw[h1,this]
end
section
variable{P:Program}{G:Nat->Option (List aa)}
open Classical in noncomputable def Cw(n:Nat)(π:Id)(κ:Nat->Id)(E jR:Env):Env:=⟨fun j=>if h:∃i,[0]<:+i/\bT n π κ i=j then jR.μ h.choose else E.μ j,jR.ok⟩
def SM{n:Nat}{π:Id}{κ:Nat->Id}{E jR:Env}{i:Id}(b:[0]<:+i):(Cw n π κ E jR).μ (bT n π κ i)=jR.μ i:=by have a:∃c,[0]<:+c/\bT n π κ c=bT n π κ i:=⟨i,b,rfl⟩;simp only[Cw];rw[dif_pos a];exact congrArg jR.μ (aos a.choose_spec.1 b a.choose_spec.2)
def Gw{n:Nat}{π:Id}{κ:Nat->Id}{E jR:Env}{j:Id}(h:∀i,[0]<:+i->bT n π κ i≠j):(Cw n π κ E jR).μ j=E.μ j:=by simp only[Cw];rw[dif_neg];rintro⟨i,a,e⟩;exact h i a e
def L6{n:Nat}{π:Id}{κ:Nat->Id}{E:Env}(a:mB E π n){i:Id}(b:[0]<:+i):E.μ (bT n π κ i)=none:=by rcases Jq b with rfl|⟨l,q,rfl⟩;exact a.self;rw[jb];exact a.at (q:=n+q) (pH _ _) ⟨l,rfl⟩
def y5(ρ:Id->Id)(a σ:aQ):Prop:=(∀i b,a i=some b->σ (ρ i)=some (b.aY ρ))/\∀j,σ j=none\/∃i b,a i=some b/\ρ i=j/\σ j=some (b.aY ρ)
def bA.aY{eL:cD}{Q0:cn->dD->Prop}{t0:List aa}{pT σ:aQ}{n:Nat}{π:Id}{κ:Nat->Id}(h:bA P G [0] eL Q0 ⟨t0,pT,0⟩)(g7:∀i b,pT i=some b->σ (bT n π κ i)=some (b.aY (bT n π κ)))(ag5:∀i j,pT i≠none->pT j≠none->i≠j->bT n π κ i≠bT n π κ j):bA P G π eL (λ e s=>∃s0,Q0 e s0/\s.t=bD (bT n π κ) s0.t/\s.n=n+s0.n/\y5 (bT n π κ) s0.σ s.σ) ⟨bD (bT n π κ) t0,σ,n⟩:=by
 intro c hc own E w a R hm dM;have⟨CK,D,o,agW⟩:=hm;let jR:Env:=⟨λ i=>E.μ (bT n π κ i),E.ok⟩;have ahf:pX G [0] own jR w ⟨t0,pT,0⟩ a:=by refine⟨bq.dQ (E:=jR) (E':=E) (λ i x r=>r) (λ b hb=>hb) _ _ CK,?_,λ j K _=>L6 o K,agW⟩;refine⟨D.hR,λ id av F=>?_,λ i j x y d C Q r hy=>?_,D.jX,D.new⟩;have⟨g,N,m,ty,f⟩:=D.blk _ _ (g7 id av F);refine⟨g,N,m,ty,f.μ,f.heap,f.size,?_,f.most,f.own,f.ok,f.no,Oh f.k,?_⟩;have:=f.len;rwa[show(av.aY (bT n π κ)).els.length=av.els.length from mS]at this;have:=f.row;rw[show(av.aY (bT n π κ)).els=bD (bT n π κ) av.els from rfl,IM]at this;exact eK.dQ (E:=jR) (E':=E) (λ i x r=>r) (λ b hb=>hb) this;have⟨b,hb⟩:=J1.1 d;have⟨b',CI⟩:=J1.1 C;exact D.inj _ _ x y (by show σ _≠none;rw[g7 i b hb];simp) (by show σ _≠none;rw[g7 j b' CI];simp) (ag5 i j d C Q) r hy
 refine h c hc own jR w a R ahf ?_;intro e s0 M w' a' hq p ahe;have⟨X,d,A,O⟩:=ahe;let E':=Cw n π κ E M;have I:∀i x,M.μ i=some x->E'.μ (bT n π κ i)=some x:=by
   intro i x r;by_cases h0:[0]<:+i;exact(SM h0).trans r;have h1:E.μ (bT n π κ i)=some x:=by have:=p.ids i h0;rw[r]at this;exact this.symm
   exact(Gw λ B d e=>by have:=L6 (κ:=κ) o d;rw[e,h1]at this;cases this).trans h1
 have U:∀j x,E.μ j=some x->E'.μ j=some x:=λ j x r=>(Gw λ B d e=>by have:=L6 (κ:=κ) o d;rw[e,r]at this;cases this).trans r;have hS:∀j b,(∃i u,s0.σ i=some u/\bT n π κ i=j/\b=u.aY (bT n π κ))->∃i g N m ty u,s0.σ i=some u/\bT n π κ i=j/\pU M own w' i u g N m ty/\pU E' own w' j b g N m ty:=by rintro j b⟨i,u,h1,rfl,rfl⟩;have⟨g,N,m,ty,f⟩:=d.blk i u h1;refine⟨i,g,N,m,ty,u,h1,rfl,f,I _ _ f.μ,f.heap,f.size,?_,f.most,f.own,f.ok,f.no,IP f.k,?_⟩;rw[show(u.aY (bT n π κ)).els.length=u.els.length from mS];exact f.len;rw[show(u.aY (bT n π κ)).els=bD (bT n π κ) u.els from rfl,IM];exact eK.aY I (λ b hb=>hb) f.row
 classical
 let wP:aQ:=λ j=>if h:∃i b,s0.σ i=some b/\bT n π κ i=j then some (h.choose_spec.choose.aY (bT n π κ))else none;have z:∀j,wP j=none\/∃i b,s0.σ i=some b/\bT n π κ i=j/\wP j=some (b.aY (bT n π κ)):=λ j=>by by_cases h:∃i b,s0.σ i=some b/\bT n π κ i=j;right;exact⟨h.choose,h.choose_spec.choose,h.choose_spec.choose_spec.1,h.choose_spec.choose_spec.2,dif_pos h⟩;left;exact dif_neg h
 have V:Inv G own E' w' wP:=by refine⟨d.hR,λ j av F=>?_,λ j j' x y K C Q r hy=>?_,d.jX,d.new⟩;rcases z j with h1|⟨i,b,h1,T,H⟩;rw[h1]at F;cases F;rw[H]at F;simp only[bf]at F;have⟨B,g,N,m,ty,u,_,_,_,f⟩:=hS j av ⟨i,b,h1,T,F.symm⟩;exact⟨g,N,m,ty,f⟩;rcases z j with h1|⟨i,b,h1,T,H⟩;exact absurd h1 K;rcases z j' with S|⟨B,b',S,kg,G1⟩;exact absurd S C;have⟨g,N,m,ty,f⟩:=d.blk i b h1;have⟨g',oZ,Z,Jo,v⟩:=d.blk B b' S;have e1:=I _ _ f.μ;have J:=I _ _ v.μ;rw[T,r]at e1;rw[kg,hy]at J;simp only[bf]at e1 J;rw[e1,J];exact d.inj i B _ _ (by rw[h1];simp) (by rw[S];simp) (λ e=>Q (by rw[<-T,<-kg,e])) f.μ v.μ
 have L:∀i b,s0.σ i=some b->wP (bT n π κ i)=some (b.aY (bT n π κ)):=λ i b h1=>by rcases z (bT n π κ i)with T|⟨B,b',H,S,kg⟩;exact absurd ((dif_pos ⟨i,b,h1,rfl⟩).symm.trans T) am;have⟨g,N,m,ty,f⟩:=d.blk i b h1;have⟨g',oZ,Z,Jo,v⟩:=d.blk B b' H;by_cases e:B=i;subst e;rw[h1]at H;cases H;exact kg;have e1:=I _ _ f.μ;have J:=I _ _ v.μ;rw[S,e1]at J;simp only[bf,c5]at J;exact absurd J.1.symm (d.inj B i _ _ (by rw[H];simp) (by rw[h1];simp) e v.μ f.μ)
 refine dM e ⟨bD (bT n π κ) s0.t,wP,n+s0.n⟩ E' w' a' ⟨s0,hq,rfl,rfl,L,z⟩ ⟨⟨⟨U,p.step.ok,p.step.same⟩,p.os,p.tape,p.output,p.size,p.block,p.rC⟩,λ j K=>Gw λ i D e=>K ?_⟩ ⟨bq.aY I (λ b hb=>hb) _ _ X,V,λ j K Y=>?_,O⟩;rcases Jq D with rfl|⟨l,q,rfl⟩;rw[<-e];exact List.suffix_refl _;rw[jb]at e;rw[<-e];exact⟨l++[n+q],am⟩;by_cases W:∃i,[0]<:+i/\bT n π κ i=j;obtain⟨i,Hg,rfl⟩:=W;refine(SM Hg).trans (A i Hg λ q My F=>Y (n+q) (by show n+q<n+s0.n;omega) ?_);obtain⟨t,rfl⟩:=F;rw[jb];exact⟨t,rfl⟩;refine(Gw λ i D e=>W ⟨i,D,e⟩).trans (o j K λ q My=>Y q (gM My (pH _ _)))
def WM{ρ:Id->Id}{a:Bool}{cs:List aa}{o n:Nat}{v:aa}(h:part a cs o n=some v):part a (bD ρ cs) o n=some (v.aY ρ):=by unfold part at h⊢;rw[mS];split at h;rename_i h1;rw[if_pos h1];split at h;rename_i b;rw[if_pos b];cases h;simp only[aa.aY,ga,ET,List.map_drop];rename_i b;rw[if_neg b];split at h;rename_i c;rw[if_pos c,ga,kv,h];rfl;cases h;cases h
def arp{ρ:Id->Id}{d σ:aQ}(j:y5 ρ d σ){a:Bool}{n:Nat}{x:aa}{r:bR}(h:lg d a n x=some r):∃f,lg σ a n (x.aY ρ)=some f/\f.val=r.val.aY ρ:=by
 cases x<;>simp only[lg,reduceCtorEq]at h;case ref id e o=>cases hb:d id with|none=>rw[hb]at h;cases h|some av=>rw[hb]at h;simp only[]at h;cases b:av.els[e]? with|none=>rw[b]at h;cases h|some el=>
       rw[b]at h;simp only[eI]at h;obtain⟨v,c,rfl⟩:=h;refine⟨{val:=v.aY ρ,rd:=[ρ id]},?_,rfl⟩;have i:(av.aY ρ).els[e]?=some (el.aY ρ):=by show(bD ρ av.els)[e]?=_;rw[ga,kv,b];rfl
       simp only[aa.aY,lg,j.1 id av hb,i,Og,WM c,fk]
 case cE cs o=>simp only[eI]at h;obtain⟨v,c,rfl⟩:=h;refine⟨{val:=v.aY ρ},?_,rfl⟩;simp only[aa.aY,lg,WM c,fk]
def TC{ρ:Id->Id}{t:List aa}{k:Nat}:(bD ρ t).getD k (.aM [])=(t.getD k (.aM [])).aY ρ:=by rw[dE,dE,ga,kv];cases t[k]?<;>rfl
def aol{ρ:Id->Id}{s0 s:dD}(b:s.t=bD ρ s0.t)(f:y5 ρ s0.σ s.σ){x:o0}{v:aa}(h:qs s0 x=some v):qs s x=some (v.aY ρ):=by cases x with|tmp k=>simp only[qs,bf]at h⊢;rw[b,TC,h]|cell k c n=>simp only[qs,eI]at h⊢;obtain⟨r,d,rfl⟩:=h;have⟨e,h1,g⟩:=arp f d;exact⟨e,by rw[b,TC];exact h1,g⟩
def Vz{ρ:Id->Id}{s0 s:dD}(c:s.t=bD ρ s0.t)(d:y5 ρ s0.σ s.σ):∀{a:List o0}{vs:List aa},a.mapM (qs s0)=some vs->a.mapM (qs s)=some (bD ρ vs)|[],vs,h=>by simp only[List.mapM_nil,yL,bf]at h⊢;subst h;rfl|x::a,vs,h=>by simp only[uR,Option.bind_eq_bind,yN,yL,bf]at h⊢;obtain⟨v,e,f,b,rfl⟩:=h;exact⟨_,aol c d e,_,Vz c d b,rfl⟩
def amp{ρ:Id->Id}{s0 s:dD}(c:s.t=bD ρ s0.t)(d:y5 ρ s0.σ s.σ){a:List o0}{v:aa}(h:sY a s0=some v):sY a s=some (v.aY ρ):=by unfold sY at h⊢;cases b:a.mapM (qs s0)with|none=>rw[b]at h;cases h|some vs=>rw[b]at h;rw[Vz c d b];match vs,h with|[],h=>cases h;rfl|[v],h=>cases h;rfl|v::e::vs,h=>cases h;rfl
abbrev e5:=List (Id×Option aJ)
def mN:Id->Id->Bool|[],[]=>true|a::c,b::d=>rZ a b&&mN c d|_,_=>false
def sM:∀{a b:Id},mN a b=true↔a=b|[],[]=>by simp[mN]|a::c,b::d=>by simp only[mN,gj,Nat.beq_eq,sM (a:=c),P4]|[],_::_=>by simp[mN]|_::_,[]=>by simp[mN]
def e5.find:e5->Id->Option aJ|[],_=>none|(j,b)::S,i=>match mN i j with|true=>b|false=>e5.find S i
def e5.to(S:e5):aQ:=λ i=>S.find i
def e5.app(S:e5):List (Id×Option aJ)->e5|[]=>S|x::up=>e5.app (x::S) up
def e5.aqi(i:Id)(b:Option aJ)(S:e5):e5.to ((i,b)::S)=S.to.put i b:=by funext j;show e5.find _ j=_;simp only[e5.find,wO];cases h:mN j i with|true=>rw[if_pos (sM.1 h)]|false=>rw[if_neg (λ e=>by rw[sM.2 e]at h;cases h)];rfl
def e5.Pa:∀(up:List (Id×Option aJ))(S:e5),(S.app up).to=S.to.app up|[],_=>rfl|(i,b)::up,S=>by simp only[e5.app,mz,e5.Pa up,e5.aqi]
inductive aV(P:Program)(G:Nat->Option (List aa))where|ev(k:Nat)(o:Option bR)(r:bR)(h:o=some r)|eq(k:Nat)(a b:aa)(h:a=b)|q2(k:Nat)(x b:Bool)(h:x=b)|st(k:Nat)(S:List (Id×aJ))(op:dY aa)(r:Id->bR)(h:∀σ p,(∀x∈S,σ x.1=some x.2)->ck σ p op=some (r p))|fL(f:FuncId)(args:List aa)(r:aa)(h:ag P G f args r)(hp:∀c∈args,cd c)|rel(f:FuncId)(args:List aa)(S:List (Id×aJ))(r:Id->bR)(h:∀p,(∀x∈S,¬p<:+x.1)->cv P G f args p S (r p))(hr:∀p,∀x∈S,x.1∈(r p).rd)|iQ(π:Id)(c:cD)(t0:List aa)(B4:List (Id×aJ))(n0:Nat)(e:cn)(t1:List aa)(tD:e5)(n1:Nat)(h:bA P G π (.loop c) (fun e' s'=>e'=e/\bN G π s' ⟨t1,tD.to,n1⟩) ⟨t0,aQ.of B4,n0⟩)
inductive mA where|ev(o:Option bR)|val(a:aa)|op(o:dY aa)(S:List (Option aJ))|call(f:FuncId)(args:List aa)(S:List (Option aJ))|iQ(π:Id)(c:cD)(t:List aa)(S:List (Option aJ))
def Ed:Id->Id->Bool|p,[]=>mN p []|p,a::b=>mN p (a::b)||Ed p b
def X2{p:Id}:∀{i:Id},Ed p i=false->¬p<:+i|[],h=>by simp only[Ed]at h;intro b;have:p=[]:=List.suffix_nil.1 b;rw[sM.2 this]at h;cases h|a::c,h=>by simp only[Ed,Bool.or_eq_false_iff]at h;intro b;rcases List.suffix_cons_iff.1 b with e|e;rw[sM.2 e]at h;cases h.1;exact X2 h.2 e
structure u9 where
 t:List aa
 S:e5
 n:Nat
def u9.to(s:u9):dD:=⟨s.t,s.S.to,s.n⟩
def vH:List aa->List aa->List aa|c::cs,d::ds=>(match d with|.top=>.top|_=>c)::vH cs ds|cs,_=>cs
def Na:∀{cs ds:List aa},vH cs ds=ds->jn cs ds|[],[],_=>trivial|c::cs,d::ds,h=>by simp only[vH,P4]at h;refine⟨?_,Na h.2⟩;cases d<;>simp_all|[],_::_,h=>by simp[vH]at h|_::_,[],h=>by simp[vH]at h
def keyOf(o:dT):Nat:=match o.dst with|some d=>d|none=>match o.op with|.store _ (.t x) _=>x+100000|_=>0
def Dt(a b:List Id):Bool:=a.all λ i=>!b.any λ j=>mN i j
def Ri(a b:bR):Bool:=Dt (a.up.map (·.1)) b.rd&&Dt (a.up.map (·.1)) (b.up.map (·.1))&&Dt (b.up.map (·.1)) a.rd
def FY(c:List bR)(d:List (Nat×Nat)):Bool:=d.all λ q=>match c[q.1]?,c[q.2]? with|some a,some b=>Ri a b|_,_=>true
def NA{a b:List Id}(h:Dt a b=true){i:Id}(c:i∈a):i∉b:=by simp only[Dt,ek,Bool.not_eq_true',List.any_eq_false]at h;exact λ d=>h i c i d (sM.2 rfl)
def acy{d:List bR}{e:List (Nat×Nat)}(h:FY d e=true):B6 d e:=by intro q g a b i hb;simp only[FY,ek]at h;have:=h q g;rw[i,hb]at this;simp only[Ri,gj]at this;have⟨⟨h1,j⟩,f⟩:=this;exact⟨λ x c=>⟨NA h1 (bd.2 ⟨x,c,rfl⟩),NA j (bd.2 ⟨x,c,rfl⟩)⟩,λ x c=>NA f (bd.2 ⟨x,c,rfl⟩)⟩
abbrev nj:=List (mA×mA)
def ta(S:e5)(p:Id)(op:dY aa)(a:List (aV P G)):Option (nj×List (aV P G)×bR):=match ck S.to p op with|some r=>some ([],a,r)|none=>none
def O1(S:e5)(p:Id)(k:Nat)(op:dY aa)(d:List (aV P G)):Option (nj×List (aV P G)×bR):=match op with
 |.call f j=>match f with
   |.fn (.func g) first cap=>match d with
     |.fL h args' r _ _::c=>some ([(.call g (first++j++cap) [],.call h args' [])],c,{val:=r})|.rel h args' e r _ _::c=>match e.all λ x=>!Ed p x.1 with|true=>some ([(.call g (first++j++cap) (e.map λ x=>S.find x.1),.call h args' (e.map λ x=>some x.2))],c,r p)|false=>none
     |_=>none
   |_=>none
 |op=>match d with
   |.ev k' o r _::c=>match rZ k' k with|true=>some ([(.ev (ck S.to p op),.ev o)],c,r)|false=>ta S p op d
   |.eq k' a b _::c=>match rZ k' k with
     |true=>match ck S.to p op with|some r=>some ([(.val r.val,.val a)],c,{r with val:=b})|none=>none
     |false=>ta S p op d
   |.st k' e i r _::c=>match rZ k' k with|true=>some ([(.op op (e.map λ x=>S.find x.1),.op i (e.map λ x=>some x.2))],c,r p)|false=>ta S p op d
   |_=>ta S p op d
def tc(π:Id)(a:Nat):List dT->Nat->List bR->List aa->e5->List (aV P G)->Option (nj×List (aV P G)×List bR×List aa×e5)|[],_,b,t,S,d=>some ([],d,b,t,S)|o::os,i,b,t,S,d=>match oP t o.guard with|none=>none|some false=>tc π a os (i+1) ({val:=.aM []}::b) (iq t o.dst (.aM [])) S d|some true=>match O1 S ((a+i)::π) (keyOf o) (o.op.map (dO.ev G t)) d with|none=>none|some (c,e,r)=>match tc π a os (i+1) (r::b) (iq t o.dst r.val) (S.app r.up) e with|none=>none|some (cs,x)=>some (c++cs,x)
def Rv:dO->Nat|.t k=>k|_=>0
def bY:Bool->Nat->cD->Id->List (aV P G)->u9->Option (nj×List (aV P G)×cn×u9)|_,0,_,_,_,_=>none|z,m+1,c,π,f,⟨t,S,n⟩=>match c with
   |.skip=>some ([],f,.normal,⟨t,S,n⟩)|.ret=>some ([],f,.ret,⟨t,S,n⟩)|.exit i=>some ([],f,.exit i,⟨t,S,n⟩)|.seq a b=>match bY true m a π f ⟨t,S,n⟩with
     |some (cs,d,.normal,s')=>match bY true m b π d s' with|some (g,x)=>some (cs++g,x)|none=>none
     |r=>r
   |.cond c a b=>match f with
     |.q2 k x v _::d=>match rZ k (Rv c)with
       |true=>match bY true m (match v with|true=>a|false=>b) π d ⟨t,S,n⟩with|some (cs,y)=>some ((.val (c.ev G t),.val (.bool x))::cs,y)|none=>none
       |false=>match c.ev G t with|.bool true=>bY true m a π f ⟨t,S,n⟩|.bool false=>bY true m b π f ⟨t,S,n⟩|_=>none
     |_=>match c.ev G t with|.bool true=>bY true m a π f ⟨t,S,n⟩|.bool false=>bY true m b π f ⟨t,S,n⟩|_=>none
   |.block i c=>match bY true m c π f ⟨t,S,n⟩with
     |some (cs,d,.exit j,s')=>match rZ j i with|true=>some (cs,d,.normal,s')|false=>some (cs,d,.exit j,s')
     |r=>r
   |.loop c=>match z,f with
     |true,.iQ u c' l o C e s w B _::d=>match Nat.ble n C with|true=>some ([(.iQ π c (vH t l) (o.map λ x=>S.find x.1),.iQ u c' l (o.map λ x=>some x.2))],d,e,⟨s,w,B⟩)|false=>none
     |_,_=>match bY true m c π f ⟨t,S,n⟩with
       |some (cs,d,.normal,s')=>match bY false m (.loop c) π d s' with|some (g,x)=>some (cs++g,x)|none=>none
       |r=>r
   |.mR h os=>match tc π n os 0 [] t S f with|none=>none|some (cs,d,A,q,p)=>match h with|none=>some (cs,d,.normal,⟨q,p,n+os.length⟩)|some h=>match FY A.reverse h with|true=>some (cs,d,.normal,⟨q,p,n+os.length⟩)|false=>none
def rO(z:Bool)(m:Nat)(c:cD)(π:Id)(f:List (aV P G))(s:u9):bY z (m+1) c π f s=match c with
     |.skip=>some ([],f,.normal,s)|.ret=>some ([],f,.ret,s)|.exit i=>some ([],f,.exit i,s)|.seq a b=>match bY true m a π f s with
       |some (cs,d,.normal,s')=>match bY true m b π d s' with|some (g,x)=>some (cs++g,x)|none=>none
       |r=>r
     |.cond c a b=>match f with
       |.q2 k x v _::d=>match rZ k (Rv c)with
         |true=>match bY true m (match v with|true=>a|false=>b) π d s with|some (cs,y)=>some ((.val (c.ev G s.t),.val (.bool x))::cs,y)|none=>none
         |false=>match c.ev G s.t with|.bool true=>bY true m a π f s|.bool false=>bY true m b π f s|_=>none
       |_=>match c.ev G s.t with|.bool true=>bY true m a π f s|.bool false=>bY true m b π f s|_=>none
     |.block i c=>match bY true m c π f s with
       |some (cs,d,.exit j,s')=>match rZ j i with|true=>some (cs,d,.normal,s')|false=>some (cs,d,.exit j,s')
       |r=>r
     |.loop c=>match z,f with
       |true,.iQ q c' l o B e p u A _::d=>match Nat.ble s.n B with|true=>some ([(.iQ π c (vH s.t l) (o.map λ x=>s.S.find x.1),.iQ q c' l (o.map λ x=>some x.2))],d,e,⟨p,u,A⟩)|false=>none
       |_,_=>match bY true m c π f s with
         |some (cs,d,.normal,s')=>match bY false m (.loop c) π d s' with|some (g,x)=>some (cs++g,x)|none=>none
         |r=>r
     |.mR h os=>match tc π s.n os 0 [] s.t s.S f with|none=>none|some (cs,d,w,t,S)=>match h with|none=>some (cs,d,.normal,⟨t,S,s.n+os.length⟩)|some h=>match FY w.reverse h with|true=>some (cs,d,.normal,⟨t,S,s.n+os.length⟩)|false=>none:=by have⟨t,S,n⟩:=s;rw[bY.eq_def]
def jP(cs:nj):Prop:=∀x∈cs,x.1=x.2
def jP.of_map{cs:nj}(h:cs.map (·.1)=cs.map (·.2)):jP cs:=by intro x b;have⟨i,a⟩:=aaL b;have:=congrArg (·[i]?) h;simpa[kv,a]using this
def jP.left{a b:nj}(h:jP (a++b)):jP a:=λ x c=>h x (tl _ c)
def jP.right{a b:nj}(h:jP (a++b)):jP b:=λ x c=>h x (Bp _ c)
def zw{S:e5}{a:List (Id×aJ)}(h:(a.map λ x=>S.find x.1)=a.map λ x=>some x.2):∀x∈a,S.to x.1=some x.2:=by
 intro x c;have⟨i,b⟩:=aaL c;have:=congrArg (·[i]?) h;have e:S.find x.1=some x.2:=by simpa[kv,b]using this
 exact e
def Y0{S:e5}{p:Id}{k:Nat}{op:dY aa}{i c:List (aV P G)}{cs:nj}{r:bR}(h:O1 S p k op i=some (cs,c,r))(l:jP cs){K:bR->Prop}(m:K r):uE P G S.to p op K:=by
 have g:∀{cs c},ta S p op i=some (cs,c,r)->op.Hx=false->uE P G S.to p op K:=by intro cs c h d;unfold ta at h;rw[JI d];split at h;rename_i n s;simp only[bf,c5]at h;obtain⟨_,_,rfl⟩:=h;(try rw[s]);exact m;cases h
 have j:∀{cs c},op.Hx=false->jP cs->(match i with
   |.ev k' o r _::c=>match rZ k' k with|true=>some ([((mA.ev (ck S.to p op)),.ev o)],c,r)|false=>ta S p op i
   |.eq k' a b _::c=>match rZ k' k with
     |true=>match ck S.to p op with|some r=>some ([(.val r.val,.val a)],c,{r with val:=b})|none=>none
     |false=>ta S p op i
   |.st k' t q r _::c=>match rZ k' k with|true=>some ([(.op op (t.map λ x=>S.find x.1),.op q (t.map λ x=>some x.2))],c,r p)|false=>ta S p op i
   |_=>ta S p op i)=some (cs,c,r)->uE P G S.to p op K:=by intro cs c d l h;cases i with
   |nil=>exact g h d|cons x w=>cases x with|ev k' o n u=>simp only[]at h;split at h;simp only[bf,c5]at h;obtain⟨rfl,_,rfl⟩:=h;have:=l _ (bU.2 rfl);simp only[mA.ev.injEq]at this;rw[JI d,this,u];exact m;exact g h d|eq k' a b v=>
       simp only[]at h;split at h;split at h;rename_i n s;simp only[bf,c5]at h;obtain⟨rfl,_,rfl⟩:=h;have:=l _ (bU.2 rfl);simp only[mA.val.injEq]at this;rw[JI d,s];have e:{n with val:=b}=n:=by rw[<-v,<-this]
       rw[e]at m;exact m;cases h;exact g h d|st k' t q n u=>simp only[]at h;split at h;simp only[bf,c5]at h;obtain⟨rfl,_,rfl⟩:=h;have:=l _ (bU.2 rfl);simp only[mA.op.injEq]at this;rw[JI d,this.1,u _ _ (zw this.2)];exact m;exact g h d|_=>exact g h d
 cases op with
 |call f H=>
   simp only[O1]at h;simp only[uE];split at h;cases i with|nil=>cases h|cons x w=>cases x with|fL E args' n y D=>simp only[bf,c5]at h;obtain⟨rfl,_,rfl⟩:=h;have:=l _ (bU.2 rfl);simp only[mA.call.injEq,and_true]at this;obtain⟨rfl,e⟩:=this;exact⟨[],_,e▸cv.Wq y D p,am,am,m⟩|rel E args' t n y s=>simp only[]at h;split at h;rename_i z;simp only[bf,c5]at h;obtain⟨rfl,_,rfl⟩:=h;have:=l _ (bU.2 rfl);simp only[mA.call.injEq]at this;obtain⟨rfl,e,B⟩:=this;refine⟨t,_,e▸y p λ x F=>X2 ?_,zw B,s p,m⟩;have:=ek.1 z x F;simpa using this;cases h|_=>cases h
   cases h|_=>exact j rfl l h
def OW{π:Id}{b:Nat}{k:List bR}{m:List aa}{l:e5}{e:List (aV P G)}{K:List bR->List aa->aQ->Prop}(j:K k.reverse m l.to):∀(os:List dT)(i:Nat)(a:List bR)(t:List aa)(S:e5)(g:List (aV P G))(cs:nj),tc π b os i a t S g=some (cs,e,k,m,l)->jP cs->qH P G π b K os i a t S.to|[],i,a,t,S,g,cs,h,_=>by simp only[tc,bf,c5]at h;have⟨_,_,rfl,rfl,rfl⟩:=h;exact j|o::os,i,a,t,S,g,cs,h,f=>by simp only[tc]at h;simp only[qH];split at h;cases h;rename_i d;rw[d];exact OW j os _ _ _ _ _ _ h f;rename_i d;rw[d];split at h;cases h;rename_i c q r n;split at h;cases h;rename_i p x s;simp only[bf,c5]at h;obtain⟨rfl,rfl⟩:=h;have:=OW j os _ _ _ _ _ _ s f.right;rw[e5.Pa]at this;exact Y0 n f.left this
def OX{π:Id}{a:Nat}{m:List bR}{k:List aa}{l:e5}{e:List (aV P G)}{K:List aa->aQ->Prop}(j:K k l.to):∀(os:List dT)(i:Nat)(b:List bR)(t:List aa)(S:e5)(f:List (aV P G))(cs:nj),tc π a os i b t S f=some (cs,e,m,k,l)->jP cs->rW P G π a K os i t S.to|[],i,b,t,S,f,cs,h,_=>by simp only[tc,bf,c5]at h;have⟨_,_,rfl,rfl,rfl⟩:=h;exact j|o::os,i,b,t,S,f,cs,h,g=>by simp only[tc]at h;simp only[rW];split at h;cases h;rename_i d;rw[d];exact OX j os _ _ _ _ _ _ h g;rename_i d;rw[d];split at h;cases h;rename_i c s r q;split at h;cases h;rename_i n x p;simp only[bf,c5]at h;obtain⟨rfl,rfl⟩:=h;have:=OX j os _ _ _ _ _ _ p g.right;rw[e5.Pa]at this;exact Y0 q g.left this
def YY{c:cD}{π:Id}:∀(m:Nat),(∀k<m,∀(b a:List (aV P G))cs s s' e,bY true k c π b s=some (cs,a,e,s')->jP cs->bA P G π c (λ d f=>d=e/\f=s'.to) s.to)->∀(b a:List (aV P G))cs s s' e,bY false m (.loop c) π b s=some (cs,a,e,s')->jP cs->∃n,FQ P G π c (λ d f=>d=e/\f=s'.to) n s.to|0,_,_,_,_,_,_,_,h,_=>by simp[bY]at h|m+1,hb,b,a,cs,s,s',e,h,l=>by simp only[rO]at h;split at h;rename_i u g p h1;split at h;rename_i w x v;simp only[bf,c5]at h;obtain⟨rfl,rfl⟩:=h;obtain⟨n,r⟩:=YY m (λ k y=>hb k ac) g a w p s' e v l.right;refine⟨n+1,(hb m ac b g u s p _ h1 l.left).mono λ d f o=>?_⟩;obtain⟨rfl,rfl⟩:=o;exact r;cases h;rename_i h1;refine⟨1,(hb m ac b a cs s s' e h l).mono λ d f o=>?_⟩;obtain⟨rfl,rfl⟩:=o;cases d with|normal=>exact absurd h (h1 _ _ _)|exit i=>exact⟨rfl,rfl⟩|ret=>exact⟨rfl,rfl⟩
def bA.post{eL:cD}{π:Id}{Q:cn->dD->Prop}{s:dD}(h:bA P G π eL (λ e s'=>∃b,Q e b/\bN G π s' b) s):bA P G π eL Q s:=by intro c j own E w a R g m;refine h c j own E w a R g λ e s' E' w' a' o f d=>?_;have⟨b,h1,l⟩:=o;have⟨i,n,k⟩:=l own E' w' a' d;exact m e b i w' a' h1 (f.trans n) k
def m0:∀(m:Nat)(c:cD)(π:Id)(u d:List (aV P G))(cs:nj)(s s':u9)(e:cn),bY true m c π u s=some (cs,d,e,s')->jP cs->bA P G π c (λ g q=>g=e/\q=s'.to) s.to
 |0,_,_,_,_,_,_,_,_,h,_=>by simp[bY]at h|m+1,c,π,u,d,cs,s,s',e,h,f=>by
   have C:∀{u d:List (aV P G)}{cs:nj}{a b:cD}{x:dO},(match x.ev G s.t with|.bool true=>bY true m a π u s|.bool false=>bY true m b π u s|_=>none)=some (cs,d,e,s')->jP cs->bA P G π (.cond x a b) (λ g q=>g=e/\q=s'.to) s.to:=by intro u d cs a b x h f;split at h;rename_i hb;exact bA.cond hb (by simpa using m0 m a π _ _ _ s s' e h f);rename_i hb;exact bA.cond hb (by simpa using m0 m b π _ _ _ s s' e h f);cases h
   cases c with
   |skip=>simp only[rO,bf,c5]at h;obtain⟨_,_,rfl,rfl⟩:=h;exact bA.skip ⟨rfl,rfl⟩|ret=>simp only[rO,bf,c5]at h;obtain⟨_,_,rfl,rfl⟩:=h;exact bA.ret ⟨rfl,rfl⟩|exit i=>simp only[rO,bf,c5]at h;obtain⟨_,_,rfl,rfl⟩:=h;exact bA.exit ⟨rfl,rfl⟩|seq a b=>simp only[rO]at h;refine bA.seq ?_;split at h;rename_i c1 o E h1;split at h;rename_i p6 x B;simp only[bf,c5]at h;obtain⟨rfl,rfl⟩:=h;refine(m0 m a π _ _ _ s E _ h1 f.left).mono λ g q l=>?_;obtain⟨rfl,rfl⟩:=l;exact m0 m b π _ _ _ E s' e B f.right;cases h;rename_i h1;refine(m0 m a π _ _ _ s s' e h f).mono λ g q l=>?_;obtain⟨rfl,rfl⟩:=l;cases g with|normal=>exact absurd h (h1 _ _ _)|exit i=>exact⟨rfl,rfl⟩|ret=>exact⟨rfl,rfl⟩
   |cond x a b=>simp only[rO]at h;cases u with|nil=>exact C h f|cons y o=>
       cases y with|q2 k y v hv=>
         simp only[]at h;split at h;split at h;rename_i c1 Bm h1;simp only[bf,c5]at h;obtain⟨rfl,rfl⟩:=h;have B:=f _ (List.mem_cons_self ..);simp only[mA.val.injEq]at B;have hc':jP c1:=λ z hz=>f z (cX _ hz);refine bA.cond (b:=v) (by rw[<-hv];exact B) ?_;cases v with|true=>simpa using m0 m a π _ _ _ s s' e h1 hc'|false=>simpa using m0 m b π _ _ _ s s' e h1 hc'
         cases h;exact C h f|_=>exact C h f
   |block i c=>
     simp only[rO]at h;refine bA.block ?_;split at h;rename_i c1 o j E h1;split at h;rename_i hj;simp only[bf,c5]at h;obtain⟨rfl,rfl,rfl,rfl⟩:=h;refine(m0 m c π _ _ _ s _ _ h1 f).mono λ g q l=>?_;obtain⟨rfl,rfl⟩:=l;simp[Nat.beq_eq▸hj];rename_i hj;simp only[bf,c5]at h;obtain⟨rfl,rfl,rfl,rfl⟩:=h;refine(m0 m c π _ _ _ s _ _ h1 f).mono λ g q l=>?_;obtain⟨rfl,rfl⟩:=l;have:¬j=i:=λ e=>by rw[e,Nat.beq_refl]at hj;cases hj
     simp[this];rename_i h1;refine(m0 m c π _ _ _ s s' e h f).mono λ g q l=>?_;obtain⟨rfl,rfl⟩:=l;cases g with|normal=>exact⟨rfl,rfl⟩|exit i=>exact absurd h (h1 _ _ _ _)|ret=>exact⟨rfl,rfl⟩
   |loop c=>
     have w:∀{mI:(match bY true m c π u s with
       |some (cs,d,.normal,s')=>match bY false m (.loop c) π d s' with|some (aeJ,x)=>some (cs++aeJ,x)|none=>none
       |r=>r)=some (cs,d,e,s')},bA P G π (.loop c) (λ g q=>g=e/\q=s'.to) s.to:=by intro h;split at h;rename_i c1 o E h1;split at h;rename_i p6 x B;simp only[bf,c5]at h;obtain⟨rfl,rfl⟩:=h;obtain⟨n,hn⟩:=YY m (λ m' hm u d cs s s' e hr f=>m0 m' c π u d cs s s' e hr f) o d p6 E s' e B f.right;refine bA.rounds (n+1) ((m0 m c π u o c1 s E _ h1 f.left).mono λ g q l=>?_);obtain⟨rfl,rfl⟩:=l;exact hn;cases h;rename_i h1;refine bA.rounds 1 ((m0 m c π u d cs s s' e h f).mono λ g q l=>?_);obtain⟨rfl,rfl⟩:=l;cases g with|normal=>exact absurd h (h1 _ _ _)|exit i=>exact⟨rfl,rfl⟩|ret=>exact⟨rfl,rfl⟩
     cases u with|nil=>simp only[rO]at h;exact w (mI:=h)|cons y o=>cases y with|iQ aue c' t0 B4 n0 e1 t1 tD n1 hv=>simp only[rO]at h;split at h;rename_i hn;simp only[bf,c5]at h;obtain⟨rfl,_,rfl,rfl⟩:=h;have B:=f _ (bU.2 rfl);simp only[mA.iQ.injEq]at B;obtain⟨rfl,rfl,h3,h4⟩:=B;exact bA.hZ (bN.forget (Na h3) (λ i=>aQ.xS (zw h4) i) (EU hn)) (bA.post (hv.mono λ g q l=>⟨_,⟨l.1,rfl⟩,l.2⟩));cases h|_=>simp only[rO]at h;exact w (mI:=h)
   |mR ps os=>simp only[rO]at h;split at h;cases h;rename_i c1 o rs t S h1;cases ps with|none=>simp only[bf,c5]at h;obtain⟨rfl,rfl,rfl,rfl⟩:=h;exact bA.X1 (OX ⟨rfl,rfl⟩ os _ _ _ _ _ _ h1 f)|some ps=>simp only[]at h;split at h;rename_i Mh;simp only[bf,c5]at h;obtain⟨rfl,rfl,rfl,rfl⟩:=h;exact bA.WL (OW ⟨acy Mh,rfl,rfl⟩ os _ _ _ _ _ _ h1 f);cases h termination_by m=>m
class bg(c:aa):Prop where
 pure:cd c
 fix:∀ρ,c.aY ρ=c
class bn(l:List aa):Prop where
 pure:∀c∈l,cd c
 fix:∀ρ,bD ρ l=l
instance:bn []:=⟨am,λ _=>rfl⟩
instance{c:aa}{l:List aa}[h:bg c][k:bn l]:bn (c::l):=⟨by intro d hd;rcases cp.1 hd with rfl|hd;exact h.pure;exact k.pure d hd,λ ρ=>by simp only[bD,h.fix,k.fix]⟩
instance{b:Bool}:bg (.bool b):=⟨cd.bool b,λ _=>rfl⟩
instance{k:IntKind}{n:Int}:bg (.int k n):=⟨cd.int k n,λ _=>rfl⟩
instance{l:List UInt8}:bg (.str l):=⟨cd.str l,λ _=>rfl⟩
instance:bg .ar:=⟨cd.ar,λ _=>rfl⟩
instance:bg .jA:=⟨cd.jA,λ _=>rfl⟩
instance:bg .kl:=⟨cd.kl,λ _=>rfl⟩
instance{l:List aa}[h:bn l]:bg (.agg l):=⟨cd.agg h.pure,λ ρ=>by simp only[aa.aY,h.fix]⟩
instance{l:List aa}[h:bn l]:bg (.aM l):=⟨cd.aM h.pure,λ ρ=>by simp only[aa.aY,h.fix]⟩
instance{l:List aa}{o:Nat}[h:bn l]:bg (.cE l o):=⟨cd.cE h.pure,λ ρ=>by simp only[aa.aY,h.fix]⟩
instance{f:Fn}{a c:List aa}[h:bn a][k:bn c]:bg (.fn f a c):=⟨cd.fn h.pure k.pure,λ ρ=>by simp only[aa.aY,h.fix,k.fix]⟩
theorem bg.slice{k:Nat}{l:List aa}(h:∀c∈flat l,cd c)(b:∀c∈l,∀ρ,c.aY ρ=c):bg (.sl k l):=⟨cd.sl h,λ ρ=>by
 have e:bD ρ l=l:=by rw[ga];exact(List.map_congr_left λ c a=>b c a ρ).trans (List.map_id l)
 simp only[aa.aY,e]⟩
instance{k:Nat}:bg (.sl k []):=bg.slice (by simp[flat]) am
def hc{f:FuncId}{args:List aa}{r:aa}(h:ag P G f args r)[p:bn args]:aV P G:=.fL f args r h p.pure
def hb(k:Nat){x b:Bool}(h:x=b):aV P G:=.eq k (.bool x) (.bool b) (by rw[h])
def hw(k:Nat){x y:Int}(h:x=y)(i:IntKind:=.i64):aV P G:=.eq k (.int i x) (.int i y) (by rw[h])
def hv(k:Nat){a b:aa}(h:a=b):aV P G:=.eq k a b h
def ho(k:Nat){o:Option aa}{v:aa}(h:o=some v):aV P G:=.ev k (dN o) {val:=v} (by rw[h];rfl)
def tT(k:Nat){x b:Bool}(h:x=b):aV P G:=.q2 k x b h
abbrev u6(P:Program)(G:Nat->Option (List aa)):=Option (nj×List (aV P G)×cn×u9)
def Hy:cn->Bool|.normal=>true|.ret=>true|_=>false
def I2(a:List o0):u6 P G->Option (List mA×Bool×Option aa)|some (cs,_,e,s)=>some (cs.map (·.1),Hy e,sY a s.to)|none=>none
def I1(r:aa):u6 P G->Option (List mA×Bool×Option aa)|some (cs,_,_,_)=>some (cs.map (·.2),true,some r)|none=>some ([],true,none)
def MN{e:cn}(h:Hy e=true):e=.normal\/e=.ret:=by cases e<;>simp[Hy]at h⊢
abbrev vS(aG:ee)(args:List aa)(a:List (aV P G)):u6 P G:=bY true 1000 aG.body [] a ⟨args++bI (aG.aH-args.length) (.aM []),[],0⟩
def ag.jC{f:FuncId}{aG:ee}(h:lp P f aG)(c:List (aV P G)){args:List aa}{r:aa}[d:bg r](a:I2 aG.results (vS aG args c)=I1 r (vS aG args c):=by kernel_rfl):ag P G f args r:=by have⟨fn,j,hc⟩:=h;refine ag.NN j hc ?_;cases b:vS aG args c with|none=>rw[b]at a;simp[I2,I1]at a|some y=>have⟨cs,g,e,s⟩:=y;rw[b]at a;simp only[I2,I1,bf,c5]at a;refine(m0 1000 _ _ _ _ _ _ _ _ b (jP.of_map a.1)).mono λ l k i=>?_;obtain⟨rfl,rfl⟩:=i;exact⟨MN a.2.1,r,a.2.2,View.pure d.pure⟩
def nI(a:List o0)(K:List (Id×aJ)):u6 P G->Option (List mA×Bool×Option aa×List (Option aJ))|some (cs,_,e,s)=>some (cs.map (·.1),Hy e,sY a s.to,K.map λ x=>s.S.find x.1)|none=>none
def nH(r:aa)(K:List (Id×aJ)):u6 P G->Option (List mA×Bool×Option aa×List (Option aJ))|some (cs,_,_,_)=>some (cs.map (·.2),true,some r,K.map λ x=>some x.2)|none=>some ([],true,none,[])
def ag.yf{f:FuncId}{aG:ee}(h:lp P f aG)(c:List (aV P G))(K:List (Id×aJ))(eU:aa){args:List aa}{r:aa}(a:nI aG.results K (vS aG args c)=nH eU K (vS aG args c))(hv:∀σ:aQ,(∀x∈K,σ x.1=some x.2)->View σ eU r):ag P G f args r:=by have⟨fn,g,hc⟩:=h;refine ag.NN g hc ?_;cases b:vS aG args c with|none=>rw[b]at a;simp[nI,nH]at a|some y=>have⟨cs,i,e,s⟩:=y;rw[b]at a;simp only[nI,nH,bf,c5]at a;refine(m0 1000 _ _ _ _ _ _ _ _ b (jP.of_map a.1)).mono λ j k d=>?_;obtain⟨rfl,rfl⟩:=d;exact⟨MN a.2.1,eU,a.2.2.1,hv _ (zw a.2.2.2)⟩
def ft(ρ:Id->Id)(K:List (Id×aJ)):List (Id×aJ):=K.map λ x=>(ρ x.1,x.2.aY ρ)
def b8(K:List (Id×aJ)):e5:=K.map λ x=>(x.1,some x.2)
def CW:∀{K:List (Id×aJ)}{i:Id}{b:aJ},(b8 K).to i=some b->(i,b)∈K|[],_,_,h=>by cases h|(j,c)::K,i,b,h=>by have a:e5.find ((j,some c)::b8 K) i=some b:=h;simp only[e5.find]at a;split at a;rename_i d;cases a;rw[sM.1 d];simp;exact cX _ (CW a)
def xN:∀{S:List (Id×aJ)}{x:Id×aJ},(S.map (·.1)).Nodup->x∈S->aQ.of S x.1=some x.2
 |[],x,_,b=>by simp at b|(j,c)::S,x,a,b=>by
   simp only[mw,h5]at a;rcases cp.1 b with rfl|b;simp[aQ.of];have d:x.1≠j:=λ e=>a.1 (bd.2 ⟨x,b,e⟩);show List.lookup _ _=_;rw[jh];have:(x.1==j)=false:=by simpa using d
   rw[this];exact xN a.2 b
def XE{ρ:Id->Id}:∀{K:List (Id×aJ)},((ft ρ K).map (·.1)).Nodup->∀x∈K,∀y∈K,x.1≠y.1->ρ x.1≠ρ y.1|[],_,x,f,_,_,_=>by simp at f|z::K,h,x,f,y,i,c=>by have d:((ρ z.1,z.2.aY ρ)::ft ρ K).map (·.1)|>.Nodup:=h;simp only[mw,h5]at d;have g:∀w∈K,ρ w.1∈(ft ρ K).map (·.1):=λ w hw=>bd.2 ⟨(ρ w.1,w.2.aY ρ),bd.2 ⟨w,hw,rfl⟩,rfl⟩;rcases cp.1 f with a|a<;>rcases cp.1 i with b|b;exact absurd (by rw[a,b]) c;subst a;exact λ e=>d.1 (e▸g y b);subst b;exact λ e=>d.1 (e▸g x a);exact XE d.2 x a y b c
def bA.iT{eL:cD}{π:Id}{n:Nat}{κ:Nat->Id}{m f:List (aV P G)}{cs:nj}{g:List aa}{d:List (Id×aJ)}{e:cn}{s:u9}(o:bY true 1000 eL [0] m ⟨g,b8 d,0⟩=some (cs,f,e,s))(hc:jP cs)(hd:((ft (bT n π κ) d).map (·.1)).Nodup):bA P G π eL (λ h s'=>h=e/\s'.t=bD (bT n π κ) s.t/\s'.n=n+s.n/\y5 (bT n π κ) s.S.to s'.σ) ⟨bD (bT n π κ) g,aQ.of (ft (bT n π κ) d),n⟩:=by refine(bA.aY (κ:=κ) (n:=n) (m0 1000 _ _ _ _ _ _ _ _ o hc) (λ i b hb=>?_) λ i j p l a=>?_).mono λ h s' k=>?_;exact xN hd (bd.2 ⟨(i,b),CW hb,rfl⟩);have⟨b,hb⟩:=J1.1 p;have⟨c,hc⟩:=J1.1 l;exact XE hd _ (CW hb) _ (CW hc) a;obtain⟨s0,⟨rfl,rfl⟩,h1,r,q⟩:=k;exact⟨rfl,h1,r,q⟩
def rest(a b:List (Id×aJ)):List (Id×aJ):=b.filter λ x=>!a.any λ y=>mN y.1 x.1
def cv.jC{f:FuncId}{aG:ee}(h:lp P f aG)(κ:Nat->Id){p:Id}(A:List (aV P G)){args:List aa}{S up:List (Id×aJ)}{val:aa}(a:List aa)(d:List (Id×aJ))(g:aa)(c:List (Id×aJ))(l:nI aG.results (c++rest c d) (bY true 1000 aG.body [0] A ⟨a++bI (aG.aH-a.length) (.aM []),b8 d,0⟩)=nH g (c++rest c d) (bY true 1000 aG.body [0] A ⟨a++bI (aG.aH-a.length) (.aM []),b8 d,0⟩))(M:bD (bT 0 p κ) a=args)(O:ft (bT 0 p κ) d=S)(hv:g.aY (bT 0 p κ)=val)(hu:ft (bT 0 p κ) c=up)(hd:(S.map (·.1)).Nodup)(rj:(up.map (·.1)).Nodup):cv P G f args p S {val,rd:=S.map (·.1),up:=up.map λ x=>(x.1,some x.2)}:=by subst M;subst O;subst hv;subst hu;have⟨fn,R,E⟩:=h;cases i:bY true 1000 aG.body [0] A ⟨a++bI (aG.aH-a.length) (.aM []),b8 d,0⟩with|none=>rw[i]at l;simp[nI,nH]at l|some y=>
   have⟨cs,Q,e,s⟩:=y;rw[i]at l;simp only[nI,nH,bf,c5]at l;have⟨T,V,ho,J⟩:=l;have k:=zw J;refine cv.alF R E ?_;have W:bD (bT 0 p κ) a++bI (aG.aH-(bD (bT 0 p κ) a).length) (.aM [])=bD (bT 0 p κ) (a++bI (aG.aH-a.length) (.aM [])):=by rw[IL,mS];congr 1;rw[ga,List.map_replicate];rfl
   rw[W];refine(bA.iT (κ:=κ) (n:=0) (π:=p) i (jP.of_map T) hd).mono λ Y s' L=>?_;have⟨rfl,h1,X,t⟩:=L;refine⟨MN V,_,amp (s0:=s.to) h1 t ho,Fin.same rfl λ j=>?_⟩;by_cases B:∃x∈(ft (bT 0 p κ) c).map (λ x=>(x.1,some x.2)),x.1=j;right;obtain⟨x,F,rfl⟩:=B;obtain⟨y,r,rfl⟩:=bd.1 F;obtain⟨z,m,rfl⟩:=bd.1 r;have K:s'.σ (bT 0 p κ z.1)=some (z.2.aY (bT 0 p κ)):=t.1 _ _ (k z (tl _ m));have I:∀(U:List (Id×aJ))(σ:aQ),(U.map (·.1)).Nodup->∀w∈U,σ.app (U.map λ x=>(x.1,some x.2)) w.1=some w.2:=by intro U;induction U with|nil=>intro σ _ w hw;simp at hw|cons u U N=>intro σ D w hw;simp only[mw,h5]at D;simp only[mw,mz];rcases cp.1 hw with rfl|hw;rw[aQ.F2,BQ];rintro x i e;obtain⟨v,hv,rfl⟩:=bd.1 i;exact D.1 (bd.2 ⟨v,hv,e⟩);exact N _ D.2 w hw
   rw[K];exact I _ _ rj _ (bd.2 ⟨z,m,rfl⟩);rw[aQ.F2 _ _ _ λ x i e=>B ⟨x,i,e⟩];cases q:(ft (bT 0 p κ) d).lookup j with|none=>exact .inl q|some b=>
     right;show List.lookup _ _=_;rw[q];have⟨z,m,H⟩:=bd.1 (qj q);simp only[c5]at H;have⟨rfl,rfl⟩:=H;have C:z∈rest c d:=by refine List.mem_filter.2 ⟨m,?_⟩;cases hb:c.any λ y=>mN y.1 z.1 with|false=>rfl|true=>have⟨y,r,o⟩:=List.any_eq_true.1 hb;exact absurd ⟨(bT 0 p κ y.1,some (y.2.aY (bT 0 p κ))),bd.2 ⟨_,bd.2 ⟨y,r,rfl⟩,rfl⟩,by rw[sM.1 o]⟩ B
     exact(t.1 _ _ (k z (Bp _ C))).symm
def cv.Zi{f:FuncId}{aG:ee}(h:lp P f aG)(κ:Nat->Id){p:Id}(d:List (aV P G)){args:List aa}{S:List (Id×aJ)}{val:aa}(a:List aa)(c:List (Id×aJ))(b:aa)(i:nI aG.results c (bY true 1000 aG.body [0] d ⟨a++bI (aG.aH-a.length) (.aM []),b8 c,0⟩)=nH b c (bY true 1000 aG.body [0] d ⟨a++bI (aG.aH-a.length) (.aM []),b8 c,0⟩))(g:bD (bT 0 p κ) a=args)(j:ft (bT 0 p κ) c=S)(hv:b.aY (bT 0 p κ)=val)(hd:(S.map (·.1)).Nodup):cv P G f args p S {val,rd:=S.map (·.1)}:=by
 have e:([]:List (Id×aJ))++rest [] c=c:=by unfold rest;rw[List.nil_append,List.filter_eq_self];intro x _;rfl
 exact cv.jC (up:=[]) h κ d a c b [] (by rw[e];exact i) g j hv rfl hd List.nodup_nil
def hE(K:List (Id×aJ))(a:List aa)(b:Nat):u6 P G->Option (List mA×cn×Bool×List aa×List (Option aJ))|some (cs,_,e,⟨t,S,n⟩)=>some (cs.map (·.1),e,Nat.ble n b,vH t a,K.map λ x=>S.find x.1)|none=>none
def hh(a:cn)(K:List (Id×aJ))(b:List aa):u6 P G->Option (List mA×cn×Bool×List aa×List (Option aJ))|some (cs,_,_,_)=>some (cs.map (·.2),a,true,b,K.map λ x=>some x.2)|none=>some ([],a,true,[],[])
def S6{ρ:Id->Id}:∀{cs ds:List aa},jn cs ds->jn (bD ρ cs) (bD ρ ds)|[],[],_=>trivial|c::cs,d::ds,h=>by simp only[jn]at h;refine⟨?_,S6 h.2⟩;rcases h.1 with rfl|rfl;exact .inl rfl;exact .inr rfl|[],_::_,h=>by simp[jn]at h|_::_,[],h=>by simp[jn]at h
def bA.jC{eL:cD}{π:Id}{n:Nat}(κ:Nat->Id)(g:List (aV P G)){t m:List aa}{S K:List (Id×aJ)}{Q:cn->dD->Prop}(d:List aa)(c:List (Id×aJ))(p:cn)(f:List aa)(l:List (Id×aJ))(o:Nat)(a:hE l f o (bY true 1000 eL [0] g ⟨d,b8 c,0⟩)=hh p l f (bY true 1000 eL [0] g ⟨d,b8 c,0⟩))(B:bD (bT n π κ) d=t)(E:ft (bT n π κ) c=S)(h:bD (bT n π κ) f=m)(i:ft (bT n π κ) l=K)(hd:(S.map (·.1)).Nodup)(u:∀s,bN G π s ⟨m,aQ.of K,n+o⟩->Q p s):bA P G π eL Q ⟨t,aQ.of S,n⟩:=by subst B;subst E;subst h;subst i;cases b:bY true 1000 eL [0] g ⟨d,b8 c,0⟩with|none=>rw[b]at a;simp only[hE,hh]at a;cases a|some y=>have⟨cs,w,e,s⟩:=y;rw[b]at a;simp only[hE,hh,bf,c5]at a;have⟨C,rfl,D,A,i⟩:=a;refine(bA.iT (κ:=κ) (n:=n) (π:=π) b (jP.of_map C) hd).mono λ F s' k=>?_;have⟨rfl,h1,r,q⟩:=k;refine u s' ?_;have⟨t2,H,I⟩:=s';simp only[]at h1 r q;subst h1;subst r;refine bN.forget (S6 (Na A)) (λ j=>aQ.xS (λ x b=>?_) j) (Nat.add_le_add_left (EU D) _);obtain⟨z,v,rfl⟩:=bd.1 b;exact q.1 _ _ (zw i z v)
def PK(S5 afz afy afA:Nat):ee:=⟨25,[(.tmp 2)],(zk [alw 1 0,alr 2 false] (zk [alu 3 0 1,alv 4 2 3,als 5 S5 4,xQ 6 5,GX 7 2 1 6 true,GY 8 2 7 6 true,⟨some 9,.call (.f S5) [.t 8],some (6,true)⟩,NK 10 6 9,xQ 11 10,GX 12 2 1 11 true,GY 13 2 12 11 true,⟨some 14,.call (.f afz) [.t 13],some (11,true)⟩,⟨some 15,.bin .gtr .int (.t 14) (.c (.int .i64 0)),some (11,true)⟩,NK 16 11 15,xQ 17 16,GX 18 0 1 17 true,GY 19 2 18 17 true,GX 20 2 1 17 true,GY 21 2 20 17 true,⟨some 22,.call (.f afy) [(.t 19),(.t 21)],some (17,true)⟩,⟨some 23,.call (.f afA) [.t 22],some (17,true)⟩,NK 24 17 23,xQ 2 24] .ret))⟩
def arD:ee:=⟨8,[(.tmp 2)],(zk [Wo 2] (.seq (zk [xQ 3 0,⟨some 4,.bin .eql .slice (.t 3) (.c .ar),none⟩] (.cond (.t 4) (zk [Wo 2] .ret) .skip)) (zk [⟨some 5,.vc 1 0 (.int .u32 0) [],none⟩,xQ 6 0,alq 7 1 4 5 6,xQ 2 7] .ret)))⟩
end
end Go.aA
namespace Go.Proofs.YtpcofcmencgkbaaGreat
noncomputable def Ci(n:Nat):Option ee:=(ab.funcs[n]?).bind (xe ab)
noncomputable def ao(n:Nat):ee:=(Ci n).getD ⟨0,[],.skip⟩
abbrev QP(n:Nat):Prop:=lp ab n (ao n)
def hN{n:Nat}(e:(Ci n).isSome=true:=by kernel_rfl):QP n:=by have⟨x,a⟩:=Option.isSome_iff_exists.1 e;have h:=a;rw[Ci,yN]at h;have⟨fn,h1,b⟩:=h;exact⟨fn,h1,by rw[ao,a];exact b⟩
def aN{n:Nat}{G:Nat->Option (List aa)}(l:List (aV ab G)){args:List aa}{r:aa}[bg r](b:I2 (ao n).results (vS (ao n) args l)=I1 r (vS (ao n) args l):=by kernel_rfl)(e:(Ci n).isSome=true:=by kernel_rfl):ag ab G n args r:=ag.jC (hN e) l b
def agO:lp ab 272 (PK 290 264 292 291):=⟨_,Tryz.func272,an⟩
def agP:QP 213:=hN
end Go.Proofs.YtpcofcmencgkbaaGreat
namespace Go.aA
section
variable{P:Program}{G:Nat->Option (List aa)}
def Z1(k:Nat)(h:k<9223372036854775807):cV.wrap ((k:Int)+1)=((k+1:Nat):Int):=by rw[c0];omega
def Hr{k kk:Nat}{es:List aa}{e:aa}{Ht:IntKind}{i:Nat}(a:kk=k)(h:es[i]?=some e):kM k (.sl kk es) (.int Ht (i:Int))=some (.cE e.cells 0):=by subst a;simp[kM,h]
def ai:Nat:=4294967296
def BV:1<ai:=al
def fz:0<ai:=al
def val:List Nat->Nat|[]=>0|w::r=>w+ai*val r
def kz(ws:List Nat):Prop:=∀w∈ws,w<ai
def digits(n:Nat):List Nat:=if a:n=0 then []else n%ai::digits (n/ai)termination_by n decreasing_by exact J2 (lP a) BV
def jt:digits 0=[]:=by rw[digits];simp
def tP{n:Nat}(h:n≠0):digits n=n%ai::digits (n/ai):=by rw[digits];simp[h]
def we(n:Nat):val (digits n)=n:=by induction n using yv with|_ n a=>by_cases h:n=0;subst h;rw[jt];rfl;rw[tP h,val,a _ (J2 (lP h) BV)];exact Nat.mod_add_div n ai
def xi(n:Nat):kz (digits n):=by induction n using yv with|_ n b=>by_cases h:n=0;subst h;rw[jt];intro w a;simp at a;rw[tP h];intro w a;rcases cp.1 a with rfl|a;exact bG _ al;exact b _ (J2 (lP h) BV) w a
def Lz{n:Nat}:digits n=[]↔n=0:=by constructor;intro h;have:=we n;rw[h]at this;exact this.symm;rintro rfl;exact jt
def Jy(a b:List Nat):val (a++b)=val a+ai^a.length*val b:=by induction a with|nil=>simp[val]|cons x a c=>simp only[yx,val,c,fU,eo];rw[ej,<-Nat.add_assoc];congr 1;rw[<-Nat.mul_assoc,dm (ai^a.length) ai]
def yj{ws:List Nat}(h:kz ws):val ws<ai^ws.length:=by induction ws with|nil=>simp[val]|cons w ws a=>have h1:=a (λ x b=>h x (cX _ b));have d:=h w am;simp only[val,fU,eo];have c:ai*(val ws+1)<=ai*ai^ws.length:=fS _ h1;rw[dm (ai^ws.length) ai];rw[ej]at c;omega
def LA{ws:List Nat}(h:kz ws)(c:ws=[]\/∃w,ws.getLast?=some w/\w≠0):digits (val ws)=ws:=by induction ws with|nil=>simp[val,jt]|cons w ws j=>have f:=h w am;have g:kz ws:=λ x b=>h x (cX _ b);cases ws with|nil=>rcases c with c|⟨x,b,a⟩;simp at c;simp at b;subst b;simp only[val,Nat.mul_zero,Nat.add_zero];rw[tP a,dL f,h6 f,jt]|cons y ws=>
     have k:∃x,(y::ws).getLast?=some x/\x≠0:=by rcases c with c|⟨x,b,a⟩;simp at c;exact⟨x,by simpa[aaM]using b,a⟩
     have d:=j g (.inr k);have i:val (y::ws)≠0:=by
       intro e;have:digits (val (y::ws))=[]:=by rw[e,jt]
       rw[d]at this;simp at this
     have a:val (w::y::ws)≠0:=by simp only[val]at i⊢;have:0<ai*(y+ai*val ws):=Nat.mul_pos al (lP i);omega
     rw[tP a];have m:val (w::y::ws)%ai=w:=by show(w+ai*val (y::ws))%ai=w;rw[Nat.add_mul_mod_self_left];exact dL f
     have l:val (w::y::ws)/ai=val (y::ws):=by show(w+ai*val (y::ws))/ai=_;rw[Nat.add_mul_div_left _ _ al,h6 f,cI]
     rw[m,l,d]
def Sp{n:Nat}:digits n=[]\/∃w,(digits n).getLast?=some w/\w≠0:=by induction n using yv with|_ n b=>by_cases h:n=0;left;subst h;exact jt;right;rw[tP h];rcases b _ (J2 (lP h) BV)with h1|⟨w,h1,c⟩;have hd:=Lz.1 h1;rw[h1];refine⟨n%ai,rfl,?_⟩;rw[dL];exact h;rcases Nat.div_eq_zero_iff.1 hd with a|a;exact absurd a al;exact a;cases hd:digits (n/ai)with|nil=>rw[hd]at h1;simp at h1|cons x xs=>rw[hd]at h1;exact⟨w,by simpa[aaM]using h1,c⟩
def Pu(ws:List Nat):val (ws++[0])=val ws:=by rw[Jy];simp[val]
def arE{ws:List Nat}(h:kz ws)(k:Nat):kz (ws.take k):=λ w a=>h w (List.mem_of_mem_take a)
def af(n:Nat):Nat:=(digits n).length
def sS(n:Nat):n<ai^af n:=by have:=yj (xi n);rwa[we]at this
def jF{n k:Nat}(h:n<ai^k):af n<=k:=by induction k generalizing n with|zero=>simp at h;subst h;simp[af,jt]|succ k b=>
   by_cases a:n=0;subst a;simp[af,jt];unfold af;rw[tP a];have:n/ai<ai^k:=by rw[eo]at h;exact Nat.div_lt_of_lt_mul (by rwa[dm])
   have:=b this;simp only[fU];unfold af at this;omega
def fv{m n:Nat}(h:m<=n):af m<=af n:=jF (gN h (sS n))
def Bd(m n:Nat):af (m*n)<=af m+af n:=by refine jF ?_;rw[iI];exact Nat.mul_lt_mul'' (sS m) (sS n)
def us(ws:List Nat):List aa:=ws.map λ w:Nat=>.int .u32 (w:Int)
def W(n:Nat):aa:=.sl 1 (us (digits n))
def j2(ws:List Nat):(us ws).length=ws.length:=by simp[us]
def A4{ws:List Nat}{i w:Nat}(h:ws[i]?=some w):(us ws)[i]?=some (.int .u32 (w:Int)):=by simp[us,h]
def Zz(ws:List Nat)(k:Nat):(us ws).take k=us (ws.take k):=by simp[us,ET]
def aqy(a b:List Nat):us (a++b)=us a++us b:=by simp[us]
def Zw(ws:List Nat):flat (us ws)=us ws:=by induction ws with|nil=>rfl|cons w ws a=>simp only[us,mw,flat,aaK,aa.cells]at a⊢;rw[a];rfl
def Zy(ws:List Nat):cd (.sl 1 (us ws)):=cd.sl (by rw[Zw];intro c a;simp only[us,bd]at a;obtain⟨w,_,rfl⟩:=a;exact cd.int _ _)
def Pl(ws:List Nat):∀c∈flat (us ws),cd c:=by rw[Zw];intro c a;simp only[us,bd]at a;obtain⟨w,_,rfl⟩:=a;exact cd.int _ _
def Pm(ws:List Nat):∀e∈us ws,e.size=1:=by intro e a;simp only[us,bd]at a;obtain⟨w,_,rfl⟩:=a;rfl
def Zx(ws:List Nat):((us ws).all λ e=>e.cells.all j4)=true:=by rw[ek];intro e a;simp only[us,bd]at a;obtain⟨w,_,rfl⟩:=a;rfl
def w4(n:Nat):cd (W n):=Zy _
def arQ(k:Nat)(h:0<k)(a:k<=9223372036854775807):cV.wrap ((k:Int)-1)=((k-1:Nat):Int):=by rw[c0];omega
def fJ{p:Prop}[Decidable p](h:p):decide p=true:=decide_eq_true h
def dZ{p:Prop}[Decidable p](h:¬p):decide p=false:=decide_eq_false h
def apF{k kk:Nat}{es:List aa}{h:Nat}(a:kk=k)(b:h<=es.length):gi k (.sl kk es) none (some (.int .i64 (h:Int))) none=some (.sl k (es.take h)):=by subst a;simp[gi,gh,jf,b]
def fi(a b:Int):Int:=if a<b then-1 else if b<a then 1 else 0
def eg(m n:Nat):Int:=fi m n
def aS(z:Int):aa:=.agg [.bool (decide (z<0)),W z.natAbs]
def eE(neg:Bool)(n:Nat):Int:=if neg then-(n:Int)else n
def arh{id:Id}{ws:List Nat}{b t:Bool}{n:Nat}(a:n=ws.length):View (aQ.of [(id,⟨us ws,1,b⟩)]) (.ah id 1 0 n t) (.sl 1 (us ws)):=by subst a;refine View.ah (av:=⟨us ws,1,b⟩) (by simp[aQ.of]) rfl (by rw[j2];omega) ?_ (by rw[j2]) (Pm ws);rw[List.drop_zero,List.take_of_length_le (by rw[j2];exact a2 _)];exact dy.pure (Pl ws)
def ig(P:Program)(G:Nat->Option (List aa))(f:FuncId):Prop:=∀ws:List Nat,kz ws->ws.length<=9223372036854775807->ag P G f [.sl 1 (us ws)] (W (val ws))
def vi{a b:Int}(h:a<b):fi a b=-1:=by simp[fi,h]
def zl{a b:Int}(h:b<a):fi a b=1:=by simp[fi,h];omega
def R7{a b:Int}(h:a=b):fi a b=0:=by simp[fi,h]
def eQ(m:Nat):m2 false (W m)=some (.int .i64 (af m)):=by simp[W,m2,j2,af]
def Vj{m n:Nat}(h:af m<af n):m<n:=by rcases Nat.lt_or_ge m n with h1|h1;exact h1;have:=fv h1;omega
def FT{m i w:Nat}(h:(digits m)[i]?=some w):kM 1 (W m) (.int .i64 (i:Int))=some (.cE (aa.int .u32 (w:Int)).cells 0):=Hr rfl (A4 h)
def aeR{o:List Nat}(h:kz o)(b:o=[]\/ai^(o.length-1)<=val o):digits (val o)=o:=by
 refine LA h ?_;rcases b with a|b;exact .inl a;by_cases a:o=[];exact .inl a;right;refine⟨o.getLast a,List.getLast?_eq_some_getLast a,λ f=>?_⟩;have e:=List.dropLast_concat_getLast a;rw[f]at e;have g:val o=val o.dropLast:=by rw[<-e,Pu,List.dropLast_concat]
 have c:=yj (ws:=o.dropLast) (λ w d=>h w ((List.dropLast_sublist _).subset d));rw[List.length_dropLast]at c;omega
def aq2{a:List Nat}{i x:Nat}(h:a[i]?=some x):val (a.take (i+1))=val (a.take i)+ai^i*x:=by
 have b:=(fl.1 h).1;have e:a.take (i+1)=a.take i++[x]:=by rw[List.take_add_one,h];rfl
 rw[e,Jy];have:(a.take i).length=i:=by rw[List.length_take];omega
 rw[this];simp[val]
def kN(s:Nat):jH.wrap (s:Int)=((s%ai:Nat):Int):=by rw[IntKind.wrap_u32];unfold ai;omega
def JK(s:Nat)(h:s<18446744073709551616):da.wrap (s:Int)=(s:Int):=by rw[iy];omega
def nK(s:Nat):eY .shr .int (.int .u64 (s:Int)) (.int .u64 32)=some (.int .u64 ((s/ai:Nat):Int)):=by
 rw[B9 al];have:(s:Int).fdiv (2^(min (32:Int).toNat da.bits))=((s/ai:Nat):Int):=by show(s:Int).fdiv (2^32)=_;rw[yz _ al];unfold ai;omega
 rw[this]
def fC(x:Nat)(h:x<ai):da.wrap (x:Int)=(x:Int):=JK x (by unfold ai at h;omega)
def w5(a b:Nat)(h:a+b<18446744073709551616):da.wrap ((a:Int)+(b:Int))=((a+b:Nat):Int):=by rw[iy];omega
def akl{p:Id}{c:Nat}(h:c*4<=140737488355328):Ba p 1 4 (.int .u32 0) (.int .i64 0) (.int .i64 (c:Int))=some {val:=.ah p 1 0 0 false,up:=[(p,some ⟨us [],1,false⟩)]}:=by have a:=oD (n:=c);show(if(0:Int)<=0/\(0:Int)<=(c:Int)/\(c:Int)*((4:Nat):Int)<=140737488355328/\(c:Int)<=((maxLen:Nat):Int)/\(aa.int jH 0).size=1/\(aa.int jH 0).cells.all j4=true then _ else none)=_;rw[if_pos ⟨ac,ac,ac,ac,rfl,rfl⟩];rfl
def aqz(c:Nat):bI c (aa.int .u32 0)=us (bI c 0):=by simp[us]
def aqA(o:List Nat)(i x:Nat):(us o).set i (.int .u32 (x:Int))=us (o.set i x):=by simp[us,List.map_set]
def akn{p:Id}{c:Nat}(h:c*4<=140737488355328):Ba p 1 4 (.int .u32 0) (.int .i64 (c:Int)) (.int .i64 (c:Int))=some {val:=.ah p 1 0 c false,up:=[(p,some ⟨us (bI c 0),1,false⟩)]}:=by have a:=oD (n:=c);show(if(0:Int)<=(c:Int)/\(c:Int)<=(c:Int)/\(c:Int)*((4:Nat):Int)<=140737488355328/\(c:Int)<=((maxLen:Nat):Int)/\(aa.int jH 0).size=1/\(aa.int jH 0).cells.all j4=true then _ else none)=_;rw[if_pos ⟨ac,ac,ac,ac,rfl,rfl⟩];simp only[nU,aqz]
def ah6{q:Id}{len i:Nat}{t:Bool}(h:i<len):kM 1 (.ah q 1 0 len t) (.int .i64 (i:Int))=some (.ref q i 0):=by simp only[kM];rw[if_pos ⟨trivial,ac,ac⟩];simp
def apZ{σ:aQ}{q:Id}{o:List Nat}{i x:Nat}(h:σ q=some ⟨us o,1,false⟩)(a:i<o.length):uF σ 1 (.ref q i 0) (.int .u32 (x:Int))=some {val:=.aM [],rd:=[q],up:=[(q,some ⟨us (o.set i x),1,false⟩)]}:=by have⟨w,b⟩:∃w,o[i]?=some w:=⟨_,eu a⟩;rw[arx (n:=1) (v:=.int .u32 (x:Int)) h (A4 b) rfl (by simp[aa.size,aa.cells]) rfl,<-aqA];rfl
def ajC{σ:aQ}{q:Id}{o:List Nat}{i x:Nat}{b:Bool}(h:σ q=some ⟨us o,1,b⟩)(a:o[i]?=some x):lg σ false 1 (.ref q i 0)=some {val:=.int .u32 (x:Int),rd:=[q]}:=by rw[aro h (A4 a)];rfl
def Dj(a b:Nat)(c:a<ai)(hb:b<ai):da.wrap ((a:Int)*(b:Int))=((a*b:Nat):Int):=by have:a*b<=4294967295*4294967295:=kr (by unfold ai at c;omega) (by unfold ai at hb;omega);rw[<-pI,iy];omega
def HZ{a b:Nat}(c:a<ai)(hb:b<ai):a*b<=18446744065119617025:=by have:a*b<=4294967295*4294967295:=kr (by unfold ai at c;omega) (by unfold ai at hb;omega);omega
def Q9(a b:Nat)(h:a+b<=9223372036854775807):cV.wrap ((a:Int)+(b:Int))=((a+b:Nat):Int):=by rw[c0];omega
def gL{n:Nat}:af n=0↔n=0:=by constructor;intro h;exact Lz.1 (P3.1 h);intro h;rw[h,af,jt];rfl
def La{k:IntKind}{a b:Int}:eY .or .int (.int k a) (.int k b)=some (.int k (k.wrap (jk k.bits a|||jk k.bits b).toNat)):=by simp only[eY];rw[show mi .or .int (.int k a) (.int k b)=some (.int k (k.wrap (jk k.bits a|||jk k.bits b).toNat))from by simp[mi,qG,tK]]
def NQ(a b:Nat)(e:a<18446744073709551616)(hb:b<18446744073709551616):eY .or .int (.int .u64 (a:Int)) (.int .u64 (b:Int))=some (.int .u64 ((a|||b:Nat):Int)):=by
 have d:a|||b<2^64:=aaN ac ac;have h1:(jk 64 (a:Int)).toNat=a:=by rw[yA,J3];exact dL ac
 have c:(jk 64 (b:Int)).toNat=b:=by rw[yA,J3];exact dL ac
 rw[La];show some (aa.int .u64 (da.wrap ((jk 64 (a:Int)|||jk 64 (b:Int)).toNat:Int)))=_;rw[aaO,h1,c,JK _ ac]
def Ig(a b:Nat)(d:a<ai)(hb:b<ai):eY .or .int (.int .u32 (a:Int)) (.int .u32 (b:Int))=some (.int .u32 ((a|||b:Nat):Int)):=by
 unfold ai at d hb;have e:a|||b<2^32:=aaN ac ac;have h1:(jk 32 (a:Int)).toNat=a:=by rw[yA,J3];exact dL ac
 have c:(jk 32 (b:Int)).toNat=b:=by rw[yA,J3];exact dL ac
 rw[La];show some (aa.int .u32 (jH.wrap ((jk 32 (a:Int)|||jk 32 (b:Int)).toNat:Int)))=_;rw[aaO,h1,c,kN,dL (by unfold ai;omega)]
def DD(a b:Nat)(c:a<ai)(hb:b<ai):eY .or .int (.int .u64 ((ai*a:Nat):Int)) (.int .u64 (b:Int))=some (.int .u64 ((ai*a+b:Nat):Int)):=by rw[NQ _ _ (by unfold ai at*;omega) (by unfold ai at*;omega)];have:=Bq (i:=32) (b:=b) (by unfold ai at hb;omega) a;rw[show ai=2^32 from rfl,this]
def AY(a:Nat)(b:a<ai):eY .shl .int (.int .u64 (a:Int)) (.int .u64 32)=some (.int .u64 ((ai*a:Nat):Int)):=by
 rw[Lb al];have:da.wrap ((a:Int)*2^(min (32:Int).toNat da.bits))=((ai*a:Nat):Int):=by show da.wrap ((a:Int)*2^32)=_;rw[iy];unfold ai at*;omega
 rw[this]
def DX(a b:Nat)(c:a<18446744073709551616)(hb:b≠0):eY .quo .int (.int .u64 (a:Int)) (.int .u64 (b:Int))=some (.int .u64 ((a/b:Nat):Int)):=by rw[Rs ac];show some (aa.int .u64 (da.wrap ((a/b:Nat):Int)))=_;rw[JK _ (gN (h7 _ _) c)]
def D3(a b:Nat)(hb:b≠0):eY .rem .int (.int .u64 (a:Int)) (.int .u64 (b:Int))=some (.int .u64 ((a%b:Nat):Int)):=by rw[adl ac];rfl
def zs(k:Nat):List Nat:=bI k 0
def EN(k:Nat):(zs k).length=k:=List.length_replicate ..
def Jn{s:Nat}(a:s<=32):2^(32-s)*2^s=ai:=by rw[<-iI,Nat.sub_add_cancel a];rfl
def apo{x c s:Nat}(f:s<=32)(d:c<2^s)(g:x<ai):c|||((x*2^s)%ai)=c+(x*2^s)%ai/\c+(x*2^s)%ai<ai/\(x*2^s)/ai<2^s:=by
 have b:=Jn f;have e:(x*2^s)%ai=2^s*(x%2^(32-s)):=by rw[<-b,Nat.mul_mod_mul_right,dm]
 have a:x%2^(32-s)<2^(32-s):=bG _ (lQ _);have h1:2^s*(x%2^(32-s)+1)<=2^s*2^(32-s):=fS _ a;rw[ej,dm (2^s) (2^(32-s)),b]at h1;refine⟨?_,by rw[e];omega,?_⟩;rw[e,Nat.or_comm,<-Bq d,Nat.add_comm];rw[mm fz,dm];exact Nat.mul_lt_mul_of_pos_left g (lQ _)
def OA(x s:Nat)(d:s<=32)(c:x<ai):eY .shl .int (.int .u64 (x:Int)) (.int .i64 (s:Int))=some (.int .u64 ((x*2^s:Nat):Int)):=by
 rw[Lb ac];have h1:x*2^s<18446744073709551616:=by have a:2^s<=2^32:=Nat.pow_le_pow_right al d;have b:x*2^s<=x*2^32:=fS _ a;unfold ai at c;omega
 have a:min (s:Int).toNat da.bits=s:=by show min (s:Int).toNat 64=s;rw[nU];omega
 have b:(x:Int)*2^s=((x*2^s:Nat):Int):=by rw[pI,aaP];rfl
 rw[a,b,JK _ h1]
def apq{x y s:Nat}(f:s<=32)(c:x<ai):(x/2^s)|||((y*2^(32-s))%ai)=x/2^s+2^(32-s)*(y%2^s)/\x/2^s+2^(32-s)*(y%2^s)<ai/\2^s*(x/2^s+2^(32-s)*(y%2^s))+x%2^s=x+ai*(y%2^s):=by
 have a:=Jn f;have e:(y*2^(32-s))%ai=2^(32-s)*(y%2^s):=by rw[<-a,dm y,Nat.mul_mod_mul_left]
 have b:y%2^s<2^s:=bG _ (lQ _);have hd:x/2^s<2^(32-s):=by rw[mm (lQ _),a];exact c
 have h1:2^(32-s)*(y%2^s+1)<=2^(32-s)*2^s:=fS _ b;rw[ej,a]at h1;refine⟨?_,ac,?_⟩;rw[e,Nat.or_comm,<-Bq hd,Nat.add_comm];have g:=Nat.div_add_mod x (2^s);have d:2^s*(2^(32-s)*(y%2^s))=ai*(y%2^s):=by rw[<-Nat.mul_assoc,dm (2^s),a]
 rw[ej,d];omega
def OB(x s:Nat)(d:s<=32):eY .shr .int (.int .u32 (x:Int)) (.int .i64 (s:Int))=some (.int .u32 ((x/2^s:Nat):Int)):=by
 rw[B9 ac];have a:min (s:Int).toNat jH.bits=s:=by show min (s:Int).toNat 32=s;rw[nU];omega
 have b:(x:Int).fdiv (2^s)=((x/2^s:Nat):Int):=by
   have c:(2:Int)^s=((2^s:Nat):Int):=by rw[aaP];rfl
   rw[c,yz _ (Int.natCast_nonneg _)];exact(Int.natCast_ediv _ _).symm
 rw[a,b]
def ah5{q:Id}{off len i:Nat}{t:Bool}(h:i<len):kM 1 (.ah q 1 off len t) (.int .i64 (i:Int))=some (.ref q (off+i) 0):=by simp only[kM];rw[if_pos ⟨trivial,ac,ac⟩];simp
def lens:List UInt8:=[0,1,2,2,3,3,3,3,4,4,4,4,4,4,4,4,5,5,5,5,5,5,5,5,5,5,5,5,5,5,5,5,6,6,6,6,6,6,6,6,6,6,6,6,6,6,6,6,6,6,6,6,6,6,6,6,6,6,6,6,6,6,6,6,7,7,7,7,7,7,7,7,7,7,7,7,7,7,7,7,7,7,7,7,7,7,7,7,7,7,7,7,7,7,7,7,7,7,7,7,7,7,7,7,7,7,7,7,7,7,7,7,7,7,7,7,7,7,7,7,7,7,7,7,7,7,7,7,8,8,8,8,8,8,8,8,8,8,8,8,8,8,8,8,8,8,8,8,8,8,8,8,8,8,8,8,8,8,8,8,8,8,8,8,8,8,8,8,8,8,8,8,8,8,8,8,8,8,8,8,8,8,8,8,8,8,8,8,8,8,8,8,8,8,8,8,8,8,8,8,8,8,8,8,8,8,8,8,8,8,8,8,8,8,8,8,8,8,8,8,8,8,8,8,8,8,8,8,8,8,8,8,8,8,8,8,8,8,8,8,8,8,8,8,8,8,8,8,8,8,8,8,8,8,8,8]
def len8(v:Nat):Nat:=((lens[v]?).getD 0).toNat
def ey(x:Nat):Nat:=if 65536<=x then(if 256<=x/65536 then 24+len8 (x/65536/256)else 16+len8 (x/65536))else(if 256<=x then 8+len8 (x/256)else len8 x)
set_option maxRecDepth 100000 in theorem ajn{v:Nat}(h:v<256):lens[v]?=some ((lens[v]?).getD 0):=by have:v<lens.length:=h;rw[eu this];rfl
def U5(v:Nat):len8 v<256:=(((lens[v]?).getD 0)).toNat_lt
set_option maxRecDepth 100000 in theorem ajm:(List.range 256).all (fun v=>v==0||(decide (v<2^len8 v)&&decide (2^len8 v<=2*v)))=true:=al
def HG{v:Nat}(h:v<256)(a:0<v):v<2^len8 v/\2^len8 v<=2*v:=by have:=ek.1 ajm v (List.mem_range.2 h);simp only[Bool.or_eq_true,gj,beq_iff_eq,decide_eq_true_eq]at this;rcases this with h1|h1;omega;exact h1
def Ld{x a k j:Nat}(c:a=x/2^j)(h:a<2^k/\2^k<=2*a):x<2^(j+k)/\2^(j+k)<=2*x:=by subst c;have b:=lQ j;refine⟨?_,?_⟩;have:=(mm b).1 h.1;rwa[iI,dm];have h1:=fS (2^j) h.2;have d:=Nat.mul_div_le x (2^j);rw[iI,Nat.mul_left_comm]at*;omega
def ze{x:Nat}(h:x<ai)(c:0<x):x<2^ey x/\2^ey x<=2*x:=by unfold ai at h;unfold ey;by_cases h1:65536<=x;by_cases b:256<=x/65536;rw[if_pos h1,if_pos b];exact Ld (j:=24) (a:=x/65536/256) (by rw[Nat.div_div_eq_div_mul]) (HG ac ac);rw[if_pos h1,if_neg b];exact Ld (j:=16) (a:=x/65536) rfl (HG ac ac);by_cases b:256<=x;rw[if_neg h1,if_pos b];exact Ld (j:=8) (a:=x/256) rfl (HG ac ac);rw[if_neg h1,if_neg b];exact HG ac c
def I7(z:Int):eE (decide (z<0)) z.natAbs=z:=by unfold eE;by_cases h:z<0;simp only[h,decide_true,if_true];omega;simp only[h,decide_false,iz,if_false];omega
def rM(z:Int):eE (!decide (z<0)) z.natAbs=-z:=by unfold eE;by_cases h:z<0;simp only[h,decide_true,Bool.not_true,iz,if_false];omega;simp only[h,decide_false,Bool.not_false,if_true];omega
def X6(y z:Int):eE (!(decide (y<0)==decide (z<0))) (y.natAbs*z.natAbs)=y*z:=by rw[<-Int.natAbs_mul];unfold eE;by_cases h:y<0<;>by_cases a:z<0;have:=Int.mul_pos_of_neg_of_neg h a;simp[h,a];omega;have b:y*z<=0:=Int.mul_nonpos_of_nonpos_of_nonneg ac ac;simp[h,a];omega;have b:y*z<=0:=Int.mul_nonpos_of_nonneg_of_nonpos ac ac;simp[h,a];omega;have b:0<=y*z:=Int.mul_nonneg ac ac;simp[h,a];omega
def jD{oo:FuncId}(a:ig P G oo)(n:Nat)(b:af n<=9223372036854775807):ag P G oo [W n] (W n):=by have:=a (digits n) (xi n) b;rw[we]at this;exact this
def lX(P:Program)(G:Nat->Option (List aa))(f:FuncId):Prop:=∀(neg:Bool)(n:Nat),af n<=9223372036854775807->ag P G f [.bool neg,W n] (aS (eE neg n))
def yo(n:Nat)(a:n<18446744073709551616):af n<=2:=jF (by unfold ai;omega)
def o6(a b:Int):fi a b=-1/\a<b\/fi a b=0/\a=b\/fi a b=1/\b<a:=by unfold fi;by_cases h1:a<b;simp[h1];by_cases c:b<a;simp[h1,c];right;left;simp[h1,c];omega
def Jb(z:Int):z.sign=-1/\z<0\/z.sign=0/\z=0\/z.sign=1/\0<z:=by rcases Int.lt_trichotomy z 0 with h|h|h;exact .inl ⟨Int.sign_eq_neg_one_of_neg h,h⟩;exact .inr (.inl ⟨by rw[h];rfl,h⟩);exact .inr (.inr ⟨Int.sign_eq_one_of_pos h,h⟩)
def R8{y z:Int}(h:y.sign≠z.sign):fi y.sign z.sign=fi y z:=by rcases o6 y z with⟨e,c⟩|⟨e,c⟩|⟨e,c⟩<;>rcases o6 y.sign z.sign with⟨b,a⟩|⟨b,a⟩|⟨b,a⟩<;>rcases Jb y with⟨s,p⟩|⟨s,p⟩|⟨s,p⟩<;>rcases Jb z with⟨f,d⟩|⟨f,d⟩|⟨f,d⟩<;>omega
def aeq{y z:Int}(h:y.sign=z.sign):y.sign*eg y.natAbs z.natAbs=fi y z:=by unfold eg;rcases o6 y z with⟨e,c⟩|⟨e,c⟩|⟨e,c⟩<;>rcases o6 (y.natAbs:Int) (z.natAbs:Int)with⟨a,b⟩|⟨a,b⟩|⟨a,b⟩<;>rcases Jb y with⟨s,p⟩|⟨s,p⟩|⟨s,p⟩<;>rcases Jb z with⟨f,d⟩|⟨f,d⟩|⟨f,d⟩<;>rw[s,a,e]<;>omega
def ic(a b:Int):aa:=.agg [.bool (decide (a<0)),W a.natAbs,.bool (decide (b<0)),W b.natAbs]
def mF(a b:Int):Bool:=!(decide (a<0)==decide (b<0))
def Gq(a b:Int):Nat:=if mF a b=true/\0<a.natAbs%b.natAbs then a.natAbs/b.natAbs+1 else a.natAbs/b.natAbs
def Gr(a b:Int):Nat:=if mF a b=true/\0<a.natAbs%b.natAbs then b.natAbs-a.natAbs%b.natAbs else a.natAbs%b.natAbs
def Sq:digits 1=[1]:=by rw[tP al,show 1/ai=0 from rfl,jt];rfl
def arf{id:Id}{b t:Bool}:View (aQ.of [(id,⟨us [1],1,b⟩)]) (.ah id 1 0 1 t) (W 1):=by unfold W;rw[Sq];exact arh rfl
def arH(m n:Nat):af (m/n)<=af m:=fv (h7 _ _)
def arI(m n:Nat):af (m%n)<=af m:=fv (Nat.mod_le _ _)
def arK(m:Nat):af (m+1)<=af m+1:=jF (by have h1:=sS m;rw[eo];have a:ai^af m*2<=ai^af m*ai:=fS _ al;omega)
def ED:af 1<=1:=by unfold af;rw[Sq];decide
end
end Go.aA
