/- For the claim of VerifierKernel: parts VL17, VL18, VL19, VL20, VL22, VL24, VL25, VL26, VLA, VL27, VL28, VL29, VL38, VL39, VL40, GI, ZHas, CLex, CB, WN, CI1, CI2, CI3, CI4, CI5, CI6, CI7, CI8, CI9, CI10, CI12, CI14, CI15, CI16, CI18. -/
import Derived.Test.YtpcofcmencgkbaaGreatC02
import Derived.LoopN
import Derived.KernelRfl
import Derived.Test.YtpcofcmencgkbaaGreatProg
import Derived.Laws.Bits64
import Derived.Laws.BitsAllLaws
set_option linter.defProp false
set_option linter.unusedSectionVars false
set_option linter.unusedSimpArgs false
set_option linter.unusedVariables false
set_option maxRecDepth 100000
open Array renaming replicate->vm,toList_append->Zj,toList_replicate->Zk
open BitVec renaming ofInt->iK,ofInt_natCast->xS,toNat_ofNat->Jh,toNat_or->Zr
open Bool renaming and_eq_true->gU,false_eq_true->iL
open Go.Ending renaming returned->O2
open Go.IntKind renaming i64->cO,u32->jc,u64->cY,wrap_i64->cU,wrap_u64->h5
open Go.Proofs.Tryz renaming prog->ab
open Go.ay.aa renaming one->jx
open Go.ay.gL renaming refl->O3
open Go.ay.av renaming keep->tX
open Go.ay.eF renaming keep->A3
open Go.ay.aL renaming app->lS,put->vH,mR->vG,uY->A2
open Int renaming fdiv_eq_ediv_of_nonneg->xR,natCast_mul->oF,natCast_pow->Zs,toNat_natCast->nQ
open List renaming all_eq_true->dY,cons_append->xO,drop_take->EH,flatMap_cons->Zn,getD_eq_getElem?_getD->dt,getElem?_eq_getElem->eO,getElem?_eq_some_iff->fc,getElem?_map->kZ,getElem?_of_mem->Zo,getElem?_replicate->Zl,getLast?_cons_cons->Zp,length->DY,length_cons->gC,length_eq_zero_iff->O4,lookup_cons->mr,lookup_eq_none_iff->Zm,mapM_cons->tQ,map_cons->lP,map_take->DZ,mem_append_left->qP,mem_append_right->xP,mem_cons->ct,mem_cons_of_mem->cR,mem_map->bp,mem_of_getElem?->DW,mem_singleton->cq,nodup_cons->hZ,replicate->bM,size_toArray->qQ
open List.cons renaming injEq->O5
open Nat renaming beq->qO,div_eq_of_lt->hh,div_le_self->h6,div_lt_iff_lt_mul->lK,div_lt_self->Jg,le_add_right->nP,le_of_ble_eq_true->D0,le_refl->a2,le_trans->bx,lt_of_le_of_lt->gA,lt_of_lt_of_le->gz,mod_eq_of_lt->dX,mod_lt->bA,mul_add->dW,mul_comm->c9,mul_le_mul->jd,mul_le_mul_left->fK,or_lt_two_pow->Zq,pos_of_ne_zero->kX,pow_add->ic,pow_succ->ea,strongRecOn->xM,two_pow_add_eq_or_of_lt->Ay,two_pow_pos->lJ,zero_add->cF
open Option renaming bind_eq_some_iff->x6,map_eq_some_iff->et,map_some->fb,ne_none_iff_exists'->Jf,pure_def->x3
open Option.some renaming injEq->a9
open Prod.mk renaming injEq->cN
open Go.ay Go.Proofs
namespace Go.ay
section
variable{P:Program}{G:Nat->Option (List aa)}{own:Nat->Prop}{E:Env}{w:World}{σ:aL}
def cb(c:aa):Prop:=∀E w v,av E w c v->av E.bare w c v
def cb.bool(b:Bool):cb (.bool b):=λ _ _ _ h=>by simpa[av]using h
def cb.int(k:IntKind)(n:Int):cb (.int k n):=λ _ _ _ h=>by simpa[av]using h
def cb.str(l:List UInt8):cb (.str l):=λ _ _ _ h=>by simpa[av]using h
def cb.iX:cb .iX:=λ _ _ _ h=>by simpa[av]using h
def cb.jM:cb .jM:=λ _ _ _ h=>by simpa[av]using h
def cb.aH:cb .aH:=λ _ _ _ h=>by simpa[av]using h
def cb.mV{cs:List aa}(h:∀c∈cs,cb c):∀{vs:List Value},bc E w cs vs->bc E.bare w cs vs:=by induction cs with|nil=>intro vs a;simpa[bc]using a|cons c cs b=>intro vs a;simp only[bc]at a⊢;have⟨v,rest,e,h1,f⟩:=a;exact⟨v,rest,e,h c am _ _ _ h1,b (λ x d=>h x (by simp[d])) f⟩
def cb.xo{cs:List aa}(h:∀c∈cs,cb c){b o:Nat}(f:ew E w b o cs):ew E.bare w b o cs:=λ j c d=>let⟨v,e,a⟩:=f j c d;⟨v,e,h c (DW d) _ _ _ a⟩
def cb.agg{cs:List aa}(h:∀c∈cs,cb c):cb (.agg cs):=λ E w v a=>by simp only[av]at a⊢;have⟨xs,e,a⟩:=a;exact⟨xs,e,cb.mV h a⟩
def cb.aJ{cs:List aa}(h:∀c∈cs,cb c):cb (.aJ cs):=λ E w v a=>by simp only[av]at a⊢;have⟨xs,e,a⟩:=a;exact⟨xs,e,cb.mV h a⟩
def cb.fn{f:Fn}{a c:List aa}(h:∀x∈a,cb x)(g:∀x∈c,cb x):cb (.fn f a c):=λ E w v b=>by simp only[av]at b⊢;have⟨xs,ys,e,h1,d⟩:=b;exact⟨xs,ys,e,cb.mV h h1,cb.mV g d⟩
def cb.sl{k:Nat}{es:List aa}(h:∀c∈flat es,cb c):cb (.sl k es):=λ E w v d=>by simp only[av]at d⊢;have⟨a,cap,e,h1,f,i,g⟩:=d;exact⟨a,cap,e,h1,f,i,g.imp id λ⟨b,o,j,hb,d⟩=>⟨b,o,j,hb,mc.2 (cb.xo h (mc.1 d))⟩⟩
def cb.e9{k:Nat}{es:List aa}(h:∀c∈flat es,cb c):cb (.e9 k es):=λ E w v d=>by simp only[av]at d⊢;have⟨a,e,f,i,g⟩:=d;exact⟨a,e,f,i,g.imp id λ⟨b,o,j,hb,d⟩=>⟨b,o,j,hb,mc.2 (cb.xo h (mc.1 d))⟩⟩
def cb.cr{cs:List aa}{o:Nat}(h:∀c∈cs,cb c):cb (.cr cs o):=λ E w v a=>by simp only[av]at a⊢;have⟨b,q,e,hb,a⟩:=a;exact⟨b,q,e,hb,qy.2 (cb.xo h (qy.1 a))⟩
def n2(c:aa):Prop:=∀E w E' w' v,av E w c v->av E' w' c v
def n2.bool(b:Bool):n2 (.bool b):=λ _ _ _ _ _ h=>by simpa[av]using h
def n2.int(k:IntKind)(n:Int):n2 (.int k n):=λ _ _ _ _ _ h=>by simpa[av]using h
def n2.str(l:List UInt8):n2 (.str l):=λ _ _ _ _ _ h=>by simpa[av]using h
def Env.iS(E:Env)(σ:aL):Env:=⟨λ _=>none,λ b=>E.ok b\/∃id aq k N,σ id=some aq/\E.μ id=some (b,k,N)⟩
def View(σ:aL)(c d:aa):Prop:=∀G own E w v,Inv G own E w σ->av E w c v->av (E.iS σ) w d v
def dc(σ:aL)(cs ds:List aa):Prop:=cs.length=ds.length/\∀(j:Nat)(c d:aa),cs[j]?=some c->ds[j]?=some d->View σ c d
def ff.iS(E:Env)(σ:aL)(w:World):ff E.bare (E.iS σ) w w:=⟨λ _ _ h=>by simp[Env.bare]at h,λ _ h=>.inl h,λ _ _=>rfl⟩
def View.pure{c:aa}(h:cb c):View σ c c:=λ _ _ E w v _ a=>tX (ff.iS E σ w) c v (h E w v a)
def dc.pure{cs:List aa}(h:∀c∈cs,cb c):dc σ cs cs:=⟨rfl,λ j c d a hd=>by rw[a]at hd;cases hd;exact View.pure (h c (DW a))⟩
def dc.nil:dc σ [] []:=⟨rfl,am⟩
def dc.cons{c d:aa}{cs ds:List aa}(h:View σ c d)(e:dc σ cs ds):dc σ (c::cs) (d::ds):=⟨by simp[e.1],λ j x y a b=>by cases j with|zero=>simp at a b;subst a;subst b;exact h|succ j=>exact e.2 j x y (by simpa using a) (by simpa using b)⟩
def dc.mV{cs ds:List aa}(h:dc σ cs ds)(f:Inv G own E w σ){vs:List Value}(i:bc E w cs vs):bc (E.iS σ) w ds vs:=by
 have⟨g,c⟩:=fi.1 i;refine fi.2 ⟨by rw[g,h.1],λ j d hd=>?_⟩;have b:j<cs.length:=by rw[h.1];exact(fc.1 hd).1
 have⟨v,e,a⟩:=c j cs[j] (by simp[b]);exact⟨v,e,h.2 j _ d (by simp[b]) hd G own E w v f a⟩
def dc.xo{cs ds:List aa}(h:dc σ cs ds)(g:Inv G own E w σ){b o:Nat}(e:ew E w b o cs):ew (E.iS σ) w b o ds:=by
 intro j d hd;have c:j<cs.length:=by rw[h.1];exact(fc.1 hd).1
 have⟨v,f,a⟩:=e j cs[j] (by simp[c]);exact⟨v,f,h.2 j _ d (by simp[c]) hd G own E w v g a⟩
def View.agg{cs ds:List aa}(h:dc σ cs ds):View σ (.agg cs) (.agg ds):=λ G own E w v b a=>by simp only[av]at a⊢;have⟨xs,e,a⟩:=a;exact⟨xs,e,h.mV b a⟩
def View.aJ{cs ds:List aa}(h:dc σ cs ds):View σ (.aJ cs) (.aJ ds):=λ G own E w v b a=>by simp only[av]at a⊢;have⟨xs,e,a⟩:=a;exact⟨xs,e,h.mV b a⟩
def View.aH(k:Nat):View σ .aH (.sl k []):=λ G own E w v b a=>by simp only[av]at a⊢;exact⟨none,0,a,a2 _,Nat.zero_le _,am,.inl trivial⟩
def View.Oe(k:Nat):View σ (.e9 k []) (.sl k []):=λ G own E w v c b=>by simp only[av]at b⊢;have⟨a,e,_⟩:=b;exact⟨a,0,e,a2 _,Nat.zero_le _,am,.inl trivial⟩
def View.e9{k:Nat}{es ds:List aa}(h:dc σ (flat es) (flat ds))(f:es.length=ds.length)(j:∀d∈ds,d.size=k):View σ (.e9 k es) (.sl k ds):=λ G own E w v m c=>by simp only[av]at c⊢;have⟨a,e,i,n,g⟩:=c;refine⟨a,es.length,by rw[<-f];exact e,by rw[<-f];exact a2 _,i,j,?_⟩;rcases g with g|⟨b,o,l,hb,c⟩;left;subst g;simpa using f.symm;right;exact⟨b,o,l,.inl hb,mc.2 (h.xo m (mc.1 c))⟩
def View.ai{id:Id}{aq:aG}{k off len:Nat}{t:Bool}{ds:List aa}(m:σ id=some aq)(q:aq.k=k)(c:off+len<=aq.els.length)(h:dc σ (flat ((aq.els.drop off).take len)) (flat ds))(n:ds.length=len)(b:∀d∈ds,d.size=k):View σ (.ai id k off len t) (.sl k ds):=λ G own E w v j i=>by
 have⟨g,N,o,ty,a⟩:=j.blk id aq m;simp only[av]at i⊢;have⟨x,s,cap,f,e,h1,y,u,_⟩:=i;rw[a.μ]at f;simp only[a9,cN]at f;have⟨rfl,_,rfl⟩:=f;refine⟨_,cap,by rw[n];exact e,by rw[n];exact h1,ac,b,.inr ⟨g,off*k,rfl,.inr ⟨id,aq,aq.k,N,m,a.μ⟩,?_⟩⟩;refine mc.2 (h.xo j ?_);have:=zU (l:=off) (r:=off+len) a.k a.row ac c;rw[cF,q]at this;have p:(aq.els.take (off+len)).drop off=(aq.els.drop off).take len:=by rw[EH];congr 1;omega
 rwa[p]at this
def ag(P:Program)(G:Nat->Option (List aa))(f:FuncId)(args:List aa)(r:aa):Prop:=(∃fn,P.funcs[f]?=some fn/\(fn.name== "runtime.NumGoroutine")=false/\fn.body.isSome=true)/\∀w vs ok,Inv G (λ k=>w.heap.size<=k) ⟨λ _=>none,ok⟩ w (λ _=>none)->bc ⟨λ _=>none,ok⟩ w args vs->Calls P f vs.toArray w λ e w'=>∃v a,e=.returned v/\Adv (λ k=>w.heap.size<=k) ⟨λ _=>none,ok⟩ ⟨λ _=>none,a⟩ w w'/\(∀b,a b->b<w'.heap.size)/\av ⟨λ _=>none,a⟩ w' r v
def cj.Va{f:FuncId}{args:List aa}{r:aa}(h:ag P G f args r)(u:∀c∈args,cb c)(p:Id):cj P G f args p [] {val:=r}:=by refine⟨h.1,λ own E w σ vs _ m A K=>?_⟩;have s:Inv G (λ k=>w.heap.size<=k) ⟨λ _=>none,E.ok⟩ w (λ _=>none):=⟨m.g6,λ id aq h=>by simp at h,λ i j x y h=>absurd rfl h,m.jq,λ k q=>q⟩;refine(h.2 w vs E.ok s (cb.mV u A)).mono λ e w' C=>?_;obtain⟨v,d,rfl,a,n,H⟩:=C;have l:Adv own E ⟨E.μ,d⟩ w w':=⟨⟨λ _ _ h=>h,a.step.ok,a.step.same⟩,a.os,a.tape,a.output,a.size,λ k q _=>a.block k q ac,λ b hb=>(a.qm b hb).imp id λ h=>m.new b h⟩;refine⟨v,⟨E.μ,d⟩,rfl,l,?_,?_,λ _ _=>rfl⟩;refine m.keep l rfl n λ id aq g N F t=>?_;have⟨J,I,D,ty,o⟩:=m.blk id aq F;rw[o.μ]at t;simp only[a9,cN]at t;have⟨rfl,_,rfl⟩:=t;have z:=ll o.heap;exact⟨a.block _ z ac,λ B hb=>(a.qm _ hb).elim (o.no B) (λ h=>ac)⟩;exact tX (⟨λ _ _ h=>by simp at h,λ _ h=>h,λ _ _=>rfl⟩:ff ⟨λ _=>none,d⟩ ⟨E.μ,d⟩ w' w') r v H
def px(s:du):n5->Option aa|.tmp t=>some (s.t.getD t (.aJ []))|.cell x a n=>(kz s.σ a n (s.t.getD x (.aJ []))).map (·.val)
def rY(a:List n5)(s:du):Option aa:=match a.mapM (px s)with|some [v]=>some v|some vs=>some (.aJ vs)|none=>none
def Ui{α β:Type}{f:α->Sem β}:∀(l:List α)(vs:List β),vs.length=l.length->(∀(i:Nat)(a:α)(v:β),l[i]?=some a->vs[i]?=some v->(f a).run P w=.ok v w)->(l.mapM f).run P w=.ok vs w|[],vs,b,_=>by have:vs=[]:=List.eq_nil_of_length_eq_zero b;subst this;rfl|a::l,[],b,_=>by simp at b|a::l,v::vs,b,h=>by have c:=h 0 a v rfl rfl;have d:=Ui l vs (by simpa using b) (λ i x y e g=>h (i+1) x y (by simpa using e) (by simpa using g));simp[tQ,c,d]
def al4{π:Id}{s:du}{a:Act}(j:oU G π own E w s a){k:ResultVar}{n:n5}(b:Bp P k=some n){c:aa}(h:px s n=some c):∃v,(match k with|.tmp t=>(pure (a.tmps.getD t undef):Sem Value)|.cell x t=>do loadVar t (<-asAddr (a.tmps.getD x undef))).run P w=.ok v w/\av E w c v:=by cases k with|tmp t=>simp only[Bp,a9]at b;subst b;simp only[px,a9]at h;subst h;exact⟨_,rfl,j.frame.get t⟩|cell x t=>simp only[Bp]at b;cases f:oi P t with|none=>simp[f]at b|some g=>cases e:P.info? t with|none=>simp[f,e]at b|some i=>simp only[f,e]at b;split at b;cases b;simp only[px,et]at h;obtain⟨r,p,rfl⟩:=h;obtain⟨⟨v,h1,o⟩,_,u,l⟩:=Yu j.inv f e (j.frame.get x) p;refine⟨v,?_,o⟩;simp only[];rw[l]at h1⊢;simpa[Instr.loadAt,Instr.sureAddr,asAddr]using h1;simp at b
def Wd{π:Id}{s:du}{a:Act}(M:oU G π own E w s a){fn:Func}{H:List n5}(A:fn.results.toList.mapM (Bp P)=some H){c:aa}(h:rY H s=some c):∃v,(results fn a.tmps).run P w=.ok v w/\av E w c v:=by unfold rY at h;cases o:H.mapM (px s)with|none=>simp[o]at h|some cs=>
   have r:cs.length=fn.results.toList.length:=by rw[uR o,uR A]
   let F:ResultVar->Sem Value:=λ m=>match m with|.tmp t=>(pure (a.tmps.getD t undef):Sem Value)|.cell x t=>do loadVar t (<-asAddr (a.tmps.getD x undef))
   have u:∀j,j<cs.length->∃v,(∀m,fn.results.toList[j]?=some m->(F m).run P w=.ok v w)/\∀c,cs[j]?=some c->av E w c v:=by intro j l;have⟨L,h1,S⟩:=mapM_some_get o j cs[j] (by simp[l]);have⟨m,N,Q⟩:=mapM_some_get A j L h1;have⟨v,K,J⟩:=al4 M Q S;refine⟨v,λ O k=>?_,λ c A=>?_⟩;rw[N]at k;cases k;exact K;simp only[l,eO,a9]at A;subst A;exact J
   let val:Nat->Value:=λ j=>if l:j<cs.length then Classical.choose (u j l)else undef;have p:∀j(l:j<cs.length),(∀m,fn.results.toList[j]?=some m->(F m).run P w=.ok (val j) w)/\∀c,cs[j]?=some c->av E w c (val j):=by intro j l;simp only[val,l,dif_pos];exact Classical.choose_spec (u j l)
   let vs:List Value:=(List.range cs.length).map val;have n:vs.length=cs.length:=by simp[vs]
   have y:(fn.results.toList.mapM F).run P w=.ok vs w:=by
     refine Ui _ vs (by rw[n,r]) λ i m v k C=>?_;have I:i<cs.length:=by have:=(fc.1 C).1;omega
     have:v=val i:=by simp[vs,I]at C;exact C.symm
     subst this;exact(p i I).1 m k
   have f:bc E w cs vs:=fi.2 ⟨n,λ j c l=>by have B:=(fc.1 l).1;exact⟨val j,by simp[vs,B],(p j B).2 c l⟩⟩;have z:(results fn a.tmps).run P w=(pure (if h:vs.toArray.size=1 then vs.toArray[0]else .tuple vs.toArray):Sem Value).run P w:=by unfold results;rw[Array.mapM_eq_mapM_toList];simp only[Sem.run_bind,Sem.run_map];exact congrArg (λ x:Result (List Value)=>(x.andThen λ b w'=>Result.ok b.toArray w').andThen λ b w'=>Sem.run P (pure (if h:b.size=1 then b[0]else Value.tuple b)) w') y
   rw[z];refine⟨_,rfl,?_⟩;simp only[o]at h;split at h;rename_i U g;simp only[a9]at g h;subst h;have q:vs.toArray.size=1:=by simp[n,g]
   rw[dif_pos q];rw[g]at f;simp only[bc]at f;obtain⟨v,rest,C,h1,rfl⟩:=f;simpa[C]using h1;rename_i R D g;simp only[a9]at g h;subst h;subst g;have q:¬vs.toArray.size=1:=by intro e;simp[n]at e;have⟨x,T⟩:=List.length_eq_one_iff.1 e;exact D x (by rw[T])
   rw[dif_neg q];simp only[av];exact⟨_,rfl,by simpa using f⟩;simp at*
def ag.MR{f:FuncId}{fn:Func}{aB:dO}(J:P.funcs[f]?=some fn)(l:wj P fn=some aB){args:List aa}{r:aa}(h:bo P G [] aB.body (λ e s'=>(e=.normal\/e=.ret)/\∃eL,rY aB.results s'=some eL/\View s'.σ eL r) ⟨args++bM (aB.aK-args.length) (.aJ []),λ _=>none,0⟩):ag P G f args r:=by
 unfold wj at l;split at l;simp at l;rename_i o;split at l;rename_i c R hb F;simp only[et]at l;obtain⟨tA,B,rfl⟩:=l;refine⟨⟨fn,J,by simpa using o,by simp[hb]⟩,λ w vs ok M I=>?_⟩;refine calls_of_wp J hb ?_;have A:vs.length=args.length:=bc.len I;have K:oU G [] (λ k=>w.heap.size<=k) ⟨λ _=>none,ok⟩ w ⟨args++bM (fn.ntmps-args.length) (.aJ []),λ _=>none,0⟩ {tmps:=vs.toArray++vm (fn.ntmps-vs.toArray.size) undef,defers:=[]}:=by
   refine⟨?_,M,λ _ _ _=>rfl,rfl⟩;show bc _ w _ _;simp only[Zj,Zk,qQ,A];refine bc.append I (fi.2 ⟨am,λ j c z=>?_⟩);have C:j<fn.ntmps-args.length:=by have:=(fc.1 z).1;simpa using this
   simp only[Zl,C,if_true,a9]at z⊢;subst z;exact⟨undef,rfl,by simp only[av,undef];exact⟨#[],rfl,by simp[bc]⟩⟩
 refine h c B _ _ w _ _ K ?_;intro e s' E' w' a' Q a i;obtain⟨O,eL,u,n⟩:=Q;obtain⟨v,y,x⟩:=Wd i F u;have q:∃v,(results fn a'.tmps).run P w'=.ok v w'/\∃v' m,O2 v=.returned v'/\Adv (λ k=>w.heap.size<=k) ⟨λ _=>none,ok⟩ ⟨λ _=>none,m⟩ w w'/\(∀b,m b->b<w'.heap.size)/\av ⟨λ _=>none,m⟩ w' r v':=by refine⟨v,y,v,(E'.iS s'.σ).ok,rfl,?_,?_,?_⟩;refine⟨⟨λ _ _ h=>by simp at h,λ b hb=>.inl (a.step.ok b hb),a.step.same⟩,a.os,a.tape,a.output,a.size,a.block,?_⟩;rintro b(hb|⟨id,aq,k,N,D,d⟩);exact a.qm b hb;obtain⟨g,L,t,ty,p⟩:=i.inv.blk id aq D;rw[p.μ]at d;simp only[a9,cN]at d;right;rw[<-d.1];exact p.own;rintro b(hb|⟨id,aq,k,N,D,d⟩);exact i.inv.g6 b hb;obtain⟨g,L,t,ty,p⟩:=i.inv.blk id aq D;rw[p.μ]at d;simp only[a9,cN]at d;rw[<-d.1];exact ll p.heap;exact n G _ E' w' v i.inv x
 rcases O with rfl|rfl;exact⟨i.defers,q⟩;exact⟨i.defers,q⟩;simp at l
end
section
variable{P:Program}{G:Nat->Option (List aa)}{π:Id}{Q:cf->du->Prop}{s:du}
def iN:List aa->List aa->Prop|[],[]=>True|c::cs,d::ds=>(d=.top\/d=c)/\iN cs ds|_,_=>False
def iN.rep{E:Env}{w:World}:∀{cs ds:List aa}{vs:List Value},iN cs ds->bc E w cs vs->bc E w ds vs|[],[],_,_,h=>h|c::cs,d::ds,vs,a,h=>by simp only[iN]at a;simp only[bc]at h⊢;have⟨v,rest,e,h1,b⟩:=h;refine⟨v,rest,e,?_,iN.rep a.2 b⟩;rcases a.1 with rfl|rfl;simp[av];exact h1|[],_::_,_,h,_=>by simp[iN]at h|_::_,[],_,h,_=>by simp[iN]at h
def bP.forget{t c:List aa}{σ b:aL}{n d:Nat}(f:iN t c)(e:∀id,b id=none\/b id=σ id)(g:n<=d):bP G π ⟨t,σ,n⟩ ⟨c,b,d⟩:=λ own E w _ a=>⟨E,O3 own π E w,f.rep a.frame,a.inv.sub e,a.free.mono g,a.defers⟩
def bP.slots{t b:List aa}{σ:aL}{n a:Nat}(c:iN t b)(d:n<=a):bP G π ⟨t,σ,n⟩ ⟨b,σ,a⟩:=bP.forget c (λ _=>.inr rfl) d
def E2(P:Program)(G:Nat->Option (List aa))(π:Id)(x:cw)(Q:cf->du->Prop):Nat->du->Prop|0,_=>False|n+1,s=>bo P G π x (Then (E2 P G π x Q n) Q) s
def bo.rounds{x:cw}(n:Nat)(h:E2 P G π x Q n s):bo P G π (.loop x) Q s:=by
 intro c g own E w a R q t;cases c<;>simp only[gi,a9,reduceCtorEq]at g;case loop o=>cases h1:gi P o with|none=>simp[h1]at g|some tA=>
     simp only[h1,fb,a9,cw.loop.injEq]at g;subst g;refine wp_loop_rounds n ?_;have key:∀n s j f i,E2 P G π tA Q n s->gL own π E j w f->oU G π own j f s i->Code.rounds P o R n i f:=by intro n;induction n with|zero=>intro s j f i h _ _;exact h.elim|succ n y=>intro s j f i h p q;refine h o h1 own j f i _ q ?_;intro e s' E' w' a' m b d;cases e with|normal=>exact y s' E' w' a' m (p.trans b) d|exit id=>exact t (.exit id) s' E' w' a' m (p.trans b) d|ret=>exact t .ret s' E' w' a' m (p.trans b) d
     exact key n s E w a h (O3 own π E w) q
 case region=>exfalso;revert g;unfold o5;(repeat' split)<;>simp
 all_goals(exfalso;revert g;(repeat' split)<;>simp)
def dJ.GO{α:Type}:dJ α->Bool|.call _ _=>true|_=>false
def arK(G:Nat->Option (List aa))(σ:aL)(p:Id)(d:Option Nat)(op:dJ dD)(g:Option (Nat×Bool))(t:List aa):Option (List aa×bG×aL):=match nN t g with|none=>none|some false=>some (hV t d (.aJ []),{val:=.aJ []},σ)|some true=>match cd σ p (op.map (dD.ev G t))with|some r=>some (hV t d r.val,r,σ.app r.up)|none=>none
end
section
variable(P:Program)(G:Nat->Option (List aa))(π:Id)
def vs(a:Nat)(Q:cf->du->Prop)(n:Nat)(os:List dK)(i:Nat)(t:List aa)(σ:aL):Prop:=qJ P G π a (λ t σ=>Q .normal ⟨t,σ,n⟩) os i t σ
def Du(a:Nat)(Q:cf->du->Prop)(n:Nat)(d:List (Nat×Nat))(os:List dK)(i:Nat)(b:List bG)(t:List aa)(σ:aL):Prop:=pL P G π a (λ c t σ=>Bg c d/\Q .normal ⟨t,σ,n⟩) os i b t σ
variable{P}{G}{π}
variable{base:Nat}{Q:cf->du->Prop}{n:Nat}{ps:List (Nat×Nat)}{d:Option Nat}{g:Option (Nat×Bool)}{os:List dK}{i:Nat}{acc:List bG}{t:List aa}{σ:aL}
def IW{σ:aL}{p:Id}{op:dJ aa}{K:bG->Prop}(h:op.GO=false):tD P G σ p op K=(match cd σ p op with|some r=>K r|none=>False):=by cases op<;>first|rfl|simp[dJ.GO]at h
def P4(a:List n5)(r:aa)(e:cf)(s:du):Prop:=(e=.normal\/e=.ret)/\∃eL,rY a s=some eL/\View s.σ eL r
def PX{α:Type}(G:Nat->Option (List aa))(π:Id)(st:α->du)(b:α->Prop)(m:α->Nat)(a:α)(Q:cf->du->Prop):cf->du->Prop|.normal,s'=>∃a',b a'/\m a'<m a/\bP G π s' (st a')|.exit i,s'=>Q (.exit i) s'|.ret,s'=>Q .ret s'
def ag.of{f:FuncId}{fn:Func}{aB:dO}(b:P.funcs[f]?=some fn)(a:wj P fn=some aB){args:List aa}{r:aa}(h:qK P G [] aB.body (P4 aB.results r) ⟨args++bM (aB.aK-args.length) (.aJ []),λ _=>none,0⟩):ag P G f args r:=ag.MR b a (bo.of h)
def aL.of(S:List (Id×aG)):aL:=λ i=>S.lookup i
def pg{S:List (Id×aG)}{i:Id}{b:aG}:S.lookup i=some b->(i,b)∈S:=by induction S with|nil=>intro h;simp at h|cons x S a=>
   intro h;have⟨j,c⟩:=x;simp only[mr]at h;split at h;rename_i d;have:i=j:=by simpa using d
   subst this;cases h;simp;exact cR _ (a h)
def aL.xd{S:List (Id×aG)}{σ:aL}(h:∀x∈S,σ x.1=some x.2)(i:Id):aL.of S i=none\/aL.of S i=σ i:=by cases a:S.lookup i with|none=>exact .inl a|some b=>right;show S.lookup i=σ i;rw[a];exact(h _ (pg a)).symm
def aL.abc(up:List (Id×Option aG))(σ c:aL)(i:Id)(h:(∃x∈up,x.1=i)\/σ i=c i):σ.app up i=c.app up i:=by induction up generalizing σ c with|nil=>rcases h with⟨x,f,_⟩|h;simp at f;exact h|cons x up g=>have⟨j,b⟩:=x;simp only[lS];apply g;by_cases d:i=j;right;subst d;simp[vH];rcases h with⟨y,a,e⟩|h;simp only[ct]at a;rcases a with rfl|a;exact absurd e.symm d;exact .inl ⟨y,a,e⟩;right;simp[vH,d,h]
def aL.Fb(up:List (Id×Option aG))(σ:aL)(i:Id)(h:∀x∈up,x.1≠i):σ.app up i=σ i:=by induction up generalizing σ with|nil=>rfl|cons x up a=>have⟨j,b⟩:=x;simp only[lS];rw[a _ λ y c=>h y (cR _ c),vG];exact λ e=>h (j,b) am e.symm
end
section
variable{P:Program}{G:Nat->Option (List aa)}
def Fin(G:Nat->Option (List aa))(p:Id)(S:List (Id×aG))(a:aL)(eL:aa)(r:bG):Prop:=∀own E w v,Inv G own E w a->av E w eL v->E.μ p=none->∃E',gL own p E E' w w/\Inv G own E' w ((aL.of S).app r.up)/\av E' w r.val v
def aaR(G:Nat->Option (List aa))(p:Id)(S:List (Id×aG))(a:List n5)(r:bG)(e:cf)(s:du):Prop:=(e=.normal\/e=.ret)/\∃eL,rY a s=some eL/\Fin G p S s.σ eL r
def cj.ajQ{f:FuncId}{fn:Func}{aB:dO}(hf:P.funcs[f]?=some fn)(Q:wj P fn=some aB){args:List aa}{p:Id}{S:List (Id×aG)}{r:bG}(h:bo P G p aB.body (aaR G p S aB.results r) ⟨args++bM (aB.aK-args.length) (.aJ []),aL.of S,0⟩):cj P G f args p S r:=by
 unfold wj at Q;split at Q;simp at Q;rename_i T;split at Q;rename_i c rs hb afV;simp only[et]at Q;obtain⟨tA,af4,rfl⟩:=Q;refine⟨⟨fn,hf,by simpa using T,by simp[hb]⟩,λ own E w σ vs hS H hr jY=>?_⟩;refine calls_of_wp hf hb ?_;have ae2:vs.length=args.length:=bc.len hr;let m:Nat->Prop:=λ g=>(∃x∈S,∃y,E.μ x.1=some y/\y.1=g)\/w.heap.size<=g;have O:∀i,aL.of S i=none\/aL.of S i=σ i:=aL.xd hS;have D:∀g,m g->own g:=by rintro g(⟨x,o,y,J,rfl⟩|hg);have⟨g,N,l,ty,a⟩:=H.blk _ _ (hS x o);have:=a.μ.symm.trans J;cases this;exact a.own;exact H.new g hg
 have Gu:Inv G m E w (aL.of S):=by refine⟨H.g6,λ id aq q=>?_,(H.sub O).inj,H.jq,λ k hk=>.inr hk⟩;have hm:=pg q;have⟨g,N,l,ty,a⟩:=H.blk _ _ (hS _ hm);exact⟨g,N,l,ty,a.μ,a.heap,a.size,a.len,a.most,.inl ⟨_,hm,_,a.μ,rfl⟩,a.ok,a.no,a.k,a.row⟩
 have hm:oU G p m E w ⟨args++bM (fn.ntmps-args.length) (.aJ []),aL.of S,0⟩ {tmps:=vs.toArray++vm (fn.ntmps-vs.toArray.size) undef,defers:=[]}:=by
   refine⟨?_,Gu,λ j hj _=>jY j hj,rfl⟩;show bc _ w _ _;simp only[Zj,Zk,qQ,ae2];refine bc.append hr (fi.2 ⟨am,λ j c hj=>?_⟩);have qe:j<fn.ntmps-args.length:=by have:=(fc.1 hj).1;simpa using this
   simp only[Zl,qe,if_true,a9]at hj⊢;subst hj;exact⟨undef,rfl,by simp only[av,undef];exact⟨#[],rfl,by simp[bc]⟩⟩
 refine h c af4 m E w _ _ hm ?_;intro e s' E' w' a' hq had A;have⟨I,eL,cL,Z⟩:=hq;have⟨v,jt,af2⟩:=Wd A afV cL;have⟨L,W,z,af3⟩:=Z m E' w' v A.inv af2 A.free.self;have d:gL m p E L w w':=had.trans W;have U:Adv own E L w w':=⟨d.step,d.os,d.tape,d.output,d.size,λ k hk ho=>d.block k hk λ h=>ho (D k h),λ b hb=>(d.qm b hb).imp id (D b)⟩;have key:∀i aq,σ i=some aq->aL.of S i=none->∀g N l ty,oQ E own w i aq g N l ty->¬m g:=by
   intro i aq q t g N l ty a;rintro(⟨x,o,y,J,I⟩|hg);refine H.inj x.1 i y (g,aq.k,N) (by simp[hS x o]) (by simp[q]) ?_ J a.μ I;intro e;have:=hS x o;have h1:(aL.of S) x.1≠none:=by show S.lookup x.1≠none;intro hl;rw[Zm]at hl;have:=hl x o;simp at this
   rw[e]at h1;exact h1 t;have:=ll a.heap;omega
 have fin:∃R,O2 v=.returned R/\k9 G own E w σ p r R L w':=by
   refine⟨v,rfl,U,?_,af3,d.ids⟩;have n:∀i,(σ.app r.up i=(aL.of S).app r.up i)\/(σ.app r.up i=σ i/\(aL.of S i=none)):=by intro i;by_cases h:(∃x∈r.up,x.1=i)\/σ i=aL.of S i;exact .inl (aL.abc r.up σ (aL.of S) i h);right;have h1:∀x∈r.up,x.1≠i:=λ x o e=>h (.inl ⟨x,o,e⟩);refine⟨aL.Fb r.up σ i h1,?_⟩;rcases O i with F|F;exact F;exact absurd (.inr F.symm) h
   have u:∀i aq,σ i=some aq->aL.of S i=none->∃g N l ty,oQ E own w i aq g N l ty/\oQ L own w' i aq g N l ty/\¬m g:=by intro i aq q t;have⟨g,N,l,ty,a⟩:=H.blk i aq q;have s:=key i aq q t g N l ty a;refine⟨g,N,l,ty,a,a.keep d.step (d.block g (ll a.heap) s) (λ hf mL=>?_),s⟩;exact(d.qm g mL).elim (a.no hf) s
   refine⟨z.g6,λ i aq q=>?_,λ i j x y C B Y o J=>?_,z.jq,λ k hk=>H.new k (bx d.size hk)⟩;rcases n i with h1|⟨h1,F⟩;rw[h1]at q;have⟨g,N,l,ty,a⟩:=z.blk i aq q;exact⟨g,N,l,ty,a.μ,a.heap,a.size,a.len,a.most,D g a.own,a.ok,a.no,a.k,a.row⟩;rw[h1]at q;have⟨g,N,l,ty,_,a,_⟩:=u i aq q F;exact⟨g,N,l,ty,a⟩;have new:∀i x,σ.app r.up i≠none->σ.app r.up i=(aL.of S).app r.up i->L.μ i=some x->m x.1:=by intro i x t I o;rw[I]at t;cases hb:(aL.of S).app r.up i with|none=>exact absurd hb t|some aq=>have⟨g,N,l,ty,a⟩:=z.blk i aq hb;have:=a.μ.symm.trans o;cases this;exact a.own
   have X:∀i x,σ.app r.up i≠none->σ.app r.up i=σ i->aL.of S i=none->L.μ i=some x->¬m x.1:=by intro i x t I q o;rw[I]at t;cases hb:σ i with|none=>exact absurd hb t|some aq=>have⟨g,N,l,ty,_,a,s⟩:=u i aq hb q;have:=a.μ.symm.trans o;cases this;exact s
   rcases n i with h1|⟨h1,F⟩<;>rcases n j with V|⟨V,h4⟩;exact z.inj i j x y (h1▸C) (V▸B) Y o J;intro e;exact X j y B V h4 J (e▸new i x C h1 o);intro e;exact X i x C h1 F o (e▸new j y B V J);have K:∀i x,σ.app r.up i≠none->σ.app r.up i=σ i->aL.of S i=none->L.μ i=some x->E.μ i=some x:=by intro i x t I q o;rw[I]at t;cases hb:σ i with|none=>exact absurd hb t|some aq=>have⟨g,N,l,ty,a,aeB,s⟩:=u i aq hb q;rw[a.μ,<-aeB.μ,o]
   exact H.inj i j x y (h1▸C) (V▸B) Y (K i x C h1 F o) (K j y B V h4 J)
 have M:∃v0,(results fn a'.tmps).run P w'=.ok v0 w'/\∃R E',O2 v0=.returned R/\k9 G own E w σ p r R E' w':=by have⟨R,h1,F⟩:=fin;exact⟨v,jt,R,L,h1,F⟩
 rcases I with rfl|rfl;exact⟨A.defers,M⟩;exact⟨A.defers,M⟩;simp at Q
def Fin.same{p:Id}{S:List (Id×aG)}{a:aL}{eL:aa}{r:bG}(d:r.val=eL)(c:∀i,(aL.of S).app r.up i=none\/(aL.of S).app r.up i=a i):Fin G p S a eL r:=λ own E w _ e b _=>⟨E,O3 own p E w,e.sub c,d▸b⟩
end
section
open Go.RowKit
def cj.ajR{P:Program}{G:Nat->Option (List aa)}{f:FuncId}{fn:Func}(o:P.funcs[f]?=some fn)(i:(fn.name== "runtime.NumGoroutine")=false)(hb:fn.body.isSome=true){args:List aa}{p:Id}{S:List (Id×aG)}{val:aa}{rd:List Id}(h:∀own E w σ vs,(∀x∈S,σ x.1=some x.2)->Inv G own E w σ->bc E w args vs->Calls P f vs.toArray w λ e w'=>∃v,e=.returned v/\Below w.heap.size w w'/\PN val v):cj P G f args p S {val,rd}:=by refine⟨⟨fn,o,i,hb⟩,λ own E w σ vs r j q _=>(h own E w σ vs r j q).mono λ e w' s=>?_⟩;obtain⟨v,rfl,a,m⟩:=s;have c:Adv own E E w w':=⟨⟨λ _ _ h=>h,λ _ h=>h,λ b hb=>a.block b (j.g6 b hb)⟩,a.os,a.tape,a.output,a.size,λ k t _=>a.block k t,λ _ h=>.inl h⟩;refine⟨v,E,rfl,c,?_,m E w',λ _ _=>rfl⟩;refine j.keep c rfl (λ b hb=>gz (j.g6 b hb) a.size) λ id aq g N n l=>?_;have⟨z,y,u,ty,d⟩:=j.blk id aq n;rw[d.μ]at l;simp only[a9,cN]at l;have⟨rfl,_,rfl⟩:=l;exact⟨a.block _ (ll d.heap),d.no⟩
def agB{G:Nat->Option (List aa)}{own:Nat->Prop}{E:Env}{w:World}{σ:aL}(q:Inv G own E w σ){x:aa}{v:Value}(p:av E w x v){k:IntKind}{zs:List Int}{rd:List Id}(h:jn σ 1 x=some (zs.map (aa.int k),rd)):∃a cap,v=.slice a zs.length cap/\zs.length<=cap/\(zs=[]\/∃b o,a=some ⟨b,o,none⟩/\b<w.heap.size/\∀j,j<zs.length->w.cell? ⟨b,o+j,none⟩=some (.int k (zs[j]?.getD 0))):=by obtain⟨_,a,cap,rfl,d,c⟩:=FI q p h;refine⟨a,cap,am,by simpa using d,?_⟩;rcases c with c|⟨b,o,rfl,c⟩;left;simpa using c;cases zs with|nil=>exact .inl rfl|cons z zs=>
   right;have e:flat ((z::zs).map (aa.int k))=(z::zs).map (aa.int k):=by generalize z::zs=l;induction l with|nil=>rfl|cons y l n=>simp only[lP,flat,Zn,aa.cells]at n⊢;rw[n];rfl
   rw[e]at c;have m:∀j,j<(z::zs).length->w.cell? ⟨b,o+j,none⟩=some (.int k ((z::zs)[j]?.getD 0)):=by intro j i;have⟨v,h1,f⟩:=c j (.int k (z::zs)[j]) (by rw[kZ,eO i];rfl);simp only[av]at f;subst f;rw[h1,eO i];rfl
   refine⟨b,o,rfl,?_,m⟩;have:=m 0 am;cases g:w.heap[b]? with|none=>simp[World.cell?,g]at this|some r=>exact(Array.getElem?_eq_some_iff.1 g).1
end
def aG.iU(b:aG):aG:={b with fr:=true}
def l1(S:List (Id×aG)):List (Id×Option aG):=S.map λ x=>(x.1,some x.2.iU)
open Classical in theorem Qh{σ:aL}(i:Id):∀(S:List (Id×aG))(oP:aL),(∀x∈S,σ x.1=some x.2)->oP.app (l1 S) i=if∃x∈S,x.1=i then(σ i).map aG.iU else oP i
 |[],oP,_=>by simp[l1,lS]|x::S,oP,h=>by
   show lS (oP.put x.1 (some x.2.iU)) (l1 S) i=_;rw[Qh i S _ fun y hy=>h y (cR _ hy)];by_cases h1:∃y∈S,y.1=i;.rw[if_pos h1,if_pos];obtain⟨y,hy,e⟩:=h1;exact⟨y,cR _ hy,e⟩
   . rw[if_neg h1];by_cases h2:i=x.1;.subst h2;rw[if_pos ⟨x,am,rfl⟩,h x am,A2];rfl
     . rw[if_neg,vG _ _ _ h2];rintro⟨y,hy,e⟩;rcases ct.1 hy with rfl|hy;.exact h2 e.symm
       .exact h1 ⟨y,hy,e⟩
def Vb{S:List (Id×aG)}{σ:aL}(c:∀x∈S,σ x.1=some x.2){x:Id×aG}(d:x∈S):aL.of S x.1=some x.2:=by cases a:S.lookup x.1 with|none=>rw[Zm]at a;have:=a x d;simp at this|some b=>have:=c _ (pg a);rw[c x d]at this;show S.lookup x.1=_;rw[a];exact this.symm
section
variable{P:Program}{G:Nat->Option (List aa)}
def Inv.iS{own:Nat->Prop}{E:Env}{w:World}{σ:aL}{S:List (Id×aG)}(a:Inv G own E w σ)(n:∀x∈S,σ x.1=some x.2):Inv G (λ k=>w.heap.size<=k) (E.iS (aL.of S)) w (λ _=>none)where
 g6:=by rintro b(hb|⟨id,aq,k,N,l,c⟩);exact a.g6 b hb;obtain⟨g,t,f,ty,e⟩:=a.blk id aq (n _ (pg l));rw[e.μ]at c;simp only[a9,cN]at c;rw[<-c.1];exact ll e.heap
 blk:=λ id aq h=>by simp at h
 inj:=λ i j x y h=>absurd rfl h;jq:=λ g cs q=>by obtain⟨h1,s⟩:=a.jq g cs q;exact⟨.inl h1,A3 (⟨λ _ _ h=>h,λ _ h=>.inl h,λ _ _=>rfl⟩:ff E.bare (E.iS (aL.of S)).bare w w) rfl cs 0 s⟩
 new:=λ k r=>r
def cj.ajT{f:FuncId}{args args':List aa}{r:aa}{p:Id}{S:List (Id×aG)}(h:ag P G f args' r)(Z:dc (aL.of S) args args'):cj P G f args p S {val:=r,rd:=S.map (·.1),up:=l1 S}:=by
 refine⟨h.1,λ own E w σ vs q m hr jY=>?_⟩;have I:=Z.mV (m.sub (aL.xd q)) hr;refine(h.2 w vs _ (m.iS q) I).mono λ e w' Q=>?_;obtain⟨v,o,rfl,a,F,M⟩:=Q;have c:Adv own E ⟨E.μ,o⟩ w w':=by refine⟨⟨λ _ _ h=>h,λ b hb=>a.step.ok b (.inl hb),λ b hb=>a.step.same b (.inl hb)⟩,a.os,a.tape,a.output,a.size,λ k R _=>a.block k R ac,λ b hb=>?_⟩;rcases a.qm b hb with(h1|⟨id,aq,k,N,K,u⟩)|h1;exact .inl h1;have⟨g,n4,n,ty,d⟩:=m.blk id aq (q _ (pg K));rw[d.μ]at u;simp only[a9,cN]at u;rw[<-u.1];exact .inr d.own;exact .inr (m.new b h1)
 refine⟨v,⟨E.μ,o⟩,rfl,c,?_,tX (⟨λ _ _ h=>by simp at h,λ _ h=>h,λ _ _=>rfl⟩:ff ⟨λ _=>none,o⟩ ⟨E.μ,o⟩ w' w') r v M,λ _ _=>rfl⟩;have s:=λ i=>Qh (σ:=σ) i S σ q;refine⟨F,λ id aq K=>?_,λ i j x y D L J z X=>?_,λ g cs H=>?_,λ k R=>m.new k (bx a.size R)⟩;have l:σ.app (l1 S) id=some aq:=K;rw[s id]at l;split at l;rename_i O;obtain⟨x,z,rfl⟩:=O;rw[q x z]at l;simp only[fb,a9]at l;subst l;have⟨g,N,n,ty,d⟩:=m.blk _ _ (q x z);have hb:=a.block g (ll d.heap) (by have:=ll d.heap;omega);exact⟨g,N,n,ty,d.μ,hb.trans d.heap,d.size,d.len,d.most,d.own,λ _=>a.step.ok g (.inr ⟨x.1,x.2,x.2.k,N,Vb q z,d.μ⟩),λ T=>by simp[aG.iU]at T,d.k,ew.keep c.step hb d.row⟩;rename_i A;have⟨g,N,n,ty,d⟩:=m.blk _ _ l;have H:=ll d.heap;refine⟨g,N,n,ty,d.keep c.step (a.block g H ac) λ T hb=>?_⟩;rcases a.qm g hb with(h1|⟨U,W,k2,EU,B,C⟩)|h1;exact d.no T h1;have u:=pg B;refine m.inj id U _ _ (by simp[l]) (by simp[q _ u]) ?_ d.μ C rfl;rintro rfl;exact A ⟨_,u,rfl⟩;omega;have t:∀i,σ.app (l1 S) i≠none->σ i≠none:=by intro i Y Q;apply Y;rw[s i,Q];split<;>rfl
 exact m.inj i j x y (t i D) (t j L) J z X;have⟨h1,V⟩:=m.jq g cs H;exact⟨c.step.ok g h1,A3 c.step.bare (c.step.same g h1) cs 0 V⟩
def cj.of_flat{f:FuncId}{args args':List aa}{r:aa}{p:Id}{S:List (Id×aG)}(h:ag P G f args' r)(o:dc (aL.of S) args args')(t:n2 r):cj P G f args p S {val:=r,rd:=S.map (·.1)}:=by refine⟨h.1,λ own E w σ vs n i x C=>?_⟩;have m:=o.mV (i.sub (aL.xd n)) x;refine(h.2 w vs _ (i.iS n) m).mono λ e w' u=>?_;obtain⟨v,z,rfl,a,s,j⟩:=u;have c:Adv own E E w w':=⟨⟨λ _ _ h=>h,λ b hb=>hb,λ b hb=>a.step.same b (.inl hb)⟩,a.os,a.tape,a.output,a.size,λ k y _=>a.block k y ac,λ b hb=>.inl hb⟩;refine⟨v,E,rfl,c,?_,t _ _ _ _ _ j,λ _ _=>rfl⟩;refine i.keep c rfl (λ b hb=>gz (i.g6 b hb) a.size) λ id aq g N q l=>?_;have⟨F,D,B,ty,d⟩:=i.blk id aq q;rw[d.μ]at l;simp only[a9,cN]at l;have⟨rfl,_,rfl⟩:=l;have A:=ll d.heap;exact⟨a.block _ A ac,d.no⟩
def ag.ajS{f:FuncId}{args:List aa}{r:bG}(h:cj P G f args [] [] r)(g:n2 r.val):ag P G f args r.val:=by refine⟨h.1,λ w vs ok c d=>?_⟩;refine(h.2 _ _ w _ vs am c d (λ _ _=>rfl)).mono λ e w' i=>?_;obtain⟨v,E',rfl,a⟩:=i;refine⟨v,ok,rfl,⟨⟨λ _ _ h=>h,λ _ h=>h,a.iO.step.same⟩,a.iO.os,a.iO.tape,a.iO.output,a.iO.size,a.iO.block,λ _ h=>.inl h⟩,λ b hb=>?_,g _ _ _ _ _ a.rep⟩;exact gz (c.g6 b hb) a.iO.size
def xF:aa->Bool->Option Bool|.bool b,want=>some (b==want)|.top,_=>none|.jC,_=>none|_,_=>some false
end
section
variable(P:Program)(G:Nat->Option (List aa))(π:Id)
def Yk(base:Nat)(Q:cf->du->Prop)(n:Nat)(ps:List (Nat×Nat))(o:dK)(os:List dK)(i:Nat)(acc:List bG)(t:List aa)(σ:aL):Option Bool->Prop|some true=>Du P G π base Q n ps (⟨o.dst,o.op,none⟩::os) i acc t σ|some false=>Du P G π base Q n ps os (i+1) ({val:=.aJ []}::acc) (hV t o.dst (.aJ [])) σ|none=>False
variable{P}{G}{π}
variable{base:Nat}{Q:cf->du->Prop}{n:Nat}{ps:List (Nat×Nat)}{d:Option Nat}{os:List dK}{i:Nat}{acc:List bG}{t:List aa}{σ:aL}
theorem ao6{j:Nat}{want:Bool}:nN t (some (j,want))=xF (t.getD j (.aJ [])) want:=by rw[dt];show(match t[j]? with|some (.bool b)=>some (b==want)|some .top|some .jC=>none|_=>some false)=_;cases t[j]? with|none=>rfl|some c=>cases c<;>rfl
theorem dg{op:dJ dD}{j:Nat}{want:Bool}:Du P G π base Q n ps (⟨d,op,some (j,want)⟩::os) i acc t σ=Yk P G π base Q n ps ⟨d,op,none⟩ os i acc t σ (xF (t.getD j (.aJ [])) want):=by rw[<-ao6];unfold Du Yk;simp only[pL];cases nN t (some (j,want))with|none=>rfl|some b=>cases b<;>rfl
end
section
variable{σ:aL}{p:Id}
theorem Qr{k:IntKind}{a b:Int}(h:b≠0):eS .quo .int (.int k a) (.int k b)=some (.int k (k.wrap (a.tdiv b))):=by simp only[eS];rw[show lG .quo .int (.int k a) (.int k b)=some (.int k (k.wrap (a.tdiv b)))from by simp[lG,pK,h]]
theorem abP{k:IntKind}{a b:Int}(h:b≠0):eS .rem .int (.int k a) (.int k b)=some (.int k (a.tmod b)):=by simp only[eS];rw[show lG .rem .int (.int k a) (.int k b)=some (.int k (a.tmod b))from by simp[lG,pK,h]]
theorem Kl{k k':IntKind}{a b:Int}(h:0<=b):eS .shl .int (.int k a) (.int k' b)=some (.int k (k.wrap (a*2^(min b.toNat k.bits)))):=by simp only[eS];rw[show lG .shl .int (.int k a) (.int k' b)=some (.int k (k.wrap (a*2^(min b.toNat k.bits))))from by simp[lG,pK,Int.not_lt.2 h]]
theorem Bj{k k':IntKind}{a b:Int}(h:0<=b):eS .shr .int (.int k a) (.int k' b)=some (.int k (a.fdiv (2^(min b.toNat k.bits)))):=by simp only[eS];rw[show lG .shr .int (.int k a) (.int k' b)=some (.int k (a.fdiv (2^(min b.toNat k.bits))))from by simp[lG,pK,Int.not_lt.2 h]]
abbrev xa(d x:Nat):dK:=⟨some d,.mv (.t x),none⟩
abbrev ajH(d:Nat)(b:Bool):dK:=⟨some d,.mv (.c (.bool b)),none⟩
abbrev U9(d:Nat):dK:=⟨some d,.mv (.c .aH),none⟩
abbrev MN(d n x:Nat):dK:=⟨some d,.load false n (.t x),none⟩
abbrev ajK(d n x:Nat):dK:=⟨some d,.load true n (.t x),none⟩
abbrev ajJ(d o x:Nat):dK:=⟨some d,.ux o (.t x),none⟩
abbrev ajL(d x:Nat):dK:=⟨some d,.box (.t x),none⟩
abbrev MO(d x y:Nat):dK:=⟨some d,.pick (.t x) (.t y) (.c (.bool false)),none⟩
abbrev ajI(d f x:Nat):dK:=⟨some d,.call (.f f) [.t x],none⟩
abbrev ajG(d k b x y:Nat):dK:=⟨some d,.append k b (.t x) (.t y),none⟩
abbrev kJ(d n x g:Nat)(b:Bool):dK:=⟨some d,.load false n (.t x),some (g,b)⟩
abbrev F7(d n x g:Nat)(b:Bool):dK:=⟨some d,.load true n (.t x),some (g,b)⟩
abbrev F6(d o x g:Nat)(b:Bool):dK:=⟨some d,.ux o (.t x),some (g,b)⟩
abbrev yC(l:List dK)(c:cw):cw:=.seq (.mU none l) c
def kE(P:Program)(f:FuncId)(aB:dO):Prop:=∃fn,P.funcs[f]?=some fn/\wj P fn=some aB
end
section
variable{P:Program}{G:Nat->Option (List aa)}
def ag.has{f:FuncId}{aB:dO}(h:kE P f aB){args:List aa}{r:aa}(k:qK P G [] aB.body (P4 aB.results r) ⟨args++bM (aB.aK-args.length) (.aJ []),λ _=>none,0⟩):ag P G f args r:=by have⟨fn,h1,a⟩:=h;exact ag.of h1 a k
def aoU{σ:aL}{a:Bool}{n e o:Nat}{id:Id}{aq:aG}{el:aa}(h:σ id=some aq)(b:aq.els[e]?=some el):kz σ a n (.ref id e o)=(part a el.cells o n).map λ v=>{val:=v,rd:=[id]}:=by simp[kz,h,b]
end
section
variable{P:Program}{G:Nat->Option (List aa)}{own:Nat->Prop}{E:Env}{w:World}{σ:aL}
def View.fn{σ:aL}{f:Fn}{a c a' c':List aa}(i:dc σ a a')(h:dc σ c c'):View σ (.fn f a c) (.fn f a' c'):=λ G own E w v d b=>by simp only[av]at b⊢;have⟨xs,ys,e,h1,g⟩:=b;exact⟨xs,ys,e,i.mV d h1,h.mV d g⟩
def View.ref{σ:aL}{id:Id}{aq:aG}{e o:Nat}{el:aa}{cs:List aa}(m:σ id=some aq)(i:aq.els[e]?=some el)(h:dc σ el.cells cs):View σ (.ref id e o) (.cr cs o):=λ G own E w v j f=>by
 have⟨g,N,p,ty,a⟩:=j.blk id aq m;simp only[av]at f⊢;obtain⟨s,k',q,c,rfl⟩:=f;rw[a.μ]at c;simp only[a9,cN]at c;have⟨rfl,rfl,rfl⟩:=c;refine⟨g,e*aq.k,rfl,.inr ⟨id,aq,aq.k,N,m,a.μ⟩,?_⟩;refine qy.2 (h.xo j ?_);have b:=(fc.1 i).1;have:=zU (l:=e) (r:=e+1) a.k a.row ac ac;rw[cF]at this;have n:(aq.els.take (e+1)).drop e=[el]:=by rw[EH,show e+1-e=1 from ac,List.drop_eq_getElem_cons b];have⟨_,d⟩:=fc.1 i;simp[d]
 rw[n]at this;simpa[flat]using this
def gZ(F:List (Id×aG))(c d:aa):Prop:=∀G own E w v,Inv G own E w (aL.of F)->av E w c v->av ⟨E.μ,(E.iS (aL.of F)).ok⟩ w d v
def fm(F:List (Id×aG)):List aa->List aa->Prop|[],[]=>True|c::cs,d::ds=>gZ F c d/\fm F cs ds|_,_=>False
def gZ.same(F:List (Id×aG))(c:aa):gZ F c c:=λ _ _ E w v _ a=>tX (⟨λ _ _ h=>h,λ _ h=>.inl h,λ _ _=>rfl⟩:ff E ⟨E.μ,(E.iS (aL.of F)).ok⟩ w w) _ v a
def gZ.view{F:List (Id×aG)}{c d:aa}(h:View (aL.of F) c d):gZ F c d:=λ _ _ E w v a b=>tX (⟨λ _ _ h=>by simp[Env.iS]at h,λ _ h=>h,λ _ _=>rfl⟩:ff (E.iS (aL.of F)) ⟨E.μ,(E.iS (aL.of F)).ok⟩ w w) _ v (h _ _ _ _ _ a b)
def fm.same(F:List (Id×aG)):∀cs:List aa,fm F cs cs|[]=>trivial|c::cs=>⟨gZ.same F c,fm.same F cs⟩
def fm.mV{F:List (Id×aG)}(b:Inv G own E w (aL.of F)):∀{cs ds:List aa}{vs:List Value},fm F cs ds->bc E w cs vs->bc ⟨E.μ,(E.iS (aL.of F)).ok⟩ w ds vs|[],[],_,_,h=>by simpa[bc]using h|c::cs,d::ds,vs,a,h=>by simp only[fm]at a;simp only[bc]at h⊢;have⟨v,rest,e,h1,f⟩:=h;exact⟨v,rest,e,a.1 _ _ _ _ _ b h1,fm.mV b a.2 f⟩|[],_::_,_,h,_=>by simp[fm]at h|_::_,[],_,h,_=>by simp[fm]at h
def fm.get{F:List (Id×aG)}:∀{cs ds:List aa},fm F cs ds->∀(j:Nat)(d:aa),ds[j]?=some d->∃c,cs[j]?=some c/\gZ F c d|[],[],_,j,d,h=>by simp at h|c::cs,d::ds,a,0,b,h=>by simp at h;subst h;exact⟨c,rfl,a.1⟩|c::cs,d::ds,a,j+1,b,h=>by simpa using fm.get a.2 j b (by simpa using h)|[],_::_,h,_,_,_=>by simp[fm]at h|_::_,[],h,_,_,_=>by simp[fm]at h
structure vJ(F:List (Id×aG))(i:Id)(aq sP:aG):Prop where
 k:sP.k=aq.k
 fr:sP.fr=aq.fr\/(sP.fr=true/\(i,aq)∈F)no:sP.fr=false->∀x∈F,x.1≠i
 len:sP.els.length=aq.els.length
 NR:∀e∈sP.els,e.size=aq.k
 els:fm F (flat aq.els) (flat sP.els)
def ad8{p:Id}{σ B:aL}(F:List (Id×aG))(s:∀x∈F,σ x.1=some x.2)(A:∀i,B i=none\/∃aq q,σ i=some aq/\B i=some q/\vJ F i aq q)(o:Inv G own E w σ):gL own p E ⟨E.μ,(E.iS (aL.of F)).ok⟩ w w/\Inv G own ⟨E.μ,(E.iS (aL.of F)).ok⟩ w B:=by
 have C:Inv G own E w (aL.of F):=o.sub (aL.xd s);have n:Adv own E ⟨E.μ,(E.iS (aL.of F)).ok⟩ w w:=by refine⟨⟨λ _ _ h=>h,λ b hb=>.inl hb,λ b hb=>rfl⟩,rfl,rfl,rfl,a2 _,λ k hk _=>rfl,λ b hb=>?_⟩;rcases hb with h1|⟨id,aq,k,N,A,r⟩;exact .inl h1;have⟨g,n4,z,ty,a⟩:=o.blk id aq (s _ (pg A));rw[a.μ]at r;simp only[a9,cN]at r;rw[<-r.1];exact .inr a.own
 refine⟨⟨n,λ _ _=>rfl⟩,(o.iS s).g6,λ id q f=>?_,λ i j x y J Q L W Y=>?_,λ g cs V=>?_,o.new⟩;rcases A id with h|⟨aq,t,h1,R,l⟩;rw[h]at f;simp at f;rw[R]at f;cases f;have⟨g,N,z,ty,a⟩:=o.blk id aq h1;refine⟨g,N,z,ty,by rw[l.k];exact a.μ,a.heap,by rw[l.k];exact a.size,by rw[l.len];exact a.len,a.most,a.own,λ u=>?_,λ u D=>?_,by rw[l.k];exact l.NR,?_⟩;rcases l.fr with h|⟨_,h⟩;exact .inl (a.ok (h▸u));exact .inr ⟨id,aq,aq.k,N,Vb s h,a.μ⟩;have O:aq.fr=false:=by rcases l.fr with h|⟨h,_⟩;rw[<-h];exact u;rw[u]at h;simp at h
 rcases D with h|⟨K,t,k2,EU,S,M⟩;exact a.no O h;have r:=pg S;exact o.inj id K _ _ (by simp[h1]) (by simp[s _ r]) (λ e=>l.no u _ r e.symm) a.μ M rfl;intro j d hd;have⟨c,U,Z⟩:=l.els.get j d hd;have⟨v,I,H⟩:=a.row j c U;exact⟨v,I,Z _ _ _ _ _ C H⟩;have m:∀i,B i≠none->σ i≠none:=by intro i X T;rcases A i with h|⟨aq,t,h1,_⟩;exact X h;rw[T]at h1;simp at h1
 exact o.inj i j x y (m i J) (m j Q) L W Y;have⟨h1,R⟩:=o.jq g cs V;exact⟨.inl h1,A3 n.step.bare rfl cs 0 R⟩
def bP.l1{π:Id}{t e:List aa}{σ d:aL}{n f:Nat}(F:List (Id×aG))(g:∀x∈F,σ x.1=some x.2)(j:fm F t e)(k:∀i,d i=none\/∃aq b,σ i=some aq/\d i=some b/\vJ F i aq b)(h:n<=f):bP G π ⟨t,σ,n⟩ ⟨e,d,f⟩:=λ own E w a c=>by have⟨h1,l⟩:=ad8 (p:=π) F g k c.inv;exact⟨_,h1,j.mV (c.inv.sub (aL.xd g)) c.frame,l,c.free.mono h,c.defers⟩
def adz{σ:aL}{k:Nat}{es:List aa}:jn σ k (.sl k es)=some (es,[]):=by simp[jn]
def yK{σ:aL}{k:Nat}{id:Id}{off len:Nat}{t:Bool}{aq:aG}(h:σ id=some aq)(b:aq.k=k)(a:off+len<=aq.els.length):jn σ k (.ai id k off len t)=some ((aq.els.drop off).take len,[id]):=by simp[jn,h,b,a]
def Aa{σ:aL}{p id:Id}{k bytes len:Nat}{x:aa}{els ys:List aa}{rd:List Id}(d:jn σ k x=some (ys,rd))(f:ys≠[])(h:σ id=some ⟨els,k,false⟩)(a:len=els.length)(hb:(len+ys.length)*bytes<=140737488355328)(c:len+ys.length<=maxLen)(h1:(ys.all λ e=>e.cells.all jx)=true)(g:(els.all λ e=>e.cells.all jx)=true):sg σ p k bytes (.ai id k 0 len false) x=some {val:=.ai p k 0 (len+ys.length) false,rd:=id::rd,up:=[(id,none),(p,some ⟨els++ys,k,false⟩)]}:=by
 have b:ys.isEmpty=false:=by cases ys<;>simp at f⊢
 unfold sg;rw[d];simp only[b,h,h1,g,a,iL,if_false];rw[if_pos ⟨trivial,trivial,trivial,a2 _,by rw[<-a];exact hb,by rw[<-a];exact c,trivial⟩];simp
def pd{n:Nat}(h:n<=140737488355328):n<=maxLen:=bx h al
def ao2{σ:aL}{id:Id}{els:List aa}{k n e o:Nat}{el v:aa}(h:σ id=some ⟨els,k,false⟩)(a:els[e]?=some el)(b:v.cells.length=n)(c:o+n<=el.size)(h1:v.cells.all jx=true):tE σ n (.ref id e o) v=some {val:=.aJ [],rd:=[id],up:=[(id,some ⟨els.set e (el.upd o v.cells),k,false⟩)]}:=by simp only[tE,h,a];rw[if_pos ⟨trivial,b,c,h1⟩]
mutual def aa.aU(ρ:Id->Id):aa->aa|.fn f a c=>.fn f (br ρ a) (br ρ c)|.agg cs=>.agg (br ρ cs)|.aJ cs=>.aJ (br ρ cs)|.sl k es=>.sl k (br ρ es)|.e9 k es=>.e9 k (br ρ es)|.ai i k o l t=>.ai (ρ i) k o l t|.ref i e o=>.ref (ρ i) e o|.cr cs o=>.cr (br ρ cs) o|.bool b=>.bool b|.int k n=>.int k n|.str l=>.str l|.iX=>.iX|.jM=>.jM|.aH=>.aH|.top=>.top|.jC=>.jC|.mM n=>.mM n def br(ρ:Id->Id):List aa->List aa|[]=>[]|c::cs=>c.aU ρ::br ρ cs end
def aG.aU(ρ:Id->Id)(b:aG):aG:=⟨br ρ b.els,b.k,b.fr⟩
end
section
variable{ρ:Id->Id}
def fS:∀{cs:List aa},br ρ cs=cs.map (aa.aU ρ)|[]=>rfl|c::cs=>by simp only[br,lP,fS (cs:=cs)]
def mb{cs:List aa}:(br ρ cs).length=cs.length:=by rw[fS,List.length_map]
def Np(c:aa):(c.aU ρ).cells=br ρ c.cells:=by cases c<;>rfl
def Wb(c:aa):(c.aU ρ).size=c.size:=by unfold aa.size;rw[Np,mb]
def HV{xs ys:List aa}:br ρ (xs++ys)=br ρ xs++br ρ ys:=by simp only[fS,List.map_append]
def HW:∀{es:List aa},flat (br ρ es)=br ρ (flat es)
 |[]=>rfl|e::es=>by
   have h1:flat (e::es)=e.cells++flat es:=by simp[flat]
   have a:flat (br ρ (e::es))=(e.aU ρ).cells++flat (br ρ es):=by simp[flat,br]
   rw[h1,a,Np,HV,HW (es:=es)]
def HX{k:Nat}{es:List aa}(h:∀e∈es,e.size=k):∀e∈br ρ es,e.size=k:=by intro e a;rw[fS]at a;obtain⟨x,b,rfl⟩:=bp.1 a;rw[Wb];exact h x b
def Nq{k:Nat}{es:List aa}(h:∀e∈br ρ es,e.size=k):∀e∈es,e.size=k:=by intro e a;rw[<-Wb (ρ:=ρ)];exact h _ (by rw[fS];exact bp.2 ⟨e,a,rfl⟩)
mutual def av.aU{E E':Env}{w:World}(j:∀i x,E.μ i=some x->E'.μ (ρ i)=some x)(d:∀b,E.ok b->E'.ok b):∀(c:aa)(v:Value),av E w c v->av E' w (c.aU ρ) v|.bool _,_,r=>by simpa[av,aa.aU]using r|.int _ _,_,r=>by simpa[av,aa.aU]using r|.str _,_,r=>by simpa[av,aa.aU]using r|.iX,_,r=>by simpa[av,aa.aU]using r|.jM,_,r=>by simpa[av,aa.aU]using r|.aH,_,r=>by simpa[av,aa.aU]using r|.top,_,_=>by simp[av,aa.aU]|.jC,_,r=>by simpa[av,aa.aU]using r|.mM _,_,r=>by simpa[av,aa.aU]using r|.fn f a c,v,r=>by simp only[av,aa.aU]at r⊢;have⟨xs,ys,e,n,B⟩:=r;exact⟨xs,ys,e,bc.aU j d a _ n,bc.aU j d c _ B⟩|.agg cs,v,r=>by simp only[av,aa.aU]at r⊢;have⟨xs,e,n⟩:=r;exact⟨xs,e,bc.aU j d cs _ n⟩|.aJ cs,v,r=>by simp only[av,aa.aU]at r⊢;have⟨xs,e,n⟩:=r;exact⟨xs,e,bc.aU j d cs _ n⟩|.sl k es,v,r=>by simp only[av,aa.aU]at r⊢;have⟨a,cap,e,h1,q,u,A⟩:=r;refine⟨a,cap,by rw[mb];exact e,by rw[mb];exact h1,q,HX u,A.imp (λ h=>by rw[h];rfl) ?_⟩;rintro⟨b,o,y,hb,l⟩;exact⟨b,o,y,d b hb,cD.aU j d es o l⟩|.e9 k es,v,r=>by simp only[av,aa.aU]at r⊢;have⟨a,e,q,u,A⟩:=r;refine⟨a,by rw[mb];exact e,by rw[mb];exact q,HX u,A.imp (λ h=>by rw[h];rfl) ?_⟩;rintro⟨b,o,y,hb,l⟩;exact⟨b,o,y,d b hb,cD.aU j d es o l⟩|.ai id k off len t,v,r=>by simp only[av,aa.aU]at r⊢;have⟨g,N,cap,s,rest⟩:=r;exact⟨g,N,cap,j _ _ s,rest⟩|.ref id e o,v,r=>by simp only[av,aa.aU]at r⊢;have⟨g,k,N,s,rest⟩:=r;exact⟨g,k,N,j _ _ s,rest⟩|.cr cs o,v,r=>by simp only[av,aa.aU]at r⊢;have⟨b,p,e,hb,l⟩:=r;exact⟨b,p,e,d b hb,eF.aU j d cs p l⟩def bc.aU{E E':Env}{w:World}(j:∀i x,E.μ i=some x->E'.μ (ρ i)=some x)(d:∀b,E.ok b->E'.ok b):∀(cs:List aa)(vs:List Value),bc E w cs vs->bc E' w (br ρ cs) vs|[],_,r=>by simpa[bc,br]using r|c::cs,vs,r=>by simp only[bc,br]at r⊢;have⟨v,rest,e,C,m⟩:=r;exact⟨v,rest,e,av.aU j d c v C,bc.aU j d cs rest m⟩def cD.aU{E E':Env}{w:World}(j:∀i x,E.μ i=some x->E'.μ (ρ i)=some x)(d:∀b,E.ok b->E'.ok b){b:Nat}:∀(es:List aa)(o:Nat),cD E w b o es->cD E' w b o (br ρ es)|[],_,_=>by simp[cD,br]|.agg cs::es,o,r=>by simp only[cD,br,aa.aU,mb]at r⊢;exact⟨eF.aU j d cs o r.1,cD.aU j d es _ r.2⟩|.bool _::es,o,r|.int _ _::es,o,r|.str _::es,o,r|.iX::es,o,r|.jM::es,o,r|.aH::es,o,r|.top::es,o,r|.jC::es,o,r|.mM _::es,o,r|.fn _ _ _::es,o,r|.aJ _::es,o,r|.sl _ _::es,o,r|.e9 _ _::es,o,r|.ai _ _ _ _ _::es,o,r|.ref _ _ _::es,o,r|.cr _ _::es,o,r=>by simp only[cD,br,aa.aU]at r⊢;have⟨⟨v,z,l⟩,m⟩:=r;have:=av.aU j d _ v l;simp only[aa.aU]at this;exact⟨⟨v,z,this⟩,cD.aU j d es _ m⟩def eF.aU{E E':Env}{w:World}(j:∀i x,E.μ i=some x->E'.μ (ρ i)=some x)(d:∀b,E.ok b->E'.ok b){b:Nat}:∀(cs:List aa)(o:Nat),eF E w b o cs->eF E' w b o (br ρ cs)|[],_,_=>by simp[eF,br]|c::cs,o,r=>by simp only[eF,br]at r⊢;have⟨⟨v,z,l⟩,m⟩:=r;exact⟨⟨v,z,av.aU j d c v l⟩,eF.aU j d cs _ m⟩end
mutual def av.dF{E E':Env}{w:World}(j:∀i x,E'.μ (ρ i)=some x->E.μ i=some x)(d:∀b,E'.ok b->E.ok b):∀(c:aa)(v:Value),av E' w (c.aU ρ) v->av E w c v|.bool _,_,r=>by simpa[av,aa.aU]using r|.int _ _,_,r=>by simpa[av,aa.aU]using r|.str _,_,r=>by simpa[av,aa.aU]using r|.iX,_,r=>by simpa[av,aa.aU]using r|.jM,_,r=>by simpa[av,aa.aU]using r|.aH,_,r=>by simpa[av,aa.aU]using r|.top,_,_=>by simp[av]|.jC,_,r=>by simpa[av,aa.aU]using r|.mM _,_,r=>by simpa[av,aa.aU]using r|.fn f a c,v,r=>by simp only[av,aa.aU]at r⊢;have⟨xs,ys,e,y,F⟩:=r;exact⟨xs,ys,e,bc.dF j d a _ y,bc.dF j d c _ F⟩|.agg cs,v,r=>by simp only[av,aa.aU]at r⊢;have⟨xs,e,y⟩:=r;exact⟨xs,e,bc.dF j d cs _ y⟩|.aJ cs,v,r=>by simp only[av,aa.aU]at r⊢;have⟨xs,e,y⟩:=r;exact⟨xs,e,bc.dF j d cs _ y⟩|.sl k es,v,r=>by simp only[av,aa.aU,mb]at r⊢;have⟨a,cap,e,h1,D,B,C⟩:=r;refine⟨a,cap,e,h1,D,Nq B,C.imp (λ h=>by have:=congrArg DY h;rw[mb]at this;exact O4.1 this) ?_⟩;rintro⟨b,o,A,hb,l⟩;exact⟨b,o,A,d b hb,cD.dF j d es o l⟩|.e9 k es,v,r=>by simp only[av,aa.aU,mb]at r⊢;have⟨a,e,D,B,C⟩:=r;refine⟨a,e,D,Nq B,C.imp (λ h=>by have:=congrArg DY h;rw[mb]at this;exact O4.1 this) ?_⟩;rintro⟨b,o,A,hb,l⟩;exact⟨b,o,A,d b hb,cD.dF j d es o l⟩|.ai id k off len t,v,r=>by simp only[av,aa.aU]at r⊢;have⟨g,N,cap,z,rest⟩:=r;exact⟨g,N,cap,j _ _ z,rest⟩|.ref id e o,v,r=>by simp only[av,aa.aU]at r⊢;have⟨g,k,N,z,rest⟩:=r;exact⟨g,k,N,j _ _ z,rest⟩|.cr cs o,v,r=>by simp only[av,aa.aU]at r⊢;have⟨b,p,e,hb,l⟩:=r;exact⟨b,p,e,d b hb,eF.dF j d cs p l⟩def bc.dF{E E':Env}{w:World}(j:∀i x,E'.μ (ρ i)=some x->E.μ i=some x)(d:∀b,E'.ok b->E.ok b):∀(cs:List aa)(vs:List Value),bc E' w (br ρ cs) vs->bc E w cs vs|[],_,r=>by simpa[bc,br]using r|c::cs,vs,r=>by simp only[bc,br]at r⊢;have⟨v,rest,e,H,m⟩:=r;exact⟨v,rest,e,av.dF j d c v H,bc.dF j d cs rest m⟩def cD.dF{E E':Env}{w:World}(j:∀i x,E'.μ (ρ i)=some x->E.μ i=some x)(d:∀b,E'.ok b->E.ok b){b:Nat}:∀(es:List aa)(o:Nat),cD E' w b o (br ρ es)->cD E w b o es|[],_,_=>by simp[cD]|.agg cs::es,o,r=>by simp only[cD,br,aa.aU,mb]at r⊢;exact⟨eF.dF j d cs o r.1,cD.dF j d es _ r.2⟩|.bool b1::es,o,r=>by simp only[cD,br,aa.aU]at r⊢;have⟨⟨v,n,l⟩,m⟩:=r;exact⟨⟨v,n,av.dF j d (.bool b1) v l⟩,cD.dF j d es _ m⟩|.int q s::es,o,r=>by simp only[cD,br,aa.aU]at r⊢;have⟨⟨v,n,l⟩,m⟩:=r;exact⟨⟨v,n,av.dF j d (.int q s) v l⟩,cD.dF j d es _ m⟩|.str q::es,o,r=>by simp only[cD,br,aa.aU]at r⊢;have⟨⟨v,n,l⟩,m⟩:=r;exact⟨⟨v,n,av.dF j d (.str q) v l⟩,cD.dF j d es _ m⟩|.iX::es,o,r=>by simp only[cD,br,aa.aU]at r⊢;have⟨⟨v,n,l⟩,m⟩:=r;exact⟨⟨v,n,av.dF j d .iX v l⟩,cD.dF j d es _ m⟩|.jM::es,o,r=>by simp only[cD,br,aa.aU]at r⊢;have⟨⟨v,n,l⟩,m⟩:=r;exact⟨⟨v,n,av.dF j d .jM v l⟩,cD.dF j d es _ m⟩|.aH::es,o,r=>by simp only[cD,br,aa.aU]at r⊢;have⟨⟨v,n,l⟩,m⟩:=r;exact⟨⟨v,n,av.dF j d .aH v l⟩,cD.dF j d es _ m⟩|.top::es,o,r=>by simp only[cD,br,aa.aU]at r⊢;have⟨⟨v,n,l⟩,m⟩:=r;exact⟨⟨v,n,av.dF j d .top v l⟩,cD.dF j d es _ m⟩|.jC::es,o,r=>by simp only[cD,br,aa.aU]at r⊢;have⟨⟨v,n,l⟩,m⟩:=r;exact⟨⟨v,n,av.dF j d .jC v l⟩,cD.dF j d es _ m⟩|.mM q::es,o,r=>by simp only[cD,br,aa.aU]at r⊢;have⟨⟨v,n,l⟩,m⟩:=r;exact⟨⟨v,n,av.dF j d (.mM q) v l⟩,cD.dF j d es _ m⟩|.fn q s u::es,o,r=>by simp only[cD,br,aa.aU]at r⊢;have⟨⟨v,n,l⟩,m⟩:=r;exact⟨⟨v,n,av.dF j d (.fn q s u) v (by simpa only[aa.aU]using l)⟩,cD.dF j d es _ m⟩|.aJ q::es,o,r=>by simp only[cD,br,aa.aU]at r⊢;have⟨⟨v,n,l⟩,m⟩:=r;exact⟨⟨v,n,av.dF j d (.aJ q) v (by simpa only[aa.aU]using l)⟩,cD.dF j d es _ m⟩|.sl q s::es,o,r=>by simp only[cD,br,aa.aU]at r⊢;have⟨⟨v,n,l⟩,m⟩:=r;exact⟨⟨v,n,av.dF j d (.sl q s) v (by simpa only[aa.aU]using l)⟩,cD.dF j d es _ m⟩|.e9 q s::es,o,r=>by simp only[cD,br,aa.aU]at r⊢;have⟨⟨v,n,l⟩,m⟩:=r;exact⟨⟨v,n,av.dF j d (.e9 q s) v (by simpa only[aa.aU]using l)⟩,cD.dF j d es _ m⟩|.ai q s u I G::es,o,r=>by simp only[cD,br,aa.aU]at r⊢;have⟨⟨v,n,l⟩,m⟩:=r;exact⟨⟨v,n,av.dF j d (.ai q s u I G) v (by simpa only[aa.aU]using l)⟩,cD.dF j d es _ m⟩|.ref q s u::es,o,r=>by simp only[cD,br,aa.aU]at r⊢;have⟨⟨v,n,l⟩,m⟩:=r;exact⟨⟨v,n,av.dF j d (.ref q s u) v (by simpa only[aa.aU]using l)⟩,cD.dF j d es _ m⟩|.cr q s::es,o,r=>by simp only[cD,br,aa.aU]at r⊢;have⟨⟨v,n,l⟩,m⟩:=r;exact⟨⟨v,n,av.dF j d (.cr q s) v (by simpa only[aa.aU]using l)⟩,cD.dF j d es _ m⟩def eF.dF{E E':Env}{w:World}(j:∀i x,E'.μ (ρ i)=some x->E.μ i=some x)(d:∀b,E'.ok b->E.ok b){b:Nat}:∀(cs:List aa)(o:Nat),eF E' w b o (br ρ cs)->eF E w b o cs|[],_,_=>by simp[eF]|c::cs,o,r=>by simp only[eF,br]at r⊢;have⟨⟨v,n,l⟩,m⟩:=r;exact⟨⟨v,n,av.dF j d c v l⟩,eF.dF j d cs _ m⟩end
def ew.aU{E E':Env}{w:World}(c:∀i x,E.μ i=some x->E'.μ (ρ i)=some x)(a:∀b,E.ok b->E'.ok b){b o:Nat}{cs:List aa}(h:ew E w b o cs):ew E' w b o (br ρ cs):=qy.1 (eF.aU c a cs o (qy.2 h))
def ew.dF{E E':Env}{w:World}(c:∀i x,E'.μ (ρ i)=some x->E.μ i=some x)(a:∀b,E'.ok b->E.ok b){b o:Nat}{cs:List aa}(h:ew E' w b o (br ρ cs)):ew E w b o cs:=qy.1 (eF.dF c a cs o (qy.2 h))
def bN(n:Nat)(π:Id)(κ:Nat->Id):Id->Id|[]=>[]|a::c=>match c with
   |[]=>match a with|0=>π|k+1=>κ (k+1)
   |b::d=>match b,d with|0,[]=>(n+a)::π|_,_=>a::bN n π κ c
def iF{n:Nat}{π:Id}{κ:Nat->Id}{q:Nat}:∀l:Id,bN n π κ (l++[q,0])=l++((n+q)::π)|[]=>rfl|[a]=>by simp[bN]|a::b::l=>by have:=iF (n:=n) (π:=π) (κ:=κ) (q:=q) (b::l);simp only[xO]at this⊢;rw[<-this];cases h:l++[q,0]with|nil=>simp at h|cons c cs=>cases b<;>simp[bN]
def Iz{i:Id}(h:[0]<:+i):i=[0]\/∃l q,i=l++[q,0]:=by obtain⟨t,rfl⟩:=h;rcases List.eq_nil_or_concat t with rfl|⟨l,q,rfl⟩;exact .inl rfl;exact .inr ⟨l,q,am⟩
def ama{n:Nat}{π:Id}{κ:Nat->Id}{i j:Id}(c:[0]<:+i)(b:[0]<:+j)(h:bN n π κ i=bN n π κ j):i=j:=by
 rcases Iz c with rfl|⟨l,q,rfl⟩<;>rcases Iz b with rfl|⟨l',q',rfl⟩;rfl;rw[iF]at h;have:=congrArg DY h;simp[bN]at this;omega;rw[iF]at h;have:=congrArg DY h;simp[bN]at this;omega;rw[iF,iF]at h;have d:l.length=l'.length:=by have:=congrArg DY h;simp at this;omega
 have⟨h1,a⟩:=List.append_inj h d;simp only[O5,and_true]at a;have:q=q':=ac;rw[h1,this]
end
section
variable{P:Program}{G:Nat->Option (List aa)}
open Classical in noncomputable def BC(n:Nat)(π:Id)(κ:Nat->Id)(E jk:Env):Env:=⟨fun j=>if h:∃i,[0]<:+i/\bN n π κ i=j then jk.μ h.choose else E.μ j,jk.ok⟩
def RH{n:Nat}{π:Id}{κ:Nat->Id}{E jk:Env}{i:Id}(b:[0]<:+i):(BC n π κ E jk).μ (bN n π κ i)=jk.μ i:=by have a:∃c,[0]<:+c/\bN n π κ c=bN n π κ i:=⟨i,b,rfl⟩;simp only[BC];rw[dif_pos a];exact congrArg jk.μ (ama a.choose_spec.1 b a.choose_spec.2)
def FJ{n:Nat}{π:Id}{κ:Nat->Id}{E jk:Env}{j:Id}(h:∀i,[0]<:+i->bN n π κ i≠j):(BC n π κ E jk).μ j=E.μ j:=by simp only[BC];rw[dif_neg];rintro⟨i,a,e⟩;exact h i a e
def Lc{n:Nat}{π:Id}{κ:Nat->Id}{E:Env}(a:lU E π n){i:Id}(b:[0]<:+i):E.μ (bN n π κ i)=none:=by rcases Iz b with rfl|⟨l,q,rfl⟩;exact a.self;rw[iF];exact a.at (q:=n+q) (nP _ _) ⟨l,rfl⟩
def yn(ρ:Id->Id)(a σ:aL):Prop:=(∀i b,a i=some b->σ (ρ i)=some (b.aU ρ))/\∀j,σ j=none\/∃i b,a i=some b/\ρ i=j/\σ j=some (b.aU ρ)
def bo.aU{eA:cw}{PZ:cf->du->Prop}{t0:List aa}{oP σ:aL}{n:Nat}{π:Id}{κ:Nat->Id}(h:bo P G [0] eA PZ ⟨t0,oP,0⟩)(gP:∀i b,oP i=some b->σ (bN n π κ i)=some (b.aU (bN n π κ)))(afm:∀i j,oP i≠none->oP j≠none->i≠j->bN n π κ i≠bN n π κ j):bo P G π eA (λ e s=>∃s0,PZ e s0/\s.t=br (bN n π κ) s0.t/\s.n=n+s0.n/\yn (bN n π κ) s0.σ s.σ) ⟨br (bN n π κ) t0,σ,n⟩:=by
 intro c hc own E w a R hm dE;have⟨BQ,D,o,afe⟩:=hm;let jk:Env:=⟨λ i=>E.μ (bN n π κ i),E.ok⟩;have afw:oU G [0] own jk w ⟨t0,oP,0⟩ a:=by refine⟨bc.dF (E:=jk) (E':=E) (λ i x r=>r) (λ b hb=>hb) _ _ BQ,?_,λ j K _=>Lc o K,afe⟩;refine⟨D.g6,λ id aq F=>?_,λ i j x y d C Q r hy=>?_,D.jq,D.new⟩;have⟨g,N,m,ty,f⟩:=D.blk _ _ (gP id aq F);refine⟨g,N,m,ty,f.μ,f.heap,f.size,?_,f.most,f.own,f.ok,f.no,Nq f.k,?_⟩;have:=f.len;rwa[show(aq.aU (bN n π κ)).els.length=aq.els.length from mb]at this;have:=f.row;rw[show(aq.aU (bN n π κ)).els=br (bN n π κ) aq.els from rfl,HW]at this;exact ew.dF (E:=jk) (E':=E) (λ i x r=>r) (λ b hb=>hb) this;have⟨b,hb⟩:=Jf.1 d;have⟨b',BP⟩:=Jf.1 C;exact D.inj _ _ x y (by show σ _≠none;rw[gP i b hb];simp) (by show σ _≠none;rw[gP j b' BP];simp) (afm i j d C Q) r hy
 refine h c hc own jk w a R afw ?_;intro e s0 M w' a' hq p afv;have⟨X,d,A,O⟩:=afv;let E':=BC n π κ E M;have I:∀i x,M.μ i=some x->E'.μ (bN n π κ i)=some x:=by
   intro i x r;by_cases h0:[0]<:+i;exact(RH h0).trans r;have h1:E.μ (bN n π κ i)=some x:=by have:=p.ids i h0;rw[r]at this;exact this.symm
   exact(FJ λ B d e=>by have:=Lc (κ:=κ) o d;rw[e,h1]at this;cases this).trans h1
 have U:∀j x,E.μ j=some x->E'.μ j=some x:=λ j x r=>(FJ λ B d e=>by have:=Lc (κ:=κ) o d;rw[e,r]at this;cases this).trans r;have hS:∀j b,(∃i u,s0.σ i=some u/\bN n π κ i=j/\b=u.aU (bN n π κ))->∃i g N m ty u,s0.σ i=some u/\bN n π κ i=j/\oQ M own w' i u g N m ty/\oQ E' own w' j b g N m ty:=by rintro j b⟨i,u,h1,rfl,rfl⟩;have⟨g,N,m,ty,f⟩:=d.blk i u h1;refine⟨i,g,N,m,ty,u,h1,rfl,f,I _ _ f.μ,f.heap,f.size,?_,f.most,f.own,f.ok,f.no,HX f.k,?_⟩;rw[show(u.aU (bN n π κ)).els.length=u.els.length from mb];exact f.len;rw[show(u.aU (bN n π κ)).els=br (bN n π κ) u.els from rfl,HW];exact ew.aU I (λ b hb=>hb) f.row
 classical
 let vI:aL:=λ j=>if h:∃i b,s0.σ i=some b/\bN n π κ i=j then some (h.choose_spec.choose.aU (bN n π κ))else none;have z:∀j,vI j=none\/∃i b,s0.σ i=some b/\bN n π κ i=j/\vI j=some (b.aU (bN n π κ)):=λ j=>by by_cases h:∃i b,s0.σ i=some b/\bN n π κ i=j;right;exact⟨h.choose,h.choose_spec.choose,h.choose_spec.choose_spec.1,h.choose_spec.choose_spec.2,dif_pos h⟩;left;exact dif_neg h
 have V:Inv G own E' w' vI:=by refine⟨d.g6,λ j aq F=>?_,λ j j' x y K C Q r hy=>?_,d.jq,d.new⟩;rcases z j with h1|⟨i,b,h1,T,H⟩;rw[h1]at F;cases F;rw[H]at F;simp only[a9]at F;have⟨B,g,N,m,ty,u,_,_,_,f⟩:=hS j aq ⟨i,b,h1,T,F.symm⟩;exact⟨g,N,m,ty,f⟩;rcases z j with h1|⟨i,b,h1,T,H⟩;exact absurd h1 K;rcases z j' with S|⟨B,b',S,im,yV⟩;exact absurd S C;have⟨g,N,m,ty,f⟩:=d.blk i b h1;have⟨g',n4,Z,Ix,v⟩:=d.blk B b' S;have e1:=I _ _ f.μ;have J:=I _ _ v.μ;rw[T,r]at e1;rw[im,hy]at J;simp only[a9]at e1 J;rw[e1,J];exact d.inj i B _ _ (by rw[h1];simp) (by rw[S];simp) (λ e=>Q (by rw[<-T,<-im,e])) f.μ v.μ
 have L:∀i b,s0.σ i=some b->vI (bN n π κ i)=some (b.aU (bN n π κ)):=λ i b h1=>by rcases z (bN n π κ i)with T|⟨B,b',H,S,im⟩;exact absurd ((dif_pos ⟨i,b,h1,rfl⟩).symm.trans T) am;have⟨g,N,m,ty,f⟩:=d.blk i b h1;have⟨g',n4,Z,Ix,v⟩:=d.blk B b' H;by_cases e:B=i;subst e;rw[h1]at H;cases H;exact im;have e1:=I _ _ f.μ;have J:=I _ _ v.μ;rw[S,e1]at J;simp only[a9,cN]at J;exact absurd J.1.symm (d.inj B i _ _ (by rw[H];simp) (by rw[h1];simp) e v.μ f.μ)
 refine dE e ⟨br (bN n π κ) s0.t,vI,n+s0.n⟩ E' w' a' ⟨s0,hq,rfl,rfl,L,z⟩ ⟨⟨⟨U,p.step.ok,p.step.same⟩,p.os,p.tape,p.output,p.size,p.block,p.qm⟩,λ j K=>FJ λ i D e=>K ?_⟩ ⟨bc.aU I (λ b hb=>hb) _ _ X,V,λ j K Y=>?_,O⟩;rcases Iz D with rfl|⟨l,q,rfl⟩;rw[<-e];exact List.suffix_refl _;rw[iF]at e;rw[<-e];exact⟨l++[n+q],am⟩;by_cases W:∃i,[0]<:+i/\bN n π κ i=j;obtain⟨i,Gu,rfl⟩:=W;refine(RH Gu).trans (A i Gu λ q LD F=>Y (n+q) (by show n+q<n+s0.n;omega) ?_);obtain⟨t,rfl⟩:=F;rw[iF];exact⟨t,rfl⟩;refine(FJ λ i D e=>W ⟨i,D,e⟩).trans (o j K λ q LD=>Y q (gz LD (nP _ _)))
def Vs{ρ:Id->Id}{a:Bool}{cs:List aa}{o n:Nat}{v:aa}(h:part a cs o n=some v):part a (br ρ cs) o n=some (v.aU ρ):=by unfold part at h⊢;rw[mb];split at h;rename_i h1;rw[if_pos h1];split at h;rename_i b;rw[if_pos b];cases h;simp only[aa.aU,fS,DZ,List.map_drop];rename_i b;rw[if_neg b];split at h;rename_i c;rw[if_pos c,fS,kZ,h];rfl;cases h;cases h
def aoV{ρ:Id->Id}{d σ:aL}(j:yn ρ d σ){a:Bool}{n:Nat}{x:aa}{r:bG}(h:kz d a n x=some r):∃f,kz σ a n (x.aU ρ)=some f/\f.val=r.val.aU ρ:=by
 cases x<;>simp only[kz,reduceCtorEq]at h;case ref id e o=>cases hb:d id with|none=>rw[hb]at h;cases h|some aq=>rw[hb]at h;simp only[]at h;cases b:aq.els[e]? with|none=>rw[b]at h;cases h|some el=>
       rw[b]at h;simp only[et]at h;obtain⟨v,c,rfl⟩:=h;refine⟨{val:=v.aU ρ,rd:=[ρ id]},?_,rfl⟩;have i:(aq.aU ρ).els[e]?=some (el.aU ρ):=by show(br ρ aq.els)[e]?=_;rw[fS,kZ,b];rfl
       simp only[aa.aU,kz,j.1 id aq hb,i,Np,Vs c,fb]
 case cr cs o=>simp only[et]at h;obtain⟨v,c,rfl⟩:=h;refine⟨{val:=v.aU ρ},?_,rfl⟩;simp only[aa.aU,kz,Vs c,fb]
def St{ρ:Id->Id}{t:List aa}{k:Nat}:(br ρ t).getD k (.aJ [])=(t.getD k (.aJ [])).aU ρ:=by rw[dt,dt,fS,kZ];cases t[k]?<;>rfl
def al3{ρ:Id->Id}{s0 s:du}(b:s.t=br ρ s0.t)(f:yn ρ s0.σ s.σ){x:n5}{v:aa}(h:px s0 x=some v):px s x=some (v.aU ρ):=by cases x with|tmp k=>simp only[px,a9]at h⊢;rw[b,St,h]|cell k c n=>simp only[px,et]at h⊢;obtain⟨r,d,rfl⟩:=h;have⟨e,h1,g⟩:=aoV f d;exact⟨e,by rw[b,St];exact h1,g⟩
def Uh{ρ:Id->Id}{s0 s:du}(c:s.t=br ρ s0.t)(d:yn ρ s0.σ s.σ):∀{a:List n5}{vs:List aa},a.mapM (px s0)=some vs->a.mapM (px s)=some (br ρ vs)|[],vs,h=>by simp only[List.mapM_nil,x3,a9]at h⊢;subst h;rfl|x::a,vs,h=>by simp only[tQ,Option.bind_eq_bind,x6,x3,a9]at h⊢;obtain⟨v,e,f,b,rfl⟩:=h;exact⟨_,al3 c d e,_,Uh c d b,rfl⟩
def akb{ρ:Id->Id}{s0 s:du}(c:s.t=br ρ s0.t)(d:yn ρ s0.σ s.σ){a:List n5}{v:aa}(h:rY a s0=some v):rY a s=some (v.aU ρ):=by unfold rY at h⊢;cases b:a.mapM (px s0)with|none=>rw[b]at h;cases h|some vs=>rw[b]at h;rw[Uh c d b];match vs,h with|[],h=>cases h;rfl|[v],h=>cases h;rfl|v::e::vs,h=>cases h;rfl
abbrev eP:=List (Id×Option aG)
def l6:Id->Id->Bool|[],[]=>true|a::c,b::d=>qO a b&&l6 c d|_,_=>false
def rJ:∀{a b:Id},l6 a b=true↔a=b|[],[]=>by simp[l6]|a::c,b::d=>by simp only[l6,gU,Nat.beq_eq,rJ (a:=c),O5]|[],_::_=>by simp[l6]|_::_,[]=>by simp[l6]
def eP.find:eP->Id->Option aG|[],_=>none|(j,b)::S,i=>match l6 i j with|true=>b|false=>eP.find S i
def eP.to(S:eP):aL:=λ i=>S.find i
def eP.app(S:eP):List (Id×Option aG)->eP|[]=>S|x::up=>eP.app (x::S) up
def eP.anT(i:Id)(b:Option aG)(S:eP):eP.to ((i,b)::S)=S.to.put i b:=by funext j;show eP.find _ j=_;simp only[eP.find,vH];cases h:l6 j i with|true=>rw[if_pos (rJ.1 h)]|false=>rw[if_neg (λ e=>by rw[rJ.2 e]at h;cases h)];rfl
def eP.N9:∀(up:List (Id×Option aG))(S:eP),(S.app up).to=S.to.app up|[],_=>rfl|(i,b)::up,S=>by simp only[eP.app,lS,eP.N9 up,eP.anT]
inductive aR(P:Program)(G:Nat->Option (List aa))where|ev(k:Nat)(o:Option bG)(r:bG)(h:o=some r)|eq(k:Nat)(a b:aa)(h:a=b)|pZ(k:Nat)(x b:Bool)(h:x=b)|st(k:Nat)(S:List (Id×aG))(op:dJ aa)(r:Id->bG)(h:∀σ p,(∀x∈S,σ x.1=some x.2)->cd σ p op=some (r p))|fD(f:FuncId)(args:List aa)(r:aa)(h:ag P G f args r)(hp:∀c∈args,cb c)|rel(f:FuncId)(args:List aa)(S:List (Id×aG))(r:Id->bG)(h:∀p,(∀x∈S,¬p<:+x.1)->cj P G f args p S (r p))(hr:∀p,∀x∈S,x.1∈(r p).rd)|h9(π:Id)(c:cw)(t0:List aa)(Bd:List (Id×aG))(n0:Nat)(e:cf)(t1:List aa)(sE:eP)(n1:Nat)(h:bo P G π (.loop c) (fun e' s'=>e'=e/\bP G π s' ⟨t1,sE.to,n1⟩) ⟨t0,aL.of Bd,n0⟩)
inductive lT where|ev(o:Option bG)|val(a:aa)|op(o:dJ aa)(S:List (Option aG))|call(f:FuncId)(args:List aa)(S:List (Option aG))|h9(π:Id)(c:cw)(t:List aa)(S:List (Option aG))
def Dc:Id->Id->Bool|p,[]=>l6 p []|p,a::b=>l6 p (a::b)||Dc p b
def WB{p:Id}:∀{i:Id},Dc p i=false->¬p<:+i|[],h=>by simp only[Dc]at h;intro b;have:p=[]:=List.suffix_nil.1 b;rw[rJ.2 this]at h;cases h|a::c,h=>by simp only[Dc,Bool.or_eq_false_iff]at h;intro b;rcases List.suffix_cons_iff.1 b with e|e;rw[rJ.2 e]at h;cases h.1;exact WB h.2 e
structure uf where
 t:List aa
 S:eP
 n:Nat
def uf.to(s:uf):du:=⟨s.t,s.S.to,s.n⟩
def uS:List aa->List aa->List aa|c::cs,d::ds=>(match d with|.top=>.top|_=>c)::uS cs ds|cs,_=>cs
def Mk:∀{cs ds:List aa},uS cs ds=ds->iN cs ds|[],[],_=>trivial|c::cs,d::ds,h=>by simp only[uS,O5]at h;refine⟨?_,Mk h.2⟩;cases d<;>simp_all|[],_::_,h=>by simp[uS]at h|_::_,[],h=>by simp[uS]at h
def keyOf(o:dK):Nat:=match o.dst with|some d=>d|none=>match o.op with|.store _ (.t x) _=>x+100000|_=>0
def Cy(a b:List Id):Bool:=a.all λ i=>!b.any λ j=>l6 i j
def Qg(a b:bG):Bool:=Cy (a.up.map (·.1)) b.rd&&Cy (a.up.map (·.1)) (b.up.map (·.1))&&Cy (b.up.map (·.1)) a.rd
def E8(c:List bG)(d:List (Nat×Nat)):Bool:=d.all λ q=>match c[q.1]?,c[q.2]? with|some a,some b=>Qg a b|_,_=>true
def MH{a b:List Id}(h:Cy a b=true){i:Id}(c:i∈a):i∉b:=by simp only[Cy,dY,Bool.not_eq_true',List.any_eq_false]at h;exact λ d=>h i c i d (rJ.2 rfl)
def aa8{d:List bG}{e:List (Nat×Nat)}(h:E8 d e=true):Bg d e:=by intro q g a b i hb;simp only[E8,dY]at h;have:=h q g;rw[i,hb]at this;simp only[Qg,gU]at this;have⟨⟨h1,j⟩,f⟩:=this;exact⟨λ x c=>⟨MH h1 (bp.2 ⟨x,c,rfl⟩),MH j (bp.2 ⟨x,c,rfl⟩)⟩,λ x c=>MH f (bp.2 ⟨x,c,rfl⟩)⟩
abbrev mD:=List (lT×lT)
def r8(S:eP)(p:Id)(op:dJ aa)(a:List (aR P G)):Option (mD×List (aR P G)×bG):=match cd S.to p op with|some r=>some ([],a,r)|none=>none
def N1(S:eP)(p:Id)(k:Nat)(op:dJ aa)(d:List (aR P G)):Option (mD×List (aR P G)×bG):=match op with
 |.call f j=>match f with
   |.fn (.func g) first cap=>match d with
     |.fD h args' r _ _::c=>some ([(.call g (first++j++cap) [],.call h args' [])],c,{val:=r})|.rel h args' e r _ _::c=>match e.all λ x=>!Dc p x.1 with|true=>some ([(.call g (first++j++cap) (e.map λ x=>S.find x.1),.call h args' (e.map λ x=>some x.2))],c,r p)|false=>none
     |_=>none
   |_=>none
 |op=>match d with
   |.ev k' o r _::c=>match qO k' k with|true=>some ([(.ev (cd S.to p op),.ev o)],c,r)|false=>r8 S p op d
   |.eq k' a b _::c=>match qO k' k with
     |true=>match cd S.to p op with|some r=>some ([(.val r.val,.val a)],c,{r with val:=b})|none=>none
     |false=>r8 S p op d
   |.st k' e i r _::c=>match qO k' k with|true=>some ([(.op op (e.map λ x=>S.find x.1),.op i (e.map λ x=>some x.2))],c,r p)|false=>r8 S p op d
   |_=>r8 S p op d
def r9(π:Id)(a:Nat):List dK->Nat->List bG->List aa->eP->List (aR P G)->Option (mD×List (aR P G)×List bG×List aa×eP)|[],_,b,t,S,d=>some ([],d,b,t,S)|o::os,i,b,t,S,d=>match nN t o.guard with|none=>none|some false=>r9 π a os (i+1) ({val:=.aJ []}::b) (hV t o.dst (.aJ [])) S d|some true=>match N1 S ((a+i)::π) (keyOf o) (o.op.map (dD.ev G t)) d with|none=>none|some (c,e,r)=>match r9 π a os (i+1) (r::b) (hV t o.dst r.val) (S.app r.up) e with|none=>none|some (cs,x)=>some (c++cs,x)
def Qv:dD->Nat|.t k=>k|_=>0
def bT:Bool->Nat->cw->Id->List (aR P G)->uf->Option (mD×List (aR P G)×cf×uf)|_,0,_,_,_,_=>none|z,m+1,c,π,f,⟨t,S,n⟩=>match c with
   |.skip=>some ([],f,.normal,⟨t,S,n⟩)|.ret=>some ([],f,.ret,⟨t,S,n⟩)|.exit i=>some ([],f,.exit i,⟨t,S,n⟩)|.seq a b=>match bT true m a π f ⟨t,S,n⟩with
     |some (cs,d,.normal,s')=>match bT true m b π d s' with|some (g,x)=>some (cs++g,x)|none=>none
     |r=>r
   |.cond c a b=>match f with
     |.pZ k x v _::d=>match qO k (Qv c)with
       |true=>match bT true m (match v with|true=>a|false=>b) π d ⟨t,S,n⟩with|some (cs,y)=>some ((.val (c.ev G t),.val (.bool x))::cs,y)|none=>none
       |false=>match c.ev G t with|.bool true=>bT true m a π f ⟨t,S,n⟩|.bool false=>bT true m b π f ⟨t,S,n⟩|_=>none
     |_=>match c.ev G t with|.bool true=>bT true m a π f ⟨t,S,n⟩|.bool false=>bT true m b π f ⟨t,S,n⟩|_=>none
   |.block i c=>match bT true m c π f ⟨t,S,n⟩with
     |some (cs,d,.exit j,s')=>match qO j i with|true=>some (cs,d,.normal,s')|false=>some (cs,d,.exit j,s')
     |r=>r
   |.loop c=>match z,f with
     |true,.h9 u c' l o C e s w B _::d=>match Nat.ble n C with|true=>some ([(.h9 π c (uS t l) (o.map λ x=>S.find x.1),.h9 u c' l (o.map λ x=>some x.2))],d,e,⟨s,w,B⟩)|false=>none
     |_,_=>match bT true m c π f ⟨t,S,n⟩with
       |some (cs,d,.normal,s')=>match bT false m (.loop c) π d s' with|some (g,x)=>some (cs++g,x)|none=>none
       |r=>r
   |.mU h os=>match r9 π n os 0 [] t S f with|none=>none|some (cs,d,A,q,p)=>match h with|none=>some (cs,d,.normal,⟨q,p,n+os.length⟩)|some h=>match E8 A.reverse h with|true=>some (cs,d,.normal,⟨q,p,n+os.length⟩)|false=>none
def qA(z:Bool)(m:Nat)(c:cw)(π:Id)(f:List (aR P G))(s:uf):bT z (m+1) c π f s=match c with
     |.skip=>some ([],f,.normal,s)|.ret=>some ([],f,.ret,s)|.exit i=>some ([],f,.exit i,s)|.seq a b=>match bT true m a π f s with
       |some (cs,d,.normal,s')=>match bT true m b π d s' with|some (g,x)=>some (cs++g,x)|none=>none
       |r=>r
     |.cond c a b=>match f with
       |.pZ k x v _::d=>match qO k (Qv c)with
         |true=>match bT true m (match v with|true=>a|false=>b) π d s with|some (cs,y)=>some ((.val (c.ev G s.t),.val (.bool x))::cs,y)|none=>none
         |false=>match c.ev G s.t with|.bool true=>bT true m a π f s|.bool false=>bT true m b π f s|_=>none
       |_=>match c.ev G s.t with|.bool true=>bT true m a π f s|.bool false=>bT true m b π f s|_=>none
     |.block i c=>match bT true m c π f s with
       |some (cs,d,.exit j,s')=>match qO j i with|true=>some (cs,d,.normal,s')|false=>some (cs,d,.exit j,s')
       |r=>r
     |.loop c=>match z,f with
       |true,.h9 q c' l o B e p u A _::d=>match Nat.ble s.n B with|true=>some ([(.h9 π c (uS s.t l) (o.map λ x=>s.S.find x.1),.h9 q c' l (o.map λ x=>some x.2))],d,e,⟨p,u,A⟩)|false=>none
       |_,_=>match bT true m c π f s with
         |some (cs,d,.normal,s')=>match bT false m (.loop c) π d s' with|some (g,x)=>some (cs++g,x)|none=>none
         |r=>r
     |.mU h os=>match r9 π s.n os 0 [] s.t s.S f with|none=>none|some (cs,d,w,t,S)=>match h with|none=>some (cs,d,.normal,⟨t,S,s.n+os.length⟩)|some h=>match E8 w.reverse h with|true=>some (cs,d,.normal,⟨t,S,s.n+os.length⟩)|false=>none:=by have⟨t,S,n⟩:=s;rw[bT.eq_def]
def ji(cs:mD):Prop:=∀x∈cs,x.1=x.2
def ji.of_map{cs:mD}(h:cs.map (·.1)=cs.map (·.2)):ji cs:=by intro x b;have⟨i,a⟩:=Zo b;have:=congrArg (·[i]?) h;simpa[kZ,a]using this
def ji.left{a b:mD}(h:ji (a++b)):ji a:=λ x c=>h x (qP _ c)
def ji.right{a b:mD}(h:ji (a++b)):ji b:=λ x c=>h x (xP _ c)
def yO{S:eP}{a:List (Id×aG)}(h:(a.map λ x=>S.find x.1)=a.map λ x=>some x.2):∀x∈a,S.to x.1=some x.2:=by
 intro x c;have⟨i,b⟩:=Zo c;have:=congrArg (·[i]?) h;have e:S.find x.1=some x.2:=by simpa[kZ,b]using this
 exact e
def XA{S:eP}{p:Id}{k:Nat}{op:dJ aa}{i c:List (aR P G)}{cs:mD}{r:bG}(h:N1 S p k op i=some (cs,c,r))(l:ji cs){K:bG->Prop}(m:K r):tD P G S.to p op K:=by
 have g:∀{cs c},r8 S p op i=some (cs,c,r)->op.GO=false->tD P G S.to p op K:=by intro cs c h d;unfold r8 at h;rw[IW d];split at h;rename_i n s;simp only[a9,cN]at h;obtain⟨_,_,rfl⟩:=h;(try rw[s]);exact m;cases h
 have j:∀{cs c},op.GO=false->ji cs->(match i with
   |.ev k' o r _::c=>match qO k' k with|true=>some ([((lT.ev (cd S.to p op)),.ev o)],c,r)|false=>r8 S p op i
   |.eq k' a b _::c=>match qO k' k with
     |true=>match cd S.to p op with|some r=>some ([(.val r.val,.val a)],c,{r with val:=b})|none=>none
     |false=>r8 S p op i
   |.st k' t q r _::c=>match qO k' k with|true=>some ([(.op op (t.map λ x=>S.find x.1),.op q (t.map λ x=>some x.2))],c,r p)|false=>r8 S p op i
   |_=>r8 S p op i)=some (cs,c,r)->tD P G S.to p op K:=by intro cs c d l h;cases i with
   |nil=>exact g h d|cons x w=>cases x with|ev k' o n u=>simp only[]at h;split at h;simp only[a9,cN]at h;obtain⟨rfl,_,rfl⟩:=h;have:=l _ (cq.2 rfl);simp only[lT.ev.injEq]at this;rw[IW d,this,u];exact m;exact g h d|eq k' a b v=>
       simp only[]at h;split at h;split at h;rename_i n s;simp only[a9,cN]at h;obtain⟨rfl,_,rfl⟩:=h;have:=l _ (cq.2 rfl);simp only[lT.val.injEq]at this;rw[IW d,s];have e:{n with val:=b}=n:=by rw[<-v,<-this]
       rw[e]at m;exact m;cases h;exact g h d|st k' t q n u=>simp only[]at h;split at h;simp only[a9,cN]at h;obtain⟨rfl,_,rfl⟩:=h;have:=l _ (cq.2 rfl);simp only[lT.op.injEq]at this;rw[IW d,this.1,u _ _ (yO this.2)];exact m;exact g h d|_=>exact g h d
 cases op with
 |call f H=>
   simp only[N1]at h;simp only[tD];split at h;cases i with|nil=>cases h|cons x w=>cases x with|fD E args' n y D=>simp only[a9,cN]at h;obtain⟨rfl,_,rfl⟩:=h;have:=l _ (cq.2 rfl);simp only[lT.call.injEq,and_true]at this;obtain⟨rfl,e⟩:=this;exact⟨[],_,e▸cj.Va y D p,am,am,m⟩|rel E args' t n y s=>simp only[]at h;split at h;rename_i z;simp only[a9,cN]at h;obtain⟨rfl,_,rfl⟩:=h;have:=l _ (cq.2 rfl);simp only[lT.call.injEq]at this;obtain⟨rfl,e,B⟩:=this;refine⟨t,_,e▸y p λ x F=>WB ?_,yO B,s p,m⟩;have:=dY.1 z x F;simpa using this;cases h|_=>cases h
   cases h|_=>exact j rfl l h
def NV{π:Id}{b:Nat}{k:List bG}{m:List aa}{l:eP}{e:List (aR P G)}{K:List bG->List aa->aL->Prop}(j:K k.reverse m l.to):∀(os:List dK)(i:Nat)(a:List bG)(t:List aa)(S:eP)(g:List (aR P G))(cs:mD),r9 π b os i a t S g=some (cs,e,k,m,l)->ji cs->pL P G π b K os i a t S.to|[],i,a,t,S,g,cs,h,_=>by simp only[r9,a9,cN]at h;have⟨_,_,rfl,rfl,rfl⟩:=h;exact j|o::os,i,a,t,S,g,cs,h,f=>by simp only[r9]at h;simp only[pL];split at h;cases h;rename_i d;rw[d];exact NV j os _ _ _ _ _ _ h f;rename_i d;rw[d];split at h;cases h;rename_i c q r n;split at h;cases h;rename_i p x s;simp only[a9,cN]at h;obtain⟨rfl,rfl⟩:=h;have:=NV j os _ _ _ _ _ _ s f.right;rw[eP.N9]at this;exact XA n f.left this
def NW{π:Id}{a:Nat}{m:List bG}{k:List aa}{l:eP}{e:List (aR P G)}{K:List aa->aL->Prop}(j:K k l.to):∀(os:List dK)(i:Nat)(b:List bG)(t:List aa)(S:eP)(f:List (aR P G))(cs:mD),r9 π a os i b t S f=some (cs,e,m,k,l)->ji cs->qJ P G π a K os i t S.to|[],i,b,t,S,f,cs,h,_=>by simp only[r9,a9,cN]at h;have⟨_,_,rfl,rfl,rfl⟩:=h;exact j|o::os,i,b,t,S,f,cs,h,g=>by simp only[r9]at h;simp only[qJ];split at h;cases h;rename_i d;rw[d];exact NW j os _ _ _ _ _ _ h g;rename_i d;rw[d];split at h;cases h;rename_i c s r q;split at h;cases h;rename_i n x p;simp only[a9,cN]at h;obtain⟨rfl,rfl⟩:=h;have:=NW j os _ _ _ _ _ _ p g.right;rw[eP.N9]at this;exact XA q g.left this
def Xy{c:cw}{π:Id}:∀(m:Nat),(∀k<m,∀(b a:List (aR P G))cs s s' e,bT true k c π b s=some (cs,a,e,s')->ji cs->bo P G π c (λ d f=>d=e/\f=s'.to) s.to)->∀(b a:List (aR P G))cs s s' e,bT false m (.loop c) π b s=some (cs,a,e,s')->ji cs->∃n,E2 P G π c (λ d f=>d=e/\f=s'.to) n s.to|0,_,_,_,_,_,_,_,h,_=>by simp[bT]at h|m+1,hb,b,a,cs,s,s',e,h,l=>by simp only[qA]at h;split at h;rename_i u g p h1;split at h;rename_i w x v;simp only[a9,cN]at h;obtain⟨rfl,rfl⟩:=h;obtain⟨n,r⟩:=Xy m (λ k y=>hb k ac) g a w p s' e v l.right;refine⟨n+1,(hb m ac b g u s p _ h1 l.left).mono λ d f o=>?_⟩;obtain⟨rfl,rfl⟩:=o;exact r;cases h;rename_i h1;refine⟨1,(hb m ac b a cs s s' e h l).mono λ d f o=>?_⟩;obtain⟨rfl,rfl⟩:=o;cases d with|normal=>exact absurd h (h1 _ _ _)|exit i=>exact⟨rfl,rfl⟩|ret=>exact⟨rfl,rfl⟩
def bo.post{eA:cw}{π:Id}{Q:cf->du->Prop}{s:du}(h:bo P G π eA (λ e s'=>∃b,Q e b/\bP G π s' b) s):bo P G π eA Q s:=by intro c j own E w a R g m;refine h c j own E w a R g λ e s' E' w' a' o f d=>?_;have⟨b,h1,l⟩:=o;have⟨i,n,k⟩:=l own E' w' a' d;exact m e b i w' a' h1 (f.trans n) k
def mg:∀(m:Nat)(c:cw)(π:Id)(u d:List (aR P G))(cs:mD)(s s':uf)(e:cf),bT true m c π u s=some (cs,d,e,s')->ji cs->bo P G π c (λ g q=>g=e/\q=s'.to) s.to
 |0,_,_,_,_,_,_,_,_,h,_=>by simp[bT]at h|m+1,c,π,u,d,cs,s,s',e,h,f=>by
   have C:∀{u d:List (aR P G)}{cs:mD}{a b:cw}{x:dD},(match x.ev G s.t with|.bool true=>bT true m a π u s|.bool false=>bT true m b π u s|_=>none)=some (cs,d,e,s')->ji cs->bo P G π (.cond x a b) (λ g q=>g=e/\q=s'.to) s.to:=by intro u d cs a b x h f;split at h;rename_i hb;exact bo.cond hb (by simpa using mg m a π _ _ _ s s' e h f);rename_i hb;exact bo.cond hb (by simpa using mg m b π _ _ _ s s' e h f);cases h
   cases c with
   |skip=>simp only[qA,a9,cN]at h;obtain⟨_,_,rfl,rfl⟩:=h;exact bo.skip ⟨rfl,rfl⟩|ret=>simp only[qA,a9,cN]at h;obtain⟨_,_,rfl,rfl⟩:=h;exact bo.ret ⟨rfl,rfl⟩|exit i=>simp only[qA,a9,cN]at h;obtain⟨_,_,rfl,rfl⟩:=h;exact bo.exit ⟨rfl,rfl⟩|seq a b=>simp only[qA]at h;refine bo.seq ?_;split at h;rename_i c1 o E h1;split at h;rename_i o0 x B;simp only[a9,cN]at h;obtain⟨rfl,rfl⟩:=h;refine(mg m a π _ _ _ s E _ h1 f.left).mono λ g q l=>?_;obtain⟨rfl,rfl⟩:=l;exact mg m b π _ _ _ E s' e B f.right;cases h;rename_i h1;refine(mg m a π _ _ _ s s' e h f).mono λ g q l=>?_;obtain⟨rfl,rfl⟩:=l;cases g with|normal=>exact absurd h (h1 _ _ _)|exit i=>exact⟨rfl,rfl⟩|ret=>exact⟨rfl,rfl⟩
   |cond x a b=>simp only[qA]at h;cases u with|nil=>exact C h f|cons y o=>
       cases y with|pZ k y v hv=>
         simp only[]at h;split at h;split at h;rename_i c1 Av h1;simp only[a9,cN]at h;obtain⟨rfl,rfl⟩:=h;have B:=f _ (List.mem_cons_self ..);simp only[lT.val.injEq]at B;have hc':ji c1:=λ z hz=>f z (cR _ hz);refine bo.cond (b:=v) (by rw[<-hv];exact B) ?_;cases v with|true=>simpa using mg m a π _ _ _ s s' e h1 hc'|false=>simpa using mg m b π _ _ _ s s' e h1 hc'
         cases h;exact C h f|_=>exact C h f
   |block i c=>
     simp only[qA]at h;refine bo.block ?_;split at h;rename_i c1 o j E h1;split at h;rename_i hj;simp only[a9,cN]at h;obtain⟨rfl,rfl,rfl,rfl⟩:=h;refine(mg m c π _ _ _ s _ _ h1 f).mono λ g q l=>?_;obtain⟨rfl,rfl⟩:=l;simp[Nat.beq_eq▸hj];rename_i hj;simp only[a9,cN]at h;obtain⟨rfl,rfl,rfl,rfl⟩:=h;refine(mg m c π _ _ _ s _ _ h1 f).mono λ g q l=>?_;obtain⟨rfl,rfl⟩:=l;have:¬j=i:=λ e=>by rw[e,Nat.beq_refl]at hj;cases hj
     simp[this];rename_i h1;refine(mg m c π _ _ _ s s' e h f).mono λ g q l=>?_;obtain⟨rfl,rfl⟩:=l;cases g with|normal=>exact⟨rfl,rfl⟩|exit i=>exact absurd h (h1 _ _ _ _)|ret=>exact⟨rfl,rfl⟩
   |loop c=>
     have w:∀{l2:(match bT true m c π u s with
       |some (cs,d,.normal,s')=>match bT false m (.loop c) π d s' with|some (ac3,x)=>some (cs++ac3,x)|none=>none
       |r=>r)=some (cs,d,e,s')},bo P G π (.loop c) (λ g q=>g=e/\q=s'.to) s.to:=by intro h;split at h;rename_i c1 o E h1;split at h;rename_i o0 x B;simp only[a9,cN]at h;obtain⟨rfl,rfl⟩:=h;obtain⟨n,hn⟩:=Xy m (λ m' hm u d cs s s' e hr f=>mg m' c π u d cs s s' e hr f) o d o0 E s' e B f.right;refine bo.rounds (n+1) ((mg m c π u o c1 s E _ h1 f.left).mono λ g q l=>?_);obtain⟨rfl,rfl⟩:=l;exact hn;cases h;rename_i h1;refine bo.rounds 1 ((mg m c π u d cs s s' e h f).mono λ g q l=>?_);obtain⟨rfl,rfl⟩:=l;cases g with|normal=>exact absurd h (h1 _ _ _)|exit i=>exact⟨rfl,rfl⟩|ret=>exact⟨rfl,rfl⟩
     cases u with|nil=>simp only[qA]at h;exact w (l2:=h)|cons y o=>cases y with|h9 arO c' t0 Bd n0 e1 t1 sE n1 hv=>simp only[qA]at h;split at h;rename_i hn;simp only[a9,cN]at h;obtain⟨rfl,_,rfl,rfl⟩:=h;have B:=f _ (cq.2 rfl);simp only[lT.h9.injEq]at B;obtain⟨rfl,rfl,h3,h4⟩:=B;exact bo.j9 (bP.forget (Mk h3) (λ i=>aL.xd (yO h4) i) (D0 hn)) (bo.post (hv.mono λ g q l=>⟨_,⟨l.1,rfl⟩,l.2⟩));cases h|_=>simp only[qA]at h;exact w (l2:=h)
   |mU ps os=>simp only[qA]at h;split at h;cases h;rename_i c1 o rs t S h1;cases ps with|none=>simp only[a9,cN]at h;obtain⟨rfl,rfl,rfl,rfl⟩:=h;exact bo.WA (NW ⟨rfl,rfl⟩ os _ _ _ _ _ _ h1 f)|some ps=>simp only[]at h;split at h;rename_i Ln;simp only[a9,cN]at h;obtain⟨rfl,rfl,rfl,rfl⟩:=h;exact bo.Vr (NV ⟨aa8 Ln,rfl,rfl⟩ os _ _ _ _ _ _ h1 f);cases h termination_by m=>m
class bg(c:aa):Prop where
 pure:cb c
 fix:∀ρ,c.aU ρ=c
class bq(l:List aa):Prop where
 pure:∀c∈l,cb c
 fix:∀ρ,br ρ l=l
instance:bq []:=⟨am,λ _=>rfl⟩
instance{c:aa}{l:List aa}[h:bg c][k:bq l]:bq (c::l):=⟨by intro d hd;rcases ct.1 hd with rfl|hd;exact h.pure;exact k.pure d hd,λ ρ=>by simp only[br,h.fix,k.fix]⟩
instance{b:Bool}:bg (.bool b):=⟨cb.bool b,λ _=>rfl⟩
instance{k:IntKind}{n:Int}:bg (.int k n):=⟨cb.int k n,λ _=>rfl⟩
instance{l:List UInt8}:bg (.str l):=⟨cb.str l,λ _=>rfl⟩
instance:bg .aH:=⟨cb.aH,λ _=>rfl⟩
instance:bg .iX:=⟨cb.iX,λ _=>rfl⟩
instance:bg .jM:=⟨cb.jM,λ _=>rfl⟩
instance{l:List aa}[h:bq l]:bg (.agg l):=⟨cb.agg h.pure,λ ρ=>by simp only[aa.aU,h.fix]⟩
instance{l:List aa}[h:bq l]:bg (.aJ l):=⟨cb.aJ h.pure,λ ρ=>by simp only[aa.aU,h.fix]⟩
instance{l:List aa}{o:Nat}[h:bq l]:bg (.cr l o):=⟨cb.cr h.pure,λ ρ=>by simp only[aa.aU,h.fix]⟩
instance{f:Fn}{a c:List aa}[h:bq a][k:bq c]:bg (.fn f a c):=⟨cb.fn h.pure k.pure,λ ρ=>by simp only[aa.aU,h.fix,k.fix]⟩
theorem bg.slice{k:Nat}{l:List aa}(h:∀c∈flat l,cb c)(b:∀c∈l,∀ρ,c.aU ρ=c):bg (.sl k l):=⟨cb.sl h,λ ρ=>by
 have e:br ρ l=l:=by rw[fS];exact(List.map_congr_left λ c a=>b c a ρ).trans (List.map_id l)
 simp only[aa.aU,e]⟩
instance{k:Nat}:bg (.sl k []):=bg.slice (by simp[flat]) am
def hc{f:FuncId}{args:List aa}{r:aa}(h:ag P G f args r)[p:bq args]:aR P G:=.fD f args r h p.pure
def hb(k:Nat){x b:Bool}(h:x=b):aR P G:=.eq k (.bool x) (.bool b) (by rw[h])
def hw(k:Nat){x y:Int}(h:x=y)(i:IntKind:=.i64):aR P G:=.eq k (.int i x) (.int i y) (by rw[h])
def hv(k:Nat){a b:aa}(h:a=b):aR P G:=.eq k a b h
def ho(k:Nat){o:Option aa}{v:aa}(h:o=some v):aR P G:=.ev k (dC o) {val:=v} (by rw[h];rfl)
def sY(k:Nat){x b:Bool}(h:x=b):aR P G:=.pZ k x b h
abbrev ud(P:Program)(G:Nat->Option (List aa)):=Option (mD×List (aR P G)×cf×uf)
def GQ:cf->Bool|.normal=>true|.ret=>true|_=>false
def H7(a:List n5):ud P G->Option (List lT×Bool×Option aa)|some (cs,_,e,s)=>some (cs.map (·.1),GQ e,rY a s.to)|none=>none
def H6(r:aa):ud P G->Option (List lT×Bool×Option aa)|some (cs,_,_,_)=>some (cs.map (·.2),true,some r)|none=>some ([],true,none)
def LV{e:cf}(h:GQ e=true):e=.normal\/e=.ret:=by cases e<;>simp[GQ]at h⊢
abbrev u1(aB:dO)(args:List aa)(a:List (aR P G)):ud P G:=bT true 1000 aB.body [] a ⟨args++bM (aB.aK-args.length) (.aJ []),[],0⟩
def ag.kV{f:FuncId}{aB:dO}(h:kE P f aB)(c:List (aR P G)){args:List aa}{r:aa}[d:bg r](a:H7 aB.results (u1 aB args c)=H6 r (u1 aB args c):=by kernel_rfl):ag P G f args r:=by have⟨fn,j,hc⟩:=h;refine ag.MR j hc ?_;cases b:u1 aB args c with|none=>rw[b]at a;simp[H7,H6]at a|some y=>have⟨cs,g,e,s⟩:=y;rw[b]at a;simp only[H7,H6,a9,cN]at a;refine(mg 1000 _ _ _ _ _ _ _ _ b (ji.of_map a.1)).mono λ l k i=>?_;obtain⟨rfl,rfl⟩:=i;exact⟨LV a.2.1,r,a.2.2,View.pure d.pure⟩
def mX(a:List n5)(K:List (Id×aG)):ud P G->Option (List lT×Bool×Option aa×List (Option aG))|some (cs,_,e,s)=>some (cs.map (·.1),GQ e,rY a s.to,K.map λ x=>s.S.find x.1)|none=>none
def mW(r:aa)(K:List (Id×aG)):ud P G->Option (List lT×Bool×Option aa×List (Option aG))|some (cs,_,_,_)=>some (cs.map (·.2),true,some r,K.map λ x=>some x.2)|none=>some ([],true,none,[])
def ag.xz{f:FuncId}{aB:dO}(h:kE P f aB)(c:List (aR P G))(K:List (Id×aG))(eL:aa){args:List aa}{r:aa}(a:mX aB.results K (u1 aB args c)=mW eL K (u1 aB args c))(hv:∀σ:aL,(∀x∈K,σ x.1=some x.2)->View σ eL r):ag P G f args r:=by have⟨fn,g,hc⟩:=h;refine ag.MR g hc ?_;cases b:u1 aB args c with|none=>rw[b]at a;simp[mX,mW]at a|some y=>have⟨cs,i,e,s⟩:=y;rw[b]at a;simp only[mX,mW,a9,cN]at a;refine(mg 1000 _ _ _ _ _ _ _ _ b (ji.of_map a.1)).mono λ j k d=>?_;obtain⟨rfl,rfl⟩:=d;exact⟨LV a.2.1,eL,a.2.2.1,hv _ (yO a.2.2.2)⟩
def fh(ρ:Id->Id)(K:List (Id×aG)):List (Id×aG):=K.map λ x=>(ρ x.1,x.2.aU ρ)
def b5(K:List (Id×aG)):eP:=K.map λ x=>(x.1,some x.2)
def B3:∀{K:List (Id×aG)}{i:Id}{b:aG},(b5 K).to i=some b->(i,b)∈K|[],_,_,h=>by cases h|(j,c)::K,i,b,h=>by have a:eP.find ((j,some c)::b5 K) i=some b:=h;simp only[eP.find]at a;split at a;rename_i d;cases a;rw[rJ.1 d];simp;exact cR _ (B3 a)
def w7:∀{S:List (Id×aG)}{x:Id×aG},(S.map (·.1)).Nodup->x∈S->aL.of S x.1=some x.2
 |[],x,_,b=>by simp at b|(j,c)::S,x,a,b=>by
   simp only[lP,hZ]at a;rcases ct.1 b with rfl|b;simp[aL.of];have d:x.1≠j:=λ e=>a.1 (bp.2 ⟨x,b,e⟩);show List.lookup _ _=_;rw[mr];have:(x.1==j)=false:=by simpa using d
   rw[this];exact w7 a.2 b
def Wa{ρ:Id->Id}:∀{K:List (Id×aG)},((fh ρ K).map (·.1)).Nodup->∀x∈K,∀y∈K,x.1≠y.1->ρ x.1≠ρ y.1|[],_,x,f,_,_,_=>by simp at f|z::K,h,x,f,y,i,c=>by have d:((ρ z.1,z.2.aU ρ)::fh ρ K).map (·.1)|>.Nodup:=h;simp only[lP,hZ]at d;have g:∀w∈K,ρ w.1∈(fh ρ K).map (·.1):=λ w hw=>bp.2 ⟨(ρ w.1,w.2.aU ρ),bp.2 ⟨w,hw,rfl⟩,rfl⟩;rcases ct.1 f with a|a<;>rcases ct.1 i with b|b;exact absurd (by rw[a,b]) c;subst a;exact λ e=>d.1 (e▸g y b);subst b;exact λ e=>d.1 (e▸g x a);exact Wa d.2 x a y b c
def bo.iw{eA:cw}{π:Id}{n:Nat}{κ:Nat->Id}{m f:List (aR P G)}{cs:mD}{g:List aa}{d:List (Id×aG)}{e:cf}{s:uf}(o:bT true 1000 eA [0] m ⟨g,b5 d,0⟩=some (cs,f,e,s))(hc:ji cs)(hd:((fh (bN n π κ) d).map (·.1)).Nodup):bo P G π eA (λ h s'=>h=e/\s'.t=br (bN n π κ) s.t/\s'.n=n+s.n/\yn (bN n π κ) s.S.to s'.σ) ⟨br (bN n π κ) g,aL.of (fh (bN n π κ) d),n⟩:=by refine(bo.aU (κ:=κ) (n:=n) (mg 1000 _ _ _ _ _ _ _ _ o hc) (λ i b hb=>?_) λ i j p l a=>?_).mono λ h s' k=>?_;exact w7 hd (bp.2 ⟨(i,b),B3 hb,rfl⟩);have⟨b,hb⟩:=Jf.1 p;have⟨c,hc⟩:=Jf.1 l;exact Wa hd _ (B3 hb) _ (B3 hc) a;obtain⟨s0,⟨rfl,rfl⟩,h1,r,q⟩:=k;exact⟨rfl,h1,r,q⟩
def rest(a b:List (Id×aG)):List (Id×aG):=b.filter λ x=>!a.any λ y=>l6 y.1 x.1
def cj.kV{f:FuncId}{aB:dO}(h:kE P f aB)(κ:Nat->Id){p:Id}(A:List (aR P G)){args:List aa}{S up:List (Id×aG)}{val:aa}(a:List aa)(d:List (Id×aG))(g:aa)(c:List (Id×aG))(l:mX aB.results (c++rest c d) (bT true 1000 aB.body [0] A ⟨a++bM (aB.aK-a.length) (.aJ []),b5 d,0⟩)=mW g (c++rest c d) (bT true 1000 aB.body [0] A ⟨a++bM (aB.aK-a.length) (.aJ []),b5 d,0⟩))(M:br (bN 0 p κ) a=args)(O:fh (bN 0 p κ) d=S)(hv:g.aU (bN 0 p κ)=val)(hu:fh (bN 0 p κ) c=up)(hd:(S.map (·.1)).Nodup)(qd:(up.map (·.1)).Nodup):cj P G f args p S {val,rd:=S.map (·.1),up:=up.map λ x=>(x.1,some x.2)}:=by subst M;subst O;subst hv;subst hu;have⟨fn,R,E⟩:=h;cases i:bT true 1000 aB.body [0] A ⟨a++bM (aB.aK-a.length) (.aJ []),b5 d,0⟩with|none=>rw[i]at l;simp[mX,mW]at l|some y=>
   have⟨cs,Q,e,s⟩:=y;rw[i]at l;simp only[mX,mW,a9,cN]at l;have⟨T,V,ho,J⟩:=l;have k:=yO J;refine cj.ajQ R E ?_;have W:br (bN 0 p κ) a++bM (aB.aK-(br (bN 0 p κ) a).length) (.aJ [])=br (bN 0 p κ) (a++bM (aB.aK-a.length) (.aJ [])):=by rw[HV,mb];congr 1;rw[fS,List.map_replicate];rfl
   rw[W];refine(bo.iw (κ:=κ) (n:=0) (π:=p) i (ji.of_map T) hd).mono λ Y s' L=>?_;have⟨rfl,h1,X,t⟩:=L;refine⟨LV V,_,akb (s0:=s.to) h1 t ho,Fin.same rfl λ j=>?_⟩;by_cases B:∃x∈(fh (bN 0 p κ) c).map (λ x=>(x.1,some x.2)),x.1=j;right;obtain⟨x,F,rfl⟩:=B;obtain⟨y,r,rfl⟩:=bp.1 F;obtain⟨z,m,rfl⟩:=bp.1 r;have K:s'.σ (bN 0 p κ z.1)=some (z.2.aU (bN 0 p κ)):=t.1 _ _ (k z (qP _ m));have I:∀(U:List (Id×aG))(σ:aL),(U.map (·.1)).Nodup->∀w∈U,σ.app (U.map λ x=>(x.1,some x.2)) w.1=some w.2:=by intro U;induction U with|nil=>intro σ _ w hw;simp at hw|cons u U N=>intro σ D w hw;simp only[lP,hZ]at D;simp only[lP,lS];rcases ct.1 hw with rfl|hw;rw[aL.Fb,A2];rintro x i e;obtain⟨v,hv,rfl⟩:=bp.1 i;exact D.1 (bp.2 ⟨v,hv,e⟩);exact N _ D.2 w hw
   rw[K];exact I _ _ qd _ (bp.2 ⟨z,m,rfl⟩);rw[aL.Fb _ _ _ λ x i e=>B ⟨x,i,e⟩];cases q:(fh (bN 0 p κ) d).lookup j with|none=>exact .inl q|some b=>
     right;show List.lookup _ _=_;rw[q];have⟨z,m,H⟩:=bp.1 (pg q);simp only[cN]at H;have⟨rfl,rfl⟩:=H;have C:z∈rest c d:=by refine List.mem_filter.2 ⟨m,?_⟩;cases hb:c.any λ y=>l6 y.1 z.1 with|false=>rfl|true=>have⟨y,r,o⟩:=List.any_eq_true.1 hb;exact absurd ⟨(bN 0 p κ y.1,some (y.2.aU (bN 0 p κ))),bp.2 ⟨_,bp.2 ⟨y,r,rfl⟩,rfl⟩,by rw[rJ.1 o]⟩ B
     exact(t.1 _ _ (k z (xP _ C))).symm
def cj.XS{f:FuncId}{aB:dO}(h:kE P f aB)(κ:Nat->Id){p:Id}(d:List (aR P G)){args:List aa}{S:List (Id×aG)}{val:aa}(a:List aa)(c:List (Id×aG))(b:aa)(i:mX aB.results c (bT true 1000 aB.body [0] d ⟨a++bM (aB.aK-a.length) (.aJ []),b5 c,0⟩)=mW b c (bT true 1000 aB.body [0] d ⟨a++bM (aB.aK-a.length) (.aJ []),b5 c,0⟩))(g:br (bN 0 p κ) a=args)(j:fh (bN 0 p κ) c=S)(hv:b.aU (bN 0 p κ)=val)(hd:(S.map (·.1)).Nodup):cj P G f args p S {val,rd:=S.map (·.1)}:=by
 have e:([]:List (Id×aG))++rest [] c=c:=by unfold rest;rw[List.nil_append,List.filter_eq_self];intro x _;rfl
 exact cj.kV (up:=[]) h κ d a c b [] (by rw[e];exact i) g j hv rfl hd List.nodup_nil
def gT(K:List (Id×aG))(a:List aa)(b:Nat):ud P G->Option (List lT×cf×Bool×List aa×List (Option aG))|some (cs,_,e,⟨t,S,n⟩)=>some (cs.map (·.1),e,Nat.ble n b,uS t a,K.map λ x=>S.find x.1)|none=>none
def gS(a:cf)(K:List (Id×aG))(b:List aa):ud P G->Option (List lT×cf×Bool×List aa×List (Option aG))|some (cs,_,_,_)=>some (cs.map (·.2),a,true,b,K.map λ x=>some x.2)|none=>some ([],a,true,[],[])
def R0{ρ:Id->Id}:∀{cs ds:List aa},iN cs ds->iN (br ρ cs) (br ρ ds)|[],[],_=>trivial|c::cs,d::ds,h=>by simp only[iN]at h;refine⟨?_,R0 h.2⟩;rcases h.1 with rfl|rfl;exact .inl rfl;exact .inr rfl|[],_::_,h=>by simp[iN]at h|_::_,[],h=>by simp[iN]at h
def bo.kV{eA:cw}{π:Id}{n:Nat}(κ:Nat->Id)(g:List (aR P G)){t m:List aa}{S K:List (Id×aG)}{Q:cf->du->Prop}(d:List aa)(c:List (Id×aG))(p:cf)(f:List aa)(l:List (Id×aG))(o:Nat)(a:gT l f o (bT true 1000 eA [0] g ⟨d,b5 c,0⟩)=gS p l f (bT true 1000 eA [0] g ⟨d,b5 c,0⟩))(B:br (bN n π κ) d=t)(E:fh (bN n π κ) c=S)(h:br (bN n π κ) f=m)(i:fh (bN n π κ) l=K)(hd:(S.map (·.1)).Nodup)(u:∀s,bP G π s ⟨m,aL.of K,n+o⟩->Q p s):bo P G π eA Q ⟨t,aL.of S,n⟩:=by subst B;subst E;subst h;subst i;cases b:bT true 1000 eA [0] g ⟨d,b5 c,0⟩with|none=>rw[b]at a;simp only[gT,gS]at a;cases a|some y=>have⟨cs,w,e,s⟩:=y;rw[b]at a;simp only[gT,gS,a9,cN]at a;have⟨C,rfl,D,A,i⟩:=a;refine(bo.iw (κ:=κ) (n:=n) (π:=π) b (ji.of_map C) hd).mono λ F s' k=>?_;have⟨rfl,h1,r,q⟩:=k;refine u s' ?_;have⟨t2,H,I⟩:=s';simp only[]at h1 r q;subst h1;subst r;refine bP.forget (R0 (Mk A)) (λ j=>aL.xd (λ x b=>?_) j) (Nat.add_le_add_left (D0 D) _);obtain⟨z,v,rfl⟩:=bp.1 b;exact q.1 _ _ (yO i z v)
def OM(RZ adR adQ adS:Nat):dO:=⟨25,[(.tmp 2)],(yC [ajL 1 0,ajH 2 false] (yC [ajJ 3 0 1,ajK 4 2 3,ajI 5 RZ 4,xa 6 5,F6 7 2 1 6 true,F7 8 2 7 6 true,⟨some 9,.call (.f RZ) [.t 8],some (6,true)⟩,MO 10 6 9,xa 11 10,F6 12 2 1 11 true,F7 13 2 12 11 true,⟨some 14,.call (.f adR) [.t 13],some (11,true)⟩,⟨some 15,.bin .gtr .int (.t 14) (.c (.int .i64 0)),some (11,true)⟩,MO 16 11 15,xa 17 16,F6 18 0 1 17 true,F7 19 2 18 17 true,F6 20 2 1 17 true,F7 21 2 20 17 true,⟨some 22,.call (.f adQ) [(.t 19),(.t 21)],some (17,true)⟩,⟨some 23,.call (.f adS) [.t 22],some (17,true)⟩,MO 24 17 23,xa 2 24] .ret))⟩
def aph:dO:=⟨8,[(.tmp 2)],(yC [U9 2] (.seq (yC [xa 3 0,⟨some 4,.bin .eql .slice (.t 3) (.c .aH),none⟩] (.cond (.t 4) (yC [U9 2] .ret) .skip)) (yC [⟨some 5,.uk 1 0 (.int .u32 0) [],none⟩,xa 6 0,ajG 7 1 4 5 6,xa 2 7] .ret)))⟩
end
end Go.ay
namespace Go.Proofs.YtpcofcmencgkbaaGreat
noncomputable def Bq(n:Nat):Option dO:=(ab.funcs[n]?).bind (wj ab)
noncomputable def ak(n:Nat):dO:=(Bq n).getD ⟨0,[],.skip⟩
abbrev PO(n:Nat):Prop:=kE ab n (ak n)
def hN{n:Nat}(e:(Bq n).isSome=true:=by kernel_rfl):PO n:=by have⟨x,a⟩:=Option.isSome_iff_exists.1 e;have h:=a;rw[Bq,x6]at h;have⟨fn,h1,b⟩:=h;exact⟨fn,h1,by rw[ak,a];exact b⟩
def aI{n:Nat}{G:Nat->Option (List aa)}(l:List (aR ab G)){args:List aa}{r:aa}[bg r](b:H7 (ak n).results (u1 (ak n) args l)=H6 r (u1 (ak n) args l):=by kernel_rfl)(e:(Bq n).isSome=true:=by kernel_rfl):ag ab G n args r:=ag.kV (hN e) l b
def ae5:kE ab 272 (OM 290 264 292 291):=⟨_,Tryz.func272,an⟩
def ae6:PO 213:=hN
end Go.Proofs.YtpcofcmencgkbaaGreat
namespace Go.ay
section
variable{P:Program}{G:Nat->Option (List aa)}
def YF(k:Nat)(h:k<9223372036854775807):cO.wrap ((k:Int)+1)=((k+1:Nat):Int):=by rw[cU];omega
def GH{k kk:Nat}{es:List aa}{e:aa}{GJ:IntKind}{i:Nat}(a:kk=k)(h:es[i]?=some e):j7 k (.sl kk es) (.int GJ (i:Int))=some (.cr e.cells 0):=by subst a;simp[j7,h]
def ah:Nat:=4294967296
def A6:1<ah:=al
def fl:0<ah:=al
def val:List Nat->Nat|[]=>0|w::r=>w+ah*val r
def jV(ws:List Nat):Prop:=∀w∈ws,w<ah
def digits(n:Nat):List Nat:=if a:n=0 then []else n%ah::digits (n/ah)termination_by n decreasing_by exact Jg (kX a) A6
def iQ:digits 0=[]:=by rw[digits];simp
def sU{n:Nat}(h:n≠0):digits n=n%ah::digits (n/ah):=by rw[digits];simp[h]
def vf(n:Nat):val (digits n)=n:=by induction n using xM with|_ n a=>by_cases h:n=0;subst h;rw[iQ];rfl;rw[sU h,val,a _ (Jg (kX h) A6)];exact Nat.mod_add_div n ah
def wu(n:Nat):jV (digits n):=by induction n using xM with|_ n b=>by_cases h:n=0;subst h;rw[iQ];intro w a;simp at a;rw[sU h];intro w a;rcases ct.1 a with rfl|a;exact bA _ al;exact b _ (Jg (kX h) A6) w a
def KJ{n:Nat}:digits n=[]↔n=0:=by constructor;intro h;have:=vf n;rw[h]at this;exact this.symm;rintro rfl;exact iQ
def IJ(a b:List Nat):val (a++b)=val a+ah^a.length*val b:=by induction a with|nil=>simp[val]|cons x a c=>simp only[xO,val,c,gC,ea];rw[dW,<-Nat.add_assoc];congr 1;rw[<-Nat.mul_assoc,c9 (ah^a.length) ah]
def xD{ws:List Nat}(h:jV ws):val ws<ah^ws.length:=by induction ws with|nil=>simp[val]|cons w ws a=>have h1:=a (λ x b=>h x (cR _ b));have d:=h w am;simp only[val,gC,ea];have c:ah*(val ws+1)<=ah*ah^ws.length:=fK _ h1;rw[c9 (ah^ws.length) ah];rw[dW]at c;omega
def KL{ws:List Nat}(h:jV ws)(c:ws=[]\/∃w,ws.getLast?=some w/\w≠0):digits (val ws)=ws:=by induction ws with|nil=>simp[val,iQ]|cons w ws j=>have f:=h w am;have g:jV ws:=λ x b=>h x (cR _ b);cases ws with|nil=>rcases c with c|⟨x,b,a⟩;simp at c;simp at b;subst b;simp only[val,Nat.mul_zero,Nat.add_zero];rw[sU a,dX f,hh f,iQ]|cons y ws=>
     have k:∃x,(y::ws).getLast?=some x/\x≠0:=by rcases c with c|⟨x,b,a⟩;simp at c;exact⟨x,by simpa[Zp]using b,a⟩
     have d:=j g (.inr k);have i:val (y::ws)≠0:=by
       intro e;have:digits (val (y::ws))=[]:=by rw[e,iQ]
       rw[d]at this;simp at this
     have a:val (w::y::ws)≠0:=by simp only[val]at i⊢;have:0<ah*(y+ah*val ws):=Nat.mul_pos al (kX i);omega
     rw[sU a];have m:val (w::y::ws)%ah=w:=by show(w+ah*val (y::ws))%ah=w;rw[Nat.add_mul_mod_self_left];exact dX f
     have l:val (w::y::ws)/ah=val (y::ws):=by show(w+ah*val (y::ws))/ah=_;rw[Nat.add_mul_div_left _ _ al,hh f,cF]
     rw[m,l,d]
def Rl{n:Nat}:digits n=[]\/∃w,(digits n).getLast?=some w/\w≠0:=by induction n using xM with|_ n b=>by_cases h:n=0;left;subst h;exact iQ;right;rw[sU h];rcases b _ (Jg (kX h) A6)with h1|⟨w,h1,c⟩;have hd:=KJ.1 h1;rw[h1];refine⟨n%ah,rfl,?_⟩;rw[dX];exact h;rcases Nat.div_eq_zero_iff.1 hd with a|a;exact absurd a al;exact a;cases hd:digits (n/ah)with|nil=>rw[hd]at h1;simp at h1|cons x xs=>rw[hd]at h1;exact⟨w,by simpa[Zp]using h1,c⟩
def Ow(ws:List Nat):val (ws++[0])=val ws:=by rw[IJ];simp[val]
def api{ws:List Nat}(h:jV ws)(k:Nat):jV (ws.take k):=λ w a=>h w (List.mem_of_mem_take a)
def af(n:Nat):Nat:=(digits n).length
def rQ(n:Nat):n<ah^af n:=by have:=xD (wu n);rwa[vf]at this
def ja{n k:Nat}(h:n<ah^k):af n<=k:=by induction k generalizing n with|zero=>simp at h;subst h;simp[af,iQ]|succ k b=>
   by_cases a:n=0;subst a;simp[af,iQ];unfold af;rw[sU a];have:n/ah<ah^k:=by rw[ea]at h;exact Nat.div_lt_of_lt_mul (by rwa[c9])
   have:=b this;simp only[gC];unfold af at this;omega
def fj{m n:Nat}(h:m<=n):af m<=af n:=ja (gA h (rQ n))
def Ai(m n:Nat):af (m*n)<=af m+af n:=by refine ja ?_;rw[ic];exact Nat.mul_lt_mul'' (rQ m) (rQ n)
def us(ws:List Nat):List aa:=ws.map λ w:Nat=>.int .u32 (w:Int)
def W(n:Nat):aa:=.sl 1 (us (digits n))
def jw(ws:List Nat):(us ws).length=ws.length:=by simp[us]
def z8{ws:List Nat}{i w:Nat}(h:ws[i]?=some w):(us ws)[i]?=some (.int .u32 (w:Int)):=by simp[us,h]
def Ya(ws:List Nat)(k:Nat):(us ws).take k=us (ws.take k):=by simp[us,DZ]
def an8(a b:List Nat):us (a++b)=us a++us b:=by simp[us]
def X7(ws:List Nat):flat (us ws)=us ws:=by induction ws with|nil=>rfl|cons w ws a=>simp only[us,lP,flat,Zn,aa.cells]at a⊢;rw[a];rfl
def X9(ws:List Nat):cb (.sl 1 (us ws)):=cb.sl (by rw[X7];intro c a;simp only[us,bp]at a;obtain⟨w,_,rfl⟩:=a;exact cb.int _ _)
def Ok(ws:List Nat):∀c∈flat (us ws),cb c:=by rw[X7];intro c a;simp only[us,bp]at a;obtain⟨w,_,rfl⟩:=a;exact cb.int _ _
def Ol(ws:List Nat):∀e∈us ws,e.size=1:=by intro e a;simp only[us,bp]at a;obtain⟨w,_,rfl⟩:=a;rfl
def X8(ws:List Nat):((us ws).all λ e=>e.cells.all jx)=true:=by rw[dY];intro e a;simp only[us,bp]at a;obtain⟨w,_,rfl⟩:=a;rfl
def vV(n:Nat):cb (W n):=X9 _
def apv(k:Nat)(h:0<k)(a:k<=9223372036854775807):cO.wrap ((k:Int)-1)=((k-1:Nat):Int):=by rw[cU];omega
def fB{p:Prop}[Decidable p](h:p):decide p=true:=decide_eq_true h
def dQ{p:Prop}[Decidable p](h:¬p):decide p=false:=decide_eq_false h
def ann{k kk:Nat}{es:List aa}{h:Nat}(a:kk=k)(b:h<=es.length):gv k (.sl kk es) none (some (.int .i64 (h:Int))) none=some (.sl k (es.take h)):=by subst a;simp[gv,gu,iZ,b]
def e5(a b:Int):Int:=if a<b then-1 else if b<a then 1 else 0
def dU(m n:Nat):Int:=e5 m n
def aM(z:Int):aa:=.agg [.bool (decide (z<0)),W z.natAbs]
def ez(neg:Bool)(n:Nat):Int:=if neg then-(n:Int)else n
def aoO{id:Id}{ws:List Nat}{b t:Bool}{n:Nat}(a:n=ws.length):View (aL.of [(id,⟨us ws,1,b⟩)]) (.ai id 1 0 n t) (.sl 1 (us ws)):=by subst a;refine View.ai (aq:=⟨us ws,1,b⟩) (by simp[aL.of]) rfl (by rw[jw];omega) ?_ (by rw[jw]) (Ol ws);rw[List.drop_zero,List.take_of_length_le (by rw[jw];exact a2 _)];exact dc.pure (Ok ws)
def hP(P:Program)(G:Nat->Option (List aa))(f:FuncId):Prop:=∀ws:List Nat,jV ws->ws.length<=9223372036854775807->ag P G f [.sl 1 (us ws)] (W (val ws))
def ur{a b:Int}(h:a<b):e5 a b=-1:=by simp[e5,h]
def yD{a b:Int}(h:b<a):e5 a b=1:=by simp[e5,h];omega
def Q2{a b:Int}(h:a=b):e5 a b=0:=by simp[e5,h]
def eH(m:Nat):mj false (W m)=some (.int .i64 (af m)):=by simp[W,mj,jw,af]
def T7{m n:Nat}(h:af m<af n):m<n:=by rcases Nat.lt_or_ge m n with h1|h1;exact h1;have:=fj h1;omega
def E4{m i w:Nat}(h:(digits m)[i]?=some w):j7 1 (W m) (.int .i64 (i:Int))=some (.cr (aa.int .u32 (w:Int)).cells 0):=GH rfl (z8 h)
def adb{o:List Nat}(h:jV o)(b:o=[]\/ah^(o.length-1)<=val o):digits (val o)=o:=by
 refine KL h ?_;rcases b with a|b;exact .inl a;by_cases a:o=[];exact .inl a;right;refine⟨o.getLast a,List.getLast?_eq_some_getLast a,λ f=>?_⟩;have e:=List.dropLast_concat_getLast a;rw[f]at e;have g:val o=val o.dropLast:=by rw[<-e,Ow,List.dropLast_concat]
 have c:=xD (ws:=o.dropLast) (λ w d=>h w ((List.dropLast_sublist _).subset d));rw[List.length_dropLast]at c;omega
def aoA{a:List Nat}{i x:Nat}(h:a[i]?=some x):val (a.take (i+1))=val (a.take i)+ah^i*x:=by
 have b:=(fc.1 h).1;have e:a.take (i+1)=a.take i++[x]:=by rw[List.take_add_one,h];rfl
 rw[e,IJ];have:(a.take i).length=i:=by rw[List.length_take];omega
 rw[this];simp[val]
def j8(s:Nat):jc.wrap (s:Int)=((s%ah:Nat):Int):=by rw[IntKind.wrap_u32];unfold ah;omega
def IX(s:Nat)(h:s<18446744073709551616):cY.wrap (s:Int)=(s:Int):=by rw[h5];omega
def mZ(s:Nat):eS .shr .int (.int .u64 (s:Int)) (.int .u64 32)=some (.int .u64 ((s/ah:Nat):Int)):=by
 rw[Bj al];have:(s:Int).fdiv (2^(min (32:Int).toNat cY.bits))=((s/ah:Nat):Int):=by show(s:Int).fdiv (2^32)=_;rw[xR _ al];unfold ah;omega
 rw[this]
def ft(x:Nat)(h:x<ah):cY.wrap (x:Int)=(x:Int):=IX x (by unfold ah at h;omega)
def vW(a b:Nat)(h:a+b<18446744073709551616):cY.wrap ((a:Int)+(b:Int))=((a+b:Nat):Int):=by rw[h5];omega
def aiA{p:Id}{c:Nat}(h:c*4<=140737488355328):Af p 1 4 (.int .u32 0) (.int .i64 0) (.int .i64 (c:Int))=some {val:=.ai p 1 0 0 false,up:=[(p,some ⟨us [],1,false⟩)]}:=by have a:=pd (n:=c);show(if(0:Int)<=0/\(0:Int)<=(c:Int)/\(c:Int)*((4:Nat):Int)<=140737488355328/\(c:Int)<=((maxLen:Nat):Int)/\(aa.int jc 0).size=1/\(aa.int jc 0).cells.all jx=true then _ else none)=_;rw[if_pos ⟨ac,ac,ac,ac,rfl,rfl⟩];rfl
def an9(c:Nat):bM c (aa.int .u32 0)=us (bM c 0):=by simp[us]
def aoa(o:List Nat)(i x:Nat):(us o).set i (.int .u32 (x:Int))=us (o.set i x):=by simp[us,List.map_set]
def aiC{p:Id}{c:Nat}(h:c*4<=140737488355328):Af p 1 4 (.int .u32 0) (.int .i64 (c:Int)) (.int .i64 (c:Int))=some {val:=.ai p 1 0 c false,up:=[(p,some ⟨us (bM c 0),1,false⟩)]}:=by have a:=pd (n:=c);show(if(0:Int)<=(c:Int)/\(c:Int)<=(c:Int)/\(c:Int)*((4:Nat):Int)<=140737488355328/\(c:Int)<=((maxLen:Nat):Int)/\(aa.int jc 0).size=1/\(aa.int jc 0).cells.all jx=true then _ else none)=_;rw[if_pos ⟨ac,ac,ac,ac,rfl,rfl⟩];simp only[nQ,an9]
def ags{q:Id}{len i:Nat}{t:Bool}(h:i<len):j7 1 (.ai q 1 0 len t) (.int .i64 (i:Int))=some (.ref q i 0):=by simp only[j7];rw[if_pos ⟨trivial,ac,ac⟩];simp
def anC{σ:aL}{q:Id}{o:List Nat}{i x:Nat}(h:σ q=some ⟨us o,1,false⟩)(a:i<o.length):tE σ 1 (.ref q i 0) (.int .u32 (x:Int))=some {val:=.aJ [],rd:=[q],up:=[(q,some ⟨us (o.set i x),1,false⟩)]}:=by have⟨w,b⟩:∃w,o[i]?=some w:=⟨_,eO a⟩;rw[ao2 (n:=1) (v:=.int .u32 (x:Int)) h (z8 b) rfl (by simp[aa.size,aa.cells]) rfl,<-aoa];rfl
def ahW{σ:aL}{q:Id}{o:List Nat}{i x:Nat}{b:Bool}(h:σ q=some ⟨us o,1,b⟩)(a:o[i]?=some x):kz σ false 1 (.ref q i 0)=some {val:=.int .u32 (x:Int),rd:=[q]}:=by rw[aoU h (z8 a)];rfl
def Cp(a b:Nat)(c:a<ah)(hb:b<ah):cY.wrap ((a:Int)*(b:Int))=((a*b:Nat):Int):=by have:a*b<=4294967295*4294967295:=jd (by unfold ah at c;omega) (by unfold ah at hb;omega);rw[<-oF,h5];omega
def Hh{a b:Nat}(c:a<ah)(hb:b<ah):a*b<=18446744065119617025:=by have:a*b<=4294967295*4294967295:=jd (by unfold ah at c;omega) (by unfold ah at hb;omega);omega
def P8(a b:Nat)(h:a+b<=9223372036854775807):cO.wrap ((a:Int)+(b:Int))=((a+b:Nat):Int):=by rw[cU];omega
def gw{n:Nat}:af n=0↔n=0:=by constructor;intro h;exact KJ.1 (O4.1 h);intro h;rw[h,af,iQ];rfl
def Kk{k:IntKind}{a b:Int}:eS .or .int (.int k a) (.int k b)=some (.int k (k.wrap (iK k.bits a|||iK k.bits b).toNat)):=by simp only[eS];rw[show lG .or .int (.int k a) (.int k b)=some (.int k (k.wrap (iK k.bits a|||iK k.bits b).toNat))from by simp[lG,pK,sO]]
def MT(a b:Nat)(e:a<18446744073709551616)(hb:b<18446744073709551616):eS .or .int (.int .u64 (a:Int)) (.int .u64 (b:Int))=some (.int .u64 ((a|||b:Nat):Int)):=by
 have d:a|||b<2^64:=Zq ac ac;have h1:(iK 64 (a:Int)).toNat=a:=by rw[xS,Jh];exact dX ac
 have c:(iK 64 (b:Int)).toNat=b:=by rw[xS,Jh];exact dX ac
 rw[Kk];show some (aa.int .u64 (cY.wrap ((iK 64 (a:Int)|||iK 64 (b:Int)).toNat:Int)))=_;rw[Zr,h1,c,IX _ ac]
def Hv(a b:Nat)(d:a<ah)(hb:b<ah):eS .or .int (.int .u32 (a:Int)) (.int .u32 (b:Int))=some (.int .u32 ((a|||b:Nat):Int)):=by
 unfold ah at d hb;have e:a|||b<2^32:=Zq ac ac;have h1:(iK 32 (a:Int)).toNat=a:=by rw[xS,Jh];exact dX ac
 have c:(iK 32 (b:Int)).toNat=b:=by rw[xS,Jh];exact dX ac
 rw[Kk];show some (aa.int .u32 (jc.wrap ((iK 32 (a:Int)|||iK 32 (b:Int)).toNat:Int)))=_;rw[Zr,h1,c,j8,dX (by unfold ah;omega)]
def CH(a b:Nat)(c:a<ah)(hb:b<ah):eS .or .int (.int .u64 ((ah*a:Nat):Int)) (.int .u64 (b:Int))=some (.int .u64 ((ah*a+b:Nat):Int)):=by rw[MT _ _ (by unfold ah at*;omega) (by unfold ah at*;omega)];have:=Ay (i:=32) (b:=b) (by unfold ah at hb;omega) a;rw[show ah=2^32 from rfl,this]
def z2(a:Nat)(b:a<ah):eS .shl .int (.int .u64 (a:Int)) (.int .u64 32)=some (.int .u64 ((ah*a:Nat):Int)):=by
 rw[Kl al];have:cY.wrap ((a:Int)*2^(min (32:Int).toNat cY.bits))=((ah*a:Nat):Int):=by show cY.wrap ((a:Int)*2^32)=_;rw[h5];unfold ah at*;omega
 rw[this]
def CV(a b:Nat)(c:a<18446744073709551616)(hb:b≠0):eS .quo .int (.int .u64 (a:Int)) (.int .u64 (b:Int))=some (.int .u64 ((a/b:Nat):Int)):=by rw[Qr ac];show some (aa.int .u64 (cY.wrap ((a/b:Nat):Int)))=_;rw[IX _ (gA (h6 _ _) c)]
def C0(a b:Nat)(hb:b≠0):eS .rem .int (.int .u64 (a:Int)) (.int .u64 (b:Int))=some (.int .u64 ((a%b:Nat):Int)):=by rw[abP ac];rfl
def zs(k:Nat):List Nat:=bM k 0
def DT(k:Nat):(zs k).length=k:=List.length_replicate ..
def Iw{s:Nat}(a:s<=32):2^(32-s)*2^s=ah:=by rw[<-ic,Nat.sub_add_cancel a];rfl
def am7{x c s:Nat}(f:s<=32)(d:c<2^s)(g:x<ah):c|||((x*2^s)%ah)=c+(x*2^s)%ah/\c+(x*2^s)%ah<ah/\(x*2^s)/ah<2^s:=by
 have b:=Iw f;have e:(x*2^s)%ah=2^s*(x%2^(32-s)):=by rw[<-b,Nat.mul_mod_mul_right,c9]
 have a:x%2^(32-s)<2^(32-s):=bA _ (lJ _);have h1:2^s*(x%2^(32-s)+1)<=2^s*2^(32-s):=fK _ a;rw[dW,c9 (2^s) (2^(32-s)),b]at h1;refine⟨?_,by rw[e];omega,?_⟩;rw[e,Nat.or_comm,<-Ay d,Nat.add_comm];rw[lK fl,c9];exact Nat.mul_lt_mul_of_pos_left g (lJ _)
def ND(x s:Nat)(d:s<=32)(c:x<ah):eS .shl .int (.int .u64 (x:Int)) (.int .i64 (s:Int))=some (.int .u64 ((x*2^s:Nat):Int)):=by
 rw[Kl ac];have h1:x*2^s<18446744073709551616:=by have a:2^s<=2^32:=Nat.pow_le_pow_right al d;have b:x*2^s<=x*2^32:=fK _ a;unfold ah at c;omega
 have a:min (s:Int).toNat cY.bits=s:=by show min (s:Int).toNat 64=s;rw[nQ];omega
 have b:(x:Int)*2^s=((x*2^s:Nat):Int):=by rw[oF,Zs];rfl
 rw[a,b,IX _ h1]
def am8{x y s:Nat}(f:s<=32)(c:x<ah):(x/2^s)|||((y*2^(32-s))%ah)=x/2^s+2^(32-s)*(y%2^s)/\x/2^s+2^(32-s)*(y%2^s)<ah/\2^s*(x/2^s+2^(32-s)*(y%2^s))+x%2^s=x+ah*(y%2^s):=by
 have a:=Iw f;have e:(y*2^(32-s))%ah=2^(32-s)*(y%2^s):=by rw[<-a,c9 y,Nat.mul_mod_mul_left]
 have b:y%2^s<2^s:=bA _ (lJ _);have hd:x/2^s<2^(32-s):=by rw[lK (lJ _),a];exact c
 have h1:2^(32-s)*(y%2^s+1)<=2^(32-s)*2^s:=fK _ b;rw[dW,a]at h1;refine⟨?_,ac,?_⟩;rw[e,Nat.or_comm,<-Ay hd,Nat.add_comm];have g:=Nat.div_add_mod x (2^s);have d:2^s*(2^(32-s)*(y%2^s))=ah*(y%2^s):=by rw[<-Nat.mul_assoc,c9 (2^s),a]
 rw[dW,d];omega
def NF(x s:Nat)(d:s<=32):eS .shr .int (.int .u32 (x:Int)) (.int .i64 (s:Int))=some (.int .u32 ((x/2^s:Nat):Int)):=by
 rw[Bj ac];have a:min (s:Int).toNat jc.bits=s:=by show min (s:Int).toNat 32=s;rw[nQ];omega
 have b:(x:Int).fdiv (2^s)=((x/2^s:Nat):Int):=by
   have c:(2:Int)^s=((2^s:Nat):Int):=by rw[Zs];rfl
   rw[c,xR _ (Int.natCast_nonneg _)];exact(Int.natCast_ediv _ _).symm
 rw[a,b]
def agr{q:Id}{off len i:Nat}{t:Bool}(h:i<len):j7 1 (.ai q 1 off len t) (.int .i64 (i:Int))=some (.ref q (off+i) 0):=by simp only[j7];rw[if_pos ⟨trivial,ac,ac⟩];simp
def lens:List UInt8:=[0,1,2,2,3,3,3,3,4,4,4,4,4,4,4,4,5,5,5,5,5,5,5,5,5,5,5,5,5,5,5,5,6,6,6,6,6,6,6,6,6,6,6,6,6,6,6,6,6,6,6,6,6,6,6,6,6,6,6,6,6,6,6,6,7,7,7,7,7,7,7,7,7,7,7,7,7,7,7,7,7,7,7,7,7,7,7,7,7,7,7,7,7,7,7,7,7,7,7,7,7,7,7,7,7,7,7,7,7,7,7,7,7,7,7,7,7,7,7,7,7,7,7,7,7,7,7,7,8,8,8,8,8,8,8,8,8,8,8,8,8,8,8,8,8,8,8,8,8,8,8,8,8,8,8,8,8,8,8,8,8,8,8,8,8,8,8,8,8,8,8,8,8,8,8,8,8,8,8,8,8,8,8,8,8,8,8,8,8,8,8,8,8,8,8,8,8,8,8,8,8,8,8,8,8,8,8,8,8,8,8,8,8,8,8,8,8,8,8,8,8,8,8,8,8,8,8,8,8,8,8,8,8,8,8,8,8,8,8,8,8,8,8,8,8,8,8,8,8,8,8,8,8,8,8,8]
def len8(v:Nat):Nat:=((lens[v]?).getD 0).toNat
def ek(x:Nat):Nat:=if 65536<=x then(if 256<=x/65536 then 24+len8 (x/65536/256)else 16+len8 (x/65536))else(if 256<=x then 8+len8 (x/256)else len8 x)
set_option maxRecDepth 100000 in theorem ahH{v:Nat}(h:v<256):lens[v]?=some ((lens[v]?).getD 0):=by have:v<lens.length:=h;rw[eO this];rfl
def TQ(v:Nat):len8 v<256:=(((lens[v]?).getD 0)).toNat_lt
set_option maxRecDepth 100000 in theorem ahG:(List.range 256).all (fun v=>v==0||(decide (v<2^len8 v)&&decide (2^len8 v<=2*v)))=true:=al
def G1{v:Nat}(h:v<256)(a:0<v):v<2^len8 v/\2^len8 v<=2*v:=by have:=dY.1 ahG v (List.mem_range.2 h);simp only[Bool.or_eq_true,gU,beq_iff_eq,decide_eq_true_eq]at this;rcases this with h1|h1;omega;exact h1
def Kn{x a k j:Nat}(c:a=x/2^j)(h:a<2^k/\2^k<=2*a):x<2^(j+k)/\2^(j+k)<=2*x:=by subst c;have b:=lJ j;refine⟨?_,?_⟩;have:=(lK b).1 h.1;rwa[ic,c9];have h1:=fK (2^j) h.2;have d:=Nat.mul_div_le x (2^j);rw[ic,Nat.mul_left_comm]at*;omega
def yy{x:Nat}(h:x<ah)(c:0<x):x<2^ek x/\2^ek x<=2*x:=by unfold ah at h;unfold ek;by_cases h1:65536<=x;by_cases b:256<=x/65536;rw[if_pos h1,if_pos b];exact Kn (j:=24) (a:=x/65536/256) (by rw[Nat.div_div_eq_div_mul]) (G1 ac ac);rw[if_pos h1,if_neg b];exact Kn (j:=16) (a:=x/65536) rfl (G1 ac ac);by_cases b:256<=x;rw[if_neg h1,if_pos b];exact Kn (j:=8) (a:=x/256) rfl (G1 ac ac);rw[if_neg h1,if_neg b];exact G1 ac c
def Ic(z:Int):ez (decide (z<0)) z.natAbs=z:=by unfold ez;by_cases h:z<0;simp only[h,decide_true,if_true];omega;simp only[h,decide_false,iL,if_false];omega
def qz(z:Int):ez (!decide (z<0)) z.natAbs=-z:=by unfold ez;by_cases h:z<0;simp only[h,decide_true,Bool.not_true,iL,if_false];omega;simp only[h,decide_false,Bool.not_false,if_true];omega
def WG(y z:Int):ez (!(decide (y<0)==decide (z<0))) (y.natAbs*z.natAbs)=y*z:=by rw[<-Int.natAbs_mul];unfold ez;by_cases h:y<0<;>by_cases a:z<0;have:=Int.mul_pos_of_neg_of_neg h a;simp[h,a];omega;have b:y*z<=0:=Int.mul_nonpos_of_nonpos_of_nonneg ac ac;simp[h,a];omega;have b:y*z<=0:=Int.mul_nonpos_of_nonneg_of_nonpos ac ac;simp[h,a];omega;have b:0<=y*z:=Int.mul_nonneg ac ac;simp[h,a];omega
def iY{nx:FuncId}(a:hP P G nx)(n:Nat)(b:af n<=9223372036854775807):ag P G nx [W n] (W n):=by have:=a (digits n) (wu n) b;rw[vf]at this;exact this
def ld(P:Program)(G:Nat->Option (List aa))(f:FuncId):Prop:=∀(neg:Bool)(n:Nat),af n<=9223372036854775807->ag P G f [.bool neg,W n] (aM (ez neg n))
def xH(n:Nat)(a:n<18446744073709551616):af n<=2:=ja (by unfold ah;omega)
def n6(a b:Int):e5 a b=-1/\a<b\/e5 a b=0/\a=b\/e5 a b=1/\b<a:=by unfold e5;by_cases h1:a<b;simp[h1];by_cases c:b<a;simp[h1,c];right;left;simp[h1,c];omega
def Ii(z:Int):z.sign=-1/\z<0\/z.sign=0/\z=0\/z.sign=1/\0<z:=by rcases Int.lt_trichotomy z 0 with h|h|h;exact .inl ⟨Int.sign_eq_neg_one_of_neg h,h⟩;exact .inr (.inl ⟨by rw[h];rfl,h⟩);exact .inr (.inr ⟨Int.sign_eq_one_of_pos h,h⟩)
def Q3{y z:Int}(h:y.sign≠z.sign):e5 y.sign z.sign=e5 y z:=by rcases n6 y z with⟨e,c⟩|⟨e,c⟩|⟨e,c⟩<;>rcases n6 y.sign z.sign with⟨b,a⟩|⟨b,a⟩|⟨b,a⟩<;>rcases Ii y with⟨s,p⟩|⟨s,p⟩|⟨s,p⟩<;>rcases Ii z with⟨f,d⟩|⟨f,d⟩|⟨f,d⟩<;>omega
def acP{y z:Int}(h:y.sign=z.sign):y.sign*dU y.natAbs z.natAbs=e5 y z:=by unfold dU;rcases n6 y z with⟨e,c⟩|⟨e,c⟩|⟨e,c⟩<;>rcases n6 (y.natAbs:Int) (z.natAbs:Int)with⟨a,b⟩|⟨a,b⟩|⟨a,b⟩<;>rcases Ii y with⟨s,p⟩|⟨s,p⟩|⟨s,p⟩<;>rcases Ii z with⟨f,d⟩|⟨f,d⟩|⟨f,d⟩<;>rw[s,a,e]<;>omega
def hO(a b:Int):aa:=.agg [.bool (decide (a<0)),W a.natAbs,.bool (decide (b<0)),W b.natAbs]
def lY(a b:Int):Bool:=!(decide (a<0)==decide (b<0))
def FD(a b:Int):Nat:=if lY a b=true/\0<a.natAbs%b.natAbs then a.natAbs/b.natAbs+1 else a.natAbs/b.natAbs
def FE(a b:Int):Nat:=if lY a b=true/\0<a.natAbs%b.natAbs then b.natAbs-a.natAbs%b.natAbs else a.natAbs%b.natAbs
def Rm:digits 1=[1]:=by rw[sU al,show 1/ah=0 from rfl,iQ];rfl
def aoN{id:Id}{b t:Bool}:View (aL.of [(id,⟨us [1],1,b⟩)]) (.ai id 1 0 1 t) (W 1):=by unfold W;rw[Rm];exact aoO rfl
def apl(m n:Nat):af (m/n)<=af m:=fj (h6 _ _)
def apm(m n:Nat):af (m%n)<=af m:=fj (Nat.mod_le _ _)
def apo(m:Nat):af (m+1)<=af m+1:=ja (by have h1:=rQ m;rw[ea];have a:ah^af m*2<=ah^af m*ah:=fK _ al;omega)
def DD:af 1<=1:=by unfold af;rw[Rm];decide
end
end Go.ay
