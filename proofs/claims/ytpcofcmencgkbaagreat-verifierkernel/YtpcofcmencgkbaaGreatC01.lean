/- For the claim of VerifierKernel: parts VL1, VL2, VL3, VL4, VL5, VL6, VL7, VL8, VL9, VL2S. -/
import Derived.Calls
import Derived.Below
import Derived.Laws.AppendOwn
import Derived.Laws.CopyRow
import Derived.Laws.Tables
import Derived.Laws.NewBlocks
import Derived.Laws.OwnMore
import Derived.WideLaws
import Derived.StringKeys
import Derived.Laws.Closers25
import Derived.LaidEql
import Derived.Laws.Append
import Derived.Great.BuildSlice
import Derived.Laws.Strings
set_option linter.defProp false
set_option linter.unusedSectionVars false
set_option linter.unusedSimpArgs false
set_option linter.unusedVariables false
set_option maxRecDepth 100000
open Array renaming getD_eq_getD_getElem?->sx,getElem?_eq_some_iff->xN,length_toList->Pd,range->JS
open BitVec renaming ofInt->iK
open Bool renaming false_eq_true->iL
open ByteArray renaming mk->vy,size->aaf
open Function renaming comp_def->aaH
open Go.Addr renaming add_lit->oO
open Go.Instr renaming buildSlice->aaJ,fieldAt->PD,fill->EG,indexAt->yg,loadAt->EA,sliceAt->qY,sliceBound->A1,sliceBounds->PC,storeAt->aaD,sureAddr->EC
open Go.Op renaming bytesLess->Jt,equalIn->jg,intBits->Et,unary->JP
open Go.Program renaming built->aaG
open Go.Value renaming cells->xQ
open List renaming append_assoc->pO,drop_append_of_le_length->ZO,drop_length_add_append->ZM,drop_take->EH,eq_of_mem_replicate->lR,extract_eq_take_drop->Z8,getElem?_append_left->kd,getElem?_append_right->k5,getElem?_cons_succ->Zv,getElem?_cons_zero->si,getElem?_drop->sq,getElem?_eq_some_iff->fc,getElem?_map->kZ,getElem?_range->aaI,getElem?_take->Pv,getElem?_take_of_lt->vo,getElem?_toArray->Ea,length_append->cP,length_cons->gC,length_drop->m6,length_singleton->k7,length_take->gV,mapM_cons->tQ,map_cons->lP,mem_iff_getElem?->aaF,mem_of_getElem?->DW,mem_of_mem_drop->vE,mem_of_mem_take->gK,mem_or_eq_of_mem_set->AA,range->a8,replicate->bM,size_toArray->qQ,take_append_drop->aaK,take_length_add_append->ZJ
open Nat renaming add_assoc->lQ,add_mul->eX,le_refl->a2,le_trans->bx,lt_of_lt_of_le->gz,min_eq_left->tJ,mul_le_mul_right->ck,zero_add->cF
open Option renaming bind_eq_bind->JE,bind_eq_some_iff->x6,map_eq_some_iff->et,map_some->fb,pure_def->x3
open Option.some renaming injEq->a9
open Prod.mk renaming injEq->cN
def ac{p:Prop}(h:p:=by omega):p:=h
def al{p:Prop}(h:p:=by decide):p:=h
def am{p:Prop}(h:p:=by simp):p:=h
def an{p:Prop}(h:p:=by kernel_rfl):p:=h
def ap{p:Prop}(h:p:=by grind):p:=h
def bi{p:Prop}(h:p:=by rfl):p:=h
namespace Go.ay
inductive aa where|bool(b:Bool)|int(k:IntKind)(n:Int)|str(l:List UInt8)|iX|jM|fn(f:Fn)(first cap:List aa)|agg(cs:List aa)|aJ(cs:List aa)|sl(k:Nat)(es:List aa)|e9(k:Nat)(es:List aa)|aH|ai(id:List Nat)(k off len:Nat)(tight:Bool)|ref(id:List Nat)(e o:Nat)|cr(cs:List aa)(o:Nat)|top|jC|mM(n:Nat)
instance:Inhabited aa:=⟨.top⟩
abbrev Id:=List Nat
def aa.cells:aa->List aa|.agg cs=>cs|c=>[c]
def aa.size(c:aa):Nat:=c.cells.length
def aa.one:aa->Bool|.agg _|.aJ _|.top|.jC|.mM _=>false|_=>true
def flat(es:List aa):List aa:=es.flatMap aa.cells
structure Env where μ:Id->Option (Nat×Nat×Nat)ok:Nat->Prop
mutual def av(E:Env)(w:World):aa->Value->Prop|.bool b,v=>v=.bool b|.int k n,v=>v=.int k n|.str l,v=>v=.string ⟨l.toArray⟩|.iX,v=>v=.pointer none|.jM,v=>v=.nilFunc|.fn f a c,v=>∃xs ys:Array Value,v=.func f xs ys/\bc E w a xs.toList/\bc E w c ys.toList|.agg cs,v=>∃xs:Array Value,v=.agg xs/\bc E w cs xs.toList|.aJ cs,v=>∃xs:Array Value,v=.tuple xs/\bc E w cs xs.toList|.sl k es,v=>∃(a:Option Addr)(cap:Nat),v=.slice a es.length cap/\es.length<=cap/\cap<=maxLen/\(∀e∈es,e.size=k)/\(es=[]\/∃b o,a=some ⟨b,o,none⟩/\E.ok b/\cD E w b o es)|.e9 k es,v=>∃(a:Option Addr),v=.slice a es.length es.length/\es.length<=maxLen/\(∀e∈es,e.size=k)/\(es=[]\/∃b o,a=some ⟨b,o,none⟩/\E.ok b/\cD E w b o es)|.aH,v=>v=.slice none 0 0|.ai id k off len tight,v=>∃g N cap,E.μ id=some (g,k,N)/\v=.slice (some ⟨g,off*k,none⟩) len cap/\len<=cap/\off+cap<=N/\N<=maxLen/\(if tight then cap=len else off+cap=N)|.ref id e o,v=>∃g k N,E.μ id=some (g,k,N)/\v=.pointer (some ⟨g,e*k+o,none⟩)|.cr cs o,v=>∃b p,v=.pointer (some ⟨b,p+o,none⟩)/\E.ok b/\eF E w b p cs|.top,_=>True|.jC,v=>∃b,v=.bool b|.mM n,v=>∃m:Nat,n<=m/\v=.int .i64 m def bc(E:Env)(w:World):List aa->List Value->Prop|[],vs=>vs=[]|c::cs,vs=>∃v rest,vs=v::rest/\av E w c v/\bc E w cs rest def cD(E:Env)(w:World)(b o:Nat):List aa->Prop|[]=>True|.agg cs::es=>eF E w b o cs/\cD E w b (o+cs.length) es|c::es=>(∃v,w.cell? ⟨b,o,none⟩=some v/\av E w c v)/\cD E w b (o+1) es def eF(E:Env)(w:World)(b o:Nat):List aa->Prop|[]=>True|c::cs=>(∃v,w.cell? ⟨b,o,none⟩=some v/\av E w c v)/\eF E w b (o+1) cs end
def Kz{w w':World}{b o:Nat}(h:w'.heap[b]?=w.heap[b]?):w'.cell? ⟨b,o,none⟩=w.cell? ⟨b,o,none⟩:=World.cell?_of_block (a:=⟨b,o,none⟩) h
structure ff(E E':Env)(w w':World):Prop where
 μ:∀id x,E.μ id=some x->E'.μ id=some x
 ok:∀b,E.ok b->E'.ok b
 same:∀b,E.ok b->w'.heap[b]?=w.heap[b]?
mutual def av.keep{E E':Env}{w w':World}(h:ff E E' w w'):∀(c:aa)(v:Value),av E w c v->av E' w' c v|.bool _,_,r=>by simpa[av]using r|.int _ _,_,r=>by simpa[av]using r|.str _,_,r=>by simpa[av]using r|.iX,_,r=>by simpa[av]using r|.jM,_,r=>by simpa[av]using r|.aH,_,r=>by simpa[av]using r|.top,_,_=>by simp[av]|.jC,_,r=>by simpa[av]using r|.mM _,_,r=>by simpa[av]using r|.fn f a c,v,r=>by simp only[av]at r⊢;have⟨xs,ys,e,j,x⟩:=r;exact⟨xs,ys,e,bc.keep h a _ j,bc.keep h c _ x⟩|.agg cs,v,r=>by simp only[av]at r⊢;have⟨xs,e,j⟩:=r;exact⟨xs,e,bc.keep h cs _ j⟩|.aJ cs,v,r=>by simp only[av]at r⊢;have⟨xs,e,j⟩:=r;exact⟨xs,e,bc.keep h cs _ j⟩|.sl k es,v,r=>by simp only[av]at r⊢;have⟨a,cap,e,h1,l,q,u⟩:=r;refine⟨a,cap,e,h1,l,q,u.imp id ?_⟩;rintro⟨b,o,m,hb,d⟩;exact⟨b,o,m,h.ok b hb,cD.keep h (h.same b hb) es o d⟩|.e9 k es,v,r=>by simp only[av]at r⊢;have⟨a,e,l,q,u⟩:=r;refine⟨a,e,l,q,u.imp id ?_⟩;rintro⟨b,o,m,hb,d⟩;exact⟨b,o,m,h.ok b hb,cD.keep h (h.same b hb) es o d⟩|.ai id k off len t,v,r=>by simp only[av]at r⊢;have⟨g,N,cap,n,rest⟩:=r;exact⟨g,N,cap,h.μ _ _ n,rest⟩|.ref id e o,v,r=>by simp only[av]at r⊢;have⟨g,k,N,n,rest⟩:=r;exact⟨g,k,N,h.μ _ _ n,rest⟩|.cr cs o,v,r=>by simp only[av]at r⊢;have⟨b,p,e,hb,d⟩:=r;exact⟨b,p,e,h.ok b hb,eF.keep h (h.same b hb) cs p d⟩def bc.keep{E E':Env}{w w':World}(h:ff E E' w w'):∀(cs:List aa)(vs:List Value),bc E w cs vs->bc E' w' cs vs|[],_,r=>by simpa[bc]using r|c::cs,vs,r=>by simp only[bc]at r⊢;have⟨v,rest,e,y,i⟩:=r;exact⟨v,rest,e,av.keep h c v y,bc.keep h cs rest i⟩def cD.keep{E E':Env}{w w':World}(h:ff E E' w w'){b:Nat}(hb:w'.heap[b]?=w.heap[b]?):∀(es:List aa)(o:Nat),cD E w b o es->cD E' w' b o es|[],_,_=>by simp[cD]|.agg cs::es,o,r=>by simp only[cD]at r⊢;exact⟨eF.keep h hb cs o r.1,cD.keep h hb es _ r.2⟩|.bool _::es,o,r|.int _ _::es,o,r|.str _::es,o,r|.iX::es,o,r|.jM::es,o,r|.aH::es,o,r|.top::es,o,r|.jC::es,o,r|.mM _::es,o,r|.fn _ _ _::es,o,r|.aJ _::es,o,r|.sl _ _::es,o,r|.e9 _ _::es,o,r|.ai _ _ _ _ _::es,o,r|.ref _ _ _::es,o,r|.cr _ _::es,o,r=>by simp only[cD]at r⊢;have⟨⟨v,s,d⟩,i⟩:=r;exact⟨⟨v,(Kz hb).trans s,av.keep h _ v d⟩,cD.keep h hb es _ i⟩def eF.keep{E E':Env}{w w':World}(h:ff E E' w w'){b:Nat}(hb:w'.heap[b]?=w.heap[b]?):∀(cs:List aa)(o:Nat),eF E w b o cs->eF E' w' b o cs|[],_,_=>by simp[eF]|c::cs,o,r=>by simp only[eF]at r⊢;have⟨⟨v,s,d⟩,i⟩:=r;exact⟨⟨v,(Kz hb).trans s,av.keep h c v d⟩,eF.keep h hb cs _ i⟩end
def ew(E:Env)(w:World)(b o:Nat)(cs:List aa):Prop:=∀j c,cs[j]?=some c->∃v,w.cell? ⟨b,o+j,none⟩=some v/\av E w c v
def qy{E:Env}{w:World}{b:Nat}:∀{cs:List aa}{o:Nat},eF E w b o cs↔ew E w b o cs
 |[],o=>by simp[eF,ew]|c::cs,o=>by
   simp only[eF];rw[qy (cs:=cs)];constructor;rintro⟨h,d⟩j c' a;cases j with|zero=>simp only[si,a9]at a;subst a;exact h|succ j=>simp only[Zv]at a;have:=d j c' a;rwa[show o+(j+1)=o+1+j from ac]
   intro h;refine⟨h 0 c rfl,λ j c' a=>?_⟩;have:=h (j+1) c' (by simpa using a);rwa[show o+(j+1)=o+1+j from ac]at this
def Nr{E:Env}{w:World}{b o:Nat}{xs ys:List aa}:ew E w b o (xs++ys)↔ew E w b o xs/\ew E w b (o+xs.length) ys:=by constructor;intro h;refine⟨λ j c a=>?_,λ j c a=>?_⟩;exact h j c (by rw[kd (fc.1 a).1];exact a);have:=h (xs.length+j) c (by rw[k5 ac];simpa using a);rwa[<-lQ]at this;rintro⟨h1,e⟩j c a;by_cases d:j<xs.length;rw[kd d]at a;exact h1 j c a;rw[k5 ac]at a;have:=e (j-xs.length) c a;rwa[show o+xs.length+(j-xs.length)=o+j from ac]at this
def al0{E:Env}{w:World}{b o:Nat}{c:aa}:ew E w b o [c]↔∃v,w.cell? ⟨b,o,none⟩=some v/\av E w c v:=by constructor;intro h;exact h 0 c rfl;intro h j c' a;cases j with|zero=>simp only[si,a9]at a;subst a;exact h|succ j=>simp at a
def mc{E:Env}{w:World}{b:Nat}:∀{es:List aa}{o:Nat},cD E w b o es↔ew E w b o (flat es)
 |[],o=>by simp[cD,ew,flat]|e::es,o=>by
   have a:=λ o=>mc (E:=E) (w:=w) (b:=b) (es:=es) (o:=o);have c:flat (e::es)=e.cells++flat es:=by simp[flat]
   rw[c,Nr];cases e<;>simp only[cD,aa.cells,a,qy,al0,k7]
def ew.keep{E E':Env}{w w':World}(h:ff E E' w w'){b:Nat}(hb:w'.heap[b]?=w.heap[b]?){cs:List aa}{o:Nat}(r:ew E w b o cs):ew E' w' b o cs:=λ j c d=>let⟨v,e,a⟩:=r j c d;⟨v,(Kz hb).trans e,av.keep h c v a⟩
def ko{k:Nat}:∀{es:List aa},(∀e∈es,e.size=k)->(flat es).length=es.length*k
 |[],_=>by simp[flat]|e::es,h=>by
   have a:=ko (es:=es) (λ x b=>h x (by simp[b]));have d:e.cells.length=k:=h e am;have c:flat (e::es)=e.cells++flat es:=by simp[flat]
   rw[c,cP,a,d,gC,eX];omega
def yQ{k:Nat}:∀{es:List aa}{i:Nat}{e:aa}{j:Nat},(∀e∈es,e.size=k)->es[i]?=some e->j<k->(flat es)[i*k+j]?=e.cells[j]?
 |[],_,_,_,_,h,_=>by simp at h|x::es,0,e,j,h,a,d=>by
   simp only[si,a9]at a;subst a;have b:x.cells.length=k:=h x am;have c:flat (x::es)=x.cells++flat es:=by simp[flat]
   rw[c,kd ac];simp|x::es,i+1,e,j,h,a,d=>by
   simp only[Zv]at a;have b:x.cells.length=k:=h x am;have c:flat (x::es)=x.cells++flat es:=by simp[flat]
   have f:=yQ (es:=es) (λ x b=>h x (by simp[b])) a d;rw[c,k5 (by rw[b,eX];omega),b,<-f];congr 1;rw[eX];omega
def yP(xs ys:List aa):flat (xs++ys)=flat xs++flat ys:=by simp[flat]
def Ns{E:Env}{w:World}{b o k:Nat}{es:List aa}{i:Nat}{e:aa}(d:∀e∈es,e.size=k)(h:ew E w b o (flat es))(g:es[i]?=some e):ew E w b (o+i*k) e.cells:=by
 intro j c f;have a:j<k:=by have:=(fc.1 f).1;have l:e.cells.length=k:=d e (DW g);omega
 have:=h (i*k+j) c (by rw[yQ d g a];exact f);rwa[<-lQ]at this
structure aG where
 els:List aa
 k:Nat
 fr:Bool:=false
abbrev aL:=Id->Option aG
def aL.put(σ:aL)(id:Id)(b:Option aG):aL:=λ i=>if i=id then b else σ i
def aL.uY(σ:aL)(id:Id)(b:Option aG):σ.put id b id=b:=by simp[aL.put]
def aL.mR(σ:aL)(id:Id)(b:Option aG){i:Id}(h:i≠id):σ.put id b i=σ i:=by simp[aL.put,h]
structure oQ(E:Env)(own:Nat->Prop)(w:World)(id:Id)(aq:aG)(g N:Nat)(cur:Array Value)(ty:TypeId):Prop where
 μ:E.μ id=some (g,aq.k,N)heap:w.heap[g]?=some (.cells cur ty (0,0))size:cur.size=N*aq.k
 len:aq.els.length<=N
 most:N<=maxLen
 own:own g
 ok:aq.fr=true->E.ok g
 no:aq.fr=false->¬E.ok g
 k:∀e∈aq.els,e.size=aq.k
 row:ew E w g 0 (flat aq.els)
def PI(E:Env)(own:Nat->Prop)(w:World)(id:Id)(aq:aG):Prop:=∃g N a ty,oQ E own w id aq g N a ty
def Env.bare(E:Env):Env:=⟨λ _=>none,E.ok⟩
structure Inv(G:Nat->Option (List aa))(own:Nat->Prop)(E:Env)(w:World)(σ:aL):Prop where
 g6:∀b,E.ok b->b<w.heap.size
 blk:∀id aq,σ id=some aq->PI E own w id aq
 inj:∀i j x y,σ i≠none->σ j≠none->i≠j->E.μ i=some x->E.μ j=some y->x.1≠y.1
 jq:∀g cs,G g=some cs->E.ok g/\eF E.bare w g 0 cs
 new:∀k,w.heap.size<=k->own k
structure Adv(own:Nat->Prop)(E E':Env)(w w':World):Prop where
 step:ff E E' w w'
 os:w'.os=w.os
 tape:w'.tape=w.tape
 output:w'.output=w.output
 size:w.heap.size<=w'.heap.size
 block:∀k,k<w.heap.size->¬own k->w'.heap[k]?=w.heap[k]?
 qm:∀b,E'.ok b->E.ok b\/own b
def ff.bare{E E':Env}{w w':World}(h:ff E E' w w'):ff E.bare E'.bare w w':=⟨λ _ _ h=>by simp[Env.bare]at h,h.ok,h.same⟩
def ff.an3(E:Env)(w:World):ff E.bare E w w:=⟨λ _ _ h=>by simp[Env.bare]at h,λ _ h=>h,λ _ _=>rfl⟩
def ff.refl(E:Env)(w:World):ff E E w w:=⟨λ _ _ h=>h,λ _ h=>h,λ _ _=>rfl⟩
def ff.trans{E E' d:Env}{w w' c:World}(a:ff E E' w w')(b:ff E' d w' c):ff E d w c:=⟨λ i x h=>b.μ i x (a.μ i x h),λ x h=>b.ok x (a.ok x h),λ x h=>(b.same x (a.ok x h)).trans (a.same x h)⟩
def Adv.refl(own:Nat->Prop)(E:Env)(w:World):Adv own E E w w:=⟨ff.refl E w,rfl,rfl,rfl,a2 _,λ _ _ _=>rfl,λ _ h=>.inl h⟩
def Adv.trans{own:Nat->Prop}{E E' d:Env}{w w' c:World}(a:Adv own E E' w w')(b:Adv own E' d w' c):Adv own E d w c:=⟨a.step.trans b.step,b.os.trans a.os,b.tape.trans a.tape,b.output.trans a.output,bx a.size b.size,λ k f e=>(b.block k (gz f a.size) e).trans (a.block k f e),λ x h=>(b.qm x h).elim (λ h=>a.qm x h) .inr⟩
def Adv.drew{own:Nat->Prop}(E:Env)(w:World):Adv own E E w w.drew:=⟨⟨λ _ _ h=>h,λ _ h=>h,λ _ _=>rfl⟩,rfl,rfl,rfl,a2 _,λ _ _ _=>rfl,λ _ h=>.inl h⟩
def oQ.keep{E E':Env}{own:Nat->Prop}{w w':World}{id:Id}{aq:aG}{g N:Nat}{a:Array Value}{ty:TypeId}(h:oQ E own w id aq g N a ty)(s:ff E E' w w')(hb:w'.heap[g]?=w.heap[g]?)(b:aq.fr=false->¬E'.ok g):oQ E' own w' id aq g N a ty:=⟨s.μ _ _ h.μ,hb.trans h.heap,h.size,h.len,h.most,h.own,λ c=>s.ok _ (h.ok c),b,h.k,ew.keep s hb h.row⟩
def ll{w:World}{g:Nat}{o:Obj}(h:w.heap[g]?=some o):g<w.heap.size:=(xN.1 h).1
def Inv.keep{G:Nat->Option (List aa)}{own:Nat->Prop}{E E':Env}{w w':World}{σ:aL}(h:Inv G own E w σ)(a:Adv own E E' w w')(l:E'.μ=E.μ)(d:∀b,E'.ok b->b<w'.heap.size)(hb:∀id aq g N,σ id=some aq->E.μ id=some (g,aq.k,N)->w'.heap[g]?=w.heap[g]?/\(aq.fr=false->¬E'.ok g)):Inv G own E' w' σ where
 g6:=d;blk:=λ id aq i=>by have⟨g,N,e,ty,f⟩:=h.blk id aq i;have⟨h1,c⟩:=hb id aq g N i f.μ;exact⟨g,N,e,ty,f.keep a.step h1 c⟩
 inj:=by rw[l];exact h.inj
 jq:=λ g cs n=>let⟨h1,c⟩:=h.jq g cs n;⟨a.step.ok g h1,eF.keep a.step.bare (a.step.same g h1) cs 0 c⟩;new:=λ k m=>h.new k (bx a.size m)
def Inv.drew{G:Nat->Option (List aa)}{own:Nat->Prop}{E:Env}{w:World}{σ:aL}(h:Inv G own E w σ):Inv G own E w.drew σ:=h.keep (Adv.drew E w) rfl h.g6 (λ id aq g N c b=>⟨rfl,λ e=>by have⟨i,f,d,ty,a⟩:=h.blk id aq c;have:=a.μ.symm.trans b;simp only[a9,cN]at this;rw[<-this.1];exact a.no e⟩)
def ra(E:Env)(w:World)(cs:List aa)(vs:List Value):Prop:=∀(j:Nat)(c:aa),cs[j]?=some c->∃v:Value,vs[j]?=some v/\av E w c v
def bc.len{E:Env}{w:World}:∀{cs:List aa}{vs:List Value},bc E w cs vs->vs.length=cs.length|[],vs,h=>by simp only[bc]at h;simp[h]|c::cs,vs,h=>by simp only[bc]at h;obtain⟨v,rest,rfl,_,a⟩:=h;simp[bc.len a]
def fi{E:Env}{w:World}:∀{cs:List aa}{vs:List Value},bc E w cs vs↔vs.length=cs.length/\ra E w cs vs
 |[],vs=>by simp[bc,ra]|c::cs,vs=>by
   constructor;intro h;refine⟨bc.len h,?_⟩;simp only[bc]at h;obtain⟨v,rest,rfl,h1,e⟩:=h;intro j d a;cases j with|zero=>simp only[si,a9]at a;subst a;exact⟨v,rfl,h1⟩|succ j=>simpa using(fi.1 e).2 j d (by simpa using a)
   rintro⟨f,h⟩;simp only[bc];have⟨v,b,h1⟩:=h 0 c rfl;cases vs with|nil=>simp at b|cons x rest=>simp only[si,a9]at b;subst b;refine⟨x,rest,rfl,h1,fi.2 ⟨by simpa using f,λ j d a=>?_⟩⟩;simpa using h (j+1) d (by simpa using a)
def ra.append{E:Env}{w:World}{xs ys:List aa}{us vs:List Value}(h1:ra E w xs us)(d:us.length=xs.length)(e:ra E w ys vs):ra E w (xs++ys) (us++vs):=by intro j c a;by_cases b:j<xs.length;rw[kd b]at a;rw[kd ac];exact h1 j c a;rw[k5 ac]at a;rw[k5 ac,d];exact e _ c a
def av.one{E:Env}{w:World}:∀{c:aa}{v:Value},av E w c v->c.one=true->v.oneCell'=true|.bool _,_,h,_|.int _ _,_,h,_|.str _,_,h,_|.iX,_,h,_|.jM,_,h,_|.aH,_,h,_=>by simp only[av]at h;subst h;rfl|.fn _ _ _,_,h,_=>by simp only[av]at h;obtain⟨_,_,rfl,_⟩:=h;rfl|.sl _ _,_,h,_=>by simp only[av]at h;obtain⟨_,_,rfl,_⟩:=h;rfl|.e9 _ _,_,h,_=>by simp only[av]at h;obtain⟨_,rfl,_⟩:=h;rfl|.ai _ _ _ _ _,_,h,_=>by simp only[av]at h;obtain⟨_,_,_,_,rfl,_⟩:=h;rfl|.ref _ _ _,_,h,_=>by simp only[av]at h;obtain⟨_,_,_,_,rfl⟩:=h;rfl|.cr _ _,_,h,_=>by simp only[av]at h;obtain⟨_,_,rfl,_⟩:=h;rfl
def av.cells{E:Env}{w:World}:∀{c:aa}{v:Value},av E w c v->(c.one=true\/∃cs,c=.agg cs)->bc E w c.cells v.cells.toList|.agg cs,v,h,_=>by simp only[av]at h;obtain⟨xs,rfl,h⟩:=h;exact h|.aJ _,_,_,h=>by simp[aa.one]at h|.top,_,_,h|.jC,_,_,h|.mM _,_,_,h=>by simp[aa.one]at h|.bool _,v,h,_|.int _ _,v,h,_|.str _,v,h,_|.iX,v,h,_|.jM,v,h,_|.aH,v,h,_=>by have a:=h;simp only[av]at h;subst h;simp only[aa.cells,xQ,bc];exact⟨_,_,rfl,a,rfl⟩|.fn _ _ _,v,h,_=>by have a:=h;simp only[av]at h;obtain⟨_,_,rfl,_⟩:=h;simp only[aa.cells,xQ,bc];exact⟨_,_,rfl,a,rfl⟩|.sl _ _,v,h,_=>by have a:=h;simp only[av]at h;obtain⟨_,_,rfl,_⟩:=h;simp only[aa.cells,xQ,bc];exact⟨_,_,rfl,a,rfl⟩|.e9 _ _,v,h,_=>by have a:=h;simp only[av]at h;obtain⟨_,rfl,_⟩:=h;simp only[aa.cells,xQ,bc];exact⟨_,_,rfl,a,rfl⟩|.ai _ _ _ _ _,v,h,_=>by have a:=h;simp only[av]at h;obtain⟨_,_,_,_,rfl,_⟩:=h;simp only[aa.cells,xQ,bc];exact⟨_,_,rfl,a,rfl⟩|.ref _ _ _,v,h,_=>by have a:=h;simp only[av]at h;obtain⟨_,_,_,_,rfl⟩:=h;simp only[aa.cells,xQ,bc];exact⟨_,_,rfl,a,rfl⟩|.cr _ _,v,h,_=>by have a:=h;simp only[av]at h;obtain⟨_,_,rfl,_⟩:=h;simp only[aa.cells,xQ,bc];exact⟨_,_,rfl,a,rfl⟩
def Env.bind(E:Env)(id:Id)(g k N:Nat):Env:={E with μ:=λ i=>if i=id then some (g,k,N)else E.μ i}
def Env.uj(E:Env)(id:Id)(g k N:Nat):(E.bind id g k N).μ id=some (g,k,N):=by simp[Env.bind]
def Env.yx(E:Env)(id:Id)(g k N:Nat){i:Id}(h:i≠id):(E.bind id g k N).μ i=E.μ i:=by simp[Env.bind,h]
def Lr(w:World)(o:Obj){k:Nat}(h:k<w.heap.size):(w.alloc o).heap[k]?=w.heap[k]?:=heap_alloc_old w o k h
def size_alloc(w:World)(o:Obj):(w.alloc o).heap.size=w.heap.size+1:=am
def ff.alloc{E:Env}{w:World}{id:Id}(eh:E.μ id=none)(a:∀b,E.ok b->b<w.heap.size)(o:Obj)(k N:Nat):ff E (E.bind id w.heap.size k N) w (w.alloc o)where
 μ:=λ i x h=>by rw[Env.yx];exact h;rintro rfl;simp[eh]at h
 ok:=λ _ h=>h;same:=λ b hb=>Lr w o (a b hb)
def aa9{G:Nat->Option (List aa)}{own:Nat->Prop}{E:Env}{w:World}{σ:aL}(h:Inv G own E w σ){id:Id}(eh:E.μ id=none)(M:σ id=none){els:List aa}{k N:Nat}{vs:List Value}(ty:TypeId)(s:∀e∈els,e.size=k)(L:ra E w (flat els) vs)(J:vs.length=N*k)(K:els.length<=N)(F:N<=maxLen):Adv own E (E.bind id w.heap.size k N) w (w.alloc (.cells vs.toArray ty))/\Inv G own (E.bind id w.heap.size k N) (w.alloc (.cells vs.toArray ty)) (σ.put id (some ⟨els,k,false⟩)):=by
 have t:ff E (E.bind id w.heap.size k N) w (w.alloc (.cells vs.toArray ty)):=ff.alloc eh h.g6 _ k N;have z:Adv own E (E.bind id w.heap.size k N) w (w.alloc (.cells vs.toArray ty)):=⟨t,rfl,rfl,rfl,by rw[size_alloc];omega,λ k s _=>Lr w _ s,λ _ hb=>.inl hb⟩;refine⟨z,?_,?_,?_,?_,?_⟩;intro b hb;rw[size_alloc];have:=h.g6 b hb;omega;intro i aq l;by_cases D:i=id;subst D;rw[aL.uY]at l;cases l;refine⟨w.heap.size,N,vs.toArray,ty,Env.uj _ _ _ _ _,heap_alloc_new w _,by simpa using J,K,F,h.new _ (a2 _),am,λ _ hb=>?_,s,?_⟩;exact absurd (h.g6 _ hb) ac;intro j c q;have⟨v,C,B⟩:=L j c q;refine⟨v,?_,av.keep t c v B⟩;rw[cell_of_row _ _ _ _ _ _ (heap_alloc_new w (.cells vs.toArray ty))];simpa using C;rw[aL.mR _ _ _ D]at l;have⟨g,A,p,n,f⟩:=h.blk i aq l;have u:=ll f.heap;exact⟨g,A,p,n,f.keep t (Lr w _ u) (λ H=>f.no H)⟩;intro i j x y l q r m d;by_cases o:i=id;subst o;have a:j≠i:=λ e=>r e.symm;rw[aL.mR _ _ _ a]at q;rw[Env.uj]at m;rw[Env.yx _ _ _ _ _ a]at d;cases hb:σ j with|none=>exact absurd hb q|some aq=>have⟨g,A,p,n,f⟩:=h.blk j aq hb;have u:=ll f.heap;rw[f.μ]at d;simp only[a9]at m d;rw[<-m,<-d];simp only[];omega
 rw[aL.mR _ _ _ o]at l;rw[Env.yx _ _ _ _ _ o]at m;by_cases a:j=id;subst a;rw[Env.uj]at d;cases hb:σ i with|none=>exact absurd hb l|some aq=>have⟨g,A,p,n,f⟩:=h.blk i aq hb;have u:=ll f.heap;rw[f.μ]at m;simp only[a9]at m d;rw[<-m,<-d];simp only[];omega
 rw[aL.mR _ _ _ a]at q;rw[Env.yx _ _ _ _ _ a]at d;exact h.inj i j x y l q r m d;intro g cs u;have⟨h1,I⟩:=h.jq g cs u;exact⟨h1,eF.keep t.bare (t.same g h1) cs 0 I⟩;intro k s;rw[size_alloc]at s;exact h.new k ac
def aa.upd(c:aa)(o:Nat)(new:List aa):aa:=match c with|.agg cs=>.agg (cs.take o++new++cs.drop (o+new.length))|c=>new.headD c
def aa.QP{c:aa}{o:Nat}{new:List aa}(h:o+new.length<=c.size)(h1:∀x∈new,x.one=true):(c.upd o new).cells=c.cells.take o++new++c.cells.drop (o+new.length):=by
 have b:∀c:aa,c.cells=[c]->c.upd o new=new.headD c->o+new.length<=c.size->(c.upd o new).cells=c.cells.take o++new++c.cells.drop (o+new.length):=by intro c d hu a;rw[hu,d];simp only[aa.size,d,k7]at a;match new,h1,a with
   |[],_,a=>
     have:o=0\/o=1:=by simp at a;omega
     rcases this with rfl|rfl<;>simp[d]|[x],h1,a=>
     have e:o=0:=by simp at a;omega
     subst e;have f:=h1 x am;cases x<;>simp[aa.one]at f<;>simp[aa.cells]|_::_::_,_,a=>simp at a;omega
 cases c<;>first|exact b _ rfl rfl h|rfl
def aa.anc{c:aa}{o:Nat}{new:List aa}(h:o+new.length<=c.size)(h1:∀x∈new,x.one=true):(c.upd o new).size=c.size:=by unfold aa.size at*;rw[aa.QP h h1];simp only[cP,gV,m6];omega
def K4{k:Nat}:∀{es:List aa}{i:Nat}{e a:aa},(∀x∈es,x.size=k)->es[i]?=some e->a.size=k->flat (es.set i a)=(flat es).take (i*k)++a.cells++(flat es).drop (i*k+k)
 |[],_,_,_,_,h,_=>by simp at h|x::es,0,e,a,h,g,f=>by
   have d:x.cells.length=k:=h x am;have c:flat (x::es)=x.cells++flat es:=by simp[flat]
   have b:flat ((x::es).set 0 a)=a.cells++flat es:=by simp[flat]
   rw[c,b];simp[<-d]|x::es,i+1,e,a,h,g,f=>by
   have d:x.cells.length=k:=h x am;have l:=K4 (es:=es) (i:=i) (λ y j=>h y (by simp[j])) (by simpa using g) f;have c:flat (x::es)=x.cells++flat es:=by simp[flat]
   have b:flat ((x::es).set (i+1) a)=x.cells++flat (es.set i a):=by simp[flat]
   rw[c,b,l];have m:(i+1)*k=x.cells.length+i*k:=by rw[d,eX];omega
   rw[m,List.take_append,show x.cells.length+i*k+k=x.cells.length+(i*k+k)from ac,List.drop_append];simp[List.take_of_length_le,pO]
def anB{G:Nat->Option (List aa)}{own:Nat->Prop}{E:Env}{w:World}{σ:aL}(h:Inv G own E w σ){id:Id}{aq:aG}(gP:σ id=some aq)(T:aq.fr=false){g N:Nat}{a:Array Value}{ty:TypeId}(f:oQ E own w id aq g N a ty){e:Nat}{el:aa}(X:aq.els[e]?=some el){o:Nat}{new:List aa}{vs:List Value}(F:o+new.length<=el.size)(h1:∀x∈new,x.one=true)(hv:bc E w new vs):e*aq.k+o+vs.length<=a.size/\Adv own E E w (w.setRow g (a.toList.take (e*aq.k+o)++vs++a.toList.drop (e*aq.k+o+vs.length)).toArray)/\Inv G own E (w.setRow g (a.toList.take (e*aq.k+o)++vs++a.toList.drop (e*aq.k+o+vs.length)).toArray) (σ.put id (some {aq with els:=aq.els.set e (el.upd o new)})):=by
 have⟨Q,hvp⟩:=fi.1 hv;have H:el.size=aq.k:=f.k el (DW X);have S:e<aq.els.length:=(fc.1 X).1;have s:e*aq.k+o+vs.length<=a.size:=by rw[f.size,Q];have h2:(e+1)*aq.k<=N*aq.k:=ck _ (by have:=f.len;omega);rw[eX]at h2;omega
 refine⟨s,?_⟩;generalize K:(a.toList.take (e*aq.k+o)++vs++a.toList.drop (e*aq.k+o+vs.length)).toArray=q;have hg:=ll f.heap;have z:(w.setRow g q).heap[g]?=some (.cells q ty (0,0)):=setRow_heap w g a q ty _ f.heap;have O:ff E E w (w.setRow g q):=⟨λ _ _ h=>h,λ _ h=>h,λ b hb=>setRow_other w g b q (λ e=>f.no T (e▸hb))⟩;have V:Adv own E E w (w.setRow g q):=⟨O,rfl,rfl,rfl,am,λ k _ W=>setRow_other w g k q (λ e=>W (e▸f.own)),λ _ h=>.inl h⟩;refine⟨V,?_,?_,?_,?_,?_⟩;intro b hb;simpa using h.g6 b hb;intro i sP t;by_cases m:i=id;subst m;rw[aL.uY]at t;cases t;have hu:=aa.anc F h1;refine⟨g,N,q,ty,f.μ,z,?_,by simpa using f.len,f.most,f.own,by simp[T],f.no,?_,?_⟩;rw[<-K];simp only[qQ,cP,gV,m6,Pd];rw[<-f.size];omega;intro x M;rcases AA M with M|rfl;exact f.k x M;rw[hu];exact H;have Lv:flat (aq.els.set e (el.upd o new))=(flat aq.els).take (e*aq.k+o)++new++(flat aq.els).drop (e*aq.k+o+new.length):=by
   rw[K4 f.k X (hu.trans H),aa.QP F h1];have Ls:∀j,j<aq.k->(flat aq.els)[e*aq.k+j]?=el.cells[j]?:=λ j p=>yQ f.k X p;have U:(flat aq.els).length=aq.els.length*aq.k:=ko f.k;have wD:el.cells.length=aq.k:=H;have r:(e+1)*aq.k<=aq.els.length*aq.k:=ck _ S;rw[eX]at r;have Z:o+new.length<=aq.k:=by have:=F;unfold aa.size at this;omega
   have d:flat aq.els=(flat aq.els).take (e*aq.k)++el.cells++(flat aq.els).drop (e*aq.k+aq.k):=by apply List.ext_getElem?;intro j;by_cases h1:j<e*aq.k;rw[pO,kd (by simp;omega),vo h1];rw[pO,k5 (by simp;omega)];simp only[gV,tJ (ac:e*aq.k<=(flat aq.els).length)];by_cases h2:j-e*aq.k<aq.k;rw[kd ac,<-Ls _ h2];congr 1;omega;rw[k5 ac,sq];congr 1;omega
   generalize(flat aq.els).take (e*aq.k)=A at d⊢;generalize hC:(flat aq.els).drop (e*aq.k+aq.k)=C at d⊢;have hA:A.length=e*aq.k:=by
     have h3:=congrArg List.length d;simp only[cP]at h3;have h4:C.length=(flat aq.els).length-(e*aq.k+aq.k):=by rw[<-hC,m6]
     omega
   rw[d];rw[<-hA];simp only[pO];rw[ZJ,show A.length+o+new.length=A.length+(o+new.length)from ac,ZM,List.take_append_of_le_length ac,ZO ac];simp only[pO]
 show ew E (w.setRow g q) g 0 (flat (aq.els.set e (el.upd o new)));rw[Lv];have U:(flat aq.els).length=aq.els.length*aq.k:=ko f.k;have r:(e+1)*aq.k<=aq.els.length*aq.k:=ck _ S;rw[eX]at r;have Z:o+new.length<=aq.k:=ac;have afc:aq.els.length*aq.k<=a.size:=by rw[f.size];exact ck _ f.len
 intro j c p;have I:(w.setRow g q).cell? ⟨g,0+j,none⟩=q[j]?:=by rw[cF];exact cell_of_row _ _ _ _ _ _ z
 rw[I];suffices L:∃v,q[j]?=some v/\av E w c v by have⟨v,l,n⟩:=L;exact⟨v,l,av.keep O c v n⟩
 rw[<-K];have u:∀(j:Nat)(c:aa),(flat aq.els)[j]?=some c->∃v:Value,a[j]?=some v/\av E w c v:=by intro j c p;have⟨v,l,n⟩:=f.row j c p;rw[cF,cell_of_row _ _ _ _ _ _ f.heap]at l;exact⟨v,l,n⟩
 simp only[Ea];have ha:(a.toList.take (e*aq.k+o)).length=e*aq.k+o:=by simp;omega
 have hb:((flat aq.els).take (e*aq.k+o)).length=e*aq.k+o:=by simp;omega
 rw[pO]at p⊢;by_cases c1:j<e*aq.k+o;rw[kd ac,vo c1]at p;rw[kd ac,vo c1];have⟨v,l,n⟩:=u j c p;exact⟨v,by simpa using l,n⟩;rw[k5 ac,hb]at p;rw[k5 ac,ha];by_cases o0:j-(e*aq.k+o)<new.length;rw[kd o0]at p;rw[kd ac];have⟨v,l,n⟩:=hvp _ c p;exact⟨v,l,n⟩;rw[k5 ac,sq]at p;rw[k5 ac,sq,Q];have⟨v,l,n⟩:=u _ c p;exact⟨v,by simpa using l,n⟩;rw[aL.mR _ _ _ m]at t;have⟨J,n4,P,Y,B⟩:=h.blk i sP t;have D:J≠g:=h.inj i id _ _ (by simp[t]) (by simp[gP]) m B.μ f.μ;exact⟨J,n4,P,Y,B.keep O (setRow_other w g J q D) B.no⟩;intro i j x y t p D M hy;refine h.inj i j x y ?_ ?_ D M hy;intro R;by_cases m:i=id;subst m;simp[gP]at R;rw[aL.mR _ _ _ m]at t;exact t R;intro R;by_cases m:j=id;subst m;simp[gP]at R;rw[aL.mR _ _ _ m]at p;exact p R;intro J cs Gs;have⟨l2,aew⟩:=h.jq J cs Gs;exact⟨l2,eF.keep O.bare (O.same J l2) cs 0 aew⟩;intro k W;simp at W;exact h.new k W
inductive dD where|t(n:Nat)|c(a:aa)|g(n:Nat)|f(n:Nat)
def dD.ev(G:Nat->Option (List aa))(t:List aa):dD->aa
 |.t n=>t.getD n (.aJ [])|.c a=>a|.g n=>match G n with|some cs=>.cr cs 0|none=>.top
 |.f n=>.fn (.func n) [] []
inductive c2 where|int|str|bool|ptr|slice|func deriving DecidableEq
inductive dJ(α:Type)where|mv(x:α)|pick(c a b:α)|box(x:α)|build(zero:List aa)(parts:List (Nat×Nat×α))|uk(k len:Nat)(zero:aa)(parts:List (Nat×α))|load(agg:Bool)(n:Nat)(x:α)|store(n:Nat)(x v:α)|Ct(x:α)|bin(op:BinOp)(sh:c2)(x y:α)|un(op:UnOp)(x:α)|toInt(k:IntKind)(x:α)|zc(x:α)|sQ(x:α)|idx(x c:α)|mP(x y:α)|zu(fn:Fn)(first cap:List α)|ti(k bytes:Nat)(zero:aa)(len cap:α)|slice(k:Nat)(x:α)(lo hi mx:Option α)|z3(x:α)(lo hi:Option α)|u9(n:Nat)(x:α)(lo hi:Option α)|ux(off:Nat)(x:α)|field(agg:Bool)(off n:Nat)(x:α)|B1(k:Nat)(x i:α)|B0(n k:Nat)(x i:α)|zd(x i:α)|B4(agg:Bool)(n k:Nat)(x i:α)|extract(x:α)(i:Nat)|len(str:Bool)(x:α)|Cc(n:Nat)(x:α)|append(k bytes:Nat)(s x:α)|min(x y:α)|max(x y:α)|cap(x:α)|clear(k:Nat)(zero:aa)(x:α)|copy(k:Nat)(d x:α)|vY(k bytes:Nat)(zero:aa)(s n:α)|bad|call(f:α)(args:List α)
def dJ.map{α β:Type}(g:α->β):dJ α->dJ β|.mv x=>.mv (g x)|.pick c a b=>.pick (g c) (g a) (g b)|.box x=>.box (g x)|.build z h=>.build z (h.map λ p=>(p.1,p.2.1,g p.2.2))|.uk k n z h=>.uk k n z (h.map λ p=>(p.1,g p.2))|.load a n x=>.load a n (g x)|.store n x v=>.store n (g x) (g v)|.Ct x=>.Ct (g x)|.bin op j x y=>.bin op j (g x) (g y)|.un op x=>.un op (g x)|.toInt k x=>.toInt k (g x)|.zc x=>.zc (g x)|.sQ x=>.sQ (g x)|.idx x c=>.idx (g x) (g c)|.mP x y=>.mP (g x) (g y)|.zu fn a c=>.zu fn (a.map g) (c.map g)|.ti k b z l c=>.ti k b z (g l) (g c)|.slice k x lo e mx=>.slice k (g x) (lo.map g) (e.map g) (mx.map g)|.z3 x lo e=>.z3 (g x) (lo.map g) (e.map g)|.u9 n x lo e=>.u9 n (g x) (lo.map g) (e.map g)|.ux o x=>.ux o (g x)|.field a o n x=>.field a o n (g x)|.B1 k x i=>.B1 k (g x) (g i)|.B0 n k x i=>.B0 n k (g x) (g i)|.zd x i=>.zd (g x) (g i)|.B4 a n k x i=>.B4 a n k (g x) (g i)|.extract x i=>.extract (g x) i|.len b x=>.len b (g x)|.Cc n x=>.Cc n (g x)|.append k b s x=>.append k b (g s) (g x)|.min x y=>.min (g x) (g y)|.max x y=>.max (g x) (g y)|.cap x=>.cap (g x)|.clear k z x=>.clear k z (g x)|.copy k d x=>.copy k (g d) (g x)|.vY k b z s n=>.vY k b z (g s) (g n)|.bad=>.bad|.call f m=>.call (g f) (m.map g)
structure bG where
 val:aa
 rd:List Id:=[]up:List (Id×Option aG):=[]
def aL.app(σ:aL):List (Id×Option aG)->aL|[]=>σ|(i,b)::r=>(σ.put i b).app r
def sO(op:BinOp)(k:IntKind)(x y:Int):Option Int:=let a:=iK k.bits x;let b:=iK k.bits y;match op with|.and=>some (k.wrap (a&&&b).toNat)|.or=>some (k.wrap (a|||b).toNat)|.xor=>some (k.wrap (a^^^b).toNat)|.andNot=>some (k.wrap (a&&&~~~b).toNat)|_=>none
def pK(op:BinOp)(k:IntKind)(a b:Int):Option aa:=match op with|.add=>some (.int k (k.wrap (a+b)))|.sub=>some (.int k (k.wrap (a-b)))|.mul=>some (.int k (k.wrap (a*b)))|.quo=>if b=0 then none else some (.int k (k.wrap (a.tdiv b)))|.rem=>if b=0 then none else some (.int k (a.tmod b))|.and|.or|.xor|.andNot=>(sO op k a b).map (.int k)|.eql=>some (.bool (a==b))|.neq=>some (.bool (a !=b))|.lss=>some (.bool (a<b))|.leq=>some (.bool (a<=b))|.gtr=>some (.bool (a>b))|.geq=>some (.bool (a≥b))|.shl=>if b<0 then none else some (.int k (k.wrap (a*2^(min b.toNat k.bits))))|.shr=>if b<0 then none else some (.int k (a.fdiv (2^(min b.toNat k.bits))))
def OK(op:BinOp)(x y:List UInt8):Option aa:=match op with|.add=>if x.length+y.length<=maxLen then some (.str (x++y))else none|.eql=>some (.bool (x==y))|.neq=>some (.bool !(x==y))|.lss=>some (.bool (Jt x y))|.leq=>some (.bool (Jt x y||x==y))|.gtr=>some (.bool !(Jt x y||x==y))|.geq=>some (.bool !(Jt x y))|_=>none
def lG(op:BinOp)(c:c2)(x y:aa):Option aa:=match c,x,y with
 |.int,.int k a,.int k' b=>if op=.shl\/op=.shr\/k=k' then pK op k a b else none|.str,.str a,.str b=>OK op a b|.bool,.bool a,.bool b=>match op with|.eql=>some (.bool (a==b))|.neq=>some (.bool !(a==b))|_=>none
 |.ptr,.iX,.iX=>match op with|.eql=>some (.bool true)|.neq=>some (.bool false)|_=>none
 |.ptr,.ref _ _ _,.iX|.ptr,.iX,.ref _ _ _|.ptr,.cr _ _,.iX|.ptr,.iX,.cr _ _=>match op with|.eql=>some (.bool false)|.neq=>some (.bool true)|_=>none
 |.slice,.aH,.aH=>match op with|.eql=>some (.bool true)|.neq=>some (.bool false)|_=>none
 |.slice,.ai _ _ _ _ _,.aH|.slice,.aH,.ai _ _ _ _ _=>match op with|.eql=>some (.bool false)|.neq=>some (.bool true)|_=>none
 |.slice,.sl _ (_::_),.aH|.slice,.e9 _ (_::_),.aH=>match op with|.eql=>some (.bool false)|.neq=>some (.bool true)|_=>none
 |.func,.jM,.jM=>match op with|.eql=>some (.bool true)|.neq=>some (.bool false)|_=>none
 |.func,.fn _ _ _,.jM|.func,.jM,.fn _ _ _=>match op with|.eql=>some (.bool false)|.neq=>some (.bool true)|_=>none
 |_,_,_=>none
def OI(op:BinOp)(b:c2)(x y:aa):Option aa:=match b,x,y with
 |.slice,.sl _ [],.aH|.slice,.e9 _ [],.aH=>match op with|.eql|.neq=>some .jC|_=>none
 |.int,.int .i64 a,.mM n=>match op with|.gtr=>if a<=n then some (.bool false)else none|_=>none
 |_,_,_=>none
def eS(op:BinOp)(a:c2)(x y:aa):Option aa:=match lG op a x y with|some c=>some c|none=>OI op a x y
def OL(op:UnOp)(x:aa):Option aa:=match op,x with|.neg,.int k n=>some (.int k (k.wrap (0-n)))|.xor,.int k n=>(sO .xor k (if k.signed then-1 else k.max) n).map (.int k)|.not,.bool b=>some (.bool !b)|_,_=>none
def part(a:Bool)(cs:List aa)(o n:Nat):Option aa:=if o+n<=cs.length then if a then some (.agg ((cs.drop o).take n))else if n=1 then cs[o]? else none else none
def kz(σ:aL)(a:Bool)(n:Nat):aa->Option bG
 |.ref id e o=>match σ id with
   |some aq=>match aq.els[e]? with|some el=>(part a el.cells o n).map λ v=>{val:=v,rd:=[id]}|none=>none
   |none=>none
 |.cr cs o=>(part a cs o n).map λ v=>{val:=v}|_=>none
def tE(σ:aL)(n:Nat)(x v:aa):Option bG:=match x with
 |.ref id e o=>match σ id with
   |some aq=>match aq.els[e]? with|some el=>if aq.fr=false/\v.cells.length=n/\o+n<=el.size/\v.cells.all aa.one=true then some {val:=.aJ [],rd:=[id],up:=[(id,some {aq with els:=aq.els.set e (el.upd o v.cells)})]}else none|none=>none
   |none=>none
 |_=>none
def tB(cs:List aa):List (Nat×Nat×aa)->Option (List aa)|[]=>some cs|(o,n,x)::r=>if x.cells.length=n/\o+n<=cs.length/\x.cells.all aa.one=true then tB (cs.take o++x.cells++cs.drop (o+n)) r else none
def Ab(k:Nat)(es:List aa):List (Nat×aa)->Option (List aa)|[]=>some es|(i,x)::r=>if x.size=k/\i<es.length/\x.cells.all aa.one=true then Ab k (es.set i x) r else none
def jn(σ:aL)(k:Nat):aa->Option (List aa×List Id)
 |.aH=>some ([],[])|.sl k' es|.e9 k' es=>if k'=k then some (es,[])else none|.ai id k' off len _=>match σ id with|some aq=>if k'=k/\aq.k=k/\off+len<=aq.els.length then some ((aq.els.drop off).take len,[id])else none|none=>none
 |_=>none
def sg(σ:aL)(p:Id)(k bytes:Nat)(s x:aa):Option bG:=match jn σ k x with|none=>none|some (ys,rd)=>if ys.isEmpty then match s with|.aH|.e9 _ _|.ai _ _ _ _ _=>some {val:=s,rd}|_=>none else match s with
     |.aH=>if ys.length*bytes<=140737488355328/\ys.length<=maxLen/\(ys.all λ e=>e.cells.all aa.one)=true then some {val:=.ai p k 0 ys.length false,rd,up:=[(p,some ⟨ys,k,false⟩)]}else none|.e9 k' es=>if k'=k/\(es.length+ys.length)*bytes<=140737488355328/\es.length+ys.length<=maxLen/\((es++ys).all λ e=>e.cells.all aa.one)=true then some {val:=.ai p k 0 (es.length+ys.length) false,rd,up:=[(p,some ⟨es++ys,k,false⟩)]}else none|.ai id k' off len tight=>match σ id with|some aq=>if k'=k/\aq.k=k/\off=0/\len<=aq.els.length/\(len+ys.length)*bytes<=140737488355328/\len+ys.length<=maxLen/\(ys.all λ e=>e.cells.all aa.one)=true then if tight then if(aq.els.all λ e=>e.cells.all aa.one)=true then some {val:=.ai p k 0 (len+ys.length) false,rd:=id::rd,up:=[(p,some ⟨aq.els.take len++ys,k,false⟩)]}else none else if len=aq.els.length/\aq.fr=false/\(aq.els.all λ e=>e.cells.all aa.one)=true then some {val:=.ai p k 0 (len+ys.length) false,rd:=id::rd,up:=[(id,none),(p,some ⟨aq.els++ys,k,false⟩)]}else if len+ys.length<=aq.els.length/\aq.fr=false then some {val:=.ai id k 0 (len+ys.length) false,rd:=id::rd,up:=[(id,some {aq with els:=aq.els.take len++ys++aq.els.drop (len+ys.length)})]}else none else none|none=>none
     |_=>none
def iZ(d a:Nat):Option aa->Option Nat|none=>some d|some (.int _ i)=>if 0<=i/\i<=a then some i.toNat else none|some _=>none
def gu(len:Nat)(lo a:Option aa):Option (Nat×Nat):=match iZ len len a with|none=>none|some h=>match iZ 0 h lo with|none=>none|some l=>some (l,h)
def xx(mx:Option aa)(h:Nat):Bool:=match mx with|some (.int _ m)=>m==(h:Int)|_=>false
def gv(k:Nat)(x:aa)(lo a mx:Option aa):Option aa:=match x with
 |.aH=>match gu 0 lo a with|some _=>if mx.isNone=true\/xx mx 0=true then some .aH else none|none=>none
 |.sl k' es=>match gu es.length lo a with|some (l,h)=>if k'=k then if mx.isNone then some (.sl k ((es.take h).drop l))else if xx mx h then some (.e9 k ((es.take h).drop l))else none else none|none=>none
 |.e9 k' es=>match gu es.length lo a with|some (l,h)=>if k'=k/\(mx.isNone=true\/xx mx h=true)then if mx.isSome=true\/h=es.length then some (.e9 k ((es.take h).drop l))else some (.sl k ((es.take h).drop l))else none|none=>none
 |.ai id k' off len t=>match gu len lo a with|some (l,h)=>if k'=k then if mx.isNone then if t=false\/h=len then if l=0 then some (.ai id k off h t)else if l=h then some (.sl k [])else some (.ai id k (off+l) (h-l) t)else none else if xx mx h=true/\l=0 then some (.ai id k off h true)else none else none|none=>none
 |_=>none
def OJ(x:aa)(lo a:Option aa):Option aa:=match x with
 |.str s=>match gu s.length lo a with|some (l,h)=>some (.str ((s.take h).drop l))|none=>none
 |_=>none
def IV(σ:aL)(n:Nat)(x:aa)(lo a:Option aa):Option bG:=match x with
 |.ref id e 0=>match σ id with
   |some aq=>match aq.els[e]? with
     |some el=>match gu n lo a with|some (l,h)=>if el.cells.length=n/\el.cells.all aa.one=true then some {val:=.sl 1 ((el.cells.take h).drop l),rd:=[id],up:=[(id,some {aq with fr:=true})]}else none|none=>none
     |none=>none
   |none=>none
 |_=>none
def j7(k:Nat)(x i:aa):Option aa:=match i with
 |.int _ i=>match x with|.sl k' es|.e9 k' es=>if k'=k/\0<=i then(es[i.toNat]?).map λ e=>.cr e.cells 0 else none|.ai id k' off len _=>if k'=k/\0<=i/\i<len then some (.ref id (off+i.toNat) 0)else none|_=>none
 |_=>none
def OC(n k:Nat)(x i:aa):Option aa:=match i with|.int _ i=>if 0<=i/\i<n then match x with|.ref id e o=>some (.ref id e (o+i.toNat*k))|.cr cs o=>some (.cr cs (o+i.toNat*k))|_=>none else none|_=>none
def Af(p:Id)(k bytes:Nat)(zero len cap:aa):Option bG:=match len,cap with|.int _ l,.int _ c=>if 0<=l/\l<=c/\c*bytes<=140737488355328/\c<=maxLen/\zero.size=k/\zero.cells.all aa.one=true then some {val:=.ai p k 0 l.toNat false,up:=[(p,some ⟨bM l.toNat zero,k,false⟩)]}else none|_,_=>none
def mj:Bool->aa->Option aa|true,.str s=>some (.int .i64 s.length)|false,.aH=>some (.int .i64 0)|false,.sl _ es=>some (.int .i64 es.length)|false,.e9 _ es=>some (.int .i64 es.length)|false,.ai _ _ _ len _=>some (.int .i64 len)|_,_=>none
def OA:aa->Option aa|.aH=>some (.int .i64 0)|.e9 _ es=>some (.int .i64 es.length)|.ai _ _ _ len true=>some (.int .i64 len)|_=>none
def tC(σ:aL)(id:Id)(off:Nat)(k:Nat)(news:List aa)(v:aa)(rd:List Id):Option bG:=match σ id with|some aq=>if aq.k=k/\off+news.length<=aq.els.length/\aq.fr=false/\(news.all λ e=>e.cells.all aa.one)=true then some {val:=v,rd:=id::rd,up:=[(id,some {aq with els:=aq.els.take off++news++aq.els.drop (off+news.length)})]}else none|none=>none
def IM(σ:aL)(k:Nat)(zero:aa)(x:aa):Option bG:=match x with|.aH=>some {val:=.aJ []}|.ai id k' off len _=>if len=0 then some {val:=.aJ []}else if k'=k/\zero.size=k then tC σ id off k (bM len zero) (.aJ []) []else none|_=>none
def IP(σ:aL)(k:Nat)(d x:aa):Option bG:=match jn σ k x with|none=>none|some (ys,rd)=>match d with|.aH=>some {val:=.int .i64 0,rd}|.ai id k' off len _=>if(ys.take len).isEmpty then some {val:=.int .i64 0,rd}else if k'=k then tC σ id off k (ys.take len) (.int .i64 (ys.take len).length) rd else none|_=>none
def Oz(p:Id)(k bytes:Nat)(zero s n:aa):Option bG:=match s,n with|.aH,.int _ n=>if 0<n/\n*bytes<=140737488355328/\n<=maxLen/\zero.size=k/\zero.cells.all aa.one=true then some {val:=.ai p k 0 n.toNat false,up:=[(p,some ⟨bM n.toNat zero,k,false⟩)]}else none|_,_=>none
def Bn:List aa->Option (List UInt8)|[]=>some []|.int .u8 n::r=>(Bn r).map (UInt8.ofNat n.toNat::·)|_::_=>none
def Dr(σ:aL)(x:aa):Option bG:=match jn σ 1 x with|some (ys,rd)=>(Bn ys).map λ l=>{val:=.str l,rd}|none=>none
def dC(v:Option aa):Option bG:=v.map λ v=>{val:=v}
def wJ:List UInt8->UInt8->Int|[],_=>-1|b::l,c=>if b==c then 0 else if wJ l c==-1 then-1 else wJ l c+1
def OD:aa->aa->Option aa|.str s,.int .u8 c=>some (.int .i64 (wJ s c.toNat.toUInt8))|_,_=>none
def TR(k:Nat):aa->Option Nat|.aH=>some 0|.sl k' es|.e9 k' es=>if k'=k then some es.length else none|.ai _ k' _ len _=>if k'=k then some len else none|_=>none
def oB(σ:aL)(k:Nat)(x:aa)(lo a mx:Option aa):Option aa->Option bG|some v=>dC (some v)|none=>match x,a,mx with
   |.ai id k' off _ false,some h,none=>match σ id with|some aq=>if off<=aq.els.length/\aq.k=k then(gv k (.ai id k' off (aq.els.length-off) false) lo (some h) none).map λ v=>{val:=v,rd:=[id]}else none|none=>none
   |x,some h,some (.int _ m)=>match TR k x with
     |some n=>match gu n lo (some h)with|some (_,r)=>if(r:Int)<=m/\m<=n then some {val:=.top}else none|none=>none
     |none=>none
   |_,_,_=>none
def Dt(σ:aL)(x:aa):Option aa->Option bG|some v=>dC (some v)|none=>match x with
   |.ai id _ off _ false=>match σ id with|some aq=>if off<=aq.els.length then some {val:=.mM (aq.els.length-off),rd:=[id]}else none|none=>none
   |_=>none
def Dx(σ:aL)(x y:aa):Option bG:=match x,y with
 |.ai i _ _ _ _,.ai j _ _ _ _=>if i=j then none else match σ i,σ j with|some _,some b=>if 0<b.k/\0<b.els.length then some {val:=.bool false,rd:=[i,j]}else none|_,_=>none
 |_,_=>none
def cd(σ:aL)(p:Id):dJ aa->Option bG
 |.mv x=>dC (some x)|.pick c a b=>match c with|.bool c=>dC (some (if c then a else b))|_=>none
 |.box x=>if x.cells.all aa.one=true then some {val:=.ref p 0 0,up:=[(p,some ⟨[x],x.size,false⟩)]}else none|.build z g=>dC ((tB z g).map .agg)|.uk k n z g=>match Ab k (bM n z) g with|some es=>if z.size=k/\z.cells.all aa.one=true then(if n=0 then some {val:=.e9 k []}else some {val:=.ai p k 0 n false,up:=[(p,some ⟨es,k,false⟩)]})else none|none=>none
 |.load a n x=>kz σ a n x|.store n x v=>tE σ n x v|.Ct x=>match x with|.ref _ _ _|.cr _ _=>dC (some x)|.fn (.func _) _ _=>dC (some x)|_=>none
 |.bin op h x y=>dC (eS op h x y)|.un op x=>dC (OL op x)|.toInt k x=>match x with|.int _ n=>dC (some (.int k (k.wrap n)))|_=>none
 |.zc x=>match x with|.str _=>dC (some x)|.int _ n=>if 0<=n/\n<128 then dC (some (.str [UInt8.ofNat n.toNat]))else none|_=>none
 |.sQ x=>Dr σ x|.idx x c=>dC (OD x c)|.mP x y=>Dx σ x y|.zu fn a c=>dC (some (.fn fn a c))|.ti k b z l c=>Af p k b z l c|.slice k x lo f mx=>oB σ k x lo f mx (gv k x lo f mx)|.z3 x lo f=>dC (OJ x lo f)|.u9 n x lo f=>IV σ n x lo f|.ux o x=>match x with|.ref id e q=>dC (some (.ref id e (q+o)))|.cr cs q=>dC (some (.cr cs (q+o)))|_=>none
 |.field a o n x=>match x with|.agg cs=>dC (part a cs o n)|_=>none
 |.B1 k x i=>dC (j7 k x i)|.B0 n k x i=>dC (OC n k x i)|.zd x i=>match x,i with|.str s,.int _ i=>if 0<=i then dC ((s[i.toNat]?).map λ b=>.int .u8 b.toNat)else none|_,_=>none
 |.B4 a n k x i=>match x,i with|.agg cs,.int _ i=>if 0<=i/\i<n then dC (part a cs (i.toNat*k) k)else none|_,_=>none
 |.extract x i=>match x with|.aJ vs=>dC vs[i]?|_=>none
 |.len b x=>dC (mj b x)|.Cc n _=>dC (some (.int .i64 n))|.append k b s x=>sg σ p k b s x|.min x y=>match x,y with|.int k a,.int _ b=>dC (some (.int k (if b<a then b else a)))|_,_=>none
 |.max x y=>match x,y with|.int k a,.int _ b=>dC (some (.int k (if b>a then b else a)))|_,_=>none
 |.cap x=>Dt σ x (OA x)|.clear k z x=>IM σ k z x|.copy k d x=>IP σ k d x|.vY k b z s n=>Oz p k b z s n|.bad=>none|.call _ _=>none
def nr:Nat->Value->Option aa|0,_=>none|n+1,v=>match v with|.bool b=>some (.bool b)|.int k i=>some (.int k i)|.string s=>some (.str s.data.toList)|.pointer none=>some .iX|.nilFunc=>some .jM|.slice none 0 0=>some .aH|.agg cs=>(cs.toList.mapM (nr n)).map .agg|.tuple cs=>(cs.toList.mapM (nr n)).map .aJ|_=>none
def b8:Operand->Option dD|.tmp t=>some (.t t)|.const v=>(nr 3 v).map .c|.global g=>some (.g g)|.func f=>some (.f f)
def wi(xs:Array Operand):Option (List dD):=xs.toList.mapM b8
def lj:Option Operand->Option (Option dD)|none=>some none|some x=>(b8 x).map some
def oi(P:Program)(t:TypeId):Option Bool:=match P.underlying t with|some (.struct _)|some (.array _ _)=>some true|some _=>some false|none=>none
def z1(P:Program)(t:TypeId):Option c2:=match P.underlying t with|some (.int _)=>some .int|some .string=>some .str|some .bool=>some .bool|some (.pointer _)=>some .ptr|some (.slice _)=>some .slice|some (.func _ _ _)=>some .func|_=>none
def mn(P:Program)(t:TypeId):Option aa:=match P.info? t with
 |some i=>match i.zero with
   |some z=>match nr 3 z with|some a=>if a.size=i.size/\a.cells.all aa.one=true then some a else none|none=>none
   |none=>none
 |none=>none
def NG:Option TypeDesc->Bool|some (.slice _)=>true|_=>false
def Fm(P:Program)(b:Builtin)(args:Array Operand)(c:Array TypeId):Option (dJ dD):=match b,args.toList,c.toList with
 |.len,[x],[t]=>match P.underlying t with|some .string=>(b8 x).map (.len true)|some (.slice _)=>(b8 x).map (.len false)|some (.array n _)=>(b8 x).map (.Cc n)|_=>none
 |.append,[s,x],[t,a]=>match P.underlying t with
   |some (.slice e)=>match P.info? e with
     |some i=>if NG (P.underlying a)=true/\0<i.size/\0<i.bytes/\(mn P e).isSome then match b8 s,b8 x with|some s,some x=>some (.append i.size i.bytes s x)|_,_=>none else match P.underlying a,mn P e,b8 s,b8 x with|some (.int _),some z,some s,some x=>if 0<i.size then some (.vY i.size i.bytes z s x)else none|_,_,_,_=>none
     |none=>none
   |_=>none
 |.cap,[x],[t]=>match P.underlying t with|some (.slice _)=>(b8 x).map .cap|_=>none
 |.clear,[x],[t]=>match P.underlying t with
   |some (.slice e)=>match mn P e,b8 x with|some z,some x=>if 0<z.size then some (.clear z.size z x)else none|_,_=>none
   |_=>none
 |.copy,[d,x],[t,_]=>match P.underlying t with
   |some (.slice e)=>match P.info? e with|some i=>if 0<i.size then match b8 d,b8 x with|some d,some x=>some (.copy i.size d x)|_,_=>none else none|none=>none
   |_=>none
 |.min,[x,y],_=>match b8 x,b8 y with|some x,some y=>some (.min x y)|_,_=>none
 |.max,[x,y],_=>match b8 x,b8 y with|some x,some y=>some (.max x y)|_,_=>none
 |_,_,_=>none
inductive EO where|idx|mP
def Cr(n:String):Bool:=(Extern.allGenericRows.lookup n).isNone&&(Extern.allTypedRows.lookup n).isNone&&(Extern.allRows.lookup n).isNone&&(Extern.allNextRows.lookup n).isNone&&!(n== "runtime.NumGoroutine")
def BD(P:Program):Operand->Option EO
 |.func f=>match P.funcs[f]? with|some fn=>if fn.body.isNone=true then if fn.name== "internal/bytealg.IndexByteString"&&fn.origin== ""then some .idx else if fn.origin== "slices.overlaps"&&Cr fn.name then match fn.params[0]? with
         |some t=>match P.underlying t with|some (.slice e)=>if(P.info? e).isSome then some .mP else none|_=>none
         |none=>none else none else none|none=>none
 |_=>none
def Fo(k:EO):List Operand->Option (dJ dD)
 |[x,y]=>match b8 x,b8 y with|some x,some y=>some (match k with|.idx=>.idx x y|.mP=>.mP x y)|_,_=>none
 |_=>none
def gE(P:Program):Op->Option (dJ dD)
 |.move x|.assign x=>(b8 x).map .mv|.pick c a b=>match b8 c,b8 a,b8 b with|some c,some a,some b=>some (.pick c a b)|_,_,_=>none
 |.alloc t=>(mn P t).map λ z=>.box (.c z)|.box _ x=>(b8 x).map .box|.build t m=>match P.underlying t,mn P t,m.toList.mapM λ p=>(b8 p.2).map (p.1,·)with
   |some (.struct fs),some z,some m=>match fs.toList.mapM (λ f=>(P.info? f.type).map λ i=>(f.offset,i.size))with|some j=>(m.mapM λ(p:Nat×dD)=>(j[p.1]?).map λ q=>(q.1,q.2,p.2)).map (.build z.cells)|none=>none
   |some (.array _ e),some z,some m=>match P.info? e with|some i=>some (.build z.cells (m.map λ p=>(p.1*i.size,i.size,p.2)))|none=>none
   |_,_,_=>none
 |.buildSlice t n m=>match P.underlying t,m.toList.mapM λ p=>(b8 p.2).map (p.1,·)with
   |some (.slice e),some m=>match P.info? e,mn P e with|some i,some z=>if n*i.size<=16777216/\0<i.size/\n<=maxLen then some (.uk i.size n z m)else none|_,_=>none
   |_,_=>none
 |.load t x=>match oi P t,P.info? t,b8 x with|some a,some i,some x=>if a=true\/i.size=1 then some (.load a i.size x)else none|_,_,_=>none
 |.store t x v=>match P.info? t,b8 x,b8 v with|some i,some x,some v=>some (.store i.size x v)|_,_,_=>none
 |.nilCheck x=>(b8 x).map .Ct|.binOp op t x y _=>match z1 P t,b8 x,b8 y with|some o,some x,some y=>some (.bin op o x y)|_,_,_=>none
 |.unOp op _ x=>(b8 x).map (.un op)|.convert s d x=>match P.underlying s,P.underlying d with
   |some (.int _),some (.int k)=>(b8 x).map (.toInt k)|some .string,some .string=>(b8 x).map .zc|some (.int _),some .string=>(b8 x).map .zc|some (.slice e),some .string=>match P.underlying e with|some (.int .u8)=>(b8 x).map .sQ|_=>none
   |_,_=>none
 |.makeFunc fn a c=>match wi a,wi c with|some a,some c=>some (.zu fn a c)|_,_=>none
 |.makeSlice t l c=>match P.underlying t with
   |some (.slice e)=>match P.info? e,mn P e,b8 l,b8 c with|some i,some z,some l,some c=>if 0<i.size/\0<i.bytes then some (.ti i.size i.bytes z l c)else none|_,_,_,_=>none
   |_=>none
 |.slice t x lo h mx=>match P.underlying t with
   |some (.slice e)=>match P.info? e,b8 x,lj lo,lj h,lj mx with|some i,some x,some lo,some h,some mx=>if mx.isSome->h.isSome then some (.slice i.size x lo h mx)else none|_,_,_,_,_=>none
   |some .string=>match b8 x,lj lo,lj h,mx with|some x,some lo,some h,none=>some (.z3 x lo h)|_,_,_,_=>none
   |some (.array n e)=>match P.info? e,b8 x,lj lo,lj h,mx with|some i,some x,some lo,some h,none=>if i.size=1/\n<=maxLen then some (.u9 n x lo h)else none|_,_,_,_,_=>none
   |_=>none
 |.fieldAddr s x f=>match P.underlying s with
   |some (.struct fs)=>match fs[f]? with
     |some fd=>match P.info? fd.type,b8 x with|some i,some x=>if i.size=0 then none else some (.ux fd.offset x)|_,_=>none
     |none=>none
   |_=>none
 |.field s x f=>match P.underlying s with
   |some (.struct fs)=>match fs[f]? with
     |some fd=>match oi P fd.type,P.info? fd.type,b8 x with|some a,some i,some x=>some (.field a fd.offset i.size x)|_,_,_=>none
     |none=>none
   |_=>none
 |.indexAddr t x g=>match P.underlying t with
   |some (.slice e)=>match P.info? e,b8 x,b8 g with|some i,some x,some g=>some (.B1 i.size x g)|_,_,_=>none
   |some (.array n e)=>match P.info? e,b8 x,b8 g with|some i,some x,some g=>some (.B0 n i.size x g)|_,_,_=>none
   |_=>none
 |.index t x g=>match P.underlying t with
   |some .string=>match b8 x,b8 g with|some x,some g=>some (.zd x g)|_,_=>none
   |some (.array n e)=>match oi P e,P.info? e,b8 x,b8 g with|some a,some i,some x,some g=>some (.B4 a n i.size x g)|_,_,_,_=>none
   |_=>none
 |.extract x i=>(b8 x).map (.extract · i)|.call c=>match c.callee with
   |.value f=>match BD P f with
     |none=>match b8 f,wi c.args with|some f,some r=>some (.call f r)|_,_=>none
     |some k=>Fo k c.args.toList
   |.builtin b=>Fm P b c.args c.argTypes|.invoke _ _=>none
 |_=>none
def um(P:Program)(o:Op):Option (dJ dD):=match gE P o with|some v=>some v|none=>some .bad
structure dK where
 dst:Option Nat
 op:dJ dD
 guard:Option (Nat×Bool):=none
inductive cw where|skip|mU(arB:Option (List (Nat×Nat)))(ops:List dK)|seq(a b:cw)|cond(c:dD)(a b:cw)|block(id:Nat)(c:cw)|loop(c:cw)|exit(id:Nat)|ret
inductive n5 where|tmp(t:Nat)|cell(x:Nat)(agg:Bool)(n:Nat)
structure dO where
 aK:Nat
 results:List n5
 body:cw
def dJ.args{α:Type}:dJ α->List α|.mv x=>[x]|.pick c a b=>[c,a,b]|.box x=>[x]|.build _ g=>g.map λ p=>p.2.2|.uk _ _ _ g=>g.map λ p=>p.2|.load _ _ x=>[x]|.store _ x v=>[x,v]|.Ct x=>[x]|.bin _ _ x y=>[x,y]|.un _ x=>[x]|.toInt _ x=>[x]|.zc x=>[x]|.sQ x=>[x]|.idx x c=>[x,c]|.mP x y=>[x,y]|.zu _ a c=>a++c|.ti _ _ _ l c=>[l,c]|.slice _ x lo e mx=>x::(lo.toList++e.toList++mx.toList)|.z3 x lo e=>x::(lo.toList++e.toList)|.u9 _ x lo e=>x::(lo.toList++e.toList)|.ux _ x=>[x]|.field _ _ _ x=>[x]|.B1 _ x i=>[x,i]|.B0 _ _ x i=>[x,i]|.zd x i=>[x,i]|.B4 _ _ _ x i=>[x,i]|.extract x _=>[x]|.len _ x=>[x]|.Cc _ x=>[x]|.append _ _ s x=>[s,x]|.min x y=>[x,y]|.max x y=>[x,y]|.cap x=>[x]|.clear _ _ x=>[x]|.copy _ d x=>[d,x]|.vY _ _ _ s n=>[s,n]|.bad=>[]|.call f h=>f::h
def dJ.pure{α:Type}:dJ α->Bool|.box _|.uk ..|.load ..|.store ..|.ti ..|.append ..|.vY ..|.clear ..|.copy ..|.sQ ..|.mP ..|.slice ..|.u9 ..|.cap ..|.call ..=>false|_=>true
def dJ.rK{α:Type}:dJ α->Bool|.load ..|.sQ ..|.mP ..|.slice ..|.cap ..=>true|_=>false
def dD.XF:dD->Option Nat|.t n=>some n|_=>none
def dK.names(o:dK):List Nat:=o.op.args.filterMap dD.XF++(o.guard.map (·.1)).toList
def ia:List (List Nat)->List Nat->List Nat|[],a=>a|l::r,a=>ia r (a++[l.foldl (λ s i=>s|||2^i|||a.getD i 0) 0])
def E9(n:Nat):List (Nat×Nat):=(a8 n).flatMap λ j=>(a8 j).map λ i=>(i,j)
def uq(a b:dK):Bool:=(match a.dst with|some d=>b.names.contains d||b.dst==some d|none=>false)||(match b.dst with|some d=>a.names.contains d|none=>false)
def Hw(ops:List dK)(c:List (List Nat)):Bool:=let d:=ia c [];c.length==ops.length&&((a8 ops.length).all λ j=>(c.getD j []).all λ i=>i<j)&&(E9 ops.length).all λ p=>match ops[p.1]?,ops[p.2]? with|some a,some b=>!uq a b||(d.getD p.2 0).testBit p.1|_,_=>true
def FW(ops:List dK)(c:List (List Nat)):List (Nat×Nat):=let d:=ia c [];(E9 ops.length).filter λ p=>match ops[p.1]?,ops[p.2]? with|some a,some b=>!a.op.pure&&!b.op.pure&&!(a.op.rK&&b.op.rK)&&!(d.getD p.2 0).testBit p.1|_,_=>false
def rr(P:Program)(ops:Array Oper)(o:Oper):Option dK:=match um P o.op,o.guard with
 |some op,none=>some {dst:=o.dst,op}|some op,some (j,a)=>match(ops[j]?).bind (·.dst)with|some d=>some {dst:=o.dst,op,guard:=some (d,a)}|none=>none
 |none,_=>none
def rW(o:Oper):List Nat:=(o.after.toList.filter (Region.binds .any)).map (·.on)
def o5(P:Program)(ops:Array Oper)(a:Bool):Option cw:=match ops.toList.mapM (rr P ops)with|none=>none|some vs=>if a then let b:=ops.toList.map rW;if Hw vs b&&P.follows .mixedOrders then some (.mU (some (FW vs b)) vs)else none else some (.mU none vs)
def gi(P:Program):Code->Option cw
 |.skip=>some .skip|.region _ ops d=>o5 P ops d|.seq a b=>match gi P a,gi P b with|some a,some b=>some (.seq a b)|_,_=>none
 |.cond c a b=>match b8 c,gi P a,gi P b with|some c,some a,some b=>some (.cond c a b)|_,_,_=>none
 |.block id c=>(gi P c).map (.block id)|.loop c=>(gi P c).map .loop|.exit id=>some (.exit id)|.ret=>some .ret|_=>none
def Bp(P:Program):ResultVar->Option n5|.tmp t=>some (.tmp t)|.cell a t=>match oi P t,P.info? t with|some g,some i=>if g=true\/i.size=1 then some (.cell a g i.size)else none|_,_=>none
def wj(P:Program)(fn:Func):Option dO:=if fn.name== "runtime.NumGoroutine"then none else match fn.body,fn.results.toList.mapM (Bp P)with|some c,some d=>(gi P c).map λ b=>{aK:=fn.ntmps,results:=d,body:=b}|_,_=>none
structure k9(G:Nat->Option (List aa))(own:Nat->Prop)(E:Env)(w:World)(σ:aL)(p:Id)(r:bG)(v:Value)(E':Env)(w':World):Prop where
 iO:Adv own E E' w w'
 inv:Inv G own E' w' (σ.app r.up)rep:av E' w' r.val v
 ids:∀i:Id,¬p<:+i->E'.μ i=E.μ i
def Sound(P:Program)(G:Nat->Option (List aa))(own:Nat->Prop)(E:Env)(w:World)(σ:aL)(p:Id)(s:Sem Value)(r:bG):Prop:=∃v w' E',s.run P w=.ok v w'/\k9 G own E w σ p r v E' w'
section
variable{P:Program}{G:Nat->Option (List aa)}{own:Nat->Prop}{E:Env}{w:World}{σ:aL}{p:Id}
def Sound.same{s:Sem Value}{c:aa}{v:Value}{rd:List Id}(h:Inv G own E w σ)(a:s.run P w=.ok v w)(b:av E w c v):Sound P G own E w σ p s {val:=c,rd:=rd}:=⟨v,w,E,a,Adv.refl own E w,h,b,λ _ _=>rfl⟩
def Sound.MQ{s:Sem Value}{ot:Option aa}{r:bG}(h:dC ot=some r)(k:∀c,ot=some c->Sound P G own E w σ p s {val:=c}):Sound P G own E w σ p s r:=by cases ot with|none=>simp[dC]at h|some c=>simp only[dC,fb,a9]at h;subst h;exact k c rfl
def uR{α β:Type}{f:α->Option β}:∀{l:List α}{r:List β},l.mapM f=some r->r.length=l.length|[],r,h=>by simp at h;simp[<-h]|a::l,r,h=>by simp only[tQ,x3,JE,x6]at h;have⟨b,_,e,d,c⟩:=h;cases c;simp[uR d]
def mapM_some_get{α β:Type}{f:α->Option β}:∀{l:List α}{r:List β},l.mapM f=some r->∀(i:Nat)(b:β),r[i]?=some b->∃a,l[i]?=some a/\f a=some b|[],r,h,i,b,hb=>by simp at h;subst h;simp at hb|a::l,r,h,i,b,hb=>by simp only[tQ,x3,JE,x6]at h;have⟨c,h1,g,e,d⟩:=h;cases d;cases i with|zero=>simp at hb;subst hb;exact⟨a,rfl,h1⟩|succ i=>simpa using mapM_some_get e i b (by simpa using hb)
def air{β:Type}{f:β->Option aa}{val:β->Value}(h:∀x c,f x=some c->av E w c (val x)){l:List β}{r:List aa}(b:l.mapM f=some r):bc E w r (l.map val):=by refine fi.2 ⟨by simp[uR b],λ j c d=>?_⟩;have⟨a,h1,e⟩:=mapM_some_get b j c d;exact⟨val a,by simp[h1],h a c e⟩
def sT:∀{n:Nat}{v:Value}{c:aa},nr n v=some c->av E w c v
 |0,_,_,h=>by simp[nr]at h|n+1,v,c,h=>by
   have d:∀x c,nr n x=some c->av E w c x:=λ x c h=>sT h;have b:∀{cs:List Value}{r:List aa},cs.mapM (nr n)=some r->bc E w r cs:=by intro cs r a;simpa using air (val:=id) d a
   unfold nr at h;split at h;cases h;simp[av];cases h;simp[av];cases h;simp[av];cases h;simp[av];cases h;simp[av];cases h;simp[av];rename_i cs;cases a:cs.toList.mapM (nr n)with|none=>simp[a]at h|some r=>simp only[a,fb,a9]at h;subst h;simp only[av];exact⟨cs,rfl,b a⟩
   rename_i cs;cases a:cs.toList.mapM (nr n)with|none=>simp[a]at h|some r=>simp only[a,fb,a9]at h;subst h;simp only[av];exact⟨cs,rfl,b a⟩
   simp at h
def gb(E:Env)(w:World)(t:List aa)(a:Act):Prop:=bc E w t a.tmps.toList
def gb.get{t:List aa}{a:Act}(h:gb E w t a)(n:Nat):av E w (t.getD n (.aJ [])) (a.tmps.getD n undef):=by
 have⟨e,d⟩:=fi.1 h;by_cases b:n<t.length;have⟨v,c,f⟩:=d n t[n] (by simp[b]);have:a.tmps.getD n undef=v:=by rw[sx];simp at c;simp[c]
 rw[this];simpa[List.getD,b]using f;have h1:t.getD n (.aJ [])=.aJ []:=by simp[List.getD,Nat.le_of_not_lt b]
 have g:a.tmps.getD n undef=undef:=by
   rw[sx];have:a.tmps.size<=n:=by have:=e;simp at this;omega
   simp[this]
 rw[h1,g];simp only[av,undef];exact⟨#[],rfl,by simp[bc]⟩
def de{t:List aa}{a:Act}(l:gb E w t a)(m:Inv G own E w σ){x:Operand}{fZ:dD}(h:b8 x=some fZ):av E w (fZ.ev G t) (a.eval x):=by cases x with
 |tmp n=>simp only[b8,a9]at h;subst h;exact l.get n|const v=>simp only[b8]at h;cases e:nr 3 v with|none=>simp[e]at h|some c=>simp only[e,fb,a9]at h;subst h;exact sT e
 |global g=>simp only[b8,a9]at h;subst h;simp only[dD.ev,Act.eval];cases o:G g with|none=>simp[av]|some cs=>have⟨h1,j⟩:=m.jq g cs o;simp only[av];exact⟨g,0,rfl,h1,eF.keep (ff.an3 E w) rfl cs 0 j⟩
 |func f=>simp only[b8,a9]at h;subst h;simp only[dD.ev,Act.eval,av];exact⟨#[],#[],rfl,by simp[bc],by simp[bc]⟩
def Kr{t:List aa}{a:Act}(f:gb E w t a)(e:Inv G own E w σ){xs:Array Operand}{vs:List dD}(h:wi xs=some vs):bc E w (vs.map (dD.ev G t)) (xs.map a.eval).toList:=by unfold wi at h;refine fi.2 ⟨by simp[uR h],λ j c d=>?_⟩;simp only[kZ,et]at d;obtain⟨fZ,b,rfl⟩:=d;have⟨x,h1,g⟩:=mapM_some_get h j fZ b;refine⟨a.eval x,?_,de f e g⟩;simp at h1;simp[h1]
def GN{t:TypeId}{b:Bool}(h:oi P t=some b)(w:World):(isAgg t).run P w=.ok b w:=by unfold oi at h;cases hu:P.underlying t with|none=>simp[hu]at h|some d=>cases d<;>simp[hu]at h<;>subst h<;>simp[isAgg,run_underlying hu]
def m0{t:TypeId}{i:TypeInfo}(h:P.info? t=some i)(w:World):(sizeOf t).run P w=.ok i.size w:=by simp[sizeOf,typeInfo,h]
def xK{t:TypeId}{z:aa}(h:mn P t=some z):∃i v,P.info? t=some i/\i.zero=some v/\nr 3 v=some z/\z.size=i.size/\z.cells.all aa.one=true:=by unfold mn at h;cases d:P.info? t with|none=>simp[d]at h|some i=>simp only[d]at h;cases c:i.zero with|none=>simp[c]at h|some v=>simp only[c]at h;cases b:nr 3 v with|none=>simp[b]at h|some a=>simp only[b]at h;split at h;rename_i e;cases h;exact⟨i,v,rfl,c,b,e.1,e.2⟩;simp at h
def Y5{t:TypeId}{i:TypeInfo}{v:Value}(h:P.info? t=some i)(a:i.zero=some v)(w:World):(zeroValue t).run P w=.ok v w:=by simp[zeroValue,typeInfo,h,a]
def tl{c:aa}(h:c.cells.all aa.one=true):c.one=true\/∃cs,c=.agg cs:=by cases c<;>simp[aa.cells,aa.one]at h⊢
def akl{a:Bool}{cs:List aa}{o n:Nat}{c:aa}(h:part a cs o n=some c){xs:Array Value}(l:bc E w cs xs.toList):av E w c (if a then .agg (xs.extract o (o+n))else xs.getD o undef)/\o+n<=xs.size/\(a=false->n=1):=by
 have⟨k,i⟩:=fi.1 l;unfold part at h;split at h;rename_i q;refine⟨?_,by simp at k;omega,?_⟩;cases a with|true=>simp only[if_true,a9]at h⊢;subst h;simp only[av];refine⟨_,rfl,fi.2 ⟨by simp at k⊢;omega,λ j d f=>?_⟩⟩;rw[Pv]at f;split at f;rename_i g;rw[sq]at f;have⟨v,e,b⟩:=i _ _ f;refine⟨v,?_,b⟩;simp at e;have:o+j<xs.size:=(xN.1 e).1;simp only[Array.toList_extract,Z8,Nat.add_sub_cancel_left];rw[vo g,sq];simpa using e;simp at f|false=>simp only[iL,if_false]at h⊢;split at h;have⟨v,e,b⟩:=i _ _ h;rw[sx];simp at e;simpa[e]using b;simp at h
 intro m;subst m;simp only[iL,if_false]at h;split at h;assumption;simp at h;simp at h
def j2:aa->Value|.bool b=>.bool b|.int k n=>.int k n|.str l=>.string ⟨l.toArray⟩|_=>undef
def aa.plain:aa->Bool|.bool _|.int _ _|.str _=>true|_=>false
def Wc{c:aa}(h:c.plain=true):av E w c (j2 c):=by cases c<;>simp[aa.plain]at h<;>simp[av,j2]
def Ys{op:BinOp}{k k':IntKind}{a b:Int}{t:TypeId}{c:aa}(g:op=.shl\/op=.shr\/k=k')(h:pK op k a b=some c)(w:World):(binOp op t (.int k a) (.int k' b)).run P w=.ok (j2 c) w/\c.plain=true:=by
 cases op<;>simp only[pK]at h;case shl=>split at h<;>simp only[a9,reduceCtorEq]at h;subst h;rename_i hb;exact⟨by simp only[binOp_shl,Op.shift,hb,if_false];rfl,rfl⟩
 case shr=>split at h<;>simp only[a9,reduceCtorEq]at h;subst h;rename_i hb;exact⟨by simp only[binOp_shr,Op.shift,hb,if_false];rfl,rfl⟩
 all_goals obtain rfl:=(by simpa using g:k=k')
 case quo=>split at h<;>simp only[a9,reduceCtorEq]at h;subst h;rename_i hb;exact⟨by simp[binOp_quo,Op.intDiv,hb,j2],rfl⟩
 case rem=>split at h<;>simp only[a9,reduceCtorEq]at h;subst h;rename_i hb;exact⟨by simp[binOp_rem,Op.intDiv,hb,j2],rfl⟩
 case and=>simp only[sO,fb,a9]at h;subst h;exact⟨by simp[binOp_and,Et,j2],rfl⟩
 case or=>simp only[sO,fb,a9]at h;subst h;exact⟨by simp[binOp_or,Et,j2],rfl⟩
 case xor=>simp only[sO,fb,a9]at h;subst h;exact⟨by simp[binOp_xor,Et,j2],rfl⟩
 case andNot=>simp only[sO,fb,a9]at h;subst h;exact⟨by simp[binOp_andNot,Et,j2],rfl⟩
 all_goals(cases h;refine⟨?_,rfl⟩)
 all_goals simp[binOp,Op.intArith,Op.intCmp,j2]
def ao4{op:BinOp}{a b:List UInt8}{t:TypeId}{c:aa}(h:OK op a b=some c)(w:World):(binOp op t (.string ⟨a.toArray⟩) (.string ⟨b.toArray⟩)).run P w=.ok (j2 c) w/\c.plain=true:=by
 cases op<;>simp only[OK,reduceCtorEq]at h;case add=>
   split at h;rename_i d;cases h;refine⟨?_,rfl⟩;have h1:¬(((vy a.toArray).size+(vy b.toArray).size:Nat):Int)>IntKind.i64.max:=by simp only[IntKind.max_i64,aaf,qQ];unfold maxLen at d;omega
   simp only[binOp,Op.stringOp,h1,if_false,j2,Sem.run_pure];congr 2;simp at h
 all_goals(cases h;refine⟨?_,rfl⟩;simp[binOp,Op.stringOp,j2])
def X0{t:TypeId}{d:c2}(h:z1 P t=some d):match d with|.int=>∃k,P.underlying t=some (.int k)|.str=>P.underlying t=some .string|.bool=>P.underlying t=some .bool|.ptr=>∃e,P.underlying t=some (.pointer e)|.slice=>∃e,P.underlying t=some (.slice e)|.func=>∃a b c,P.underlying t=some (.func a b c):=by unfold z1 at h;split at h<;>simp only[a9,reduceCtorEq]at h<;>subst h<;>simp_all
def RI(op:BinOp)(t:TypeId)(x y:Operand)(a b:Value)(c:a≠.nilIface)(hb:∀cs,a≠.agg cs)(w:World):(eqGuard op t x y a b).run P w=.ok () w:=by unfold eqGuard;cases op<;>cases a<;>first|rfl|exact absurd rfl c|exact absurd rfl (hb _)
variable{t:TypeId}(d:Nat)
def adB(hu:P.underlying t=some .bool)(a b:Bool):(jg (d+1) t (.bool a) (.bool b)).run P w=.ok (a==b) w:=by simp[jg,run_underlying hu]
def adF{e:TypeId}(hu:P.underlying t=some (.pointer e)):(jg (d+1) t (.pointer none) (.pointer none)).run P w=.ok true w:=by simp[jg,run_underlying hu]
def RJ{e:TypeId}(hu:P.underlying t=some (.pointer e))(a:Addr):(jg (d+1) t (.pointer none) (.pointer (some a))).run P w=.ok false w:=by simp[jg,run_underlying hu]
def RL{e:TypeId}(hu:P.underlying t=some (.pointer e))(a:Addr):(jg (d+1) t (.pointer (some a)) (.pointer none)).run P w=.ok false w:=by simp[jg,run_underlying hu]
def adG{e:TypeId}(hu:P.underlying t=some (.slice e)):(jg (d+1) t (.slice none 0 0) (.slice none 0 0)).run P w=.ok true w:=by simp[jg,run_underlying hu]
def adH{e:TypeId}(hu:P.underlying t=some (.slice e))(a:Addr)(n m:Nat):(jg (d+1) t (.slice none 0 0) (.slice (some a) n m)).run P w=.ok false w:=by simp[jg,run_underlying hu]
def KU{e:TypeId}(hu:P.underlying t=some (.slice e))(a:Addr)(n m:Nat):(jg (d+1) t (.slice (some a) n m) (.slice none 0 0)).run P w=.ok false w:=by simp[jg,run_underlying hu]
def adC{e f:Array TypeId}{g:Bool}(hu:P.underlying t=some (.func e f g)):(jg (d+1) t .nilFunc .nilFunc).run P w=.ok true w:=by simp[jg,run_underlying hu]
def adD{e f:Array TypeId}{g:Bool}(hu:P.underlying t=some (.func e f g))(x:Fn)(y z:Array Value):(jg (d+1) t .nilFunc (.func x y z)).run P w=.ok false w:=by simp[jg,run_underlying hu]
def adE{e f:Array TypeId}{g:Bool}(hu:P.underlying t=some (.func e f g))(x:Fn)(y z:Array Value):(jg (d+1) t (.func x y z) .nilFunc).run P w=.ok false w:=by simp[jg,run_underlying hu]
def mG{op:BinOp}{t:TypeId}{a b:Value}{r:Bool}{c:aa}(g:∀(k:IntKind)n,a≠.int k n)(i:∀s,a≠.string s)(h:∀k n,a≠.float k n)(e:∀k n m,a≠.complex k n m)(d:(jg (9999+1) t a b).run P w=.ok r w)(f:(match op with|.eql=>some (aa.bool r)|.neq=>some (aa.bool !r)|_=>none)=some c):(binOp op t a b).run P w=.ok (j2 c) w/\c.plain=true:=by have j:(Op.equal t a b).run P w=.ok r w:=d;clear d;cases op<;>simp only[reduceCtorEq]at f;all_goals cases f;refine⟨?_,rfl⟩;cases a<;>first|exact absurd rfl (g _ _)|exact absurd rfl (i _)|exact absurd rfl (h _ _)|exact absurd rfl (e _ _ _)|simp[binOp,j,j2]
def aoB{op:BinOp}{t:TypeId}{l:c2}(j:z1 P t=some l){x y c:aa}{a b:Value}(h:lG op l x y=some c)(d:av E w x a)(i:av E w y b):(binOp op t a b).run P w=.ok (j2 c) w/\c.plain=true/\a≠.nilIface/\(∀cs,a≠.agg cs):=by have hu:=X0 j;unfold lG at h;split at h;simp only[av]at d i;subst d;subst i;split at h;rename_i m;obtain⟨h1,k⟩:=Ys (t:=t) (P:=P) (by simpa using m) h w;exact⟨h1,k,am,am⟩;simp at h;simp only[av]at d i;subst d;subst i;have⟨h1,k⟩:=ao4 (t:=t) (P:=P) h w;exact⟨h1,k,am,am⟩;simp only[av]at d i;subst d;subst i;rename_i a b;refine and_assoc.1 ⟨?_,am,am⟩;exact mG (r:=a==b) am am am am (adB _ hu _ _) h;have⟨e,hu⟩:=hu;simp only[av]at d i;subst d;subst i;refine and_assoc.1 ⟨?_,am,am⟩;exact mG (r:=true) am am am am (adF _ hu) h;have⟨e,hu⟩:=hu;simp only[av]at d i;subst i;obtain⟨_,_,_,_,rfl⟩:=d;refine and_assoc.1 ⟨?_,am,am⟩;exact mG (r:=false) am am am am (RL _ hu _) h;have⟨e,hu⟩:=hu;simp only[av]at d i;subst d;obtain⟨_,_,_,_,rfl⟩:=i;refine and_assoc.1 ⟨?_,am,am⟩;exact mG (r:=false) am am am am (RJ _ hu _) h;have⟨e,hu⟩:=hu;simp only[av]at d i;subst i;obtain⟨_,_,rfl,_⟩:=d;refine and_assoc.1 ⟨?_,am,am⟩;exact mG (r:=false) am am am am (RL _ hu _) h;have⟨e,hu⟩:=hu;simp only[av]at d i;subst d;obtain⟨_,_,rfl,_⟩:=i;refine and_assoc.1 ⟨?_,am,am⟩;exact mG (r:=false) am am am am (RJ _ hu _) h;obtain⟨e,hu⟩:=hu;simp only[av]at d i;subst d;subst i;refine and_assoc.1 ⟨?_,am,am⟩;exact mG (r:=true) am am am am (adG _ hu) h;obtain⟨e,hu⟩:=hu;simp only[av]at d i;subst i;obtain⟨_,_,_,_,rfl,_⟩:=d;refine and_assoc.1 ⟨?_,am,am⟩;exact mG (r:=false) am am am am (KU _ hu _ _ _) h;obtain⟨e,hu⟩:=hu;simp only[av]at d i;subst d;obtain⟨_,_,_,_,rfl,_⟩:=i;refine and_assoc.1 ⟨?_,am,am⟩;exact mG (r:=false) am am am am (adH _ hu _ _ _) h;obtain⟨e,hu⟩:=hu;simp only[av]at d i;subst i;obtain⟨a,cap,rfl,_,_,_,d⟩:=d;simp only[reduceCtorEq,false_or]at d;obtain⟨b,o,rfl,_⟩:=d;refine and_assoc.1 ⟨?_,am,am⟩;exact mG (r:=false) am am am am (KU _ hu _ _ _) h;obtain⟨e,hu⟩:=hu;simp only[av]at d i;subst i;obtain⟨a,rfl,_,_,d⟩:=d;simp only[reduceCtorEq,false_or]at d;obtain⟨b,o,rfl,_⟩:=d;refine and_assoc.1 ⟨?_,am,am⟩;exact mG (r:=false) am am am am (KU _ hu _ _ _) h;obtain⟨e,f,g,hu⟩:=hu;simp only[av]at d i;subst d;subst i;refine and_assoc.1 ⟨?_,am,am⟩;exact mG (r:=true) am am am am (adC _ hu) h;obtain⟨e,f,g,hu⟩:=hu;simp only[av]at d i;subst i;obtain⟨_,_,rfl,_⟩:=d;refine and_assoc.1 ⟨?_,am,am⟩;exact mG (r:=false) am am am am (adE _ hu _ _ _) h;obtain⟨e,f,g,hu⟩:=hu;simp only[av]at d i;subst d;obtain⟨_,_,rfl,_⟩:=i;refine and_assoc.1 ⟨?_,am,am⟩;exact mG (r:=false) am am am am (adD _ hu _ _ _) h;simp at h
def adI{P:Program}{w:World}{t e:TypeId}{d:Nat}(hu:P.underlying t=some (.slice e))(a:Option Addr)(n m:Nat):(jg (d+1) t (.slice a n m) (.slice none 0 0)).run P w=.ok a.isNone w:=by cases a<;>simp[jg,run_underlying hu]
def aoX{op:BinOp}{t:TypeId}{i:c2}(g:z1 P t=some i){x y c:aa}{a b:Value}(h:OI op i x y=some c)(d:av E w x a)(f:av E w y b):(∃r,av E w c (.bool r)/\(binOp op t a b).run P w=.ok (.bool r) w)/\a≠.nilIface/\(∀cs,a≠.agg cs):=by
 have hu:=X0 g;have key:∀(a:Option Addr)(n m:Nat)(op:BinOp)(c:aa)(e:TypeId),P.underlying t=some (.slice e)->(match op with|.eql|.neq=>some aa.jC|_=>none)=some c->∃r,av E w c (.bool r)/\(binOp op t (.slice a n m) (.slice none 0 0)).run P w=.ok (.bool r) w:=by intro a n m op c e hu h;have j:=λ r=>mG (P:=P) (w:=w) (op:=op) (t:=t) (a:=.slice a n m) (b:=.slice none 0 0) (r:=a.isNone) (c:=r) am am am am (adI hu a n m);cases op<;>simp only[reduceCtorEq,a9]at h;subst h;exact⟨_,by simp[av],(j (.bool a.isNone) rfl).1⟩;subst h;exact⟨_,by simp[av],(j (.bool !a.isNone) rfl).1⟩
 unfold OI at h;split at h;have⟨e,hu⟩:=hu;simp only[av]at d f;subst f;obtain⟨a,cap,rfl,_⟩:=d;exact⟨key a _ cap op c e hu h,am,am⟩;have⟨e,hu⟩:=hu;simp only[av]at d f;subst f;obtain⟨a,rfl,_⟩:=d;exact⟨key a _ _ op c e hu h,am,am⟩;rename_i a0 n;simp only[av]at d f;obtain⟨m,l,rfl⟩:=f;subst d;refine⟨?_,am,am⟩;split at h;split at h;rename_i o;cases h;have q:pK .gtr .i64 a0 (m:Int)=some (.bool (decide (a0>(m:Int)))):=by simp[pK]
 have⟨h1,_⟩:=Ys (P:=P) (t:=t) (k:=.i64) (k':=.i64) (op:=.gtr) am q w;have hd:decide (a0>(m:Int))=false:=by simp;omega
 rw[hd]at h1;exact⟨false,by simp[av],h1⟩;simp at h;simp at h;simp at h
def ao5{op:UnOp}{x c:aa}{a:Value}(h:OL op x=some c)(b:av E w x a):(JP op a).run P w=.ok (j2 c) w/\c.plain=true:=by unfold OL at h;split at h;simp only[av]at b;subst b;cases h;exact⟨by simp[JP,Op.intArith,j2],rfl⟩;simp only[av]at b;subst b;simp only[sO,fb,a9]at h;subst h;exact⟨by simp[JP,Et,j2],rfl⟩;simp only[av]at b;subst b;cases h;exact⟨by simp[JP,j2],rfl⟩;simp at h
def Yu(U:Inv G own E w σ){t:TypeId}{s:Bool}{i:TypeInfo}(M:oi P t=some s)(J:P.info? t=some i){x:aa}{a:Value}(F:av E w x a){r:bG}(h:kz σ s i.size x=some r):(∃v,(EA t a).run P w=.ok v w/\av E w r.val v)/\r.up=[]/\∃S,a=.pointer (some S):=by
 have key:∀(b q o:Nat)(cs:List aa)(c:aa),ew E w b q cs->part s cs o i.size=some c->(∃v,(EA t (.pointer (some ⟨b,q+o,none⟩))).run P w=.ok v w/\av E w c v):=by
   intro b q o cs c D m;unfold part at m
   split at m;rename_i O;cases s with|true=>
     simp only[if_true,a9]at m;subst m;have n:∀j,j<i.size->∃v,w.cell? ⟨b,q+o+j,none⟩=some v/\∃d,((cs.drop o).take i.size)[j]?=some d/\av E w d v:=by intro j z;have C:o+j<cs.length:=ac;have⟨v,y,u⟩:=D (o+j) cs[o+j] (by simp[C]);refine⟨v,by rw[<-y];congr 2;omega,cs[o+j],?_,u⟩;rw[vo z,sq];simp[C]
     let f:Nat->Value:=λ j=>(w.cell? ⟨b,q+o+j,none⟩).getD undef;have T:∀j,j<i.size->w.cell? ((⟨b,q+o,none⟩:Addr).add j)=some (f j):=by intro j z;have⟨v,y,_⟩:=n j z;rw[oO];simp[f,y]
     have Q:=run_loadCells (P:=P) w ⟨b,q+o,none⟩ i.size f T;refine⟨.agg ((a8 i.size).map f).toArray,?_,?_⟩;simp[EA,EC,loadVar,GN M,m0 J,Q];simp only[av];refine⟨_,rfl,fi.2 ⟨by simp;omega,λ j d z=>?_⟩⟩;have A:j<i.size:=by have:=(fc.1 z).1;simp at this;omega
     have⟨v,y,V,B,K⟩:=n j A;have:d=V:=by rw[z]at B;simpa using B
     subst this;refine⟨v,?_,K⟩;simp[A,f,y]|false=>simp only[iL,if_false]at m;split at m;rename_i h1;have⟨v,y,u⟩:=D o c m;refine⟨v,?_,u⟩;simp[EA,EC,loadVar,GN M,y];simp at m
   simp at m
 unfold kz at h;split at h;rename_i id e o;split at h;rename_i aq R;split at h;rename_i el L;cases m:part s el.cells o i.size with|none=>simp[m]at h|some c=>simp only[m,fb,a9]at h;subst h;have⟨g,N,W,ty,H⟩:=U.blk id aq R;simp only[av]at F;obtain⟨X,k',Y,I,rfl⟩:=F;rw[H.μ]at I;simp only[a9,cN]at I;have⟨rfl,rfl,rfl⟩:=I;have:=Ns H.k H.row L;rw[cF]at this;exact⟨key _ _ _ _ _ this m,rfl,_,rfl⟩
 simp at h;simp at h;rename_i cs o;cases m:part s cs o i.size with|none=>simp[m]at h|some c=>simp only[m,fb,a9]at h;subst h;simp only[av]at F;obtain⟨b,q,rfl,_,D⟩:=F;exact⟨key _ _ _ _ _ (qy.1 D) m,rfl,_,rfl⟩
 simp at h
def aoW(e:Inv G own E w σ){t:TypeId}{b:Bool}{i:TypeInfo}(f:oi P t=some b)(c:P.info? t=some i){x:aa}{a:Value}(g:av E w x a){r:bG}(h:kz σ b i.size x=some r):Sound P G own E w σ p (EA t a) r:=by have⟨⟨v,h1,j⟩,k,_⟩:=Yu e f c g h;exact⟨v,w,E,h1,Adv.refl own E w,by rw[k];exact e,j,λ _ _=>rfl⟩
def acC{c:aa}(h:c.cells.all aa.one=true):∀x∈c.cells,x.one=true:=by simpa using h
def ao3(L:Inv G own E w σ){t:TypeId}{i:TypeInfo}(F:P.info? t=some i){x y:aa}{a b:Value}(M:av E w x a)(U:av E w y b){r:bG}(h:tE σ i.size x y=some r):∃w',(aaD t a b).run P w=.ok () w'/\k9 G own E w σ p r undef E w':=by
 unfold tE at h;split at h;rename_i id e o;split at h;rename_i aq Q;split at h;rename_i el s;split at h;rename_i R;have⟨B,O,S,f⟩:=R;cases h;have⟨g,N,I,ty,C⟩:=L.blk id aq Q;simp only[av]at M;obtain⟨W,k',X,z,rfl⟩:=M;rw[C.μ]at z;simp only[a9,cN]at z;have⟨rfl,rfl,rfl⟩:=z;have c:=acC f;have l:=av.cells U (tl f);have A:b.cells.size=i.size:=by have:=bc.len l;simp at this;omega
 have⟨hb,m,q⟩:=anB L Q B C s (o:=o) (new:=y.cells) (vs:=b.cells.toList) ac c l;refine⟨_,?_,m,q,?_,λ _ _=>rfl⟩;have h1:∀v∈b.cells.toList,v.oneCell'=true:=by
   intro v V;have⟨j,K⟩:=aaF.1 V;have⟨T,J⟩:=fi.1 l;have H:j<y.cells.length:=by have:=(fc.1 K).1;omega
   have⟨u,hu,D⟩:=J j y.cells[j] (by simp[H]);have:u=v:=by rw[K]at hu;simpa using hu.symm
   subst this;exact av.one D (c _ am)
 have n:=run_storeCells_at P g (e*aq.k+o) ty b.cells.toList 0 I w C.heap (by simpa using hb) h1;simp only[Nat.add_zero]at n;simp[aaD,EC,storeVar,m0 F,A,n];simp only[av,undef];exact⟨#[],rfl,by simp[bc]⟩;simp at h;simp at h;simp at h;simp at h
def Inv.sub{G:Nat->Option (List aa)}{own:Nat->Prop}{E:Env}{w:World}{σ a:aL}(h:Inv G own E w σ)(c:∀id,a id=none\/a id=σ id):Inv G own E w a where
 g6:=h.g6;blk:=λ id aq hb=>by rcases c id with h1|h1;simp[h1]at hb;exact h.blk id aq (h1▸hb)
 inj:=λ i j x y d f b h1 g=>by refine h.inj i j x y ?_ ?_ b h1 g;rcases c i with h|h;exact absurd h d;rw[<-h];exact d;rcases c j with h|h;exact absurd h f;rw[<-h];exact f
 jq:=h.jq;new:=h.new
def Hm(h:Inv G own E w σ)(f:E.μ p=none)(g:σ p=none){els:List aa}{k N:Nat}{vs:List Value}(ty:TypeId)(j:∀e∈els,e.size=k)(d:ra E w (flat els) vs)(l:vs.length=N*k)(b:els.length<=N)(o:N<=maxLen){c:aa}{v:Value}(m:av (E.bind p w.heap.size k N) (w.alloc (.cells vs.toArray ty)) c v){rd:List Id}:k9 G own E w σ p {val:=c,rd:=rd,up:=[(p,some ⟨els,k,false⟩)]} v (E.bind p w.heap.size k N) (w.alloc (.cells vs.toArray ty)):=by have⟨h1,n⟩:=aa9 h f g ty j d l b o;exact⟨h1,n,m,λ i a=>Env.yx _ _ _ _ _ (λ e=>a (by rw[e];exact List.suffix_refl _))⟩
def Qu(f:Inv G own E w σ)(g:E.μ p=none)(j:σ p=none){x:aa}{a:Value}(i:av E w x a)(b:x.cells.all aa.one=true)(t:TypeId):Sound P G own E w σ p (do pure (.pointer (some (<-newVar t a)))) {val:=.ref p 0 0,up:=[(p,some ⟨[x],x.size,false⟩)]}:=by have d:=av.cells i (tl b);have⟨h,e⟩:=fi.1 d;refine⟨.pointer (some ⟨w.heap.size,0,none⟩),w.alloc (.cells a.cells t),E.bind p w.heap.size x.size 1,by simp[newVar,newRow],?_⟩;have:=Hm (p:=p) (rd:=[]) f g j (els:=[x]) (k:=x.size) (N:=1) (vs:=a.cells.toList) t am (by simpa[flat]using e) (by simpa[aa.size]using h) am (by unfold maxLen;omega) (c:=.ref p 0 0) (v:=.pointer (some ⟨w.heap.size,0,none⟩)) (by simp only[av];exact⟨w.heap.size,x.size,1,Env.uj _ _ _ _ _,am⟩);simpa using this
def Sc(off:Nat):∀(l:List Value)(s:Nat)(cs:Array Value),off+s+l.length<=cs.size->((l.zipIdx s).foldl (λ cs x=>cs.setIfInBounds (off+x.2) x.1) cs).toList=cs.toList.take (off+s)++l++cs.toList.drop (off+s+l.length)
 |[],s,cs,_=>am|v::l,s,cs,h=>by
   simp only[gC]at h;simp only[List.zipIdx_cons,List.foldl_cons];rw[Sc off l (s+1) _ (by simp;omega)];simp only[Array.toList_setIfInBounds,gC];have h1:off+s<cs.toList.length:=by simp;omega
   rw[show off+(s+1)=off+s+1 from ac];rw[List.take_succ_eq_append_getElem (by simpa using h1)];simp only[List.getElem_set_self,pO,List.singleton_append];rw[List.take_set_of_le ac,List.drop_set_of_lt ac];rw[show off+s+1+l.length=off+s+(l.length+1)from ac]
def ad0{cells:Array Value}{off:Nat}{v:Value}(h:off+v.cells.size<=cells.size):(v.cells.zipIdx.foldl (λ cs(c,j)=>cs.setIfInBounds (off+j) c) cells).toList=cells.toList.take off++v.cells.toList++cells.toList.drop (off+v.cells.size):=by rw[<-Array.foldl_toList,Array.toList_zipIdx];have:=Sc off v.cells.toList 0 cells (by simpa using h);simpa using this
def bc.append{xs ys:List aa}{us vs:List Value}(h1:bc E w xs us)(e:bc E w ys vs):bc E w (xs++ys) (us++vs):=by have⟨a,b⟩:=fi.1 h1;have⟨c,d⟩:=fi.1 e;exact fi.2 ⟨by simp[a,c],ra.append b a d⟩
def bc.take{xs:List aa}{us:List Value}(h:bc E w xs us)(n:Nat):bc E w (xs.take n) (us.take n):=by have⟨a,b⟩:=fi.1 h;refine fi.2 ⟨by simp[a],λ j c d=>?_⟩;rw[Pv]at d;split at d;rename_i e;rw[vo e];exact b j c d;simp at d
def bc.drop{xs:List aa}{us:List Value}(h:bc E w xs us)(n:Nat):bc E w (xs.drop n) (us.drop n):=by have⟨a,b⟩:=fi.1 h;refine fi.2 ⟨by simp[a],λ j c d=>?_⟩;rw[sq]at d⊢;exact b _ c d
def ub(E:Env)(w:World)(place:Nat->Option (Nat×Nat)):List (Nat×Nat×aa)->List (Nat×Value)->Prop|[],a=>a=[]|(o,n,x)::r,a=>∃i v rest,a=(i,v)::rest/\place i=some (o,n)/\av E w x v/\ub E w place r rest
def OB{place:Nat->Option (Nat×Nat)}:∀{vh:List (Nat×Nat×aa)}{q:List (Nat×Value)}{cs b:List aa}{cells:Array Value},ub E w place vh q->bc E w cs cells.toList->tB cs vh=some b->∃a:Array Value,EG place cells q=some a/\bc E w b a.toList
 |[],q,cs,b,cells,e,g,h=>by simp only[ub]at e;subst e;simp only[tB,a9]at h;subst h;exact⟨cells,rfl,g⟩|(o,n,x)::r,q,cs,b,cells,e,g,h=>by
   simp only[ub]at e;obtain⟨i,v,rest,rfl,s,u,z⟩:=e;simp only[tB]at h;split at h;rename_i A;have⟨h1,D,C⟩:=A;have m:=av.cells u (tl C);have f:v.cells.size=n:=by have:=bc.len m;simp at this;omega
   have y:cells.size=cs.length:=by have:=bc.len g;simpa using this
   have k:o+v.cells.size<=cells.size:=ac;have l:bc E w (cs.take o++x.cells++cs.drop (o+n)) (v.cells.zipIdx.foldl (λ cs(c,j)=>cs.setIfInBounds (o+j) c) cells).toList:=by rw[ad0 k,f];exact bc.append (bc.append (bc.take g o) m) (bc.drop g (o+n))
   have⟨a,B,t⟩:=OB z l h;refine⟨a,?_,t⟩;simp only[EG,s];rw[if_neg (by simp[f];omega)];exact B;simp at h
def HB{t:List aa}{a:Act}(n:gb E w t a)(o:Inv G own E w σ){place:Nat->Option (Nat×Nat)}{f:Nat×dD->Option (Nat×Nat×dD)}(c:∀q r,f q=some r->r.2.2=q.2/\place q.1=some (r.1,r.2.1)):∀{l:List (Nat×Operand)}{e:List (Nat×dD)}{g:List (Nat×Nat×dD)},l.mapM (λ p=>(b8 p.2).map (p.1,·))=some e->e.mapM f=some g->ub E w place (g.map λ p=>(p.1,p.2.1,p.2.2.ev G t)) (l.map λ p=>(p.1,a.eval p.2))|[],e,g,h1,d=>by simp at h1;subst h1;simp at d;subst d;simp[ub]|(i,x)::l,e,g,h1,d=>by simp only[tQ,x3,JE,x6]at h1;have⟨q,h,s,k,b⟩:=h1;cases b;simp only[tQ,x3,JE,x6]at d;have⟨r,y,u,m,b⟩:=d;cases b;cases j:b8 x with|none=>simp[j]at h|some fZ=>simp only[j,fb,a9]at h;subst h;have⟨z,v⟩:=c _ _ y;simp only[lP,ub];refine⟨i,a.eval x,_,rfl,v,?_,HB n o c k m⟩;rw[z];exact de n o j
def abZ(hi:Inv G own E w σ){t:List aa}{a:Act}(hf:gb E w t a){ty:TypeId}{B:Array (Nat×Operand)}{qI:dJ dD}(k:gE P (.build ty B)=some qI){r:bG}(h:cd σ p (qI.map (dD.ev G t))=some r):Sound P G own E w σ p (Instr.build ty (B.map λ(i,x)=>(i,a.eval x))) r:=by simp only[gE]at k;cases hu:P.underlying ty with|none=>simp[hu]at k|some d=>cases F:mn P ty with|none=>cases d<;>simp[hu,F]at k|some z=>cases j:B.toList.mapM (λ p=>(b8 p.2).map (p.1,·))with|none=>cases d<;>simp[hu,F,j]at k|some HP=>
 obtain⟨it,tG,hit,uJ,wH,LN,za⟩:=xK F;have A:av E w z tG:=sT wH;have agb:=av.cells A (tl za);have fin:∀{place:Nat->Option (Nat×Nat)}{vh:List (Nat×Nat×aa)}{cs:List aa},ub E w place vh (B.map λ(i,x)=>(i,a.eval x)).toList->tB z.cells vh=some cs->(∀cells,EG place tG.cells (B.map λ(i,x)=>(i,a.eval x)).toList=some cells->P.built ty (B.map λ(i,x)=>(i,a.eval x)).toList=some cells)->Sound P G own E w σ p (Instr.build ty (B.map λ(i,x)=>(i,a.eval x))) {val:=.agg cs}:=by intro place vh cs hp H hb;obtain⟨cells,s,hr⟩:=OB hp agb H;refine Sound.same hi (run_build w ty _ cells (hb cells s)) ?_;simp only[av];exact⟨cells,rfl,hr⟩
 cases d with
 |struct fs=>simp only[hu,F,j]at k;cases y:fs.toList.mapM (λ f=>(P.info? f.type).map λ i=>(f.offset,i.size))with|none=>simp[y]at k|some g=>simp only[y,et]at k;obtain⟨rs,v,rfl⟩:=k;simp only[dJ.map,cd]at h;refine Sound.MQ h λ c o=>?_;simp only[et]at o;obtain⟨cs,H,rfl⟩:=o;refine fin (place:=(g.toArray[·]?)) (vh:=rs.map λ p=>(p.1,p.2.1,p.2.2.ev G t)) ?_ H ?_;have:=HB (place:=(g.toArray[·]?)) hf hi (f:=λ(p:Nat×dD)=>(g[p.1]?).map λ q=>(q.1,q.2,p.2)) (by intro q r l;simp only[et]at l;obtain⟨b,hb,rfl⟩:=l;exact⟨rfl,by simpa using hb⟩) j v;simpa using this;intro cells s;simp only[aaG,hit,hu,uJ,y];exact s
 |array n e=>simp only[hu,F,j]at k;cases C:P.info? e with|none=>simp[C]at k|some u=>
     simp only[C,a9]at k;subst k;simp only[dJ.map,cd,List.map_map]at h;refine Sound.MQ h λ c o=>?_;simp only[et]at o;obtain⟨cs,H,rfl⟩:=o;have v:HP.mapM (λ(q:Nat×dD)=>some (q.1*u.size,u.size,q.2))=some (HP.map λ q=>(q.1*u.size,u.size,q.2)):=by clear H h j;induction HP with|nil=>rfl|cons q HP ih=>simp[tQ,ih]
     have:=HB (place:=λ i=>some (i*u.size,u.size)) hf hi (f:=λ(q:Nat×dD)=>some (q.1*u.size,u.size,q.2)) (by intro q r l;cases l;exact⟨rfl,rfl⟩) j v;refine fin (place:=λ i=>some (i*u.size,u.size)) (vh:=_) (by simpa using this) (by simpa[aaH]using H) ?_;intro cells s;simp only[aaG,hit,hu,uJ,C];exact s
 |_=>simp[hu,F,j]at k
def Ug{z:aa}{g:Value}{k:Nat}(A:bc E w z.cells g.cells.toList)(o:z.size=k)(a:0<k)(n N:Nat)(y:n<=N):ra E w (flat (bM n z)) ((JS (N*k)).map (g.cells[·%g.cells.size]!)).toList:=by
 have⟨u,s⟩:=fi.1 A;have h:g.cells.size=k:=by simp at u;unfold aa.size at o;omega
 have d:∀e∈bM n z,e.size=k:=by intro e x;rw[lR x];exact o
 intro j c m;have f:=ko d;have b:j<n*k:=by have:=(fc.1 m).1;rw[f]at this;simpa using this
 have B:j/k<n:=(Nat.div_lt_iff_lt_mul a).2 b;have q:=yQ (i:=j/k) (e:=z) (j:=j%k) d (by simp[B]) (Nat.mod_lt _ a);rw[Nat.div_add_mod' j k]at q;rw[q]at m;have⟨v,r,t⟩:=s _ c m;have l:j<N*k:=gz b (ck _ y);refine⟨v,?_,t⟩;simp at r;simp only[Array.toList_map,Array.toList_range,kZ,l,aaI,fb,a9,h];rw[getElem!_def,r]
def Yl{k:Nat}:∀{b:List (Nat×aa)}{es es':List aa},(∀e∈es,e.size=k)->Ab k es b=some es'->(∀e∈es',e.size=k)/\es'.length=es.length/\tB (flat es) (b.map λ q=>(q.1*k,k,q.2))=some (flat es')
 |[],es,es',a,h=>by simp only[Ab,a9]at h;subst h;exact⟨a,rfl,by simp[tB]⟩|(i,x)::b,es,es',a,h=>by
   simp only[Ab]at h;split at h;rename_i m;have⟨h1,l,o⟩:=m;have d:∀e∈es.set i x,e.size=k:=by intro e g;rcases AA g with g|rfl;exact a e g;exact h1
   have⟨r,n,s⟩:=Yl d h;refine⟨r,by simpa using n,?_⟩;have f:=K4 a (show es[i]?=some es[i]by simp[l]) h1;have j:=ko a;have c:(i+1)*k<=es.length*k:=ck _ l;rw[eX]at c;simp only[lP,tB];rw[if_pos ⟨h1,ac,o⟩,<-f];exact s;simp at h
def abY(hi:Inv G own E w σ)(jY:E.μ p=none)(gP:σ p=none){t:List aa}{a:Act}(hf:gb E w t a){ty:TypeId}{n:Nat}{I:Array (Nat×Operand)}{qI:dJ dD}(o:gE P (.buildSlice ty n I)=some qI){r:bG}(h:cd σ p (qI.map (dD.ev G t))=some r):Sound P G own E w σ p (aaJ ty n (I.map λ(i,x)=>(i,a.eval x))) r:=by simp only[gE]at o;cases hu:P.underlying ty with|none=>simp[hu]at o|some d=>cases u:I.toList.mapM (λ p=>(b8 p.2).map (p.1,·))with|none=>cases d<;>simp[hu,u]at o|some M=>cases d with
 |slice e=>simp only[hu,u]at o;cases m:P.info? e with|none=>simp[m]at o|some j=>cases hz:mn P e with|none=>simp[m,hz]at o|some z=>
     simp only[m,hz]at o;split at o;rename_i b9;have⟨hsm,afo,L⟩:=b9;cases o;have⟨it,R,B,X,wH,H,T⟩:=xK hz;rw[m]at B;cases B;simp only[dJ.map,cd]at h;cases y:Ab j.size (bM n z) (M.map λ p=>(p.1,p.2.ev G t))with|none=>simp[y]at h|some es=>
       simp only[y]at h;split at h;have Q:∀e∈bM n z,e.size=j.size:=by intro e he;rw[lR he];exact H
       have⟨r1,r2,U⟩:=Yl Q y;have Y:bc E w z.cells R.cells.toList:=av.cells (sT wH) (tl T);have K:=ko Q;generalize g:(JS (n*j.size)).map (R.cells[·%R.cells.size]!)=b at*;have V:bc E w (flat (bM n z)) b.toList:=by refine fi.2 ⟨?_,?_⟩;rw[K,<-g];simp;rw[<-g];exact Ug Y H afo n n (a2 _)
       have S:M.mapM (λ(q:Nat×dD)=>some (q.1*j.size,j.size,q.2))=some (M.map λ q=>(q.1*j.size,j.size,q.2)):=by clear y U u;induction M with|nil=>rfl|cons q M ih=>simp[tQ,ih]
       have J:=HB (place:=λ i=>some (i*j.size,j.size)) hf hi (f:=λ(q:Nat×dD)=>some (q.1*j.size,j.size,q.2)) (by intro q r F;cases F;exact⟨rfl,rfl⟩) u S;simp only[List.map_map,aaH]at J U;have⟨cells,W,hr⟩:=OB (cells:=b) J V U;have⟨afr,BW⟩:=fi.1 hr;have C:=ko r1;refine⟨.slice (some ⟨w.heap.size,0,none⟩) n n,w.alloc (.cells cells e),E.bind p w.heap.size j.size n,?_,?_⟩;have s:EG (λ i=>some (i*j.size,j.size)) b (I.map λ(i,x)=>(i,a.eval x)).toList=some cells:=by simpa using W
       by_cases h0:n*j.size=0;have Z:b=#[]:=by rw[<-g,h0];simp
       rw[Z]at s;have ars:¬(n*j.size>2^24):=ac;have A:n=0:=by rcases Nat.mul_eq_zero.1 h0 with h|h;exact h;omega
       subst A;have rG:∀w,(newRow e cells).run P w=.ok ⟨w.heap.size,0,none⟩ (w.alloc (.cells cells e)):=λ _=>rfl;have O:EG (λ i=>some (i*j.size,j.size)) ((JS 0).map (λ _:Nat=>(default:Value))) (List.map (λ x=>(x.fst,a.eval x.snd)) I.toList)=some cells:=by
         have:(JS 0).map (λ _:Nat=>(default:Value))=#[]:=by apply Array.eq_empty_of_size_eq_zero;simp
         rw[this];simpa using s
       simp[aaJ,run_underlying hu,m0 m,O,rG];exact run_buildSlice w ty e n _ cells j R hu m X ac h0 (by rw[g];exact s);have:=Hm (p:=p) (rd:=[]) hi jY gP (els:=es) (k:=j.size) (N:=n) (vs:=cells.toList) e r1 BW (by rw[afr,C,r2];simp) (by rw[r2];simp) L (c:=.ai p j.size 0 n false) (v:=.slice (some ⟨w.heap.size,0,none⟩) n n) (by simp only[av];exact⟨w.heap.size,n,n,Env.uj _ _ _ _ _,am,a2 _,ac,L,am⟩);split at h;rename_i A;subst A;cases h;have⟨h1,h2,h3,h4⟩:=this;refine⟨h1,h2.sub λ i=>?_,by simp only[av];exact⟨_,rfl,Nat.zero_le _,am,.inl trivial⟩,h4⟩;by_cases e:i=p;subst e;left;exact gP;right;simp[aL.app,aL.put,e];cases h;simpa using this;simp at h
     simp at o
 |_=>simp[hu,u]at o
def aiB(J:Inv G own E w σ)(M:E.μ p=none)(F:σ p=none){t e:TypeId}{i:TypeInfo}{z:aa}(hu:P.underlying t=some (.slice e))(d:P.info? e=some i)(T:mn P e=some z)(y:0<i.size){l c:aa}{B eA:Value}(A:av E w l B)(C:av E w c eA){r:bG}(h:Af p i.size i.bytes z l c=some r):Sound P G own E w σ p (Instr.makeSlice t B eA) r:=by
 have⟨V,j,a,m,n,g,u⟩:=xK T;rw[d]at a;cases a;unfold Af at h;split at h;rename_i S l U c;simp only[av]at A C;subst A;subst C;split at h;rename_i O;have⟨Q,x,hb,L,H,K⟩:=O;cases h;have q:bc E w z.cells j.cells.toList:=av.cells (sT n) (tl u);have f:c.toNat<=maxLen:=ac;have b:l.toNat<=c.toNat:=ac;have I:=run_make (P:=P) w t e i j hu d m S U l c Q x (by rw[Int.mul_comm];omega) (by unfold maxLen at L;omega);have s:∀e∈bM l.toNat z,e.size=i.size:=by intro e R;rw[lR R];exact g
 refine⟨_,_,E.bind p w.heap.size i.size c.toNat,I,?_⟩;have D:=Ug q g y l.toNat c.toNat b;have:=Hm (p:=p) (rd:=[]) J M F (els:=bM l.toNat z) (k:=i.size) (N:=c.toNat) (vs:=(madeCells j.cells (c.toNat*i.size)).toList) e s D (by simp[madeCells]) (by simpa using b) f (c:=.ai p i.size 0 l.toNat false) (v:=.slice (some ⟨w.heap.size,0,none⟩) l.toNat c.toNat) (by simp only[av];exact⟨w.heap.size,c.toNat,c.toNat,Env.uj _ _ _ _ _,am,b,ac,f,am⟩);simpa using this;simp at h;simp at h
def qF{d c:Nat}{x:Option aa}{v:Option Value}{n:Nat}(g:match x,v with|none,none=>True|some a,some b=>av E w a b|_,_=>False)(h:iZ d c x=some n)(y:Nat)(j:c<=y)(f:BoundsCode):(x=none/\v=none/\n=d)\/(∃u,v=some u/\x≠none/\n<=c/\(A1 u y f).run P w=.ok n w):=by
 unfold iZ at h;split at h;cases h;cases v with|none=>exact .inl ⟨rfl,rfl,rfl⟩|some u=>exact g.elim
 rename_i k i;cases v with|none=>exact g.elim|some u=>simp only[av]at g;subst g;split at h;rename_i l;cases h;refine .inr ⟨_,rfl,am,ac,?_⟩;have:0<=i/\i<=(y:Int):=ac;simp[A1,asIntOf,this];simp at h
 simp at h
def lW(E:Env)(w:World)(x:Option aa)(v:Option Value):Prop:=match x,v with|none,none=>True|some a,some b=>av E w a b|_,_=>False
def pY{isSlice:Bool}{len cap l h m:Nat}{lo v mx:Option aa}{t r lH:Option Value}(f:lW E w lo t)(d:lW E w v r)(o:lW E w mx lH)(A:len<=cap)(b:iZ len len v=some h)(g:iZ 0 h lo=some l)(J:(mx=none/\m=cap)\/(∃k,mx=some (.int k (m:Int))/\v≠none/\h<=m/\m<=cap)):(PC isSlice len cap t r lH).run P w=.ok (l,h,m) w/\l<=h/\h<=len:=by
 have D:h<=len:=by rcases qF (P:=P) d b len (a2 _) .index with⟨_,_,e⟩|⟨_,_,_,e,_⟩<;>omega
 have H:l<=h:=by rcases qF (P:=P) f g h (a2 _) .index with⟨_,_,e⟩|⟨_,_,_,e,_⟩<;>omega
 refine⟨?_,H,D⟩;unfold PC;rcases J with⟨rfl,rfl⟩|⟨k,rfl,y,C,F⟩;cases lH with|some _=>exact(o:False).elim|none=>rcases qF (P:=P) d b m (bx (a2 _) A) (if isSlice then .sliceAcap else .sliceAlen)with⟨_,rfl,rfl⟩|⟨u,rfl,_,_,n⟩;rcases qF (P:=P) f g h (a2 _) .sliceB with⟨_,rfl,rfl⟩|⟨u,rfl,_,_,n⟩;simp;simp[n];rcases qF (P:=P) f g h (a2 _) .sliceB with⟨_,rfl,rfl⟩|⟨B,rfl,_,_,j⟩;simp[n];simp[n,j]
 cases lH with|none=>exact(o:False).elim|some I=>
   have z:I=.int k (m:Int):=by simpa[lW,av]using o
   subst z;have q:∀c,(A1 (.int k (m:Int)) cap c).run P w=.ok m w:=by intro c;have:(0:Int)<=m/\(m:Int)<=cap:=ac;simp[A1,asIntOf,this]
   rcases qF (P:=P) d b len (a2 _) .slice3B with⟨e,_,_⟩|⟨u,rfl,_,_,_⟩;exact absurd e y;have n:∀c,(A1 u m c).run P w=.ok h w:=by intro c;cases v with|none=>exact(d:False).elim|some x=>
       unfold iZ at b;split at b;simp_all;rename_i k' i s;cases s;have:u=.int k' i:=by simpa[lW,av]using d
       subst this;split at b;simp only[a9]at b;have:(0:Int)<=i/\i<=m:=ac;simp[A1,asIntOf,this,b];simp at b;simp at b
   rcases qF (P:=P) f g h (a2 _) .slice3C with⟨_,rfl,rfl⟩|⟨B,rfl,_,_,j⟩;simp[n,q];simp[n,j,q]
def ad3{k:Nat}{es:List aa}(b:∀e∈es,e.size=k){l h:Nat}(c:l<=h)(g:h<=es.length):flat ((es.take h).drop l)=((flat es).drop (l*k)).take ((h-l)*k):=by
 have d:es=es.take l++((es.take h).drop l++es.drop h):=by rw[<-ZO (by simp;omega),aaK,aaK]
 have h1:(flat (es.take l)).length=l*k:=by rw[ko (λ e a=>b e (gK a))];simp;rw[tJ ac]
 have f:(flat ((es.take h).drop l)).length=(h-l)*k:=by rw[ko (λ e a=>b e (gK (vE a)))];simp;rw[tJ ac]
 conv=>rhs;rw[d]
 rw[yP,yP,<-h1,List.drop_left,<-f,List.take_left]
def zU{b o k:Nat}{es:List aa}(f:∀e∈es,e.size=k)(h:ew E w b o (flat es)){l r:Nat}(d:l<=r)(g:r<=es.length):ew E w b (o+l*k) (flat ((es.take r).drop l)):=by rw[ad3 f d g];intro j c a;rw[Pv]at a;split at a;rw[sq]at a;have:=h _ c a;rwa[<-lQ]at this;simp at a
def Yz(hi:Inv G own E w σ){t e:TypeId}{i:TypeInfo}(hu:P.underlying t=some (.slice e))(l4:P.info? e=some i){x:aa}{v:Value}(hx:av E w x v){lo fy mx:Option aa}{IU IQ lH:Option Value}(rF:lW E w lo IU)(nB:lW E w fy IQ)(hmx:lW E w mx lH)(afA:mx.isSome->fy.isSome){c:aa}(h:gv i.size x lo fy mx=some c):Sound P G own E w σ p (qY t v IU IQ lH) {val:=c}:=by
 have hrun:∀(a:Option Addr)(len cap l h m:Nat),(PC true len cap IU IQ lH).run P w=.ok (l,h,m) w->(qY t (.slice a len cap) IU IQ lH).run P w=.ok (.slice (if m=l then a else a.map (·.add (l*i.size))) (h-l) (m-l)) w:=by intro a len cap l h m hb;simp[qY,Instr.slice,run_underlying hu,hb,m0 l4]
 have Gw:∀(h:Nat),xx mx h=true->∃k,mx=some (.int k (h:Int)):=by intro h b9;unfold xx at b9;split at b9;rename_i k m';simp only[beq_iff_eq]at b9;subst b9;exact⟨k,rfl⟩;simp at b9
 have wA:∀{len l r:Nat},gu len lo fy=some (l,r)->iZ len len fy=some r/\iZ 0 r lo=some l:=by intro len l r hb;unfold gu at hb;split at hb;simp at hb;rename_i h1 e1;split at hb;simp at hb;rename_i jv e2;simp only[a9,cN]at hb;obtain⟨rfl,rfl⟩:=hb;exact⟨e1,e2⟩
 have hne:∀k n,mx=some (aa.int k n)->fy≠none:=by intro k n e bs;have:=afA (by simp[e]);simp[bs]at this
 unfold gv at h;split at h
 · simp only[av]at hx;subst hx;split at h;rename_i b hb;split at h;rename_i hcnd;cases h;obtain⟨l,b9⟩:=b;obtain⟨lx,od⟩:=wA hb;have aeu:b9=0:=by rcases qF (P:=P) nB lx 0 (a2 _) .index with⟨_,_,e⟩|⟨_,_,_,e,_⟩<;>omega
   subst aeu;obtain⟨kq,oc,mK⟩:=pY (P:=P) (isSlice:=true) (len:=0) (cap:=0) (m:=0) rF nB hmx (a2 _) lx od (by rcases hcnd with hn|ht;exact .inl ⟨by simpa using hn,rfl⟩;obtain⟨k,hk⟩:=Gw 0 ht;exact .inr ⟨k,hk,hne _ _ hk,a2 _,a2 _⟩);have y3:l=0:=ac;subst y3;exact Sound.same hi (hrun none 0 0 0 0 0 kq) (by simp[av]);simp at h;simp at h
 · rename_i k' es;simp only[av]at hx;obtain⟨a,cap,rfl,hlen,sZ,hk,oh⟩:=hx;split at h;rename_i l' b9 hb;obtain⟨lx,od⟩:=wA hb
   · · split at h
       . rename_i ly;subst ly;have zD:∀m,l'<=b9->b9<=es.length->b9<=m->((es.take b9).drop l'=[]\/∃b o,(if m=l' then a else a.map (·.add (l'*i.size)))=some ⟨b,o,none⟩/\E.ok b/\cD E w b o ((es.take b9).drop l')):=by
           intro m h1 h2 h3;by_cases he:l'=b9;.left;subst he;simp
           . rcases oh with rfl|⟨b,o,rfl,hb,hr⟩;.left;simp
             .right;refine⟨b,o+l'*i.size,by rw[if_neg ac];simp[oO],hb,?_⟩;rw[mc]at hr⊢;exact zU hk hr h1 h2
         have oe:∀e∈(es.take b9).drop l',e.size=i.size:=λ e he=>hk e (gK (vE he));split at h;.rename_i hn;cases h;obtain⟨kq,oc,mK⟩:=pY (P:=P) (isSlice:=true) (m:=cap) rF nB hmx hlen lx od (.inl ⟨by simpa using hn,rfl⟩);refine Sound.same hi (hrun a es.length cap l' b9 cap kq) ?_;simp only[av];exact⟨_,cap-l',by simp;omega,by simp;omega,ac,oe,zD cap oc mK ac⟩
         . split at h
           . rename_i ht;cases h;obtain⟨kk,ly⟩:=Gw b9 ht;have Gt:b9<=es.length:=by rcases qF (P:=P) nB lx es.length (a2 _) .index with⟨_,_,e⟩|⟨_,_,_,e,_⟩<;>omega
             obtain⟨kq,oc,mK⟩:=pY (P:=P) (isSlice:=true) (m:=b9) rF nB hmx hlen lx od (.inr ⟨kk,ly,hne _ _ ly,a2 _,ac⟩);refine Sound.same hi (hrun a es.length cap l' b9 b9 kq) ?_;simp only[av];exact⟨_,by simp;omega,by simp;omega,oe,zD b9 oc mK (a2 _)⟩
           .simp at h
       .simp at h
   .simp at h
 · rename_i k' es;simp only[av]at hx;obtain⟨a,rfl,sZ,hk,oh⟩:=hx;split at h
   . rename_i l' b9 hb;obtain⟨lx,od⟩:=wA hb
     · · split at h
         . rename_i ly;obtain⟨rfl,afD⟩:=ly;have zD:∀m,l'<=b9->b9<=es.length->b9<=m->((es.take b9).drop l'=[]\/∃b o,(if m=l' then a else a.map (·.add (l'*i.size)))=some ⟨b,o,none⟩/\E.ok b/\cD E w b o ((es.take b9).drop l')):=by
             intro m h1 h2 h3;by_cases he:l'=b9;.left;subst he;simp
             . rcases oh with rfl|⟨b,o,rfl,hb,hr⟩;.left;simp
               .right;refine⟨b,o+l'*i.size,by rw[if_neg ac];simp[oO],hb,?_⟩;rw[mc]at hr⊢;exact zU hk hr h1 h2
           have oe:∀e∈(es.take b9).drop l',e.size=i.size:=λ e he=>hk e (gK (vE he));have Gt:b9<=es.length:=by rcases qF (P:=P) nB lx es.length (a2 _) .index with⟨_,_,e⟩|⟨_,_,_,e,_⟩<;>omega
           split at h
           . rename_i y4;cases h;rcases afD with hn|ht
             . have ari:b9=es.length:=by
                 rcases y4 with h1|h1;.cases mx<;>simp at hn h1
                 .exact h1
               obtain⟨kq,oc,mK⟩:=pY (P:=P) (isSlice:=true) (m:=es.length) rF nB hmx (a2 _) lx od (.inl ⟨by simpa using hn,rfl⟩);refine Sound.same hi (hrun a es.length es.length l' b9 es.length kq) ?_;simp only[av];exact⟨_,by simp;omega,by simp;omega,oe,zD es.length oc mK mK⟩
             .obtain⟨kk,ly⟩:=Gw b9 ht;obtain⟨kq,oc,mK⟩:=pY (P:=P) (isSlice:=true) (m:=b9) rF nB hmx (a2 _) lx od (.inr ⟨kk,ly,hne _ _ ly,a2 _,Gt⟩);refine Sound.same hi (hrun a es.length es.length l' b9 b9 kq) ?_;simp only[av];exact⟨_,by simp;omega,by simp;omega,oe,zD b9 oc mK (a2 _)⟩
           . rename_i y4;cases h;have hn:mx=none:=by cases mx with|none=>rfl|some _=>simp at y4
             obtain⟨kq,oc,mK⟩:=pY (P:=P) (isSlice:=true) (m:=es.length) rF nB hmx (a2 _) lx od (.inl ⟨hn,rfl⟩);refine Sound.same hi (hrun a es.length es.length l' b9 es.length kq) ?_;simp only[av];exact⟨_,es.length-l',by simp;omega,by simp;omega,ac,oe,zD es.length oc mK mK⟩
         .simp at h
   .simp at h
 · rename_i id k' off len mh;simp only[av]at hx;obtain⟨g,N,cap,hm,rfl,Ly,Gx,BO,rI⟩:=hx;split at h
   . rename_i l' b9 hb;obtain⟨lx,od⟩:=wA hb
     · · split at h
         . rename_i ly;subst ly;split at h
           . rename_i hn;obtain⟨kq,oc,mK⟩:=pY (P:=P) (isSlice:=true) (m:=cap) rF nB hmx Ly lx od (.inl ⟨by simpa using hn,rfl⟩);have hr:=hrun (some ⟨g,off*i.size,none⟩) len cap l' b9 cap kq;split at h
             . rename_i S4;split at h
               . rename_i y3;subst y3;cases h;refine Sound.same hi hr ?_;simp only[av];refine⟨g,N,cap,hm,?_,ac,Gx,BO,?_⟩;.by_cases wC:cap=0<;>simp[wC,oO]
                 .cases mh with|true=>simp at S4 rI⊢;omega|false=>simpa using rI
               . rename_i y3;split at h;.rename_i afs;subst afs;cases h;refine Sound.same hi hr ?_;simp only[av];refine⟨_,cap-l',by simp;rfl,am,ac,am,.inl trivial⟩
                 . cases h;refine Sound.same hi hr ?_;simp only[av];refine⟨g,N,cap-l',hm,?_,ac,ac,BO,?_⟩;.rw[if_neg ac];simp[oO,eX]
                   .cases mh with|true=>simp at S4 rI⊢;omega|false=>simp at rI⊢;omega
             .simp at h
           . split at h
             . rename_i ht;obtain⟨afX,y3⟩:=ht;subst y3;cases h;obtain⟨kk,ly⟩:=Gw b9 afX;have Gt:b9<=len:=by rcases qF (P:=P) nB lx len (a2 _) .index with⟨_,_,e⟩|⟨_,_,_,e,_⟩<;>omega
               obtain⟨kq,oc,mK⟩:=pY (P:=P) (isSlice:=true) (m:=b9) rF nB hmx Ly lx od (.inr ⟨kk,ly,hne _ _ ly,a2 _,ac⟩);have hr:=hrun (some ⟨g,off*i.size,none⟩) len cap 0 b9 b9 kq;refine Sound.same hi hr ?_;simp only[av];refine⟨g,N,b9,hm,?_,a2 _,ac,BO,am⟩;by_cases wC:b9=0<;>simp[wC,oO]
             .simp at h
         .simp at h
   .simp at h
 .simp at h
def Yi{len l r:Nat}{lo a:Option aa}(hb:gu len lo a=some (l,r)):iZ len len a=some r/\iZ 0 r lo=some l:=by unfold gu at hb;split at hb;simp at hb;rename_i h1 c;split at hb;simp at hb;rename_i d b;simp only[a9,cN]at hb;have⟨rfl,rfl⟩:=hb;exact⟨c,b⟩
def adN(s:List UInt8)(l r:Nat):(vy s.toArray).extract l r=⟨((s.take r).drop l).toArray⟩:=by apply ByteArray.ext;rw[ByteArray.data_extract];apply Array.ext';simp[Z8,EH]
def ao1(q:Inv G own E w σ){t:TypeId}(hu:P.underlying t=some .string){x:aa}{v:Value}(o:av E w x v){lo d:Option aa}{b e:Option Value}(g:lW E w lo b)(f:lW E w d e){c:aa}(h:OJ x lo d=some c):Sound P G own E w σ p (qY t v b e none) {val:=c}:=by
 unfold OJ at h;split at h;rename_i s;simp only[av]at o;subst o;split at h;rename_i l r hb;have⟨i,n⟩:=Yi hb;cases h;have⟨j,y,u⟩:=pY (P:=P) (isSlice:=false) (mx:=none) (lH:=none) (m:=s.length) g f trivial (a2 _) i n (.inl ⟨rfl,rfl⟩);refine Sound.same (v:=.string ⟨((s.take r).drop l).toArray⟩) q ?_ (by simp[av]);have k:(vy s.toArray).size=s.length:=by simp[aaf]
 simp[qY,Instr.slice,run_underlying hu,k,j,adN];simp at h;simp at h
def al1{b o k:Nat}{es:List aa}(a:∀e∈es,e.size=k)(h:cD E w b o es){i:Nat}{e:aa}(c:es[i]?=some e):eF E w b (o+i*k) e.cells:=qy.2 (Ns a (mc.1 h) c)
def agq(C:Inv G own E w σ){t e:TypeId}{i:TypeInfo}(hu:P.underlying t=some (.slice e))(A:P.info? e=some i){x j:aa}{v u:Value}(q:av E w x v)(B:av E w j u){c:aa}(h:j7 i.size x j=some c):Sound P G own E w σ p (yg t v u) {val:=c}:=by
 have m:∀(a:Addr)(len cap:Nat)(k:IntKind)(n:Int),0<=n->n<len->(yg t (.slice (some a) len cap) (.int k n)).run P w=.ok (.pointer (some (a.add (n.toNat*i.size)))) w:=by intro a len cap k n l h1;simp[yg,run_underlying hu,asIntOf,l,h1,m0 A]
 unfold j7 at h;split at h;rename_i kk n;simp only[av]at B;subst B;have row:∀{es:List aa}{a:Option Addr}{cap:Nat},(∀e∈es,e.size=i.size)->(es=[]\/∃b o,a=some ⟨b,o,none⟩/\E.ok b/\cD E w b o es)->0<=n->(es[n.toNat]?).map (λ e=>aa.cr e.cells 0)=some c->Sound P G own E w σ p (yg t (.slice a es.length cap) (.int kk n)) {val:=c}:=by intro es a cap r d l h;simp only[et]at h;obtain⟨el,y,rfl⟩:=h;have z:n.toNat<es.length:=(fc.1 y).1;rcases d with rfl|⟨b,o,rfl,hb,F⟩;simp at z;refine Sound.same C (m _ _ cap kk n l ac) ?_;rw[oO];simp only[av];exact⟨b,o+n.toNat*i.size,am,hb,al1 r F y⟩
 split at h;rename_i k' es;simp only[av]at q;obtain⟨a,cap,rfl,_,_,r,d⟩:=q;split at h;rename_i s;obtain⟨rfl,l⟩:=s;exact row r d l h;simp at h;rename_i k' es;simp only[av]at q;obtain⟨a,rfl,_,r,d⟩:=q;split at h;rename_i s;obtain⟨rfl,l⟩:=s;exact row r d l h;simp at h;rename_i id k' off len mh;simp only[av]at q;obtain⟨g,N,cap,D,rfl,_⟩:=q;split at h;rename_i s;obtain⟨rfl,l,h1⟩:=s;cases h;refine Sound.same C (m _ _ cap kk n l h1) ?_;rw[oO];simp only[av];exact⟨g,i.size,N,D,by simp[eX]⟩;simp at h;simp at h;simp at h
def agp(r:Inv G own E w σ){t e:TypeId}{n:Nat}{i:TypeInfo}(hu:P.underlying t=some (.array n e))(o:P.info? e=some i){x j:aa}{v u:Value}(l:av E w x v)(s:av E w j u){c:aa}(h:OC n i.size x j=some c):Sound P G own E w σ p (yg t v u) {val:=c}:=by
 unfold OC at h;split at h;rename_i kk m;simp only[av]at s;subst s;split at h;rename_i z;have f:∀a:Addr,(yg t (.pointer (some a)) (.int kk m)).run P w=.ok (.pointer (some (a.add (m.toNat*i.size)))) w:=by intro a;simp[yg,run_underlying hu,asIntOf,z,m0 o,EC]
 split at h;cases h;simp only[av]at l;obtain⟨g,k,N,y,rfl⟩:=l;refine Sound.same r (f _) ?_;rw[oO];simp only[av];exact⟨g,k,N,y,by simp[lQ]⟩;cases h;simp only[av]at l;obtain⟨b,q,rfl,hb,A⟩:=l;refine Sound.same r (f _) ?_;rw[oO];simp only[av];exact⟨b,q,by simp[lQ],hb,A⟩;simp at h;simp at h;simp at h
def adT(l:Inv G own E w σ){s:TypeId}{fs:Array Field}{f:Nat}{fd:Field}{i:TypeInfo}(hu:P.underlying s=some (.struct fs))(m:fs[f]?=some fd)(j:P.info? fd.type=some i)(t:i.size≠0){x:aa}{v:Value}(e:av E w x v){r:bG}(h:cd σ p (.ux fd.offset x)=some r):Sound P G own E w σ p (PD s v f) r:=by
 have d:∀a:Addr,(PD s (.pointer (some a)) f).run P w=.ok (.pointer (some (a.add fd.offset))) w:=by intro a;simp[PD,run_underlying hu,m,EC,fieldPlace,m0 j,t]
 simp only[cd]at h;split at h;simp only[dC,fb,a9]at h;subst h;simp only[av]at e;obtain⟨g,k,N,n,rfl⟩:=e;refine Sound.same l (d _) ?_;rw[oO];simp only[av];exact⟨g,k,N,n,by simp[lQ]⟩;simp only[dC,fb,a9]at h;subst h;simp only[av]at e;obtain⟨b,q,rfl,hb,o⟩:=e;refine Sound.same l (d _) ?_;rw[oO];simp only[av];exact⟨b,q,by simp[lQ],hb,o⟩;simp at h
def Vt{t:TypeId}{a:Bool}{i:TypeInfo}(d:oi P t=some a)(b:P.info? t=some i){cs:List aa}{xs:Array Value}(g:bc E w cs xs.toList){o:Nat}{c:aa}(h:ay.part a cs o i.size=some c):∃v,(Go.part t xs o).run P w=.ok v w/\av E w c v:=by have⟨h1,k,f⟩:=akl h g;refine⟨_,?_,h1⟩;cases a with|true=>simp[Go.part,GN d,m0 b]|false=>have l2:=f rfl;have:o<xs.size:=ac;simp[Go.part,GN d,this]
def FI(y:Inv G own E w σ){k:Nat}{x:aa}{v:Value}(d:av E w x v){ys:List aa}{rd:List Id}(h:jn σ k x=some (ys,rd)):(∀e∈ys,e.size=k)/\∃a cap,v=.slice a ys.length cap/\ys.length<=cap/\(ys=[]\/∃b o,a=some ⟨b,o,none⟩/\ew E w b o (flat ys)):=by
 unfold jn at h;split at h;simp only[a9,cN]at h;have⟨rfl,rfl⟩:=h;simp only[av]at d;subst d;exact⟨am,none,0,rfl,a2 _,.inl rfl⟩;rename_i k' es;split at h;rename_i f;simp only[a9,cN]at h;have⟨rfl,rfl⟩:=h;subst f;simp only[av]at d;obtain⟨a,cap,rfl,A,_,f,c⟩:=d;exact⟨f,a,cap,rfl,A,c.imp id λ⟨b,o,e,_,r⟩=>⟨b,o,e,mc.1 r⟩⟩;simp at h;rename_i k' es;split at h;rename_i f;simp only[a9,cN]at h;have⟨rfl,rfl⟩:=h;subst f;simp only[av]at d;obtain⟨a,rfl,_,f,c⟩:=d;exact⟨f,a,_,rfl,a2 _,c.imp id λ⟨b,o,e,_,r⟩=>⟨b,o,e,mc.1 r⟩⟩;simp at h;rename_i id k' off len mh;split at h;rename_i aq B;split at h;rename_i u;have⟨rfl,j,s⟩:=u;simp only[a9,cN]at h;have⟨rfl,rfl⟩:=h;have⟨g,N,t,ty,m⟩:=y.blk id aq B;simp only[av]at d;obtain⟨D,F,cap,n,rfl,z,_⟩:=d;rw[m.μ]at n;simp only[a9,cN]at n;have⟨rfl,_,rfl⟩:=n;have q:∀e∈(aq.els.drop off).take len,e.size=k':=λ e C=>by rw[<-j];exact m.k e (vE (gK C))
 have i:((aq.els.drop off).take len).length=len:=by simp;omega
 refine⟨q,some ⟨g,off*k',none⟩,cap,by rw[i],ac,.inr ⟨g,off*k',rfl,?_⟩⟩;have:=zU (l:=off) (r:=off+len) m.k m.row ac s;rw[cF,j]at this;have e:(aq.els.take (off+len)).drop off=(aq.els.drop off).take len:=by rw[EH];congr 1;omega
 rwa[e]at this;simp at h;simp at h;simp at h
def Ox{b o:Nat}{cs:List aa}(h:ew E w b o cs):∃vs:List Value,bc E w cs vs/\∀j v,vs[j]?=some v->w.cell? ((⟨b,o,none⟩:Addr).add j)=some v:=by
 refine⟨(a8 cs.length).map λ j=>(w.cell? ⟨b,o+j,none⟩).getD undef,fi.2 ⟨am,λ j c d=>?_⟩,λ j v d=>?_⟩;have⟨v,g,f⟩:=h j c d;have a:j<cs.length:=(fc.1 d).1;exact⟨v,by simp[a,g],f⟩;have a:j<cs.length:=by have:=(fc.1 d).1;simpa using this
 have⟨i,e,_⟩:=h j cs[j] (by simp[a]);simp only[kZ,a,aaI,fb,a9]at d;rw[oO,e,<-d,e];rfl
def MS{cs:List aa}{vs:List Value}(h:bc E w cs vs)(h1:∀c∈cs,c.one=true):∀v∈vs,v.oneCell'=true:=by
 intro v f;have⟨j,d⟩:=aaF.1 f;have⟨g,e⟩:=fi.1 h;have b:j<cs.length:=by have:=(fc.1 d).1;omega
 have⟨u,hu,a⟩:=e j cs[j] (by simp[b]);have:u=v:=by rw[d]at hu;simpa using hu.symm
 subst this;exact av.one a (h1 _ am)
def FX(r:Inv G own E w σ)(y:E.μ p=none)(z:σ p=none){k n N:Nat}{els:List aa}(i:∀e∈els,e.size=k)(q:els.length=n){vs:List Value}(u:bc E w (flat els) vs){rest:Array Value}(s:rest.size=(N-n)*k)(h:n<=N)(l:N<=maxLen)(ty:TypeId){rd:List Id}:k9 G own E w σ p {val:=.ai p k 0 n false,rd:=rd,up:=[(p,some ⟨els,k,false⟩)]} (.slice (some ⟨w.heap.size,0,none⟩) n N) (E.bind p w.heap.size k N) (w.drew.alloc (.cells (vs.toArray++rest) ty)):=by
 have hd:=r.drew;have⟨t,m⟩:=fi.1 u;have g:=ko i;have a:ff E E w w.drew:=(Adv.drew (own:=own) E w).step;have d:(vs++rest.toList).length=N*k:=by simp only[cP,Pd,t,g,q,s,<-eX];congr 1;omega
 have:=Hm (p:=p) (rd:=rd) hd y z (els:=els) (k:=k) (N:=N) (vs:=vs++rest.toList) ty i (λ j c o=>by have⟨v,b,f⟩:=m j c o;exact⟨v,by rw[kd (fc.1 b).1];exact b,av.keep a c v f⟩) d ac l (c:=.ai p k 0 n false) (v:=.slice (some ⟨w.heap.size,0,none⟩) n N) (by simp only[av];exact⟨w.heap.size,N,N,Env.uj _ _ _ _ _,am,h,ac,l,am⟩);have x:(vs++rest.toList).toArray=vs.toArray++rest:=by apply Array.ext';simp
 rw[x]at this;exact⟨(Adv.drew E w).trans this.iO,this.inv,this.rep,this.ids⟩
def ac7(a:Inv G own E w σ)(id:Id):Inv G own E w (σ.put id none)where
 g6:=a.g6;blk:=λ i aq h=>by by_cases e:i=id;subst e;simp[aL.put]at h;rw[aL.mR _ _ _ e]at h;exact a.blk i aq h
 inj:=λ i j x y d c b h1 o=>by
   have g:i≠id:=by rintro rfl;simp[aL.put]at d
   have k:j≠id:=by rintro rfl;simp[aL.put]at c
   rw[aL.mR _ _ _ g]at d;rw[aL.mR _ _ _ k]at c;exact a.inj i j x y d c b h1 o
 jq:=a.jq;new:=a.new
def K5{k:Nat}:∀{es:List aa}{n:Nat},(∀x∈es,x.size=k)->flat (es.take n)=(flat es).take (n*k)
 |[],n,_=>by simp[flat]|x::es,0,_=>by simp[flat]|x::es,n+1,h=>by
   have c:x.cells.length=k:=h x am;have b:=K5 (es:=es) (n:=n) (λ y d=>h y (by simp[d]));have e:flat (x::es)=x.cells++flat es:=by simp[flat]
   have a:flat ((x::es).take (n+1))=x.cells++flat (es.take n):=by simp[flat]
   rw[e,a,b,show(n+1)*k=x.cells.length+n*k from by rw[c,eX];omega,ZJ]
def R6{k:Nat}:∀{es:List aa}{n:Nat},(∀x∈es,x.size=k)->flat (es.drop n)=(flat es).drop (n*k)
 |[],n,_=>by simp[flat]|x::es,0,_=>am|x::es,n+1,h=>by
   have c:x.cells.length=k:=h x am;have a:=R6 (es:=es) (n:=n) (λ y b=>h y (by simp[b]));have d:flat (x::es)=x.cells++flat es:=by simp[flat]
   rw[List.drop_succ_cons,a,d,show(n+1)*k=x.cells.length+n*k from by rw[c,eX];omega,ZM]
def Xk{G:Nat->Option (List aa)}{own:Nat->Prop}{E:Env}{w:World}{σ:aL}(h:Inv G own E w σ){id:Id}{aq:aG}(V:σ id=some aq)(P:aq.fr=false){g N:Nat}{a:Array Value}{ty:TypeId}(d:oQ E own w id aq g N a ty){e:Nat}{news:List aa}{vs:List Value}(S:e+news.length<=aq.els.length)(z:∀x∈news,x.size=aq.k)(hv:bc E w (flat news) vs):e*aq.k+vs.length<=a.size/\Adv own E E w (w.setRow g (a.toList.take (e*aq.k)++vs++a.toList.drop (e*aq.k+vs.length)).toArray)/\Inv G own E (w.setRow g (a.toList.take (e*aq.k)++vs++a.toList.drop (e*aq.k+vs.length)).toArray) (σ.put id (some {aq with els:=aq.els.take e++news++aq.els.drop (e+news.length)})):=by
 have⟨Q,T⟩:=fi.1 hv;have O:=ko z;have q:e*aq.k+vs.length<=a.size:=by rw[d.size,Q,O,<-eX];exact ck _ (by have:=d.len;omega)
 refine⟨q,?_⟩;generalize H:(a.toList.take (e*aq.k)++vs++a.toList.drop (e*aq.k+vs.length)).toArray=o;have hg:=ll d.heap;have t:(w.setRow g o).heap[g]?=some (.cells o ty (0,0)):=setRow_heap w g a o ty _ d.heap;have L:ff E E w (w.setRow g o):=⟨λ _ _ h=>h,λ _ h=>h,λ b hb=>setRow_other w g b o (λ e=>d.no P (e▸hb))⟩;have R:Adv own E E w (w.setRow g o):=⟨L,rfl,rfl,rfl,am,λ k _ z=>setRow_other w g k o (λ e=>z (e▸d.own)),λ _ h=>.inl h⟩;refine⟨R,?_,?_,?_,?_,?_⟩;intro b hb;simpa using h.g6 b hb;intro i W r;by_cases l:i=id;subst l;rw[aL.uY]at r;cases r;have A:(aq.els.take e++news++aq.els.drop (e+news.length)).length=aq.els.length:=by simp;omega
 have u:∀x∈aq.els.take e++news++aq.els.drop (e+news.length),x.size=aq.k:=by intro x p;simp only[pO,List.mem_append]at p;rcases p with p|p|p;exact d.k x (gK p);exact z x p;exact d.k x (vE p)
 refine⟨g,N,o,ty,d.μ,t,?_,by rw[A];exact d.len,d.most,d.own,by simp[P],d.no,u,?_⟩;rw[<-H];simp only[qQ,cP,gV,m6,Pd];rw[<-d.size];omega;show ew E (w.setRow g o) g 0 (flat (aq.els.take e++news++aq.els.drop (e+news.length)));rw[yP,yP,K5 d.k,R6 d.k];have hlen:(flat aq.els).length=aq.els.length*aq.k:=ko d.k;have afc:aq.els.length*aq.k<=a.size:=by rw[d.size];exact ck _ d.len
 have K:(e+news.length)*aq.k<=aq.els.length*aq.k:=ck _ S;rw[eX]at K;intro j c n;have C:(w.setRow g o).cell? ⟨g,0+j,none⟩=o[j]?:=by rw[cF];exact cell_of_row _ _ _ _ _ _ t
 rw[C];suffices J:∃v,o[j]?=some v/\av E w c v by have⟨v,f,m⟩:=J;exact⟨v,f,av.keep L c v m⟩
 rw[<-H];have s:∀(j:Nat)(c:aa),(flat aq.els)[j]?=some c->∃v:Value,a[j]?=some v/\av E w c v:=by intro j c n;have⟨v,f,m⟩:=d.row j c n;rw[cF,cell_of_row _ _ _ _ _ _ d.heap]at f;exact⟨v,f,m⟩
 simp only[Ea];have ha:(a.toList.take (e*aq.k)).length=e*aq.k:=by simp;omega
 have hb:((flat aq.els).take (e*aq.k)).length=e*aq.k:=by simp;omega
 rw[pO]at n⊢;by_cases Z:j<e*aq.k;rw[kd ac,vo Z]at n;rw[kd ac,vo Z];have⟨v,f,m⟩:=s j c n;exact⟨v,by simpa using f,m⟩;rw[k5 ac,hb]at n;rw[k5 ac,ha];by_cases o0:j-e*aq.k<(flat news).length;rw[kd o0]at n;rw[kd ac];have⟨v,f,m⟩:=T _ c n;exact⟨v,f,m⟩;rw[k5 ac,sq]at n;rw[k5 ac,sq,Q];rw[O]at n o0⊢;have e1:(e+news.length)*aq.k+(j-e*aq.k-news.length*aq.k)=j:=by rw[eX];omega
 have e2:e*aq.k+news.length*aq.k+(j-e*aq.k-news.length*aq.k)=j:=ac;rw[e1]at n;rw[e2];have⟨v,f,m⟩:=s _ c n;exact⟨v,by simpa using f,m⟩;rw[aL.mR _ _ _ l]at r;have⟨F,n4,I,Y,D⟩:=h.blk i W r;have B:F≠g:=h.inj i id _ _ (by simp[r]) (by simp[V]) l D.μ d.μ;exact⟨F,n4,I,Y,D.keep L (setRow_other w g F o B) D.no⟩;intro i j x y r n B p hy;refine h.inj i j x y ?_ ?_ B p hy;intro M;by_cases l:i=id;subst l;simp[V]at M;rw[aL.mR _ _ _ l]at r;exact r M;intro M;by_cases l:j=id;subst l;simp[V]at M;rw[aL.mR _ _ _ l]at n;exact n M;intro F cs U;have⟨l2,X⟩:=h.jq F cs U;exact⟨l2,eF.keep L.bare (L.same F l2) cs 0 X⟩;intro k z;simp at z;exact h.new k z
end
end Go.ay
