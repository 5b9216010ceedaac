/- For the claim of VerifierAccepts: parts VL1, VL2, VL3, VL4, VL5, VL6, VL7, VL8, VL9, VL2S. -/
import Derived.Calls
import Derived.Below
import Derived.Laws.AppendOwn
import Derived.Laws.CopyRow
import Derived.Laws.Tables
import Derived.Laws.NewBlocks
import Derived.Laws.OwnMore
import Derived.WideLaws
import Derived.StringKeys
import Derived.Laws.Closers25
import Derived.LaidEql
import Derived.Laws.Append
import Derived.Great.BuildSlice
import Derived.Laws.Strings
set_option linter.defProp false
set_option linter.unusedSectionVars false
set_option linter.unusedSimpArgs false
set_option linter.unusedVariables false
set_option maxRecDepth 100000
open Array renaming getD_eq_getD_getElem?->tv,getElem?_eq_some_iff->yw,length_toList->Qc,range->KH
open BitVec renaming ofInt->jk
open Bool renaming false_eq_true->iz
open ByteArray renaming mk->wG,size->abA
open Function renaming comp_def->ab3
open Go.Addr renaming add_lit->pS
open Go.Instr renaming buildSlice->ab5,fieldAt->QE,fill->Fw,indexAt->yZ,loadAt->Fo,sliceAt->r9,sliceBound->BP,sliceBounds->QD,storeAt->abV,sureAddr->Fq
open Go.Op renaming bytesLess->Ke,equalIn->jO,intBits->Fi,unary->KC
open Go.Program renaming built->ab2
open Go.Value renaming cells->yy
open List renaming append_assoc->qL,drop_append_of_le_length->abb,drop_length_add_append->aa9,drop_take->Fx,eq_of_mem_replicate->jl,extract_eq_take_drop->abv,getElem?_append_left->kO,getElem?_append_right->kx,getElem?_cons_succ->aaS,getElem?_cons_zero->tj,getElem?_drop->tp,getElem?_eq_some_iff->fl,getElem?_map->kv,getElem?_range->ab4,getElem?_take->Qr,getElem?_take_of_lt->wq,getElem?_toArray->E3,length_append->cy,length_cons->fU,length_drop->m8,length_singleton->lT,length_take->eZ,mapM_cons->uR,map_cons->mw,mem_iff_getElem?->abZ,mem_of_getElem?->ER,mem_of_mem_drop->wL,mem_of_mem_take->gZ,mem_or_eq_of_mem_set->Bs,range->aR,replicate->bI,size_toArray->r3,take_append_drop->ab6,take_length_add_append->aa6
open Nat renaming add_assoc->my,add_mul->fw,le_refl->a2,le_trans->bx,lt_of_lt_of_le->gM,min_eq_left->uK,mul_le_mul_right->cr,zero_add->cI
open Option renaming bind_eq_bind->Kp,bind_eq_some_iff->yN,map_eq_some_iff->eI,map_some->fk,pure_def->yL
open Option.some renaming injEq->bf
open Prod.mk renaming injEq->c5
def ac{p:Prop}(h:p:=by omega):p:=h
def al{p:Prop}(h:p:=by decide):p:=h
def am{p:Prop}(h:p:=by simp):p:=h
def an{p:Prop}(h:p:=by kernel_rfl):p:=h
def ap{p:Prop}(h:p:=by grind):p:=h
def a1{p:Prop}(h:p:=by rfl):p:=h
namespace Go.aA
inductive aa where|bool(b:Bool)|int(k:IntKind)(n:Int)|str(l:List UInt8)|jA|kl|fn(f:Fn)(first cap:List aa)|agg(cs:List aa)|aM(cs:List aa)|sl(k:Nat)(es:List aa)|eW(k:Nat)(es:List aa)|ar|ah(id:List Nat)(k off len:Nat)(tight:Bool)|ref(id:List Nat)(e o:Nat)|cE(cs:List aa)(o:Nat)|top|j9|nA(n:Nat)
instance:Inhabited aa:=⟨.top⟩
abbrev Id:=List Nat
def aa.cells:aa->List aa|.agg cs=>cs|c=>[c]
def aa.size(c:aa):Nat:=c.cells.length
def aa.one:aa->Bool|.agg _|.aM _|.top|.j9|.nA _=>false|_=>true
def flat(es:List aa):List aa:=es.flatMap aa.cells
structure Env where μ:Id->Option (Nat×Nat×Nat)ok:Nat->Prop
mutual def ax(E:Env)(w:World):aa->Value->Prop|.bool b,v=>v=.bool b|.int k n,v=>v=.int k n|.str l,v=>v=.string ⟨l.toArray⟩|.jA,v=>v=.pointer none|.kl,v=>v=.nilFunc|.fn f a c,v=>∃xs ys:Array Value,v=.func f xs ys/\bq E w a xs.toList/\bq E w c ys.toList|.agg cs,v=>∃xs:Array Value,v=.agg xs/\bq E w cs xs.toList|.aM cs,v=>∃xs:Array Value,v=.tuple xs/\bq E w cs xs.toList|.sl k es,v=>∃(a:Option Addr)(cap:Nat),v=.slice a es.length cap/\es.length<=cap/\cap<=maxLen/\(∀e∈es,e.size=k)/\(es=[]\/∃b o,a=some ⟨b,o,none⟩/\E.ok b/\cN E w b o es)|.eW k es,v=>∃(a:Option Addr),v=.slice a es.length es.length/\es.length<=maxLen/\(∀e∈es,e.size=k)/\(es=[]\/∃b o,a=some ⟨b,o,none⟩/\E.ok b/\cN E w b o es)|.ar,v=>v=.slice none 0 0|.ah id k off len tight,v=>∃g N cap,E.μ id=some (g,k,N)/\v=.slice (some ⟨g,off*k,none⟩) len cap/\len<=cap/\off+cap<=N/\N<=maxLen/\(if tight then cap=len else off+cap=N)|.ref id e o,v=>∃g k N,E.μ id=some (g,k,N)/\v=.pointer (some ⟨g,e*k+o,none⟩)|.cE cs o,v=>∃b p,v=.pointer (some ⟨b,p+o,none⟩)/\E.ok b/\eO E w b p cs|.top,_=>True|.j9,v=>∃b,v=.bool b|.nA n,v=>∃m:Nat,n<=m/\v=.int .i64 m def bq(E:Env)(w:World):List aa->List Value->Prop|[],vs=>vs=[]|c::cs,vs=>∃v rest,vs=v::rest/\ax E w c v/\bq E w cs rest def cN(E:Env)(w:World)(b o:Nat):List aa->Prop|[]=>True|.agg cs::es=>eO E w b o cs/\cN E w b (o+cs.length) es|c::es=>(∃v,w.cell? ⟨b,o,none⟩=some v/\ax E w c v)/\cN E w b (o+1) es def eO(E:Env)(w:World)(b o:Nat):List aa->Prop|[]=>True|c::cs=>(∃v,w.cell? ⟨b,o,none⟩=some v/\ax E w c v)/\eO E w b (o+1) cs end
def Ln{w w':World}{b o:Nat}(h:w'.heap[b]?=w.heap[b]?):w'.cell? ⟨b,o,none⟩=w.cell? ⟨b,o,none⟩:=World.cell?_of_block (a:=⟨b,o,none⟩) h
structure fm(E E':Env)(w w':World):Prop where
 μ:∀id x,E.μ id=some x->E'.μ id=some x
 ok:∀b,E.ok b->E'.ok b
 same:∀b,E.ok b->w'.heap[b]?=w.heap[b]?
mutual def ax.keep{E E':Env}{w w':World}(h:fm E E' w w'):∀(c:aa)(v:Value),ax E w c v->ax E' w' c v|.bool _,_,r=>by simpa[ax]using r|.int _ _,_,r=>by simpa[ax]using r|.str _,_,r=>by simpa[ax]using r|.jA,_,r=>by simpa[ax]using r|.kl,_,r=>by simpa[ax]using r|.ar,_,r=>by simpa[ax]using r|.top,_,_=>by simp[ax]|.j9,_,r=>by simpa[ax]using r|.nA _,_,r=>by simpa[ax]using r|.fn f a c,v,r=>by simp only[ax]at r⊢;have⟨xs,ys,e,j,x⟩:=r;exact⟨xs,ys,e,bq.keep h a _ j,bq.keep h c _ x⟩|.agg cs,v,r=>by simp only[ax]at r⊢;have⟨xs,e,j⟩:=r;exact⟨xs,e,bq.keep h cs _ j⟩|.aM cs,v,r=>by simp only[ax]at r⊢;have⟨xs,e,j⟩:=r;exact⟨xs,e,bq.keep h cs _ j⟩|.sl k es,v,r=>by simp only[ax]at r⊢;have⟨a,cap,e,h1,l,q,u⟩:=r;refine⟨a,cap,e,h1,l,q,u.imp id ?_⟩;rintro⟨b,o,m,hb,d⟩;exact⟨b,o,m,h.ok b hb,cN.keep h (h.same b hb) es o d⟩|.eW k es,v,r=>by simp only[ax]at r⊢;have⟨a,e,l,q,u⟩:=r;refine⟨a,e,l,q,u.imp id ?_⟩;rintro⟨b,o,m,hb,d⟩;exact⟨b,o,m,h.ok b hb,cN.keep h (h.same b hb) es o d⟩|.ah id k off len t,v,r=>by simp only[ax]at r⊢;have⟨g,N,cap,n,rest⟩:=r;exact⟨g,N,cap,h.μ _ _ n,rest⟩|.ref id e o,v,r=>by simp only[ax]at r⊢;have⟨g,k,N,n,rest⟩:=r;exact⟨g,k,N,h.μ _ _ n,rest⟩|.cE cs o,v,r=>by simp only[ax]at r⊢;have⟨b,p,e,hb,d⟩:=r;exact⟨b,p,e,h.ok b hb,eO.keep h (h.same b hb) cs p d⟩def bq.keep{E E':Env}{w w':World}(h:fm E E' w w'):∀(cs:List aa)(vs:List Value),bq E w cs vs->bq E' w' cs vs|[],_,r=>by simpa[bq]using r|c::cs,vs,r=>by simp only[bq]at r⊢;have⟨v,rest,e,y,i⟩:=r;exact⟨v,rest,e,ax.keep h c v y,bq.keep h cs rest i⟩def cN.keep{E E':Env}{w w':World}(h:fm E E' w w'){b:Nat}(hb:w'.heap[b]?=w.heap[b]?):∀(es:List aa)(o:Nat),cN E w b o es->cN E' w' b o es|[],_,_=>by simp[cN]|.agg cs::es,o,r=>by simp only[cN]at r⊢;exact⟨eO.keep h hb cs o r.1,cN.keep h hb es _ r.2⟩|.bool _::es,o,r|.int _ _::es,o,r|.str _::es,o,r|.jA::es,o,r|.kl::es,o,r|.ar::es,o,r|.top::es,o,r|.j9::es,o,r|.nA _::es,o,r|.fn _ _ _::es,o,r|.aM _::es,o,r|.sl _ _::es,o,r|.eW _ _::es,o,r|.ah _ _ _ _ _::es,o,r|.ref _ _ _::es,o,r|.cE _ _::es,o,r=>by simp only[cN]at r⊢;have⟨⟨v,s,d⟩,i⟩:=r;exact⟨⟨v,(Ln hb).trans s,ax.keep h _ v d⟩,cN.keep h hb es _ i⟩def eO.keep{E E':Env}{w w':World}(h:fm E E' w w'){b:Nat}(hb:w'.heap[b]?=w.heap[b]?):∀(cs:List aa)(o:Nat),eO E w b o cs->eO E' w' b o cs|[],_,_=>by simp[eO]|c::cs,o,r=>by simp only[eO]at r⊢;have⟨⟨v,s,d⟩,i⟩:=r;exact⟨⟨v,(Ln hb).trans s,ax.keep h c v d⟩,eO.keep h hb cs _ i⟩end
def eK(E:Env)(w:World)(b o:Nat)(cs:List aa):Prop:=∀j c,cs[j]?=some c->∃v,w.cell? ⟨b,o+j,none⟩=some v/\ax E w c v
def rL{E:Env}{w:World}{b:Nat}:∀{cs:List aa}{o:Nat},eO E w b o cs↔eK E w b o cs
 |[],o=>by simp[eO,eK]|c::cs,o=>by
   simp only[eO];rw[rL (cs:=cs)];constructor;rintro⟨h,d⟩j c' a;cases j with|zero=>simp only[tj,bf]at a;subst a;exact h|succ j=>simp only[aaS]at a;have:=d j c' a;rwa[show o+(j+1)=o+1+j from ac]
   intro h;refine⟨h 0 c rfl,λ j c' a=>?_⟩;have:=h (j+1) c' (by simpa using a);rwa[show o+(j+1)=o+1+j from ac]at this
def Oi{E:Env}{w:World}{b o:Nat}{xs ys:List aa}:eK E w b o (xs++ys)↔eK E w b o xs/\eK E w b (o+xs.length) ys:=by constructor;intro h;refine⟨λ j c a=>?_,λ j c a=>?_⟩;exact h j c (by rw[kO (fl.1 a).1];exact a);have:=h (xs.length+j) c (by rw[kx ac];simpa using a);rwa[<-my]at this;rintro⟨h1,e⟩j c a;by_cases d:j<xs.length;rw[kO d]at a;exact h1 j c a;rw[kx ac]at a;have:=e (j-xs.length) c a;rwa[show o+xs.length+(j-xs.length)=o+j from ac]at this
def aoi{E:Env}{w:World}{b o:Nat}{c:aa}:eK E w b o [c]↔∃v,w.cell? ⟨b,o,none⟩=some v/\ax E w c v:=by constructor;intro h;exact h 0 c rfl;intro h j c' a;cases j with|zero=>simp only[tj,bf]at a;subst a;exact h|succ j=>simp at a
def mU{E:Env}{w:World}{b:Nat}:∀{es:List aa}{o:Nat},cN E w b o es↔eK E w b o (flat es)
 |[],o=>by simp[cN,eK,flat]|e::es,o=>by
   have a:=λ o=>mU (E:=E) (w:=w) (b:=b) (es:=es) (o:=o);have c:flat (e::es)=e.cells++flat es:=by simp[flat]
   rw[c,Oi];cases e<;>simp only[cN,aa.cells,a,rL,aoi,lT]
def eK.keep{E E':Env}{w w':World}(h:fm E E' w w'){b:Nat}(hb:w'.heap[b]?=w.heap[b]?){cs:List aa}{o:Nat}(r:eK E w b o cs):eK E' w' b o cs:=λ j c d=>let⟨v,e,a⟩:=r j c d;⟨v,(Ln hb).trans e,ax.keep h c v a⟩
def kZ{k:Nat}:∀{es:List aa},(∀e∈es,e.size=k)->(flat es).length=es.length*k
 |[],_=>by simp[flat]|e::es,h=>by
   have a:=kZ (es:=es) (λ x b=>h x (by simp[b]));have d:e.cells.length=k:=h e am;have c:flat (e::es)=e.cells++flat es:=by simp[flat]
   rw[c,cy,a,d,fU,fw];omega
def zy{k:Nat}:∀{es:List aa}{i:Nat}{e:aa}{j:Nat},(∀e∈es,e.size=k)->es[i]?=some e->j<k->(flat es)[i*k+j]?=e.cells[j]?
 |[],_,_,_,_,h,_=>by simp at h|x::es,0,e,j,h,a,d=>by
   simp only[tj,bf]at a;subst a;have b:x.cells.length=k:=h x am;have c:flat (x::es)=x.cells++flat es:=by simp[flat]
   rw[c,kO ac];simp|x::es,i+1,e,j,h,a,d=>by
   simp only[aaS]at a;have b:x.cells.length=k:=h x am;have c:flat (x::es)=x.cells++flat es:=by simp[flat]
   have f:=zy (es:=es) (λ x b=>h x (by simp[b])) a d;rw[c,kx (by rw[b,fw];omega),b,<-f];congr 1;rw[fw];omega
def zx(xs ys:List aa):flat (xs++ys)=flat xs++flat ys:=by simp[flat]
def Oj{E:Env}{w:World}{b o k:Nat}{es:List aa}{i:Nat}{e:aa}(d:∀e∈es,e.size=k)(h:eK E w b o (flat es))(g:es[i]?=some e):eK E w b (o+i*k) e.cells:=by
 intro j c f;have a:j<k:=by have:=(fl.1 f).1;have l:e.cells.length=k:=d e (ER g);omega
 have:=h (i*k+j) c (by rw[zy d g a];exact f);rwa[<-my]at this
structure aJ where
 els:List aa
 k:Nat
 fr:Bool:=false
abbrev aQ:=Id->Option aJ
def aQ.put(σ:aQ)(id:Id)(b:Option aJ):aQ:=λ i=>if i=id then b else σ i
def aQ.vQ(σ:aQ)(id:Id)(b:Option aJ):σ.put id b id=b:=by simp[aQ.put]
def aQ.nF(σ:aQ)(id:Id)(b:Option aJ){i:Id}(h:i≠id):σ.put id b i=σ i:=by simp[aQ.put,h]
structure pU(E:Env)(own:Nat->Prop)(w:World)(id:Id)(av:aJ)(g N:Nat)(cur:Array Value)(ty:TypeId):Prop where
 μ:E.μ id=some (g,av.k,N)heap:w.heap[g]?=some (.cells cur ty (0,0))size:cur.size=N*av.k
 len:av.els.length<=N
 most:N<=maxLen
 own:own g
 ok:av.fr=true->E.ok g
 no:av.fr=false->¬E.ok g
 k:∀e∈av.els,e.size=av.k
 row:eK E w g 0 (flat av.els)
def QJ(E:Env)(own:Nat->Prop)(w:World)(id:Id)(av:aJ):Prop:=∃g N a ty,pU E own w id av g N a ty
def Env.bare(E:Env):Env:=⟨λ _=>none,E.ok⟩
structure Inv(G:Nat->Option (List aa))(own:Nat->Prop)(E:Env)(w:World)(σ:aQ):Prop where
 hR:∀b,E.ok b->b<w.heap.size
 blk:∀id av,σ id=some av->QJ E own w id av
 inj:∀i j x y,σ i≠none->σ j≠none->i≠j->E.μ i=some x->E.μ j=some y->x.1≠y.1
 jX:∀g cs,G g=some cs->E.ok g/\eO E.bare w g 0 cs
 new:∀k,w.heap.size<=k->own k
structure Adv(own:Nat->Prop)(E E':Env)(w w':World):Prop where
 step:fm E E' w w'
 os:w'.os=w.os
 tape:w'.tape=w.tape
 output:w'.output=w.output
 size:w.heap.size<=w'.heap.size
 block:∀k,k<w.heap.size->¬own k->w'.heap[k]?=w.heap[k]?
 rC:∀b,E'.ok b->E.ok b\/own b
def fm.bare{E E':Env}{w w':World}(h:fm E E' w w'):fm E.bare E'.bare w w':=⟨λ _ _ h=>by simp[Env.bare]at h,h.ok,h.same⟩
def fm.aqt(E:Env)(w:World):fm E.bare E w w:=⟨λ _ _ h=>by simp[Env.bare]at h,λ _ h=>h,λ _ _=>rfl⟩
def fm.refl(E:Env)(w:World):fm E E w w:=⟨λ _ _ h=>h,λ _ h=>h,λ _ _=>rfl⟩
def fm.trans{E E' d:Env}{w w' c:World}(a:fm E E' w w')(b:fm E' d w' c):fm E d w c:=⟨λ i x h=>b.μ i x (a.μ i x h),λ x h=>b.ok x (a.ok x h),λ x h=>(b.same x (a.ok x h)).trans (a.same x h)⟩
def Adv.refl(own:Nat->Prop)(E:Env)(w:World):Adv own E E w w:=⟨fm.refl E w,rfl,rfl,rfl,a2 _,λ _ _ _=>rfl,λ _ h=>.inl h⟩
def Adv.trans{own:Nat->Prop}{E E' d:Env}{w w' c:World}(a:Adv own E E' w w')(b:Adv own E' d w' c):Adv own E d w c:=⟨a.step.trans b.step,b.os.trans a.os,b.tape.trans a.tape,b.output.trans a.output,bx a.size b.size,λ k f e=>(b.block k (gM f a.size) e).trans (a.block k f e),λ x h=>(b.rC x h).elim (λ h=>a.rC x h) .inr⟩
def Adv.drew{own:Nat->Prop}(E:Env)(w:World):Adv own E E w w.drew:=⟨⟨λ _ _ h=>h,λ _ h=>h,λ _ _=>rfl⟩,rfl,rfl,rfl,a2 _,λ _ _ _=>rfl,λ _ h=>.inl h⟩
def pU.keep{E E':Env}{own:Nat->Prop}{w w':World}{id:Id}{av:aJ}{g N:Nat}{a:Array Value}{ty:TypeId}(h:pU E own w id av g N a ty)(s:fm E E' w w')(hb:w'.heap[g]?=w.heap[g]?)(b:av.fr=false->¬E'.ok g):pU E' own w' id av g N a ty:=⟨s.μ _ _ h.μ,hb.trans h.heap,h.size,h.len,h.most,h.own,λ c=>s.ok _ (h.ok c),b,h.k,eK.keep s hb h.row⟩
def l0{w:World}{g:Nat}{o:Obj}(h:w.heap[g]?=some o):g<w.heap.size:=(yw.1 h).1
def Inv.keep{G:Nat->Option (List aa)}{own:Nat->Prop}{E E':Env}{w w':World}{σ:aQ}(h:Inv G own E w σ)(a:Adv own E E' w w')(l:E'.μ=E.μ)(d:∀b,E'.ok b->b<w'.heap.size)(hb:∀id av g N,σ id=some av->E.μ id=some (g,av.k,N)->w'.heap[g]?=w.heap[g]?/\(av.fr=false->¬E'.ok g)):Inv G own E' w' σ where
 hR:=d;blk:=λ id av i=>by have⟨g,N,e,ty,f⟩:=h.blk id av i;have⟨h1,c⟩:=hb id av g N i f.μ;exact⟨g,N,e,ty,f.keep a.step h1 c⟩
 inj:=by rw[l];exact h.inj
 jX:=λ g cs n=>let⟨h1,c⟩:=h.jX g cs n;⟨a.step.ok g h1,eO.keep a.step.bare (a.step.same g h1) cs 0 c⟩;new:=λ k m=>h.new k (bx a.size m)
def Inv.drew{G:Nat->Option (List aa)}{own:Nat->Prop}{E:Env}{w:World}{σ:aQ}(h:Inv G own E w σ):Inv G own E w.drew σ:=h.keep (Adv.drew E w) rfl h.hR (λ id av g N c b=>⟨rfl,λ e=>by have⟨i,f,d,ty,a⟩:=h.blk id av c;have:=a.μ.symm.trans b;simp only[bf,c5]at this;rw[<-this.1];exact a.no e⟩)
def sg(E:Env)(w:World)(cs:List aa)(vs:List Value):Prop:=∀(j:Nat)(c:aa),cs[j]?=some c->∃v:Value,vs[j]?=some v/\ax E w c v
def bq.len{E:Env}{w:World}:∀{cs:List aa}{vs:List Value},bq E w cs vs->vs.length=cs.length|[],vs,h=>by simp only[bq]at h;simp[h]|c::cs,vs,h=>by simp only[bq]at h;obtain⟨v,rest,rfl,_,a⟩:=h;simp[bq.len a]
def fu{E:Env}{w:World}:∀{cs:List aa}{vs:List Value},bq E w cs vs↔vs.length=cs.length/\sg E w cs vs
 |[],vs=>by simp[bq,sg]|c::cs,vs=>by
   constructor;intro h;refine⟨bq.len h,?_⟩;simp only[bq]at h;obtain⟨v,rest,rfl,h1,e⟩:=h;intro j d a;cases j with|zero=>simp only[tj,bf]at a;subst a;exact⟨v,rfl,h1⟩|succ j=>simpa using(fu.1 e).2 j d (by simpa using a)
   rintro⟨f,h⟩;simp only[bq];have⟨v,b,h1⟩:=h 0 c rfl;cases vs with|nil=>simp at b|cons x rest=>simp only[tj,bf]at b;subst b;refine⟨x,rest,rfl,h1,fu.2 ⟨by simpa using f,λ j d a=>?_⟩⟩;simpa using h (j+1) d (by simpa using a)
def sg.append{E:Env}{w:World}{xs ys:List aa}{us vs:List Value}(h1:sg E w xs us)(d:us.length=xs.length)(e:sg E w ys vs):sg E w (xs++ys) (us++vs):=by intro j c a;by_cases b:j<xs.length;rw[kO b]at a;rw[kO ac];exact h1 j c a;rw[kx ac]at a;rw[kx ac,d];exact e _ c a
def ax.one{E:Env}{w:World}:∀{c:aa}{v:Value},ax E w c v->c.one=true->v.oneCell'=true|.bool _,_,h,_|.int _ _,_,h,_|.str _,_,h,_|.jA,_,h,_|.kl,_,h,_|.ar,_,h,_=>by simp only[ax]at h;subst h;rfl|.fn _ _ _,_,h,_=>by simp only[ax]at h;obtain⟨_,_,rfl,_⟩:=h;rfl|.sl _ _,_,h,_=>by simp only[ax]at h;obtain⟨_,_,rfl,_⟩:=h;rfl|.eW _ _,_,h,_=>by simp only[ax]at h;obtain⟨_,rfl,_⟩:=h;rfl|.ah _ _ _ _ _,_,h,_=>by simp only[ax]at h;obtain⟨_,_,_,_,rfl,_⟩:=h;rfl|.ref _ _ _,_,h,_=>by simp only[ax]at h;obtain⟨_,_,_,_,rfl⟩:=h;rfl|.cE _ _,_,h,_=>by simp only[ax]at h;obtain⟨_,_,rfl,_⟩:=h;rfl
def ax.cells{E:Env}{w:World}:∀{c:aa}{v:Value},ax E w c v->(c.one=true\/∃cs,c=.agg cs)->bq E w c.cells v.cells.toList|.agg cs,v,h,_=>by simp only[ax]at h;obtain⟨xs,rfl,h⟩:=h;exact h|.aM _,_,_,h=>by simp[aa.one]at h|.top,_,_,h|.j9,_,_,h|.nA _,_,_,h=>by simp[aa.one]at h|.bool _,v,h,_|.int _ _,v,h,_|.str _,v,h,_|.jA,v,h,_|.kl,v,h,_|.ar,v,h,_=>by have a:=h;simp only[ax]at h;subst h;simp only[aa.cells,yy,bq];exact⟨_,_,rfl,a,rfl⟩|.fn _ _ _,v,h,_=>by have a:=h;simp only[ax]at h;obtain⟨_,_,rfl,_⟩:=h;simp only[aa.cells,yy,bq];exact⟨_,_,rfl,a,rfl⟩|.sl _ _,v,h,_=>by have a:=h;simp only[ax]at h;obtain⟨_,_,rfl,_⟩:=h;simp only[aa.cells,yy,bq];exact⟨_,_,rfl,a,rfl⟩|.eW _ _,v,h,_=>by have a:=h;simp only[ax]at h;obtain⟨_,rfl,_⟩:=h;simp only[aa.cells,yy,bq];exact⟨_,_,rfl,a,rfl⟩|.ah _ _ _ _ _,v,h,_=>by have a:=h;simp only[ax]at h;obtain⟨_,_,_,_,rfl,_⟩:=h;simp only[aa.cells,yy,bq];exact⟨_,_,rfl,a,rfl⟩|.ref _ _ _,v,h,_=>by have a:=h;simp only[ax]at h;obtain⟨_,_,_,_,rfl⟩:=h;simp only[aa.cells,yy,bq];exact⟨_,_,rfl,a,rfl⟩|.cE _ _,v,h,_=>by have a:=h;simp only[ax]at h;obtain⟨_,_,rfl,_⟩:=h;simp only[aa.cells,yy,bq];exact⟨_,_,rfl,a,rfl⟩
def Env.bind(E:Env)(id:Id)(g k N:Nat):Env:={E with μ:=λ i=>if i=id then some (g,k,N)else E.μ i}
def Env.vb(E:Env)(id:Id)(g k N:Nat):(E.bind id g k N).μ id=some (g,k,N):=by simp[Env.bind]
def Env.zd(E:Env)(id:Id)(g k N:Nat){i:Id}(h:i≠id):(E.bind id g k N).μ i=E.μ i:=by simp[Env.bind,h]
def Mk(w:World)(o:Obj){k:Nat}(h:k<w.heap.size):(w.alloc o).heap[k]?=w.heap[k]?:=heap_alloc_old w o k h
def size_alloc(w:World)(o:Obj):(w.alloc o).heap.size=w.heap.size+1:=am
def fm.alloc{E:Env}{w:World}{id:Id}(ei:E.μ id=none)(a:∀b,E.ok b->b<w.heap.size)(o:Obj)(k N:Nat):fm E (E.bind id w.heap.size k N) w (w.alloc o)where
 μ:=λ i x h=>by rw[Env.zd];exact h;rintro rfl;simp[ei]at h
 ok:=λ _ h=>h;same:=λ b hb=>Mk w o (a b hb)
def acz{G:Nat->Option (List aa)}{own:Nat->Prop}{E:Env}{w:World}{σ:aQ}(h:Inv G own E w σ){id:Id}(ei:E.μ id=none)(M:σ id=none){els:List aa}{k N:Nat}{vs:List Value}(ty:TypeId)(s:∀e∈els,e.size=k)(L:sg E w (flat els) vs)(J:vs.length=N*k)(K:els.length<=N)(F:N<=maxLen):Adv own E (E.bind id w.heap.size k N) w (w.alloc (.cells vs.toArray ty))/\Inv G own (E.bind id w.heap.size k N) (w.alloc (.cells vs.toArray ty)) (σ.put id (some ⟨els,k,false⟩)):=by
 have t:fm E (E.bind id w.heap.size k N) w (w.alloc (.cells vs.toArray ty)):=fm.alloc ei h.hR _ k N;have z:Adv own E (E.bind id w.heap.size k N) w (w.alloc (.cells vs.toArray ty)):=⟨t,rfl,rfl,rfl,by rw[size_alloc];omega,λ k s _=>Mk w _ s,λ _ hb=>.inl hb⟩;refine⟨z,?_,?_,?_,?_,?_⟩;intro b hb;rw[size_alloc];have:=h.hR b hb;omega;intro i av l;by_cases D:i=id;subst D;rw[aQ.vQ]at l;cases l;refine⟨w.heap.size,N,vs.toArray,ty,Env.vb _ _ _ _ _,heap_alloc_new w _,by simpa using J,K,F,h.new _ (a2 _),am,λ _ hb=>?_,s,?_⟩;exact absurd (h.hR _ hb) ac;intro j c q;have⟨v,C,B⟩:=L j c q;refine⟨v,?_,ax.keep t c v B⟩;rw[cell_of_row _ _ _ _ _ _ (heap_alloc_new w (.cells vs.toArray ty))];simpa using C;rw[aQ.nF _ _ _ D]at l;have⟨g,A,p,n,f⟩:=h.blk i av l;have u:=l0 f.heap;exact⟨g,A,p,n,f.keep t (Mk w _ u) (λ H=>f.no H)⟩;intro i j x y l q r m d;by_cases o:i=id;subst o;have a:j≠i:=λ e=>r e.symm;rw[aQ.nF _ _ _ a]at q;rw[Env.vb]at m;rw[Env.zd _ _ _ _ _ a]at d;cases hb:σ j with|none=>exact absurd hb q|some av=>have⟨g,A,p,n,f⟩:=h.blk j av hb;have u:=l0 f.heap;rw[f.μ]at d;simp only[bf]at m d;rw[<-m,<-d];simp only[];omega
 rw[aQ.nF _ _ _ o]at l;rw[Env.zd _ _ _ _ _ o]at m;by_cases a:j=id;subst a;rw[Env.vb]at d;cases hb:σ i with|none=>exact absurd hb l|some av=>have⟨g,A,p,n,f⟩:=h.blk i av hb;have u:=l0 f.heap;rw[f.μ]at m;simp only[bf]at m d;rw[<-m,<-d];simp only[];omega
 rw[aQ.nF _ _ _ a]at q;rw[Env.zd _ _ _ _ _ a]at d;exact h.inj i j x y l q r m d;intro g cs u;have⟨h1,I⟩:=h.jX g cs u;exact⟨h1,eO.keep t.bare (t.same g h1) cs 0 I⟩;intro k s;rw[size_alloc]at s;exact h.new k ac
def aa.upd(c:aa)(o:Nat)(new:List aa):aa:=match c with|.agg cs=>.agg (cs.take o++new++cs.drop (o+new.length))|c=>new.headD c
def aa.RR{c:aa}{o:Nat}{new:List aa}(h:o+new.length<=c.size)(h1:∀x∈new,x.one=true):(c.upd o new).cells=c.cells.take o++new++c.cells.drop (o+new.length):=by
 have b:∀c:aa,c.cells=[c]->c.upd o new=new.headD c->o+new.length<=c.size->(c.upd o new).cells=c.cells.take o++new++c.cells.drop (o+new.length):=by intro c d hu a;rw[hu,d];simp only[aa.size,d,lT]at a;match new,h1,a with
   |[],_,a=>
     have:o=0\/o=1:=by simp at a;omega
     rcases this with rfl|rfl<;>simp[d]|[x],h1,a=>
     have e:o=0:=by simp at a;omega
     subst e;have f:=h1 x am;cases x<;>simp[aa.one]at f<;>simp[aa.cells]|_::_::_,_,a=>simp at a;omega
 cases c<;>first|exact b _ rfl rfl h|rfl
def aa.apu{c:aa}{o:Nat}{new:List aa}(h:o+new.length<=c.size)(h1:∀x∈new,x.one=true):(c.upd o new).size=c.size:=by unfold aa.size at*;rw[aa.RR h h1];simp only[cy,eZ,m8];omega
def LX{k:Nat}:∀{es:List aa}{i:Nat}{e a:aa},(∀x∈es,x.size=k)->es[i]?=some e->a.size=k->flat (es.set i a)=(flat es).take (i*k)++a.cells++(flat es).drop (i*k+k)
 |[],_,_,_,_,h,_=>by simp at h|x::es,0,e,a,h,g,f=>by
   have d:x.cells.length=k:=h x am;have c:flat (x::es)=x.cells++flat es:=by simp[flat]
   have b:flat ((x::es).set 0 a)=a.cells++flat es:=by simp[flat]
   rw[c,b];simp[<-d]|x::es,i+1,e,a,h,g,f=>by
   have d:x.cells.length=k:=h x am;have l:=LX (es:=es) (i:=i) (λ y j=>h y (by simp[j])) (by simpa using g) f;have c:flat (x::es)=x.cells++flat es:=by simp[flat]
   have b:flat ((x::es).set (i+1) a)=x.cells++flat (es.set i a):=by simp[flat]
   rw[c,b,l];have m:(i+1)*k=x.cells.length+i*k:=by rw[d,fw];omega
   rw[m,List.take_append,show x.cells.length+i*k+k=x.cells.length+(i*k+k)from ac,List.drop_append];simp[List.take_of_length_le,qL]
def apY{G:Nat->Option (List aa)}{own:Nat->Prop}{E:Env}{w:World}{σ:aQ}(h:Inv G own E w σ){id:Id}{av:aJ}(g7:σ id=some av)(T:av.fr=false){g N:Nat}{a:Array Value}{ty:TypeId}(f:pU E own w id av g N a ty){e:Nat}{el:aa}(X:av.els[e]?=some el){o:Nat}{new:List aa}{vs:List Value}(F:o+new.length<=el.size)(h1:∀x∈new,x.one=true)(hv:bq E w new vs):e*av.k+o+vs.length<=a.size/\Adv own E E w (w.setRow g (a.toList.take (e*av.k+o)++vs++a.toList.drop (e*av.k+o+vs.length)).toArray)/\Inv G own E (w.setRow g (a.toList.take (e*av.k+o)++vs++a.toList.drop (e*av.k+o+vs.length)).toArray) (σ.put id (some {av with els:=av.els.set e (el.upd o new)})):=by
 have⟨Q,hvp⟩:=fu.1 hv;have H:el.size=av.k:=f.k el (ER X);have S:e<av.els.length:=(fl.1 X).1;have s:e*av.k+o+vs.length<=a.size:=by rw[f.size,Q];have h2:(e+1)*av.k<=N*av.k:=cr _ (by have:=f.len;omega);rw[fw]at h2;omega
 refine⟨s,?_⟩;generalize K:(a.toList.take (e*av.k+o)++vs++a.toList.drop (e*av.k+o+vs.length)).toArray=q;have hg:=l0 f.heap;have z:(w.setRow g q).heap[g]?=some (.cells q ty (0,0)):=setRow_heap w g a q ty _ f.heap;have O:fm E E w (w.setRow g q):=⟨λ _ _ h=>h,λ _ h=>h,λ b hb=>setRow_other w g b q (λ e=>f.no T (e▸hb))⟩;have V:Adv own E E w (w.setRow g q):=⟨O,rfl,rfl,rfl,am,λ k _ W=>setRow_other w g k q (λ e=>W (e▸f.own)),λ _ h=>.inl h⟩;refine⟨V,?_,?_,?_,?_,?_⟩;intro b hb;simpa using h.hR b hb;intro i tL t;by_cases m:i=id;subst m;rw[aQ.vQ]at t;cases t;have hu:=aa.apu F h1;refine⟨g,N,q,ty,f.μ,z,?_,by simpa using f.len,f.most,f.own,by simp[T],f.no,?_,?_⟩;rw[<-K];simp only[r3,cy,eZ,m8,Qc];rw[<-f.size];omega;intro x M;rcases Bs M with M|rfl;exact f.k x M;rw[hu];exact H;have Mo:flat (av.els.set e (el.upd o new))=(flat av.els).take (e*av.k+o)++new++(flat av.els).drop (e*av.k+o+new.length):=by
   rw[LX f.k X (hu.trans H),aa.RR F h1];have Ml:∀j,j<av.k->(flat av.els)[e*av.k+j]?=el.cells[j]?:=λ j p=>zy f.k X p;have U:(flat av.els).length=av.els.length*av.k:=kZ f.k;have CJ:el.cells.length=av.k:=H;have r:(e+1)*av.k<=av.els.length*av.k:=cr _ S;rw[fw]at r;have Z:o+new.length<=av.k:=by have:=F;unfold aa.size at this;omega
   have d:flat av.els=(flat av.els).take (e*av.k)++el.cells++(flat av.els).drop (e*av.k+av.k):=by apply List.ext_getElem?;intro j;by_cases h1:j<e*av.k;rw[qL,kO (by simp;omega),wq h1];rw[qL,kx (by simp;omega)];simp only[eZ,uK (ac:e*av.k<=(flat av.els).length)];by_cases h2:j-e*av.k<av.k;rw[kO ac,<-Ml _ h2];congr 1;omega;rw[kx ac,tp];congr 1;omega
   generalize(flat av.els).take (e*av.k)=A at d⊢;generalize hC:(flat av.els).drop (e*av.k+av.k)=C at d⊢;have hA:A.length=e*av.k:=by
     have h3:=congrArg List.length d;simp only[cy]at h3;have h4:C.length=(flat av.els).length-(e*av.k+av.k):=by rw[<-hC,m8]
     omega
   rw[d];rw[<-hA];simp only[qL];rw[aa6,show A.length+o+new.length=A.length+(o+new.length)from ac,aa9,List.take_append_of_le_length ac,abb ac];simp only[qL]
 show eK E (w.setRow g q) g 0 (flat (av.els.set e (el.upd o new)));rw[Mo];have U:(flat av.els).length=av.els.length*av.k:=kZ f.k;have r:(e+1)*av.k<=av.els.length*av.k:=cr _ S;rw[fw]at r;have Z:o+new.length<=av.k:=ac;have agU:av.els.length*av.k<=a.size:=by rw[f.size];exact cr _ f.len
 intro j c p;have I:(w.setRow g q).cell? ⟨g,0+j,none⟩=q[j]?:=by rw[cI];exact cell_of_row _ _ _ _ _ _ z
 rw[I];suffices L:∃v,q[j]?=some v/\ax E w c v by have⟨v,l,n⟩:=L;exact⟨v,l,ax.keep O c v n⟩
 rw[<-K];have u:∀(j:Nat)(c:aa),(flat av.els)[j]?=some c->∃v:Value,a[j]?=some v/\ax E w c v:=by intro j c p;have⟨v,l,n⟩:=f.row j c p;rw[cI,cell_of_row _ _ _ _ _ _ f.heap]at l;exact⟨v,l,n⟩
 simp only[E3];have ha:(a.toList.take (e*av.k+o)).length=e*av.k+o:=by simp;omega
 have hb:((flat av.els).take (e*av.k+o)).length=e*av.k+o:=by simp;omega
 rw[qL]at p⊢;by_cases c1:j<e*av.k+o;rw[kO ac,wq c1]at p;rw[kO ac,wq c1];have⟨v,l,n⟩:=u j c p;exact⟨v,by simpa using l,n⟩;rw[kx ac,hb]at p;rw[kx ac,ha];by_cases p6:j-(e*av.k+o)<new.length;rw[kO p6]at p;rw[kO ac];have⟨v,l,n⟩:=hvp _ c p;exact⟨v,l,n⟩;rw[kx ac,tp]at p;rw[kx ac,tp,Q];have⟨v,l,n⟩:=u _ c p;exact⟨v,by simpa using l,n⟩;rw[aQ.nF _ _ _ m]at t;have⟨J,oZ,P,Y,B⟩:=h.blk i tL t;have D:J≠g:=h.inj i id _ _ (by simp[t]) (by simp[g7]) m B.μ f.μ;exact⟨J,oZ,P,Y,B.keep O (setRow_other w g J q D) B.no⟩;intro i j x y t p D M hy;refine h.inj i j x y ?_ ?_ D M hy;intro R;by_cases m:i=id;subst m;simp[g7]at R;rw[aQ.nF _ _ _ m]at t;exact t R;intro R;by_cases m:j=id;subst m;simp[g7]at R;rw[aQ.nF _ _ _ m]at p;exact p R;intro J cs ag2;have⟨mI,agb⟩:=h.jX J cs ag2;exact⟨mI,eO.keep O.bare (O.same J mI) cs 0 agb⟩;intro k W;simp at W;exact h.new k W
inductive dO where|t(n:Nat)|c(a:aa)|g(n:Nat)|f(n:Nat)
def dO.ev(G:Nat->Option (List aa))(t:List aa):dO->aa
 |.t n=>t.getD n (.aM [])|.c a=>a|.g n=>match G n with|some cs=>.cE cs 0|none=>.top
 |.f n=>.fn (.func n) [] []
inductive dG where|int|str|bool|ptr|slice|func deriving DecidableEq
inductive dY(α:Type)where|mv(x:α)|pick(c a b:α)|box(x:α)|build(zero:List aa)(parts:List (Nat×Nat×α))|vc(k len:Nat)(zero:aa)(parts:List (Nat×α))|load(agg:Bool)(n:Nat)(x:α)|store(n:Nat)(x v:α)|Dp(x:α)|bin(op:BinOp)(sh:dG)(x y:α)|un(op:UnOp)(x:α)|toInt(k:IntKind)(x:α)|zU(x:α)|tM(x:α)|idx(x c:α)|nC(x y:α)|Ab(fn:Fn)(first cap:List α)|uk(k bytes:Nat)(zero:aa)(len cap:α)|slice(k:Nat)(x:α)(lo hi mx:Option α)|AZ(x:α)(lo hi:Option α)|vX(n:Nat)(x:α)(lo hi:Option α)|vn(off:Nat)(x:α)|field(agg:Bool)(off n:Nat)(x:α)|CU(k:Nat)(x i:α)|CT(n k:Nat)(x i:α)|zV(x i:α)|CZ(agg:Bool)(n k:Nat)(x i:α)|extract(x:α)(i:Nat)|len(str:Bool)(x:α)|C7(n:Nat)(x:α)|append(k bytes:Nat)(s x:α)|min(x y:α)|max(x y:α)|cap(x:α)|clear(k:Nat)(zero:aa)(x:α)|copy(k:Nat)(d x:α)|w8(k bytes:Nat)(zero:aa)(s n:α)|bad|call(f:α)(args:List α)
def dY.map{α β:Type}(g:α->β):dY α->dY β|.mv x=>.mv (g x)|.pick c a b=>.pick (g c) (g a) (g b)|.box x=>.box (g x)|.build z h=>.build z (h.map λ p=>(p.1,p.2.1,g p.2.2))|.vc k n z h=>.vc k n z (h.map λ p=>(p.1,g p.2))|.load a n x=>.load a n (g x)|.store n x v=>.store n (g x) (g v)|.Dp x=>.Dp (g x)|.bin op j x y=>.bin op j (g x) (g y)|.un op x=>.un op (g x)|.toInt k x=>.toInt k (g x)|.zU x=>.zU (g x)|.tM x=>.tM (g x)|.idx x c=>.idx (g x) (g c)|.nC x y=>.nC (g x) (g y)|.Ab fn a c=>.Ab fn (a.map g) (c.map g)|.uk k b z l c=>.uk k b z (g l) (g c)|.slice k x lo e mx=>.slice k (g x) (lo.map g) (e.map g) (mx.map g)|.AZ x lo e=>.AZ (g x) (lo.map g) (e.map g)|.vX n x lo e=>.vX n (g x) (lo.map g) (e.map g)|.vn o x=>.vn o (g x)|.field a o n x=>.field a o n (g x)|.CU k x i=>.CU k (g x) (g i)|.CT n k x i=>.CT n k (g x) (g i)|.zV x i=>.zV (g x) (g i)|.CZ a n k x i=>.CZ a n k (g x) (g i)|.extract x i=>.extract (g x) i|.len b x=>.len b (g x)|.C7 n x=>.C7 n (g x)|.append k b s x=>.append k b (g s) (g x)|.min x y=>.min (g x) (g y)|.max x y=>.max (g x) (g y)|.cap x=>.cap (g x)|.clear k z x=>.clear k z (g x)|.copy k d x=>.copy k (g d) (g x)|.w8 k b z s n=>.w8 k b z (g s) (g n)|.bad=>.bad|.call f m=>.call (g f) (m.map g)
structure bR where
 val:aa
 rd:List Id:=[]up:List (Id×Option aJ):=[]
def aQ.app(σ:aQ):List (Id×Option aJ)->aQ|[]=>σ|(i,b)::r=>(σ.put i b).app r
def tK(op:BinOp)(k:IntKind)(x y:Int):Option Int:=let a:=jk k.bits x;let b:=jk k.bits y;match op with|.and=>some (k.wrap (a&&&b).toNat)|.or=>some (k.wrap (a|||b).toNat)|.xor=>some (k.wrap (a^^^b).toNat)|.andNot=>some (k.wrap (a&&&~~~b).toNat)|_=>none
def qG(op:BinOp)(k:IntKind)(a b:Int):Option aa:=match op with|.add=>some (.int k (k.wrap (a+b)))|.sub=>some (.int k (k.wrap (a-b)))|.mul=>some (.int k (k.wrap (a*b)))|.quo=>if b=0 then none else some (.int k (k.wrap (a.tdiv b)))|.rem=>if b=0 then none else some (.int k (a.tmod b))|.and|.or|.xor|.andNot=>(tK op k a b).map (.int k)|.eql=>some (.bool (a==b))|.neq=>some (.bool (a !=b))|.lss=>some (.bool (a<b))|.leq=>some (.bool (a<=b))|.gtr=>some (.bool (a>b))|.geq=>some (.bool (a≥b))|.shl=>if b<0 then none else some (.int k (k.wrap (a*2^(min b.toNat k.bits))))|.shr=>if b<0 then none else some (.int k (a.fdiv (2^(min b.toNat k.bits))))
def PI(op:BinOp)(x y:List UInt8):Option aa:=match op with|.add=>if x.length+y.length<=maxLen then some (.str (x++y))else none|.eql=>some (.bool (x==y))|.neq=>some (.bool !(x==y))|.lss=>some (.bool (Ke x y))|.leq=>some (.bool (Ke x y||x==y))|.gtr=>some (.bool !(Ke x y||x==y))|.geq=>some (.bool !(Ke x y))|_=>none
def mi(op:BinOp)(c:dG)(x y:aa):Option aa:=match c,x,y with
 |.int,.int k a,.int k' b=>if op=.shl\/op=.shr\/k=k' then qG op k a b else none|.str,.str a,.str b=>PI op a b|.bool,.bool a,.bool b=>match op with|.eql=>some (.bool (a==b))|.neq=>some (.bool !(a==b))|_=>none
 |.ptr,.jA,.jA=>match op with|.eql=>some (.bool true)|.neq=>some (.bool false)|_=>none
 |.ptr,.ref _ _ _,.jA|.ptr,.jA,.ref _ _ _|.ptr,.cE _ _,.jA|.ptr,.jA,.cE _ _=>match op with|.eql=>some (.bool false)|.neq=>some (.bool true)|_=>none
 |.slice,.ar,.ar=>match op with|.eql=>some (.bool true)|.neq=>some (.bool false)|_=>none
 |.slice,.ah _ _ _ _ _,.ar|.slice,.ar,.ah _ _ _ _ _=>match op with|.eql=>some (.bool false)|.neq=>some (.bool true)|_=>none
 |.slice,.sl _ (_::_),.ar|.slice,.eW _ (_::_),.ar=>match op with|.eql=>some (.bool false)|.neq=>some (.bool true)|_=>none
 |.func,.kl,.kl=>match op with|.eql=>some (.bool true)|.neq=>some (.bool false)|_=>none
 |.func,.fn _ _ _,.kl|.func,.kl,.fn _ _ _=>match op with|.eql=>some (.bool false)|.neq=>some (.bool true)|_=>none
 |_,_,_=>none
def PG(op:BinOp)(b:dG)(x y:aa):Option aa:=match b,x,y with
 |.slice,.sl _ [],.ar|.slice,.eW _ [],.ar=>match op with|.eql|.neq=>some .j9|_=>none
 |.int,.int .i64 a,.nA n=>match op with|.gtr=>if a<=n then some (.bool false)else none|_=>none
 |_,_,_=>none
def eY(op:BinOp)(a:dG)(x y:aa):Option aa:=match mi op a x y with|some c=>some c|none=>PG op a x y
def PJ(op:UnOp)(x:aa):Option aa:=match op,x with|.neg,.int k n=>some (.int k (k.wrap (0-n)))|.xor,.int k n=>(tK .xor k (if k.signed then-1 else k.max) n).map (.int k)|.not,.bool b=>some (.bool !b)|_,_=>none
def part(a:Bool)(cs:List aa)(o n:Nat):Option aa:=if o+n<=cs.length then if a then some (.agg ((cs.drop o).take n))else if n=1 then cs[o]? else none else none
def lg(σ:aQ)(a:Bool)(n:Nat):aa->Option bR
 |.ref id e o=>match σ id with
   |some av=>match av.els[e]? with|some el=>(part a el.cells o n).map λ v=>{val:=v,rd:=[id]}|none=>none
   |none=>none
 |.cE cs o=>(part a cs o n).map λ v=>{val:=v}|_=>none
def uF(σ:aQ)(n:Nat)(x v:aa):Option bR:=match x with
 |.ref id e o=>match σ id with
   |some av=>match av.els[e]? with|some el=>if av.fr=false/\v.cells.length=n/\o+n<=el.size/\v.cells.all aa.one=true then some {val:=.aM [],rd:=[id],up:=[(id,some {av with els:=av.els.set e (el.upd o v.cells)})]}else none|none=>none
   |none=>none
 |_=>none
def uC(cs:List aa):List (Nat×Nat×aa)->Option (List aa)|[]=>some cs|(o,n,x)::r=>if x.cells.length=n/\o+n<=cs.length/\x.cells.all aa.one=true then uC (cs.take o++x.cells++cs.drop (o+n)) r else none
def A6(k:Nat)(es:List aa):List (Nat×aa)->Option (List aa)|[]=>some es|(i,x)::r=>if x.size=k/\i<es.length/\x.cells.all aa.one=true then A6 k (es.set i x) r else none
def iM(σ:aQ)(k:Nat):aa->Option (List aa×List Id)
 |.ar=>some ([],[])|.sl k' es|.eW k' es=>if k'=k then some (es,[])else none|.ah id k' off len _=>match σ id with|some av=>if k'=k/\av.k=k/\off+len<=av.els.length then some ((av.els.drop off).take len,[id])else none|none=>none
 |_=>none
def qD(σ:aQ)(p:Id)(k bytes:Nat)(s x:aa):Option bR:=match iM σ k x with|none=>none|some (ys,rd)=>if ys.isEmpty then match s with|.ar|.eW _ _|.ah _ _ _ _ _=>some {val:=s,rd}|_=>none else match s with
     |.ar=>if ys.length*bytes<=140737488355328/\ys.length<=maxLen/\(ys.all λ e=>e.cells.all aa.one)=true then some {val:=.ah p k 0 ys.length false,rd,up:=[(p,some ⟨ys,k,false⟩)]}else none|.eW k' es=>if k'=k/\(es.length+ys.length)*bytes<=140737488355328/\es.length+ys.length<=maxLen/\((es++ys).all λ e=>e.cells.all aa.one)=true then some {val:=.ah p k 0 (es.length+ys.length) false,rd,up:=[(p,some ⟨es++ys,k,false⟩)]}else none|.ah id k' off len tight=>match σ id with|some av=>if k'=k/\av.k=k/\off=0/\len<=av.els.length/\(len+ys.length)*bytes<=140737488355328/\len+ys.length<=maxLen/\(ys.all λ e=>e.cells.all aa.one)=true then if tight then if(av.els.all λ e=>e.cells.all aa.one)=true then some {val:=.ah p k 0 (len+ys.length) false,rd:=id::rd,up:=[(p,some ⟨av.els.take len++ys,k,false⟩)]}else none else if len=av.els.length/\av.fr=false/\(av.els.all λ e=>e.cells.all aa.one)=true then some {val:=.ah p k 0 (len+ys.length) false,rd:=id::rd,up:=[(id,none),(p,some ⟨av.els++ys,k,false⟩)]}else if len+ys.length<=av.els.length/\av.fr=false then some {val:=.ah id k 0 (len+ys.length) false,rd:=id::rd,up:=[(id,some {av with els:=av.els.take len++ys++av.els.drop (len+ys.length)})]}else none else none|none=>none
     |_=>none
def jf(d a:Nat):Option aa->Option Nat|none=>some d|some (.int _ i)=>if 0<=i/\i<=a then some i.toNat else none|some _=>none
def gh(len:Nat)(lo a:Option aa):Option (Nat×Nat):=match jf len len a with|none=>none|some h=>match jf 0 h lo with|none=>none|some l=>some (l,h)
def yd(mx:Option aa)(h:Nat):Bool:=match mx with|some (.int _ m)=>m==(h:Int)|_=>false
def gi(k:Nat)(x:aa)(lo a mx:Option aa):Option aa:=match x with
 |.ar=>match gh 0 lo a with|some _=>if mx.isNone=true\/yd mx 0=true then some .ar else none|none=>none
 |.sl k' es=>match gh es.length lo a with|some (l,h)=>if k'=k then if mx.isNone then some (.sl k ((es.take h).drop l))else if yd mx h then some (.eW k ((es.take h).drop l))else none else none|none=>none
 |.eW k' es=>match gh es.length lo a with|some (l,h)=>if k'=k/\(mx.isNone=true\/yd mx h=true)then if mx.isSome=true\/h=es.length then some (.eW k ((es.take h).drop l))else some (.sl k ((es.take h).drop l))else none|none=>none
 |.ah id k' off len t=>match gh len lo a with|some (l,h)=>if k'=k then if mx.isNone then if t=false\/h=len then if l=0 then some (.ah id k off h t)else if l=h then some (.sl k [])else some (.ah id k (off+l) (h-l) t)else none else if yd mx h=true/\l=0 then some (.ah id k off h true)else none else none|none=>none
 |_=>none
def PH(x:aa)(lo a:Option aa):Option aa:=match x with
 |.str s=>match gh s.length lo a with|some (l,h)=>some (.str ((s.take h).drop l))|none=>none
 |_=>none
def JH(σ:aQ)(n:Nat)(x:aa)(lo a:Option aa):Option bR:=match x with
 |.ref id e 0=>match σ id with
   |some av=>match av.els[e]? with
     |some el=>match gh n lo a with|some (l,h)=>if el.cells.length=n/\el.cells.all aa.one=true then some {val:=.sl 1 ((el.cells.take h).drop l),rd:=[id],up:=[(id,some {av with fr:=true})]}else none|none=>none
     |none=>none
   |none=>none
 |_=>none
def kM(k:Nat)(x i:aa):Option aa:=match i with
 |.int _ i=>match x with|.sl k' es|.eW k' es=>if k'=k/\0<=i then(es[i.toNat]?).map λ e=>.cE e.cells 0 else none|.ah id k' off len _=>if k'=k/\0<=i/\i<len then some (.ref id (off+i.toNat) 0)else none|_=>none
 |_=>none
def PA(n k:Nat)(x i:aa):Option aa:=match i with|.int _ i=>if 0<=i/\i<n then match x with|.ref id e o=>some (.ref id e (o+i.toNat*k))|.cE cs o=>some (.cE cs (o+i.toNat*k))|_=>none else none|_=>none
def Ba(p:Id)(k bytes:Nat)(zero len cap:aa):Option bR:=match len,cap with|.int _ l,.int _ c=>if 0<=l/\l<=c/\c*bytes<=140737488355328/\c<=maxLen/\zero.size=k/\zero.cells.all aa.one=true then some {val:=.ah p k 0 l.toNat false,up:=[(p,some ⟨bI l.toNat zero,k,false⟩)]}else none|_,_=>none
def m2:Bool->aa->Option aa|true,.str s=>some (.int .i64 s.length)|false,.ar=>some (.int .i64 0)|false,.sl _ es=>some (.int .i64 es.length)|false,.eW _ es=>some (.int .i64 es.length)|false,.ah _ _ _ len _=>some (.int .i64 len)|_,_=>none
def Py:aa->Option aa|.ar=>some (.int .i64 0)|.eW _ es=>some (.int .i64 es.length)|.ah _ _ _ len true=>some (.int .i64 len)|_=>none
def uD(σ:aQ)(id:Id)(off:Nat)(k:Nat)(news:List aa)(v:aa)(rd:List Id):Option bR:=match σ id with|some av=>if av.k=k/\off+news.length<=av.els.length/\av.fr=false/\(news.all λ e=>e.cells.all aa.one)=true then some {val:=v,rd:=id::rd,up:=[(id,some {av with els:=av.els.take off++news++av.els.drop (off+news.length)})]}else none|none=>none
def JC(σ:aQ)(k:Nat)(zero:aa)(x:aa):Option bR:=match x with|.ar=>some {val:=.aM []}|.ah id k' off len _=>if len=0 then some {val:=.aM []}else if k'=k/\zero.size=k then uD σ id off k (bI len zero) (.aM []) []else none|_=>none
def JD(σ:aQ)(k:Nat)(d x:aa):Option bR:=match iM σ k x with|none=>none|some (ys,rd)=>match d with|.ar=>some {val:=.int .i64 0,rd}|.ah id k' off len _=>if(ys.take len).isEmpty then some {val:=.int .i64 0,rd}else if k'=k then uD σ id off k (ys.take len) (.int .i64 (ys.take len).length) rd else none|_=>none
def Px(p:Id)(k bytes:Nat)(zero s n:aa):Option bR:=match s,n with|.ar,.int _ n=>if 0<n/\n*bytes<=140737488355328/\n<=maxLen/\zero.size=k/\zero.cells.all aa.one=true then some {val:=.ah p k 0 n.toNat false,up:=[(p,some ⟨bI n.toNat zero,k,false⟩)]}else none|_,_=>none
def Ce:List aa->Option (List UInt8)|[]=>some []|.int .u8 n::r=>(Ce r).map (UInt8.ofNat n.toNat::·)|_::_=>none
def Eu(σ:aQ)(x:aa):Option bR:=match iM σ 1 x with|some (ys,rd)=>(Ce ys).map λ l=>{val:=.str l,rd}|none=>none
def dN(v:Option aa):Option bR:=v.map λ v=>{val:=v}
def xx:List UInt8->UInt8->Int|[],_=>-1|b::l,c=>if b==c then 0 else if xx l c==-1 then-1 else xx l c+1
def PB:aa->aa->Option aa|.str s,.int .u8 c=>some (.int .i64 (xx s c.toNat.toUInt8))|_,_=>none
def U6(k:Nat):aa->Option Nat|.ar=>some 0|.sl k' es|.eW k' es=>if k'=k then some es.length else none|.ah _ k' _ len _=>if k'=k then some len else none|_=>none
def pF(σ:aQ)(k:Nat)(x:aa)(lo a mx:Option aa):Option aa->Option bR|some v=>dN (some v)|none=>match x,a,mx with
   |.ah id k' off _ false,some h,none=>match σ id with|some av=>if off<=av.els.length/\av.k=k then(gi k (.ah id k' off (av.els.length-off) false) lo (some h) none).map λ v=>{val:=v,rd:=[id]}else none|none=>none
   |x,some h,some (.int _ m)=>match U6 k x with
     |some n=>match gh n lo (some h)with|some (_,r)=>if(r:Int)<=m/\m<=n then some {val:=.top}else none|none=>none
     |none=>none
   |_,_,_=>none
def Ew(σ:aQ)(x:aa):Option aa->Option bR|some v=>dN (some v)|none=>match x with
   |.ah id _ off _ false=>match σ id with|some av=>if off<=av.els.length then some {val:=.nA (av.els.length-off),rd:=[id]}else none|none=>none
   |_=>none
def Ez(σ:aQ)(x y:aa):Option bR:=match x,y with
 |.ah i _ _ _ _,.ah j _ _ _ _=>if i=j then none else match σ i,σ j with|some _,some b=>if 0<b.k/\0<b.els.length then some {val:=.bool false,rd:=[i,j]}else none|_,_=>none
 |_,_=>none
def ck(σ:aQ)(p:Id):dY aa->Option bR
 |.mv x=>dN (some x)|.pick c a b=>match c with|.bool c=>dN (some (if c then a else b))|_=>none
 |.box x=>if x.cells.all aa.one=true then some {val:=.ref p 0 0,up:=[(p,some ⟨[x],x.size,false⟩)]}else none|.build z g=>dN ((uC z g).map .agg)|.vc k n z g=>match A6 k (bI n z) g with|some es=>if z.size=k/\z.cells.all aa.one=true then(if n=0 then some {val:=.eW k []}else some {val:=.ah p k 0 n false,up:=[(p,some ⟨es,k,false⟩)]})else none|none=>none
 |.load a n x=>lg σ a n x|.store n x v=>uF σ n x v|.Dp x=>match x with|.ref _ _ _|.cE _ _=>dN (some x)|.fn (.func _) _ _=>dN (some x)|_=>none
 |.bin op h x y=>dN (eY op h x y)|.un op x=>dN (PJ op x)|.toInt k x=>match x with|.int _ n=>dN (some (.int k (k.wrap n)))|_=>none
 |.zU x=>match x with|.str _=>dN (some x)|.int _ n=>if 0<=n/\n<128 then dN (some (.str [UInt8.ofNat n.toNat]))else none|_=>none
 |.tM x=>Eu σ x|.idx x c=>dN (PB x c)|.nC x y=>Ez σ x y|.Ab fn a c=>dN (some (.fn fn a c))|.uk k b z l c=>Ba p k b z l c|.slice k x lo f mx=>pF σ k x lo f mx (gi k x lo f mx)|.AZ x lo f=>dN (PH x lo f)|.vX n x lo f=>JH σ n x lo f|.vn o x=>match x with|.ref id e q=>dN (some (.ref id e (q+o)))|.cE cs q=>dN (some (.cE cs (q+o)))|_=>none
 |.field a o n x=>match x with|.agg cs=>dN (part a cs o n)|_=>none
 |.CU k x i=>dN (kM k x i)|.CT n k x i=>dN (PA n k x i)|.zV x i=>match x,i with|.str s,.int _ i=>if 0<=i then dN ((s[i.toNat]?).map λ b=>.int .u8 b.toNat)else none|_,_=>none
 |.CZ a n k x i=>match x,i with|.agg cs,.int _ i=>if 0<=i/\i<n then dN (part a cs (i.toNat*k) k)else none|_,_=>none
 |.extract x i=>match x with|.aM vs=>dN vs[i]?|_=>none
 |.len b x=>dN (m2 b x)|.C7 n _=>dN (some (.int .i64 n))|.append k b s x=>qD σ p k b s x|.min x y=>match x,y with|.int k a,.int _ b=>dN (some (.int k (if b<a then b else a)))|_,_=>none
 |.max x y=>match x,y with|.int k a,.int _ b=>dN (some (.int k (if b>a then b else a)))|_,_=>none
 |.cap x=>Ew σ x (Py x)|.clear k z x=>JC σ k z x|.copy k d x=>JD σ k d x|.w8 k b z s n=>Px p k b z s n|.bad=>none|.call _ _=>none
def oe:Nat->Value->Option aa|0,_=>none|n+1,v=>match v with|.bool b=>some (.bool b)|.int k i=>some (.int k i)|.string s=>some (.str s.data.toList)|.pointer none=>some .jA|.nilFunc=>some .kl|.slice none 0 0=>some .ar|.agg cs=>(cs.toList.mapM (oe n)).map .agg|.tuple cs=>(cs.toList.mapM (oe n)).map .aM|_=>none
def ca:Operand->Option dO|.tmp t=>some (.t t)|.const v=>(oe 3 v).map .c|.global g=>some (.g g)|.func f=>some (.f f)
def xd(xs:Array Operand):Option (List dO):=xs.toList.mapM ca
def lZ:Option Operand->Option (Option dO)|none=>some none|some x=>(ca x).map some
def pg(P:Program)(t:TypeId):Option Bool:=match P.underlying t with|some (.struct _)|some (.array _ _)=>some true|some _=>some false|none=>none
def AX(P:Program)(t:TypeId):Option dG:=match P.underlying t with|some (.int _)=>some .int|some .string=>some .str|some .bool=>some .bool|some (.pointer _)=>some .ptr|some (.slice _)=>some .slice|some (.func _ _ _)=>some .func|_=>none
def m5(P:Program)(t:TypeId):Option aa:=match P.info? t with
 |some i=>match i.zero with
   |some z=>match oe 3 z with|some a=>if a.size=i.size/\a.cells.all aa.one=true then some a else none|none=>none
   |none=>none
 |none=>none
def OC:Option TypeDesc->Bool|some (.slice _)=>true|_=>false
def Gc(P:Program)(b:Builtin)(args:Array Operand)(c:Array TypeId):Option (dY dO):=match b,args.toList,c.toList with
 |.len,[x],[t]=>match P.underlying t with|some .string=>(ca x).map (.len true)|some (.slice _)=>(ca x).map (.len false)|some (.array n _)=>(ca x).map (.C7 n)|_=>none
 |.append,[s,x],[t,a]=>match P.underlying t with
   |some (.slice e)=>match P.info? e with
     |some i=>if OC (P.underlying a)=true/\0<i.size/\0<i.bytes/\(m5 P e).isSome then match ca s,ca x with|some s,some x=>some (.append i.size i.bytes s x)|_,_=>none else match P.underlying a,m5 P e,ca s,ca x with|some (.int _),some z,some s,some x=>if 0<i.size then some (.w8 i.size i.bytes z s x)else none|_,_,_,_=>none
     |none=>none
   |_=>none
 |.cap,[x],[t]=>match P.underlying t with|some (.slice _)=>(ca x).map .cap|_=>none
 |.clear,[x],[t]=>match P.underlying t with
   |some (.slice e)=>match m5 P e,ca x with|some z,some x=>if 0<z.size then some (.clear z.size z x)else none|_,_=>none
   |_=>none
 |.copy,[d,x],[t,_]=>match P.underlying t with
   |some (.slice e)=>match P.info? e with|some i=>if 0<i.size then match ca d,ca x with|some d,some x=>some (.copy i.size d x)|_,_=>none else none|none=>none
   |_=>none
 |.min,[x,y],_=>match ca x,ca y with|some x,some y=>some (.min x y)|_,_=>none
 |.max,[x,y],_=>match ca x,ca y with|some x,some y=>some (.max x y)|_,_=>none
 |_,_,_=>none
inductive FE where|idx|nC
def Dm(n:String):Bool:=(Extern.allGenericRows.lookup n).isNone&&(Extern.allTypedRows.lookup n).isNone&&(Extern.allRows.lookup n).isNone&&(Extern.allNextRows.lookup n).isNone&&!(n== "runtime.NumGoroutine")
def Cx(P:Program):Operand->Option FE
 |.func f=>match P.funcs[f]? with|some fn=>if fn.body.isNone=true then if fn.name== "internal/bytealg.IndexByteString"&&fn.origin== ""then some .idx else if fn.origin== "slices.overlaps"&&Dm fn.name then match fn.params[0]? with
         |some t=>match P.underlying t with|some (.slice e)=>if(P.info? e).isSome then some .nC else none|_=>none
         |none=>none else none else none|none=>none
 |_=>none
def Gd(k:FE):List Operand->Option (dY dO)
 |[x,y]=>match ca x,ca y with|some x,some y=>some (match k with|.idx=>.idx x y|.nC=>.nC x y)|_,_=>none
 |_=>none
def gU(P:Program):Op->Option (dY dO)
 |.move x|.assign x=>(ca x).map .mv|.pick c a b=>match ca c,ca a,ca b with|some c,some a,some b=>some (.pick c a b)|_,_,_=>none
 |.alloc t=>(m5 P t).map λ z=>.box (.c z)|.box _ x=>(ca x).map .box|.build t m=>match P.underlying t,m5 P t,m.toList.mapM λ p=>(ca p.2).map (p.1,·)with
   |some (.struct fs),some z,some m=>match fs.toList.mapM (λ f=>(P.info? f.type).map λ i=>(f.offset,i.size))with|some j=>(m.mapM λ(p:Nat×dO)=>(j[p.1]?).map λ q=>(q.1,q.2,p.2)).map (.build z.cells)|none=>none
   |some (.array _ e),some z,some m=>match P.info? e with|some i=>some (.build z.cells (m.map λ p=>(p.1*i.size,i.size,p.2)))|none=>none
   |_,_,_=>none
 |.buildSlice t n m=>match P.underlying t,m.toList.mapM λ p=>(ca p.2).map (p.1,·)with
   |some (.slice e),some m=>match P.info? e,m5 P e with|some i,some z=>if n*i.size<=16777216/\0<i.size/\n<=maxLen then some (.vc i.size n z m)else none|_,_=>none
   |_,_=>none
 |.load t x=>match pg P t,P.info? t,ca x with|some a,some i,some x=>if a=true\/i.size=1 then some (.load a i.size x)else none|_,_,_=>none
 |.store t x v=>match P.info? t,ca x,ca v with|some i,some x,some v=>some (.store i.size x v)|_,_,_=>none
 |.nilCheck x=>(ca x).map .Dp|.binOp op t x y _=>match AX P t,ca x,ca y with|some o,some x,some y=>some (.bin op o x y)|_,_,_=>none
 |.unOp op _ x=>(ca x).map (.un op)|.convert s d x=>match P.underlying s,P.underlying d with
   |some (.int _),some (.int k)=>(ca x).map (.toInt k)|some .string,some .string=>(ca x).map .zU|some (.int _),some .string=>(ca x).map .zU|some (.slice e),some .string=>match P.underlying e with|some (.int .u8)=>(ca x).map .tM|_=>none
   |_,_=>none
 |.makeFunc fn a c=>match xd a,xd c with|some a,some c=>some (.Ab fn a c)|_,_=>none
 |.makeSlice t l c=>match P.underlying t with
   |some (.slice e)=>match P.info? e,m5 P e,ca l,ca c with|some i,some z,some l,some c=>if 0<i.size/\0<i.bytes then some (.uk i.size i.bytes z l c)else none|_,_,_,_=>none
   |_=>none
 |.slice t x lo h mx=>match P.underlying t with
   |some (.slice e)=>match P.info? e,ca x,lZ lo,lZ h,lZ mx with|some i,some x,some lo,some h,some mx=>if mx.isSome->h.isSome then some (.slice i.size x lo h mx)else none|_,_,_,_,_=>none
   |some .string=>match ca x,lZ lo,lZ h,mx with|some x,some lo,some h,none=>some (.AZ x lo h)|_,_,_,_=>none
   |some (.array n e)=>match P.info? e,ca x,lZ lo,lZ h,mx with|some i,some x,some lo,some h,none=>if i.size=1/\n<=maxLen then some (.vX n x lo h)else none|_,_,_,_,_=>none
   |_=>none
 |.fieldAddr s x f=>match P.underlying s with
   |some (.struct fs)=>match fs[f]? with
     |some fd=>match P.info? fd.type,ca x with|some i,some x=>if i.size=0 then none else some (.vn fd.offset x)|_,_=>none
     |none=>none
   |_=>none
 |.field s x f=>match P.underlying s with
   |some (.struct fs)=>match fs[f]? with
     |some fd=>match pg P fd.type,P.info? fd.type,ca x with|some a,some i,some x=>some (.field a fd.offset i.size x)|_,_,_=>none
     |none=>none
   |_=>none
 |.indexAddr t x g=>match P.underlying t with
   |some (.slice e)=>match P.info? e,ca x,ca g with|some i,some x,some g=>some (.CU i.size x g)|_,_,_=>none
   |some (.array n e)=>match P.info? e,ca x,ca g with|some i,some x,some g=>some (.CT n i.size x g)|_,_,_=>none
   |_=>none
 |.index t x g=>match P.underlying t with
   |some .string=>match ca x,ca g with|some x,some g=>some (.zV x g)|_,_=>none
   |some (.array n e)=>match pg P e,P.info? e,ca x,ca g with|some a,some i,some x,some g=>some (.CZ a n i.size x g)|_,_,_,_=>none
   |_=>none
 |.extract x i=>(ca x).map (.extract · i)|.call c=>match c.callee with
   |.value f=>match Cx P f with
     |none=>match ca f,xd c.args with|some f,some r=>some (.call f r)|_,_=>none
     |some k=>Gd k c.args.toList
   |.builtin b=>Gc P b c.args c.argTypes|.invoke _ _=>none
 |_=>none
def vd(P:Program)(o:Op):Option (dY dO):=match gU P o with|some v=>some v|none=>some .bad
structure dT where
 dst:Option Nat
 op:dY dO
 guard:Option (Nat×Bool):=none
inductive cD where|skip|mR(at0:Option (List (Nat×Nat)))(ops:List dT)|seq(a b:cD)|cond(c:dO)(a b:cD)|block(id:Nat)(c:cD)|loop(c:cD)|exit(id:Nat)|ret
inductive o0 where|tmp(t:Nat)|cell(x:Nat)(agg:Bool)(n:Nat)
structure ee where
 aH:Nat
 results:List o0
 body:cD
def dY.args{α:Type}:dY α->List α|.mv x=>[x]|.pick c a b=>[c,a,b]|.box x=>[x]|.build _ g=>g.map λ p=>p.2.2|.vc _ _ _ g=>g.map λ p=>p.2|.load _ _ x=>[x]|.store _ x v=>[x,v]|.Dp x=>[x]|.bin _ _ x y=>[x,y]|.un _ x=>[x]|.toInt _ x=>[x]|.zU x=>[x]|.tM x=>[x]|.idx x c=>[x,c]|.nC x y=>[x,y]|.Ab _ a c=>a++c|.uk _ _ _ l c=>[l,c]|.slice _ x lo e mx=>x::(lo.toList++e.toList++mx.toList)|.AZ x lo e=>x::(lo.toList++e.toList)|.vX _ x lo e=>x::(lo.toList++e.toList)|.vn _ x=>[x]|.field _ _ _ x=>[x]|.CU _ x i=>[x,i]|.CT _ _ x i=>[x,i]|.zV x i=>[x,i]|.CZ _ _ _ x i=>[x,i]|.extract x _=>[x]|.len _ x=>[x]|.C7 _ x=>[x]|.append _ _ s x=>[s,x]|.min x y=>[x,y]|.max x y=>[x,y]|.cap x=>[x]|.clear _ _ x=>[x]|.copy _ d x=>[d,x]|.w8 _ _ _ s n=>[s,n]|.bad=>[]|.call f h=>f::h
def dY.pure{α:Type}:dY α->Bool|.box _|.vc ..|.load ..|.store ..|.uk ..|.append ..|.w8 ..|.clear ..|.copy ..|.tM ..|.nC ..|.slice ..|.vX ..|.cap ..|.call ..=>false|_=>true
def dY.sN{α:Type}:dY α->Bool|.load ..|.tM ..|.nC ..|.slice ..|.cap ..=>true|_=>false
def dO.Y4:dO->Option Nat|.t n=>some n|_=>none
def dT.names(o:dT):List Nat:=o.op.args.filterMap dO.Y4++(o.guard.map (·.1)).toList
def iF:List (List Nat)->List Nat->List Nat|[],a=>a|l::r,a=>iF r (a++[l.foldl (λ s i=>s|||2^i|||a.getD i 0) 0])
def FZ(n:Nat):List (Nat×Nat):=(aR n).flatMap λ j=>(aR j).map λ i=>(i,j)
def vh(a b:dT):Bool:=(match a.dst with|some d=>b.names.contains d||b.dst==some d|none=>false)||(match b.dst with|some d=>a.names.contains d|none=>false)
def Ih(ops:List dT)(c:List (List Nat)):Bool:=let d:=iF c [];c.length==ops.length&&((aR ops.length).all λ j=>(c.getD j []).all λ i=>i<j)&&(FZ ops.length).all λ p=>match ops[p.1]?,ops[p.2]? with|some a,some b=>!vh a b||(d.getD p.2 0).testBit p.1|_,_=>true
def GK(ops:List dT)(c:List (List Nat)):List (Nat×Nat):=let d:=iF c [];(FZ ops.length).filter λ p=>match ops[p.1]?,ops[p.2]? with|some a,some b=>!a.op.pure&&!b.op.pure&&!(a.op.sN&&b.op.sN)&&!(d.getD p.2 0).testBit p.1|_,_=>false
def sw(P:Program)(ops:Array Oper)(o:Oper):Option dT:=match vd P o.op,o.guard with
 |some op,none=>some {dst:=o.dst,op}|some op,some (j,a)=>match(ops[j]?).bind (·.dst)with|some d=>some {dst:=o.dst,op,guard:=some (d,a)}|none=>none
 |none,_=>none
def sV(o:Oper):List Nat:=(o.after.toList.filter (Region.binds .any)).map (·.on)
def p9(P:Program)(ops:Array Oper)(a:Bool):Option cD:=match ops.toList.mapM (sw P ops)with|none=>none|some vs=>if a then let b:=ops.toList.map sV;if Ih vs b&&P.follows .mixedOrders then some (.mR (some (GK vs b)) vs)else none else some (.mR none vs)
def gF(P:Program):Code->Option cD
 |.skip=>some .skip|.region _ ops d=>p9 P ops d|.seq a b=>match gF P a,gF P b with|some a,some b=>some (.seq a b)|_,_=>none
 |.cond c a b=>match ca c,gF P a,gF P b with|some c,some a,some b=>some (.cond c a b)|_,_,_=>none
 |.block id c=>(gF P c).map (.block id)|.loop c=>(gF P c).map .loop|.exit id=>some (.exit id)|.ret=>some .ret|_=>none
def Cg(P:Program):ResultVar->Option o0|.tmp t=>some (.tmp t)|.cell a t=>match pg P t,P.info? t with|some g,some i=>if g=true\/i.size=1 then some (.cell a g i.size)else none|_,_=>none
def xe(P:Program)(fn:Func):Option ee:=if fn.name== "runtime.NumGoroutine"then none else match fn.body,fn.results.toList.mapM (Cg P)with|some c,some d=>(gF P c).map λ b=>{aH:=fn.ntmps,results:=d,body:=b}|_,_=>none
structure lV(G:Nat->Option (List aa))(own:Nat->Prop)(E:Env)(w:World)(σ:aQ)(p:Id)(r:bR)(v:Value)(E':Env)(w':World):Prop where
 jo:Adv own E E' w w'
 inv:Inv G own E' w' (σ.app r.up)rep:ax E' w' r.val v
 ids:∀i:Id,¬p<:+i->E'.μ i=E.μ i
def Sound(P:Program)(G:Nat->Option (List aa))(own:Nat->Prop)(E:Env)(w:World)(σ:aQ)(p:Id)(s:Sem Value)(r:bR):Prop:=∃v w' E',s.run P w=.ok v w'/\lV G own E w σ p r v E' w'
section
variable{P:Program}{G:Nat->Option (List aa)}{own:Nat->Prop}{E:Env}{w:World}{σ:aQ}{p:Id}
def Sound.same{s:Sem Value}{c:aa}{v:Value}{rd:List Id}(h:Inv G own E w σ)(a:s.run P w=.ok v w)(b:ax E w c v):Sound P G own E w σ p s {val:=c,rd:=rd}:=⟨v,w,E,a,Adv.refl own E w,h,b,λ _ _=>rfl⟩
def Sound.NM{s:Sem Value}{pq:Option aa}{r:bR}(h:dN pq=some r)(k:∀c,pq=some c->Sound P G own E w σ p s {val:=c}):Sound P G own E w σ p s r:=by cases pq with|none=>simp[dN]at h|some c=>simp only[dN,fk,bf]at h;subst h;exact k c rfl
def vG{α β:Type}{f:α->Option β}:∀{l:List α}{r:List β},l.mapM f=some r->r.length=l.length|[],r,h=>by simp at h;simp[<-h]|a::l,r,h=>by simp only[uR,yL,Kp,yN]at h;have⟨b,_,e,d,c⟩:=h;cases c;simp[vG d]
def mapM_some_get{α β:Type}{f:α->Option β}:∀{l:List α}{r:List β},l.mapM f=some r->∀(i:Nat)(b:β),r[i]?=some b->∃a,l[i]?=some a/\f a=some b|[],r,h,i,b,hb=>by simp at h;subst h;simp at hb|a::l,r,h,i,b,hb=>by simp only[uR,yL,Kp,yN]at h;have⟨c,h1,g,e,d⟩:=h;cases d;cases i with|zero=>simp at hb;subst hb;exact⟨a,rfl,h1⟩|succ i=>simpa using mapM_some_get e i b (by simpa using hb)
def akd{β:Type}{f:β->Option aa}{val:β->Value}(h:∀x c,f x=some c->ax E w c (val x)){l:List β}{r:List aa}(b:l.mapM f=some r):bq E w r (l.map val):=by refine fu.2 ⟨by simp[vG b],λ j c d=>?_⟩;have⟨a,h1,e⟩:=mapM_some_get b j c d;exact⟨val a,by simp[h1],h a c e⟩
def tO:∀{n:Nat}{v:Value}{c:aa},oe n v=some c->ax E w c v
 |0,_,_,h=>by simp[oe]at h|n+1,v,c,h=>by
   have d:∀x c,oe n x=some c->ax E w c x:=λ x c h=>tO h;have b:∀{cs:List Value}{r:List aa},cs.mapM (oe n)=some r->bq E w r cs:=by intro cs r a;simpa using akd (val:=id) d a
   unfold oe at h;split at h;cases h;simp[ax];cases h;simp[ax];cases h;simp[ax];cases h;simp[ax];cases h;simp[ax];cases h;simp[ax];rename_i cs;cases a:cs.toList.mapM (oe n)with|none=>simp[a]at h|some r=>simp only[a,fk,bf]at h;subst h;simp only[ax];exact⟨cs,rfl,b a⟩
   rename_i cs;cases a:cs.toList.mapM (oe n)with|none=>simp[a]at h|some r=>simp only[a,fk,bf]at h;subst h;simp only[ax];exact⟨cs,rfl,b a⟩
   simp at h
def gC(E:Env)(w:World)(t:List aa)(a:Act):Prop:=bq E w t a.tmps.toList
def gC.get{t:List aa}{a:Act}(h:gC E w t a)(n:Nat):ax E w (t.getD n (.aM [])) (a.tmps.getD n undef):=by
 have⟨e,d⟩:=fu.1 h;by_cases b:n<t.length;have⟨v,c,f⟩:=d n t[n] (by simp[b]);have:a.tmps.getD n undef=v:=by rw[tv];simp at c;simp[c]
 rw[this];simpa[List.getD,b]using f;have h1:t.getD n (.aM [])=.aM []:=by simp[List.getD,Nat.le_of_not_lt b]
 have g:a.tmps.getD n undef=undef:=by
   rw[tv];have:a.tmps.size<=n:=by have:=e;simp at this;omega
   simp[this]
 rw[h1,g];simp only[ax,undef];exact⟨#[],rfl,by simp[bq]⟩
def dp{t:List aa}{a:Act}(l:gC E w t a)(m:Inv G own E w σ){x:Operand}{hH:dO}(h:ca x=some hH):ax E w (hH.ev G t) (a.eval x):=by cases x with
 |tmp n=>simp only[ca,bf]at h;subst h;exact l.get n|const v=>simp only[ca]at h;cases e:oe 3 v with|none=>simp[e]at h|some c=>simp only[e,fk,bf]at h;subst h;exact tO e
 |global g=>simp only[ca,bf]at h;subst h;simp only[dO.ev,Act.eval];cases o:G g with|none=>simp[ax]|some cs=>have⟨h1,j⟩:=m.jX g cs o;simp only[ax];exact⟨g,0,rfl,h1,eO.keep (fm.aqt E w) rfl cs 0 j⟩
 |func f=>simp only[ca,bf]at h;subst h;simp only[dO.ev,Act.eval,ax];exact⟨#[],#[],rfl,by simp[bq],by simp[bq]⟩
def Lg{t:List aa}{a:Act}(f:gC E w t a)(e:Inv G own E w σ){xs:Array Operand}{vs:List dO}(h:xd xs=some vs):bq E w (vs.map (dO.ev G t)) (xs.map a.eval).toList:=by unfold xd at h;refine fu.2 ⟨by simp[vG h],λ j c d=>?_⟩;simp only[kv,eI]at d;obtain⟨hH,b,rfl⟩:=d;have⟨x,h1,g⟩:=mapM_some_get h j hH b;refine⟨a.eval x,?_,dp f e g⟩;simp at h1;simp[h1]
def Hw{t:TypeId}{b:Bool}(h:pg P t=some b)(w:World):(isAgg t).run P w=.ok b w:=by unfold pg at h;cases hu:P.underlying t with|none=>simp[hu]at h|some d=>cases d<;>simp[hu]at h<;>subst h<;>simp[isAgg,run_underlying hu]
def nL{t:TypeId}{i:TypeInfo}(h:P.info? t=some i)(w:World):(sizeOf t).run P w=.ok i.size w:=by simp[sizeOf,typeInfo,h]
def yt{t:TypeId}{z:aa}(h:m5 P t=some z):∃i v,P.info? t=some i/\i.zero=some v/\oe 3 v=some z/\z.size=i.size/\z.cells.all aa.one=true:=by unfold m5 at h;cases d:P.info? t with|none=>simp[d]at h|some i=>simp only[d]at h;cases c:i.zero with|none=>simp[c]at h|some v=>simp only[c]at h;cases b:oe 3 v with|none=>simp[b]at h|some a=>simp only[b]at h;split at h;rename_i e;cases h;exact⟨i,v,rfl,c,b,e.1,e.2⟩;simp at h
def aat{t:TypeId}{i:TypeInfo}{v:Value}(h:P.info? t=some i)(a:i.zero=some v)(w:World):(zeroValue t).run P w=.ok v w:=by simp[zeroValue,typeInfo,h,a]
def uo{c:aa}(h:c.cells.all aa.one=true):c.one=true\/∃cs,c=.agg cs:=by cases c<;>simp[aa.cells,aa.one]at h⊢
def amA{a:Bool}{cs:List aa}{o n:Nat}{c:aa}(h:part a cs o n=some c){xs:Array Value}(l:bq E w cs xs.toList):ax E w c (if a then .agg (xs.extract o (o+n))else xs.getD o undef)/\o+n<=xs.size/\(a=false->n=1):=by
 have⟨k,i⟩:=fu.1 l;unfold part at h;split at h;rename_i q;refine⟨?_,by simp at k;omega,?_⟩;cases a with|true=>simp only[if_true,bf]at h⊢;subst h;simp only[ax];refine⟨_,rfl,fu.2 ⟨by simp at k⊢;omega,λ j d f=>?_⟩⟩;rw[Qr]at f;split at f;rename_i g;rw[tp]at f;have⟨v,e,b⟩:=i _ _ f;refine⟨v,?_,b⟩;simp at e;have:o+j<xs.size:=(yw.1 e).1;simp only[Array.toList_extract,abv,Nat.add_sub_cancel_left];rw[wq g,tp];simpa using e;simp at f|false=>simp only[iz,if_false]at h⊢;split at h;have⟨v,e,b⟩:=i _ _ h;rw[tv];simp at e;simpa[e]using b;simp at h
 intro m;subst m;simp only[iz,if_false]at h;split at h;assumption;simp at h;simp at h
def kF:aa->Value|.bool b=>.bool b|.int k n=>.int k n|.str l=>.string ⟨l.toArray⟩|_=>undef
def aa.plain:aa->Bool|.bool _|.int _ _|.str _=>true|_=>false
def XG{c:aa}(h:c.plain=true):ax E w c (kF c):=by cases c<;>simp[aa.plain]at h<;>simp[ax,kF]
def ZO{op:BinOp}{k k':IntKind}{a b:Int}{t:TypeId}{c:aa}(g:op=.shl\/op=.shr\/k=k')(h:qG op k a b=some c)(w:World):(binOp op t (.int k a) (.int k' b)).run P w=.ok (kF c) w/\c.plain=true:=by
 cases op<;>simp only[qG]at h;case shl=>split at h<;>simp only[bf,reduceCtorEq]at h;subst h;rename_i hb;exact⟨by simp only[binOp_shl,Op.shift,hb,if_false];rfl,rfl⟩
 case shr=>split at h<;>simp only[bf,reduceCtorEq]at h;subst h;rename_i hb;exact⟨by simp only[binOp_shr,Op.shift,hb,if_false];rfl,rfl⟩
 all_goals obtain rfl:=(by simpa using g:k=k')
 case quo=>split at h<;>simp only[bf,reduceCtorEq]at h;subst h;rename_i hb;exact⟨by simp[binOp_quo,Op.intDiv,hb,kF],rfl⟩
 case rem=>split at h<;>simp only[bf,reduceCtorEq]at h;subst h;rename_i hb;exact⟨by simp[binOp_rem,Op.intDiv,hb,kF],rfl⟩
 case and=>simp only[tK,fk,bf]at h;subst h;exact⟨by simp[binOp_and,Fi,kF],rfl⟩
 case or=>simp only[tK,fk,bf]at h;subst h;exact⟨by simp[binOp_or,Fi,kF],rfl⟩
 case xor=>simp only[tK,fk,bf]at h;subst h;exact⟨by simp[binOp_xor,Fi,kF],rfl⟩
 case andNot=>simp only[tK,fk,bf]at h;subst h;exact⟨by simp[binOp_andNot,Fi,kF],rfl⟩
 all_goals(cases h;refine⟨?_,rfl⟩)
 all_goals simp[binOp,Op.intArith,Op.intCmp,kF]
def arz{op:BinOp}{a b:List UInt8}{t:TypeId}{c:aa}(h:PI op a b=some c)(w:World):(binOp op t (.string ⟨a.toArray⟩) (.string ⟨b.toArray⟩)).run P w=.ok (kF c) w/\c.plain=true:=by
 cases op<;>simp only[PI,reduceCtorEq]at h;case add=>
   split at h;rename_i d;cases h;refine⟨?_,rfl⟩;have h1:¬(((wG a.toArray).size+(wG b.toArray).size:Nat):Int)>IntKind.i64.max:=by simp only[IntKind.max_i64,abA,r3];unfold maxLen at d;omega
   simp only[binOp,Op.stringOp,h1,if_false,kF,Sem.run_pure];congr 2;simp at h
 all_goals(cases h;refine⟨?_,rfl⟩;simp[binOp,Op.stringOp,kF])
def Zp{t:TypeId}{d:dG}(h:AX P t=some d):match d with|.int=>∃k,P.underlying t=some (.int k)|.str=>P.underlying t=some .string|.bool=>P.underlying t=some .bool|.ptr=>∃e,P.underlying t=some (.pointer e)|.slice=>∃e,P.underlying t=some (.slice e)|.func=>∃a b c,P.underlying t=some (.func a b c):=by unfold AX at h;split at h<;>simp only[bf,reduceCtorEq]at h<;>subst h<;>simp_all
def SN(op:BinOp)(t:TypeId)(x y:Operand)(a b:Value)(c:a≠.nilIface)(hb:∀cs,a≠.agg cs)(w:World):(eqGuard op t x y a b).run P w=.ok () w:=by unfold eqGuard;cases op<;>cases a<;>first|rfl|exact absurd rfl c|exact absurd rfl (hb _)
variable{t:TypeId}(d:Nat)
def afk(hu:P.underlying t=some .bool)(a b:Bool):(jO (d+1) t (.bool a) (.bool b)).run P w=.ok (a==b) w:=by simp[jO,run_underlying hu]
def afo{e:TypeId}(hu:P.underlying t=some (.pointer e)):(jO (d+1) t (.pointer none) (.pointer none)).run P w=.ok true w:=by simp[jO,run_underlying hu]
def SP{e:TypeId}(hu:P.underlying t=some (.pointer e))(a:Addr):(jO (d+1) t (.pointer none) (.pointer (some a))).run P w=.ok false w:=by simp[jO,run_underlying hu]
def SQ{e:TypeId}(hu:P.underlying t=some (.pointer e))(a:Addr):(jO (d+1) t (.pointer (some a)) (.pointer none)).run P w=.ok false w:=by simp[jO,run_underlying hu]
def afp{e:TypeId}(hu:P.underlying t=some (.slice e)):(jO (d+1) t (.slice none 0 0) (.slice none 0 0)).run P w=.ok true w:=by simp[jO,run_underlying hu]
def afq{e:TypeId}(hu:P.underlying t=some (.slice e))(a:Addr)(n m:Nat):(jO (d+1) t (.slice none 0 0) (.slice (some a) n m)).run P w=.ok false w:=by simp[jO,run_underlying hu]
def LL{e:TypeId}(hu:P.underlying t=some (.slice e))(a:Addr)(n m:Nat):(jO (d+1) t (.slice (some a) n m) (.slice none 0 0)).run P w=.ok false w:=by simp[jO,run_underlying hu]
def afl{e f:Array TypeId}{g:Bool}(hu:P.underlying t=some (.func e f g)):(jO (d+1) t .nilFunc .nilFunc).run P w=.ok true w:=by simp[jO,run_underlying hu]
def afm{e f:Array TypeId}{g:Bool}(hu:P.underlying t=some (.func e f g))(x:Fn)(y z:Array Value):(jO (d+1) t .nilFunc (.func x y z)).run P w=.ok false w:=by simp[jO,run_underlying hu]
def afn{e f:Array TypeId}{g:Bool}(hu:P.underlying t=some (.func e f g))(x:Fn)(y z:Array Value):(jO (d+1) t (.func x y z) .nilFunc).run P w=.ok false w:=by simp[jO,run_underlying hu]
def nr{op:BinOp}{t:TypeId}{a b:Value}{r:Bool}{c:aa}(g:∀(k:IntKind)n,a≠.int k n)(i:∀s,a≠.string s)(h:∀k n,a≠.float k n)(e:∀k n m,a≠.complex k n m)(d:(jO (9999+1) t a b).run P w=.ok r w)(f:(match op with|.eql=>some (aa.bool r)|.neq=>some (aa.bool !r)|_=>none)=some c):(binOp op t a b).run P w=.ok (kF c) w/\c.plain=true:=by have j:(Op.equal t a b).run P w=.ok r w:=d;clear d;cases op<;>simp only[reduceCtorEq]at f;all_goals cases f;refine⟨?_,rfl⟩;cases a<;>first|exact absurd rfl (g _ _)|exact absurd rfl (i _)|exact absurd rfl (h _ _)|exact absurd rfl (e _ _ _)|simp[binOp,j,kF]
def aq3{op:BinOp}{t:TypeId}{l:dG}(j:AX P t=some l){x y c:aa}{a b:Value}(h:mi op l x y=some c)(d:ax E w x a)(i:ax E w y b):(binOp op t a b).run P w=.ok (kF c) w/\c.plain=true/\a≠.nilIface/\(∀cs,a≠.agg cs):=by have hu:=Zp j;unfold mi at h;split at h;simp only[ax]at d i;subst d;subst i;split at h;rename_i m;obtain⟨h1,k⟩:=ZO (t:=t) (P:=P) (by simpa using m) h w;exact⟨h1,k,am,am⟩;simp at h;simp only[ax]at d i;subst d;subst i;have⟨h1,k⟩:=arz (t:=t) (P:=P) h w;exact⟨h1,k,am,am⟩;simp only[ax]at d i;subst d;subst i;rename_i a b;refine and_assoc.1 ⟨?_,am,am⟩;exact nr (r:=a==b) am am am am (afk _ hu _ _) h;have⟨e,hu⟩:=hu;simp only[ax]at d i;subst d;subst i;refine and_assoc.1 ⟨?_,am,am⟩;exact nr (r:=true) am am am am (afo _ hu) h;have⟨e,hu⟩:=hu;simp only[ax]at d i;subst i;obtain⟨_,_,_,_,rfl⟩:=d;refine and_assoc.1 ⟨?_,am,am⟩;exact nr (r:=false) am am am am (SQ _ hu _) h;have⟨e,hu⟩:=hu;simp only[ax]at d i;subst d;obtain⟨_,_,_,_,rfl⟩:=i;refine and_assoc.1 ⟨?_,am,am⟩;exact nr (r:=false) am am am am (SP _ hu _) h;have⟨e,hu⟩:=hu;simp only[ax]at d i;subst i;obtain⟨_,_,rfl,_⟩:=d;refine and_assoc.1 ⟨?_,am,am⟩;exact nr (r:=false) am am am am (SQ _ hu _) h;have⟨e,hu⟩:=hu;simp only[ax]at d i;subst d;obtain⟨_,_,rfl,_⟩:=i;refine and_assoc.1 ⟨?_,am,am⟩;exact nr (r:=false) am am am am (SP _ hu _) h;obtain⟨e,hu⟩:=hu;simp only[ax]at d i;subst d;subst i;refine and_assoc.1 ⟨?_,am,am⟩;exact nr (r:=true) am am am am (afp _ hu) h;obtain⟨e,hu⟩:=hu;simp only[ax]at d i;subst i;obtain⟨_,_,_,_,rfl,_⟩:=d;refine and_assoc.1 ⟨?_,am,am⟩;exact nr (r:=false) am am am am (LL _ hu _ _ _) h;obtain⟨e,hu⟩:=hu;simp only[ax]at d i;subst d;obtain⟨_,_,_,_,rfl,_⟩:=i;refine and_assoc.1 ⟨?_,am,am⟩;exact nr (r:=false) am am am am (afq _ hu _ _ _) h;obtain⟨e,hu⟩:=hu;simp only[ax]at d i;subst i;obtain⟨a,cap,rfl,_,_,_,d⟩:=d;simp only[reduceCtorEq,false_or]at d;obtain⟨b,o,rfl,_⟩:=d;refine and_assoc.1 ⟨?_,am,am⟩;exact nr (r:=false) am am am am (LL _ hu _ _ _) h;obtain⟨e,hu⟩:=hu;simp only[ax]at d i;subst i;obtain⟨a,rfl,_,_,d⟩:=d;simp only[reduceCtorEq,false_or]at d;obtain⟨b,o,rfl,_⟩:=d;refine and_assoc.1 ⟨?_,am,am⟩;exact nr (r:=false) am am am am (LL _ hu _ _ _) h;obtain⟨e,f,g,hu⟩:=hu;simp only[ax]at d i;subst d;subst i;refine and_assoc.1 ⟨?_,am,am⟩;exact nr (r:=true) am am am am (afl _ hu) h;obtain⟨e,f,g,hu⟩:=hu;simp only[ax]at d i;subst i;obtain⟨_,_,rfl,_⟩:=d;refine and_assoc.1 ⟨?_,am,am⟩;exact nr (r:=false) am am am am (afn _ hu _ _ _) h;obtain⟨e,f,g,hu⟩:=hu;simp only[ax]at d i;subst d;obtain⟨_,_,rfl,_⟩:=i;refine and_assoc.1 ⟨?_,am,am⟩;exact nr (r:=false) am am am am (afm _ hu _ _ _) h;simp at h
def afr{P:Program}{w:World}{t e:TypeId}{d:Nat}(hu:P.underlying t=some (.slice e))(a:Option Addr)(n m:Nat):(jO (d+1) t (.slice a n m) (.slice none 0 0)).run P w=.ok a.isNone w:=by cases a<;>simp[jO,run_underlying hu]
def ars{op:BinOp}{t:TypeId}{i:dG}(g:AX P t=some i){x y c:aa}{a b:Value}(h:PG op i x y=some c)(d:ax E w x a)(f:ax E w y b):(∃r,ax E w c (.bool r)/\(binOp op t a b).run P w=.ok (.bool r) w)/\a≠.nilIface/\(∀cs,a≠.agg cs):=by
 have hu:=Zp g;have key:∀(a:Option Addr)(n m:Nat)(op:BinOp)(c:aa)(e:TypeId),P.underlying t=some (.slice e)->(match op with|.eql|.neq=>some aa.j9|_=>none)=some c->∃r,ax E w c (.bool r)/\(binOp op t (.slice a n m) (.slice none 0 0)).run P w=.ok (.bool r) w:=by intro a n m op c e hu h;have j:=λ r=>nr (P:=P) (w:=w) (op:=op) (t:=t) (a:=.slice a n m) (b:=.slice none 0 0) (r:=a.isNone) (c:=r) am am am am (afr hu a n m);cases op<;>simp only[reduceCtorEq,bf]at h;subst h;exact⟨_,by simp[ax],(j (.bool a.isNone) rfl).1⟩;subst h;exact⟨_,by simp[ax],(j (.bool !a.isNone) rfl).1⟩
 unfold PG at h;split at h;have⟨e,hu⟩:=hu;simp only[ax]at d f;subst f;obtain⟨a,cap,rfl,_⟩:=d;exact⟨key a _ cap op c e hu h,am,am⟩;have⟨e,hu⟩:=hu;simp only[ax]at d f;subst f;obtain⟨a,rfl,_⟩:=d;exact⟨key a _ _ op c e hu h,am,am⟩;rename_i a0 n;simp only[ax]at d f;obtain⟨m,l,rfl⟩:=f;subst d;refine⟨?_,am,am⟩;split at h;split at h;rename_i o;cases h;have q:qG .gtr .i64 a0 (m:Int)=some (.bool (decide (a0>(m:Int)))):=by simp[qG]
 have⟨h1,_⟩:=ZO (P:=P) (t:=t) (k:=.i64) (k':=.i64) (op:=.gtr) am q w;have hd:decide (a0>(m:Int))=false:=by simp;omega
 rw[hd]at h1;exact⟨false,by simp[ax],h1⟩;simp at h;simp at h;simp at h
def arA{op:UnOp}{x c:aa}{a:Value}(h:PJ op x=some c)(b:ax E w x a):(KC op a).run P w=.ok (kF c) w/\c.plain=true:=by unfold PJ at h;split at h;simp only[ax]at b;subst b;cases h;exact⟨by simp[KC,Op.intArith,kF],rfl⟩;simp only[ax]at b;subst b;simp only[tK,fk,bf]at h;subst h;exact⟨by simp[KC,Fi,kF],rfl⟩;simp only[ax]at b;subst b;cases h;exact⟨by simp[KC,kF],rfl⟩;simp at h
def ZQ(U:Inv G own E w σ){t:TypeId}{s:Bool}{i:TypeInfo}(M:pg P t=some s)(J:P.info? t=some i){x:aa}{a:Value}(F:ax E w x a){r:bR}(h:lg σ s i.size x=some r):(∃v,(Fo t a).run P w=.ok v w/\ax E w r.val v)/\r.up=[]/\∃S,a=.pointer (some S):=by
 have key:∀(b q o:Nat)(cs:List aa)(c:aa),eK E w b q cs->part s cs o i.size=some c->(∃v,(Fo t (.pointer (some ⟨b,q+o,none⟩))).run P w=.ok v w/\ax E w c v):=by
   intro b q o cs c D m;unfold part at m
   split at m;rename_i O;cases s with|true=>
     simp only[if_true,bf]at m;subst m;have n:∀j,j<i.size->∃v,w.cell? ⟨b,q+o+j,none⟩=some v/\∃d,((cs.drop o).take i.size)[j]?=some d/\ax E w d v:=by intro j z;have C:o+j<cs.length:=ac;have⟨v,y,u⟩:=D (o+j) cs[o+j] (by simp[C]);refine⟨v,by rw[<-y];congr 2;omega,cs[o+j],?_,u⟩;rw[wq z,tp];simp[C]
     let f:Nat->Value:=λ j=>(w.cell? ⟨b,q+o+j,none⟩).getD undef;have T:∀j,j<i.size->w.cell? ((⟨b,q+o,none⟩:Addr).add j)=some (f j):=by intro j z;have⟨v,y,_⟩:=n j z;rw[pS];simp[f,y]
     have Q:=run_loadCells (P:=P) w ⟨b,q+o,none⟩ i.size f T;refine⟨.agg ((aR i.size).map f).toArray,?_,?_⟩;simp[Fo,Fq,loadVar,Hw M,nL J,Q];simp only[ax];refine⟨_,rfl,fu.2 ⟨by simp;omega,λ j d z=>?_⟩⟩;have A:j<i.size:=by have:=(fl.1 z).1;simp at this;omega
     have⟨v,y,V,B,K⟩:=n j A;have:d=V:=by rw[z]at B;simpa using B
     subst this;refine⟨v,?_,K⟩;simp[A,f,y]|false=>simp only[iz,if_false]at m;split at m;rename_i h1;have⟨v,y,u⟩:=D o c m;refine⟨v,?_,u⟩;simp[Fo,Fq,loadVar,Hw M,y];simp at m
   simp at m
 unfold lg at h;split at h;rename_i id e o;split at h;rename_i av R;split at h;rename_i el L;cases m:part s el.cells o i.size with|none=>simp[m]at h|some c=>simp only[m,fk,bf]at h;subst h;have⟨g,N,W,ty,H⟩:=U.blk id av R;simp only[ax]at F;obtain⟨X,k',Y,I,rfl⟩:=F;rw[H.μ]at I;simp only[bf,c5]at I;have⟨rfl,rfl,rfl⟩:=I;have:=Oj H.k H.row L;rw[cI]at this;exact⟨key _ _ _ _ _ this m,rfl,_,rfl⟩
 simp at h;simp at h;rename_i cs o;cases m:part s cs o i.size with|none=>simp[m]at h|some c=>simp only[m,fk,bf]at h;subst h;simp only[ax]at F;obtain⟨b,q,rfl,_,D⟩:=F;exact⟨key _ _ _ _ _ (rL.1 D) m,rfl,_,rfl⟩
 simp at h
def arq(e:Inv G own E w σ){t:TypeId}{b:Bool}{i:TypeInfo}(f:pg P t=some b)(c:P.info? t=some i){x:aa}{a:Value}(g:ax E w x a){r:bR}(h:lg σ b i.size x=some r):Sound P G own E w σ p (Fo t a) r:=by have⟨⟨v,h1,j⟩,k,_⟩:=ZQ e f c g h;exact⟨v,w,E,h1,Adv.refl own E w,by rw[k];exact e,j,λ _ _=>rfl⟩
def ad9{c:aa}(h:c.cells.all aa.one=true):∀x∈c.cells,x.one=true:=by simpa using h
def ary(L:Inv G own E w σ){t:TypeId}{i:TypeInfo}(F:P.info? t=some i){x y:aa}{a b:Value}(M:ax E w x a)(U:ax E w y b){r:bR}(h:uF σ i.size x y=some r):∃w',(abV t a b).run P w=.ok () w'/\lV G own E w σ p r undef E w':=by
 unfold uF at h;split at h;rename_i id e o;split at h;rename_i av Q;split at h;rename_i el s;split at h;rename_i R;have⟨B,O,S,f⟩:=R;cases h;have⟨g,N,I,ty,C⟩:=L.blk id av Q;simp only[ax]at M;obtain⟨W,k',X,z,rfl⟩:=M;rw[C.μ]at z;simp only[bf,c5]at z;have⟨rfl,rfl,rfl⟩:=z;have c:=ad9 f;have l:=ax.cells U (uo f);have A:b.cells.size=i.size:=by have:=bq.len l;simp at this;omega
 have⟨hb,m,q⟩:=apY L Q B C s (o:=o) (new:=y.cells) (vs:=b.cells.toList) ac c l;refine⟨_,?_,m,q,?_,λ _ _=>rfl⟩;have h1:∀v∈b.cells.toList,v.oneCell'=true:=by
   intro v V;have⟨j,K⟩:=abZ.1 V;have⟨T,J⟩:=fu.1 l;have H:j<y.cells.length:=by have:=(fl.1 K).1;omega
   have⟨u,hu,D⟩:=J j y.cells[j] (by simp[H]);have:u=v:=by rw[K]at hu;simpa using hu.symm
   subst this;exact ax.one D (c _ am)
 have n:=run_storeCells_at P g (e*av.k+o) ty b.cells.toList 0 I w C.heap (by simpa using hb) h1;simp only[Nat.add_zero]at n;simp[abV,Fq,storeVar,nL F,A,n];simp only[ax,undef];exact⟨#[],rfl,by simp[bq]⟩;simp at h;simp at h;simp at h;simp at h
def Inv.sub{G:Nat->Option (List aa)}{own:Nat->Prop}{E:Env}{w:World}{σ a:aQ}(h:Inv G own E w σ)(c:∀id,a id=none\/a id=σ id):Inv G own E w a where
 hR:=h.hR;blk:=λ id av hb=>by rcases c id with h1|h1;simp[h1]at hb;exact h.blk id av (h1▸hb)
 inj:=λ i j x y d f b h1 g=>by refine h.inj i j x y ?_ ?_ b h1 g;rcases c i with h|h;exact absurd h d;rw[<-h];exact d;rcases c j with h|h;exact absurd h f;rw[<-h];exact f
 jX:=h.jX;new:=h.new
def H5(h:Inv G own E w σ)(f:E.μ p=none)(g:σ p=none){els:List aa}{k N:Nat}{vs:List Value}(ty:TypeId)(j:∀e∈els,e.size=k)(d:sg E w (flat els) vs)(l:vs.length=N*k)(b:els.length<=N)(o:N<=maxLen){c:aa}{v:Value}(m:ax (E.bind p w.heap.size k N) (w.alloc (.cells vs.toArray ty)) c v){rd:List Id}:lV G own E w σ p {val:=c,rd:=rd,up:=[(p,some ⟨els,k,false⟩)]} v (E.bind p w.heap.size k N) (w.alloc (.cells vs.toArray ty)):=by have⟨h1,n⟩:=acz h f g ty j d l b o;exact⟨h1,n,m,λ i a=>Env.zd _ _ _ _ _ (λ e=>a (by rw[e];exact List.suffix_refl _))⟩
def Ru(f:Inv G own E w σ)(g:E.μ p=none)(j:σ p=none){x:aa}{a:Value}(i:ax E w x a)(b:x.cells.all aa.one=true)(t:TypeId):Sound P G own E w σ p (do pure (.pointer (some (<-newVar t a)))) {val:=.ref p 0 0,up:=[(p,some ⟨[x],x.size,false⟩)]}:=by have d:=ax.cells i (uo b);have⟨h,e⟩:=fu.1 d;refine⟨.pointer (some ⟨w.heap.size,0,none⟩),w.alloc (.cells a.cells t),E.bind p w.heap.size x.size 1,by simp[newVar,newRow],?_⟩;have:=H5 (p:=p) (rd:=[]) f g j (els:=[x]) (k:=x.size) (N:=1) (vs:=a.cells.toList) t am (by simpa[flat]using e) (by simpa[aa.size]using h) am (by unfold maxLen;omega) (c:=.ref p 0 0) (v:=.pointer (some ⟨w.heap.size,0,none⟩)) (by simp only[ax];exact⟨w.heap.size,x.size,1,Env.vb _ _ _ _ _,am⟩);simpa using this
def Tj(off:Nat):∀(l:List Value)(s:Nat)(cs:Array Value),off+s+l.length<=cs.size->((l.zipIdx s).foldl (λ cs x=>cs.setIfInBounds (off+x.2) x.1) cs).toList=cs.toList.take (off+s)++l++cs.toList.drop (off+s+l.length)
 |[],s,cs,_=>am|v::l,s,cs,h=>by
   simp only[fU]at h;simp only[List.zipIdx_cons,List.foldl_cons];rw[Tj off l (s+1) _ (by simp;omega)];simp only[Array.toList_setIfInBounds,fU];have h1:off+s<cs.toList.length:=by simp;omega
   rw[show off+(s+1)=off+s+1 from ac];rw[List.take_succ_eq_append_getElem (by simpa using h1)];simp only[List.getElem_set_self,qL,List.singleton_append];rw[List.take_set_of_le ac,List.drop_set_of_lt ac];rw[show off+s+1+l.length=off+s+(l.length+1)from ac]
def afI{cells:Array Value}{off:Nat}{v:Value}(h:off+v.cells.size<=cells.size):(v.cells.zipIdx.foldl (λ cs(c,j)=>cs.setIfInBounds (off+j) c) cells).toList=cells.toList.take off++v.cells.toList++cells.toList.drop (off+v.cells.size):=by rw[<-Array.foldl_toList,Array.toList_zipIdx];have:=Tj off v.cells.toList 0 cells (by simpa using h);simpa using this
def bq.append{xs ys:List aa}{us vs:List Value}(h1:bq E w xs us)(e:bq E w ys vs):bq E w (xs++ys) (us++vs):=by have⟨a,b⟩:=fu.1 h1;have⟨c,d⟩:=fu.1 e;exact fu.2 ⟨by simp[a,c],sg.append b a d⟩
def bq.take{xs:List aa}{us:List Value}(h:bq E w xs us)(n:Nat):bq E w (xs.take n) (us.take n):=by have⟨a,b⟩:=fu.1 h;refine fu.2 ⟨by simp[a],λ j c d=>?_⟩;rw[Qr]at d;split at d;rename_i e;rw[wq e];exact b j c d;simp at d
def bq.drop{xs:List aa}{us:List Value}(h:bq E w xs us)(n:Nat):bq E w (xs.drop n) (us.drop n):=by have⟨a,b⟩:=fu.1 h;refine fu.2 ⟨by simp[a],λ j c d=>?_⟩;rw[tp]at d⊢;exact b _ c d
def u4(E:Env)(w:World)(place:Nat->Option (Nat×Nat)):List (Nat×Nat×aa)->List (Nat×Value)->Prop|[],a=>a=[]|(o,n,x)::r,a=>∃i v rest,a=(i,v)::rest/\place i=some (o,n)/\ax E w x v/\u4 E w place r rest
def Pz{place:Nat->Option (Nat×Nat)}:∀{wi:List (Nat×Nat×aa)}{q:List (Nat×Value)}{cs b:List aa}{cells:Array Value},u4 E w place wi q->bq E w cs cells.toList->uC cs wi=some b->∃a:Array Value,Fw place cells q=some a/\bq E w b a.toList
 |[],q,cs,b,cells,e,g,h=>by simp only[u4]at e;subst e;simp only[uC,bf]at h;subst h;exact⟨cells,rfl,g⟩|(o,n,x)::r,q,cs,b,cells,e,g,h=>by
   simp only[u4]at e;obtain⟨i,v,rest,rfl,s,u,z⟩:=e;simp only[uC]at h;split at h;rename_i A;have⟨h1,D,C⟩:=A;have m:=ax.cells u (uo C);have f:v.cells.size=n:=by have:=bq.len m;simp at this;omega
   have y:cells.size=cs.length:=by have:=bq.len g;simpa using this
   have k:o+v.cells.size<=cells.size:=ac;have l:bq E w (cs.take o++x.cells++cs.drop (o+n)) (v.cells.zipIdx.foldl (λ cs(c,j)=>cs.setIfInBounds (o+j) c) cells).toList:=by rw[afI k,f];exact bq.append (bq.append (bq.take g o) m) (bq.drop g (o+n))
   have⟨a,B,t⟩:=Pz z l h;refine⟨a,?_,t⟩;simp only[Fw,s];rw[if_neg (by simp[f];omega)];exact B;simp at h
def Io{t:List aa}{a:Act}(n:gC E w t a)(o:Inv G own E w σ){place:Nat->Option (Nat×Nat)}{f:Nat×dO->Option (Nat×Nat×dO)}(c:∀q r,f q=some r->r.2.2=q.2/\place q.1=some (r.1,r.2.1)):∀{l:List (Nat×Operand)}{e:List (Nat×dO)}{g:List (Nat×Nat×dO)},l.mapM (λ p=>(ca p.2).map (p.1,·))=some e->e.mapM f=some g->u4 E w place (g.map λ p=>(p.1,p.2.1,p.2.2.ev G t)) (l.map λ p=>(p.1,a.eval p.2))|[],e,g,h1,d=>by simp at h1;subst h1;simp at d;subst d;simp[u4]|(i,x)::l,e,g,h1,d=>by simp only[uR,yL,Kp,yN]at h1;have⟨q,h,s,k,b⟩:=h1;cases b;simp only[uR,yL,Kp,yN]at d;have⟨r,y,u,m,b⟩:=d;cases b;cases j:ca x with|none=>simp[j]at h|some hH=>simp only[j,fk,bf]at h;subst h;have⟨z,v⟩:=c _ _ y;simp only[mw,u4];refine⟨i,a.eval x,_,rfl,v,?_,Io n o c k m⟩;rw[z];exact dp n o j
def adv(hi:Inv G own E w σ){t:List aa}{a:Act}(hf:gC E w t a){ty:TypeId}{B:Array (Nat×Operand)}{rV:dY dO}(k:gU P (.build ty B)=some rV){r:bR}(h:ck σ p (rV.map (dO.ev G t))=some r):Sound P G own E w σ p (Instr.build ty (B.map λ(i,x)=>(i,a.eval x))) r:=by simp only[gU]at k;cases hu:P.underlying ty with|none=>simp[hu]at k|some d=>cases F:m5 P ty with|none=>cases d<;>simp[hu,F]at k|some z=>cases j:B.toList.mapM (λ p=>(ca p.2).map (p.1,·))with|none=>cases d<;>simp[hu,F,j]at k|some IF=>
 obtain⟨it,uH,hit,vy,xv,MG,zS⟩:=yt F;have A:ax E w z uH:=tO xv;have ahQ:=ax.cells A (uo zS);have fin:∀{place:Nat->Option (Nat×Nat)}{wi:List (Nat×Nat×aa)}{cs:List aa},u4 E w place wi (B.map λ(i,x)=>(i,a.eval x)).toList->uC z.cells wi=some cs->(∀cells,Fw place uH.cells (B.map λ(i,x)=>(i,a.eval x)).toList=some cells->P.built ty (B.map λ(i,x)=>(i,a.eval x)).toList=some cells)->Sound P G own E w σ p (Instr.build ty (B.map λ(i,x)=>(i,a.eval x))) {val:=.agg cs}:=by intro place wi cs hp H hb;obtain⟨cells,s,hr⟩:=Pz hp ahQ H;refine Sound.same hi (run_build w ty _ cells (hb cells s)) ?_;simp only[ax];exact⟨cells,rfl,hr⟩
 cases d with
 |struct fs=>simp only[hu,F,j]at k;cases y:fs.toList.mapM (λ f=>(P.info? f.type).map λ i=>(f.offset,i.size))with|none=>simp[y]at k|some g=>simp only[y,eI]at k;obtain⟨rs,v,rfl⟩:=k;simp only[dY.map,ck]at h;refine Sound.NM h λ c o=>?_;simp only[eI]at o;obtain⟨cs,H,rfl⟩:=o;refine fin (place:=(g.toArray[·]?)) (wi:=rs.map λ p=>(p.1,p.2.1,p.2.2.ev G t)) ?_ H ?_;have:=Io (place:=(g.toArray[·]?)) hf hi (f:=λ(p:Nat×dO)=>(g[p.1]?).map λ q=>(q.1,q.2,p.2)) (by intro q r l;simp only[eI]at l;obtain⟨b,hb,rfl⟩:=l;exact⟨rfl,by simpa using hb⟩) j v;simpa using this;intro cells s;simp only[ab2,hit,hu,vy,y];exact s
 |array n e=>simp only[hu,F,j]at k;cases C:P.info? e with|none=>simp[C]at k|some u=>
     simp only[C,bf]at k;subst k;simp only[dY.map,ck,List.map_map]at h;refine Sound.NM h λ c o=>?_;simp only[eI]at o;obtain⟨cs,H,rfl⟩:=o;have v:IF.mapM (λ(q:Nat×dO)=>some (q.1*u.size,u.size,q.2))=some (IF.map λ q=>(q.1*u.size,u.size,q.2)):=by clear H h j;induction IF with|nil=>rfl|cons q IF ih=>simp[uR,ih]
     have:=Io (place:=λ i=>some (i*u.size,u.size)) hf hi (f:=λ(q:Nat×dO)=>some (q.1*u.size,u.size,q.2)) (by intro q r l;cases l;exact⟨rfl,rfl⟩) j v;refine fin (place:=λ i=>some (i*u.size,u.size)) (wi:=_) (by simpa using this) (by simpa[ab3]using H) ?_;intro cells s;simp only[ab2,hit,hu,vy,C];exact s
 |_=>simp[hu,F,j]at k
def Vy{z:aa}{g:Value}{k:Nat}(A:bq E w z.cells g.cells.toList)(o:z.size=k)(a:0<k)(n N:Nat)(y:n<=N):sg E w (flat (bI n z)) ((KH (N*k)).map (g.cells[·%g.cells.size]!)).toList:=by
 have⟨u,s⟩:=fu.1 A;have h:g.cells.size=k:=by simp at u;unfold aa.size at o;omega
 have d:∀e∈bI n z,e.size=k:=by intro e x;rw[jl x];exact o
 intro j c m;have f:=kZ d;have b:j<n*k:=by have:=(fl.1 m).1;rw[f]at this;simpa using this
 have B:j/k<n:=(Nat.div_lt_iff_lt_mul a).2 b;have q:=zy (i:=j/k) (e:=z) (j:=j%k) d (by simp[B]) (Nat.mod_lt _ a);rw[Nat.div_add_mod' j k]at q;rw[q]at m;have⟨v,r,t⟩:=s _ c m;have l:j<N*k:=gM b (cr _ y);refine⟨v,?_,t⟩;simp at r;simp only[Array.toList_map,Array.toList_range,kv,l,ab4,fk,bf,h];rw[getElem!_def,r]
def ZI{k:Nat}:∀{b:List (Nat×aa)}{es es':List aa},(∀e∈es,e.size=k)->A6 k es b=some es'->(∀e∈es',e.size=k)/\es'.length=es.length/\uC (flat es) (b.map λ q=>(q.1*k,k,q.2))=some (flat es')
 |[],es,es',a,h=>by simp only[A6,bf]at h;subst h;exact⟨a,rfl,by simp[uC]⟩|(i,x)::b,es,es',a,h=>by
   simp only[A6]at h;split at h;rename_i m;have⟨h1,l,o⟩:=m;have d:∀e∈es.set i x,e.size=k:=by intro e g;rcases Bs g with g|rfl;exact a e g;exact h1
   have⟨r,n,s⟩:=ZI d h;refine⟨r,by simpa using n,?_⟩;have f:=LX a (show es[i]?=some es[i]by simp[l]) h1;have j:=kZ a;have c:(i+1)*k<=es.length*k:=cr _ l;rw[fw]at c;simp only[mw,uC];rw[if_pos ⟨h1,ac,o⟩,<-f];exact s;simp at h
def adu(hi:Inv G own E w σ)(kB:E.μ p=none)(g7:σ p=none){t:List aa}{a:Act}(hf:gC E w t a){ty:TypeId}{n:Nat}{I:Array (Nat×Operand)}{rV:dY dO}(o:gU P (.buildSlice ty n I)=some rV){r:bR}(h:ck σ p (rV.map (dO.ev G t))=some r):Sound P G own E w σ p (ab5 ty n (I.map λ(i,x)=>(i,a.eval x))) r:=by simp only[gU]at o;cases hu:P.underlying ty with|none=>simp[hu]at o|some d=>cases u:I.toList.mapM (λ p=>(ca p.2).map (p.1,·))with|none=>cases d<;>simp[hu,u]at o|some M=>cases d with
 |slice e=>simp only[hu,u]at o;cases m:P.info? e with|none=>simp[m]at o|some j=>cases hz:m5 P e with|none=>simp[m,hz]at o|some z=>
     simp only[m,hz]at o;split at o;rename_i cf;have⟨hsm,ag7,L⟩:=cf;cases o;have⟨it,R,B,X,xv,H,T⟩:=yt hz;rw[m]at B;cases B;simp only[dY.map,ck]at h;cases y:A6 j.size (bI n z) (M.map λ p=>(p.1,p.2.ev G t))with|none=>simp[y]at h|some es=>
       simp only[y]at h;split at h;have Q:∀e∈bI n z,e.size=j.size:=by intro e he;rw[jl he];exact H
       have⟨r1,r2,U⟩:=ZI Q y;have Y:bq E w z.cells R.cells.toList:=ax.cells (tO xv) (uo T);have K:=kZ Q;generalize g:(KH (n*j.size)).map (R.cells[·%R.cells.size]!)=b at*;have V:bq E w (flat (bI n z)) b.toList:=by refine fu.2 ⟨?_,?_⟩;rw[K,<-g];simp;rw[<-g];exact Vy Y H ag7 n n (a2 _)
       have S:M.mapM (λ(q:Nat×dO)=>some (q.1*j.size,j.size,q.2))=some (M.map λ q=>(q.1*j.size,j.size,q.2)):=by clear y U u;induction M with|nil=>rfl|cons q M ih=>simp[uR,ih]
       have J:=Io (place:=λ i=>some (i*j.size,j.size)) hf hi (f:=λ(q:Nat×dO)=>some (q.1*j.size,j.size,q.2)) (by intro q r F;cases F;exact⟨rfl,rfl⟩) u S;simp only[List.map_map,ab3]at J U;have⟨cells,W,hr⟩:=Pz (cells:=b) J V U;have⟨aha,CP⟩:=fu.1 hr;have C:=kZ r1;refine⟨.slice (some ⟨w.heap.size,0,none⟩) n n,w.alloc (.cells cells e),E.bind p w.heap.size j.size n,?_,?_⟩;have s:Fw (λ i=>some (i*j.size,j.size)) b (I.map λ(i,x)=>(i,a.eval x)).toList=some cells:=by simpa using W
       by_cases h0:n*j.size=0;have Z:b=#[]:=by rw[<-g,h0];simp
       rw[Z]at s;have atO:¬(n*j.size>2^24):=ac;have A:n=0:=by rcases Nat.mul_eq_zero.1 h0 with h|h;exact h;omega
       subst A;have sJ:∀w,(newRow e cells).run P w=.ok ⟨w.heap.size,0,none⟩ (w.alloc (.cells cells e)):=λ _=>rfl;have O:Fw (λ i=>some (i*j.size,j.size)) ((KH 0).map (λ _:Nat=>(default:Value))) (List.map (λ x=>(x.fst,a.eval x.snd)) I.toList)=some cells:=by
         have:(KH 0).map (λ _:Nat=>(default:Value))=#[]:=by apply Array.eq_empty_of_size_eq_zero;simp
         rw[this];simpa using s
       simp[ab5,run_underlying hu,nL m,O,sJ];exact run_buildSlice w ty e n _ cells j R hu m X ac h0 (by rw[g];exact s);have:=H5 (p:=p) (rd:=[]) hi kB g7 (els:=es) (k:=j.size) (N:=n) (vs:=cells.toList) e r1 CP (by rw[aha,C,r2];simp) (by rw[r2];simp) L (c:=.ah p j.size 0 n false) (v:=.slice (some ⟨w.heap.size,0,none⟩) n n) (by simp only[ax];exact⟨w.heap.size,n,n,Env.vb _ _ _ _ _,am,a2 _,ac,L,am⟩);split at h;rename_i A;subst A;cases h;have⟨h1,h2,h3,h4⟩:=this;refine⟨h1,h2.sub λ i=>?_,by simp only[ax];exact⟨_,rfl,Nat.zero_le _,am,.inl trivial⟩,h4⟩;by_cases e:i=p;subst e;left;exact g7;right;simp[aQ.app,aQ.put,e];cases h;simpa using this;simp at h
     simp at o
 |_=>simp[hu,u]at o
def akm(J:Inv G own E w σ)(M:E.μ p=none)(F:σ p=none){t e:TypeId}{i:TypeInfo}{z:aa}(hu:P.underlying t=some (.slice e))(d:P.info? e=some i)(T:m5 P e=some z)(y:0<i.size){l c:aa}{B eL:Value}(A:ax E w l B)(C:ax E w c eL){r:bR}(h:Ba p i.size i.bytes z l c=some r):Sound P G own E w σ p (Instr.makeSlice t B eL) r:=by
 have⟨V,j,a,m,n,g,u⟩:=yt T;rw[d]at a;cases a;unfold Ba at h;split at h;rename_i S l U c;simp only[ax]at A C;subst A;subst C;split at h;rename_i O;have⟨Q,x,hb,L,H,K⟩:=O;cases h;have q:bq E w z.cells j.cells.toList:=ax.cells (tO n) (uo u);have f:c.toNat<=maxLen:=ac;have b:l.toNat<=c.toNat:=ac;have I:=run_make (P:=P) w t e i j hu d m S U l c Q x (by rw[Int.mul_comm];omega) (by unfold maxLen at L;omega);have s:∀e∈bI l.toNat z,e.size=i.size:=by intro e R;rw[jl R];exact g
 refine⟨_,_,E.bind p w.heap.size i.size c.toNat,I,?_⟩;have D:=Vy q g y l.toNat c.toNat b;have:=H5 (p:=p) (rd:=[]) J M F (els:=bI l.toNat z) (k:=i.size) (N:=c.toNat) (vs:=(madeCells j.cells (c.toNat*i.size)).toList) e s D (by simp[madeCells]) (by simpa using b) f (c:=.ah p i.size 0 l.toNat false) (v:=.slice (some ⟨w.heap.size,0,none⟩) l.toNat c.toNat) (by simp only[ax];exact⟨w.heap.size,c.toNat,c.toNat,Env.vb _ _ _ _ _,am,b,ac,f,am⟩);simpa using this;simp at h;simp at h
def rT{d c:Nat}{x:Option aa}{v:Option Value}{n:Nat}(g:match x,v with|none,none=>True|some a,some b=>ax E w a b|_,_=>False)(h:jf d c x=some n)(y:Nat)(j:c<=y)(f:BoundsCode):(x=none/\v=none/\n=d)\/(∃u,v=some u/\x≠none/\n<=c/\(BP u y f).run P w=.ok n w):=by
 unfold jf at h;split at h;cases h;cases v with|none=>exact .inl ⟨rfl,rfl,rfl⟩|some u=>exact g.elim
 rename_i k i;cases v with|none=>exact g.elim|some u=>simp only[ax]at g;subst g;split at h;rename_i l;cases h;refine .inr ⟨_,rfl,am,ac,?_⟩;have:0<=i/\i<=(y:Int):=ac;simp[BP,asIntOf,this];simp at h
 simp at h
def mC(E:Env)(w:World)(x:Option aa)(v:Option Value):Prop:=match x,v with|none,none=>True|some a,some b=>ax E w a b|_,_=>False
def qZ{isSlice:Bool}{len cap l h m:Nat}{lo v mx:Option aa}{t r mj:Option Value}(f:mC E w lo t)(d:mC E w v r)(o:mC E w mx mj)(A:len<=cap)(b:jf len len v=some h)(g:jf 0 h lo=some l)(J:(mx=none/\m=cap)\/(∃k,mx=some (.int k (m:Int))/\v≠none/\h<=m/\m<=cap)):(QD isSlice len cap t r mj).run P w=.ok (l,h,m) w/\l<=h/\h<=len:=by
 have D:h<=len:=by rcases rT (P:=P) d b len (a2 _) .index with⟨_,_,e⟩|⟨_,_,_,e,_⟩<;>omega
 have H:l<=h:=by rcases rT (P:=P) f g h (a2 _) .index with⟨_,_,e⟩|⟨_,_,_,e,_⟩<;>omega
 refine⟨?_,H,D⟩;unfold QD;rcases J with⟨rfl,rfl⟩|⟨k,rfl,y,C,F⟩;cases mj with|some _=>exact(o:False).elim|none=>rcases rT (P:=P) d b m (bx (a2 _) A) (if isSlice then .sliceAcap else .sliceAlen)with⟨_,rfl,rfl⟩|⟨u,rfl,_,_,n⟩;rcases rT (P:=P) f g h (a2 _) .sliceB with⟨_,rfl,rfl⟩|⟨u,rfl,_,_,n⟩;simp;simp[n];rcases rT (P:=P) f g h (a2 _) .sliceB with⟨_,rfl,rfl⟩|⟨B,rfl,_,_,j⟩;simp[n];simp[n,j]
 cases mj with|none=>exact(o:False).elim|some I=>
   have z:I=.int k (m:Int):=by simpa[mC,ax]using o
   subst z;have q:∀c,(BP (.int k (m:Int)) cap c).run P w=.ok m w:=by intro c;have:(0:Int)<=m/\(m:Int)<=cap:=ac;simp[BP,asIntOf,this]
   rcases rT (P:=P) d b len (a2 _) .slice3B with⟨e,_,_⟩|⟨u,rfl,_,_,_⟩;exact absurd e y;have n:∀c,(BP u m c).run P w=.ok h w:=by intro c;cases v with|none=>exact(d:False).elim|some x=>
       unfold jf at b;split at b;simp_all;rename_i k' i s;cases s;have:u=.int k' i:=by simpa[mC,ax]using d
       subst this;split at b;simp only[bf]at b;have:(0:Int)<=i/\i<=m:=ac;simp[BP,asIntOf,this,b];simp at b;simp at b
   rcases rT (P:=P) f g h (a2 _) .slice3C with⟨_,rfl,rfl⟩|⟨B,rfl,_,_,j⟩;simp[n,q];simp[n,j,q]
def afM{k:Nat}{es:List aa}(b:∀e∈es,e.size=k){l h:Nat}(c:l<=h)(g:h<=es.length):flat ((es.take h).drop l)=((flat es).drop (l*k)).take ((h-l)*k):=by
 have d:es=es.take l++((es.take h).drop l++es.drop h):=by rw[<-abb (by simp;omega),ab6,ab6]
 have h1:(flat (es.take l)).length=l*k:=by rw[kZ (λ e a=>b e (gZ a))];simp;rw[uK ac]
 have f:(flat ((es.take h).drop l)).length=(h-l)*k:=by rw[kZ (λ e a=>b e (gZ (wL a)))];simp;rw[uK ac]
 conv=>rhs;rw[d]
 rw[zx,zx,<-h1,List.drop_left,<-f,List.take_left]
def AO{b o k:Nat}{es:List aa}(f:∀e∈es,e.size=k)(h:eK E w b o (flat es)){l r:Nat}(d:l<=r)(g:r<=es.length):eK E w b (o+l*k) (flat ((es.take r).drop l)):=by rw[afM f d g];intro j c a;rw[Qr]at a;split at a;rw[tp]at a;have:=h _ c a;rwa[<-my]at this;simp at a
def ZW(hi:Inv G own E w σ){t e:TypeId}{i:TypeInfo}(hu:P.underlying t=some (.slice e))(mL:P.info? e=some i){x:aa}{v:Value}(hx:ax E w x v){lo hP mx:Option aa}{JG JE mj:Option Value}(sI:mC E w lo JG)(ow:mC E w hP JE)(hmx:mC E w mx mj)(ahi:mx.isSome->hP.isSome){c:aa}(h:gi i.size x lo hP mx=some c):Sound P G own E w σ p (r9 t v JG JE mj) {val:=c}:=by
 have hrun:∀(a:Option Addr)(len cap l h m:Nat),(QD true len cap JG JE mj).run P w=.ok (l,h,m) w->(r9 t (.slice a len cap) JG JE mj).run P w=.ok (.slice (if m=l then a else a.map (·.add (l*i.size))) (h-l) (m-l)) w:=by intro a len cap l h m hb;simp[r9,Instr.slice,run_underlying hu,hb,nL mL]
 have Hi:∀(h:Nat),yd mx h=true->∃k,mx=some (.int k (h:Int)):=by intro h cf;unfold yd at cf;split at cf;rename_i k m';simp only[beq_iff_eq]at cf;subst cf;exact⟨k,rfl⟩;simp at cf
 have xp:∀{len l r:Nat},gh len lo hP=some (l,r)->jf len len hP=some r/\jf 0 r lo=some l:=by intro len l r hb;unfold gh at hb;split at hb;simp at hb;rename_i h1 e1;split at hb;simp at hb;rename_i iE e2;simp only[bf,c5]at hb;obtain⟨rfl,rfl⟩:=hb;exact⟨e1,e2⟩
 have hne:∀k n,mx=some (aa.int k n)->hP≠none:=by intro k n e br;have:=ahi (by simp[e]);simp[br]at this
 unfold gi at h;split at h
 · simp only[ax]at hx;subst hx;split at h;rename_i b hb;split at h;rename_i hcnd;cases h;obtain⟨l,cf⟩:=b;obtain⟨l7,pc⟩:=xp hb;have af9:cf=0:=by rcases rT (P:=P) ow l7 0 (a2 _) .index with⟨_,_,e⟩|⟨_,_,_,e,_⟩<;>omega
   subst af9;obtain⟨k6,pb,ny⟩:=qZ (P:=P) (isSlice:=true) (len:=0) (cap:=0) (m:=0) sI ow hmx (a2 _) l7 pc (by rcases hcnd with hn|ht;exact .inl ⟨by simpa using hn,rfl⟩;obtain⟨k,hk⟩:=Hi 0 ht;exact .inr ⟨k,hk,hne _ _ hk,a2 _,a2 _⟩);have zM:l=0:=ac;subst zM;exact Sound.same hi (hrun none 0 0 0 0 0 k6) (by simp[ax]);simp at h;simp at h
 · rename_i k' es;simp only[ax]at hx;obtain⟨a,cap,rfl,hlen,tU,hk,tV⟩:=hx;split at h;rename_i l' cf hb;obtain⟨l7,pc⟩:=xp hb
   · · split at h
       . rename_i l8;subst l8;have Am:∀m,l'<=cf->cf<=es.length->cf<=m->((es.take cf).drop l'=[]\/∃b o,(if m=l' then a else a.map (·.add (l'*i.size)))=some ⟨b,o,none⟩/\E.ok b/\cN E w b o ((es.take cf).drop l')):=by
           intro m h1 h2 h3;by_cases he:l'=cf;.left;subst he;simp
           . rcases tV with rfl|⟨b,o,rfl,hb,hr⟩;.left;simp
             .right;refine⟨b,o+l'*i.size,by rw[if_neg ac];simp[pS],hb,?_⟩;rw[mU]at hr⊢;exact AO hk hr h1 h2
         have pd:∀e∈(es.take cf).drop l',e.size=i.size:=λ e he=>hk e (gZ (wL he));split at h;.rename_i hn;cases h;obtain⟨k6,pb,ny⟩:=qZ (P:=P) (isSlice:=true) (m:=cap) sI ow hmx hlen l7 pc (.inl ⟨by simpa using hn,rfl⟩);refine Sound.same hi (hrun a es.length cap l' cf cap k6) ?_;simp only[ax];exact⟨_,cap-l',by simp;omega,by simp;omega,ac,pd,Am cap pb ny ac⟩
         . split at h
           . rename_i ht;cases h;obtain⟨kk,l8⟩:=Hi cf ht;have Hf:cf<=es.length:=by rcases rT (P:=P) ow l7 es.length (a2 _) .index with⟨_,_,e⟩|⟨_,_,_,e,_⟩<;>omega
             obtain⟨k6,pb,ny⟩:=qZ (P:=P) (isSlice:=true) (m:=cf) sI ow hmx hlen l7 pc (.inr ⟨kk,l8,hne _ _ l8,a2 _,ac⟩);refine Sound.same hi (hrun a es.length cap l' cf cf k6) ?_;simp only[ax];exact⟨_,by simp;omega,by simp;omega,pd,Am cf pb ny (a2 _)⟩
           .simp at h
       .simp at h
   .simp at h
 · rename_i k' es;simp only[ax]at hx;obtain⟨a,rfl,tU,hk,tV⟩:=hx;split at h
   . rename_i l' cf hb;obtain⟨l7,pc⟩:=xp hb
     · · split at h
         . rename_i l8;obtain⟨rfl,ahk⟩:=l8;have Am:∀m,l'<=cf->cf<=es.length->cf<=m->((es.take cf).drop l'=[]\/∃b o,(if m=l' then a else a.map (·.add (l'*i.size)))=some ⟨b,o,none⟩/\E.ok b/\cN E w b o ((es.take cf).drop l')):=by
             intro m h1 h2 h3;by_cases he:l'=cf;.left;subst he;simp
             . rcases tV with rfl|⟨b,o,rfl,hb,hr⟩;.left;simp
               .right;refine⟨b,o+l'*i.size,by rw[if_neg ac];simp[pS],hb,?_⟩;rw[mU]at hr⊢;exact AO hk hr h1 h2
           have pd:∀e∈(es.take cf).drop l',e.size=i.size:=λ e he=>hk e (gZ (wL he));have Hf:cf<=es.length:=by rcases rT (P:=P) ow l7 es.length (a2 _) .index with⟨_,_,e⟩|⟨_,_,_,e,_⟩<;>omega
           split at h
           . rename_i zN;cases h;rcases ahk with hn|ht
             . have atH:cf=es.length:=by
                 rcases zN with h1|h1;.cases mx<;>simp at hn h1
                 .exact h1
               obtain⟨k6,pb,ny⟩:=qZ (P:=P) (isSlice:=true) (m:=es.length) sI ow hmx (a2 _) l7 pc (.inl ⟨by simpa using hn,rfl⟩);refine Sound.same hi (hrun a es.length es.length l' cf es.length k6) ?_;simp only[ax];exact⟨_,by simp;omega,by simp;omega,pd,Am es.length pb ny ny⟩
             .obtain⟨kk,l8⟩:=Hi cf ht;obtain⟨k6,pb,ny⟩:=qZ (P:=P) (isSlice:=true) (m:=cf) sI ow hmx (a2 _) l7 pc (.inr ⟨kk,l8,hne _ _ l8,a2 _,Hf⟩);refine Sound.same hi (hrun a es.length es.length l' cf cf k6) ?_;simp only[ax];exact⟨_,by simp;omega,by simp;omega,pd,Am cf pb ny (a2 _)⟩
           . rename_i zN;cases h;have hn:mx=none:=by cases mx with|none=>rfl|some _=>simp at zN
             obtain⟨k6,pb,ny⟩:=qZ (P:=P) (isSlice:=true) (m:=es.length) sI ow hmx (a2 _) l7 pc (.inl ⟨hn,rfl⟩);refine Sound.same hi (hrun a es.length es.length l' cf es.length k6) ?_;simp only[ax];exact⟨_,es.length-l',by simp;omega,by simp;omega,ac,pd,Am es.length pb ny ny⟩
         .simp at h
   .simp at h
 · rename_i id k' off len m1;simp only[ax]at hx;obtain⟨g,N,cap,hm,rfl,Mr,Hj,CH,sL⟩:=hx;split at h
   . rename_i l' cf hb;obtain⟨l7,pc⟩:=xp hb
     · · split at h
         . rename_i l8;subst l8;split at h
           . rename_i hn;obtain⟨k6,pb,ny⟩:=qZ (P:=P) (isSlice:=true) (m:=cap) sI ow hmx Mr l7 pc (.inl ⟨by simpa using hn,rfl⟩);have hr:=hrun (some ⟨g,off*i.size,none⟩) len cap l' cf cap k6;split at h
             . rename_i Uk;split at h
               . rename_i zM;subst zM;cases h;refine Sound.same hi hr ?_;simp only[ax];refine⟨g,N,cap,hm,?_,ac,Hj,CH,?_⟩;.by_cases xr:cap=0<;>simp[xr,pS]
                 .cases m1 with|true=>simp at Uk sL⊢;omega|false=>simpa using sL
               . rename_i zM;split at h;.rename_i ahb;subst ahb;cases h;refine Sound.same hi hr ?_;simp only[ax];refine⟨_,cap-l',by simp;rfl,am,ac,am,.inl trivial⟩
                 . cases h;refine Sound.same hi hr ?_;simp only[ax];refine⟨g,N,cap-l',hm,?_,ac,ac,CH,?_⟩;.rw[if_neg ac];simp[pS,fw]
                   .cases m1 with|true=>simp at Uk sL⊢;omega|false=>simp at sL⊢;omega
             .simp at h
           . split at h
             . rename_i ht;obtain⟨ahC,zM⟩:=ht;subst zM;cases h;obtain⟨kk,l8⟩:=Hi cf ahC;have Hf:cf<=len:=by rcases rT (P:=P) ow l7 len (a2 _) .index with⟨_,_,e⟩|⟨_,_,_,e,_⟩<;>omega
               obtain⟨k6,pb,ny⟩:=qZ (P:=P) (isSlice:=true) (m:=cf) sI ow hmx Mr l7 pc (.inr ⟨kk,l8,hne _ _ l8,a2 _,ac⟩);have hr:=hrun (some ⟨g,off*i.size,none⟩) len cap 0 cf cf k6;refine Sound.same hi hr ?_;simp only[ax];refine⟨g,N,cf,hm,?_,a2 _,ac,CH,am⟩;by_cases xr:cf=0<;>simp[xr,pS]
             .simp at h
         .simp at h
   .simp at h
 .simp at h
def ZF{len l r:Nat}{lo a:Option aa}(hb:gh len lo a=some (l,r)):jf len len a=some r/\jf 0 r lo=some l:=by unfold gh at hb;split at hb;simp at hb;rename_i h1 c;split at hb;simp at hb;rename_i d b;simp only[bf,c5]at hb;have⟨rfl,rfl⟩:=hb;exact⟨c,b⟩
def afv(s:List UInt8)(l r:Nat):(wG s.toArray).extract l r=⟨((s.take r).drop l).toArray⟩:=by apply ByteArray.ext;rw[ByteArray.data_extract];apply Array.ext';simp[abv,Fx]
def arw(q:Inv G own E w σ){t:TypeId}(hu:P.underlying t=some .string){x:aa}{v:Value}(o:ax E w x v){lo d:Option aa}{b e:Option Value}(g:mC E w lo b)(f:mC E w d e){c:aa}(h:PH x lo d=some c):Sound P G own E w σ p (r9 t v b e none) {val:=c}:=by
 unfold PH at h;split at h;rename_i s;simp only[ax]at o;subst o;split at h;rename_i l r hb;have⟨i,n⟩:=ZF hb;cases h;have⟨j,y,u⟩:=qZ (P:=P) (isSlice:=false) (mx:=none) (mj:=none) (m:=s.length) g f trivial (a2 _) i n (.inl ⟨rfl,rfl⟩);refine Sound.same (v:=.string ⟨((s.take r).drop l).toArray⟩) q ?_ (by simp[ax]);have k:(wG s.toArray).size=s.length:=by simp[abA]
 simp[r9,Instr.slice,run_underlying hu,k,j,afv];simp at h;simp at h
def aoj{b o k:Nat}{es:List aa}(a:∀e∈es,e.size=k)(h:cN E w b o es){i:Nat}{e:aa}(c:es[i]?=some e):eO E w b (o+i*k) e.cells:=rL.2 (Oj a (mU.1 h) c)
def ah4(C:Inv G own E w σ){t e:TypeId}{i:TypeInfo}(hu:P.underlying t=some (.slice e))(A:P.info? e=some i){x j:aa}{v u:Value}(q:ax E w x v)(B:ax E w j u){c:aa}(h:kM i.size x j=some c):Sound P G own E w σ p (yZ t v u) {val:=c}:=by
 have m:∀(a:Addr)(len cap:Nat)(k:IntKind)(n:Int),0<=n->n<len->(yZ t (.slice (some a) len cap) (.int k n)).run P w=.ok (.pointer (some (a.add (n.toNat*i.size)))) w:=by intro a len cap k n l h1;simp[yZ,run_underlying hu,asIntOf,l,h1,nL A]
 unfold kM at h;split at h;rename_i kk n;simp only[ax]at B;subst B;have row:∀{es:List aa}{a:Option Addr}{cap:Nat},(∀e∈es,e.size=i.size)->(es=[]\/∃b o,a=some ⟨b,o,none⟩/\E.ok b/\cN E w b o es)->0<=n->(es[n.toNat]?).map (λ e=>aa.cE e.cells 0)=some c->Sound P G own E w σ p (yZ t (.slice a es.length cap) (.int kk n)) {val:=c}:=by intro es a cap r d l h;simp only[eI]at h;obtain⟨el,y,rfl⟩:=h;have z:n.toNat<es.length:=(fl.1 y).1;rcases d with rfl|⟨b,o,rfl,hb,F⟩;simp at z;refine Sound.same C (m _ _ cap kk n l ac) ?_;rw[pS];simp only[ax];exact⟨b,o+n.toNat*i.size,am,hb,aoj r F y⟩
 split at h;rename_i k' es;simp only[ax]at q;obtain⟨a,cap,rfl,_,_,r,d⟩:=q;split at h;rename_i s;obtain⟨rfl,l⟩:=s;exact row r d l h;simp at h;rename_i k' es;simp only[ax]at q;obtain⟨a,rfl,_,r,d⟩:=q;split at h;rename_i s;obtain⟨rfl,l⟩:=s;exact row r d l h;simp at h;rename_i id k' off len m1;simp only[ax]at q;obtain⟨g,N,cap,D,rfl,_⟩:=q;split at h;rename_i s;obtain⟨rfl,l,h1⟩:=s;cases h;refine Sound.same C (m _ _ cap kk n l h1) ?_;rw[pS];simp only[ax];exact⟨g,i.size,N,D,by simp[fw]⟩;simp at h;simp at h;simp at h
def ah3(r:Inv G own E w σ){t e:TypeId}{n:Nat}{i:TypeInfo}(hu:P.underlying t=some (.array n e))(o:P.info? e=some i){x j:aa}{v u:Value}(l:ax E w x v)(s:ax E w j u){c:aa}(h:PA n i.size x j=some c):Sound P G own E w σ p (yZ t v u) {val:=c}:=by
 unfold PA at h;split at h;rename_i kk m;simp only[ax]at s;subst s;split at h;rename_i z;have f:∀a:Addr,(yZ t (.pointer (some a)) (.int kk m)).run P w=.ok (.pointer (some (a.add (m.toNat*i.size)))) w:=by intro a;simp[yZ,run_underlying hu,asIntOf,z,nL o,Fq]
 split at h;cases h;simp only[ax]at l;obtain⟨g,k,N,y,rfl⟩:=l;refine Sound.same r (f _) ?_;rw[pS];simp only[ax];exact⟨g,k,N,y,by simp[my]⟩;cases h;simp only[ax]at l;obtain⟨b,q,rfl,hb,A⟩:=l;refine Sound.same r (f _) ?_;rw[pS];simp only[ax];exact⟨b,q,by simp[my],hb,A⟩;simp at h;simp at h;simp at h
def afB(l:Inv G own E w σ){s:TypeId}{fs:Array Field}{f:Nat}{fd:Field}{i:TypeInfo}(hu:P.underlying s=some (.struct fs))(m:fs[f]?=some fd)(j:P.info? fd.type=some i)(t:i.size≠0){x:aa}{v:Value}(e:ax E w x v){r:bR}(h:ck σ p (.vn fd.offset x)=some r):Sound P G own E w σ p (QE s v f) r:=by
 have d:∀a:Addr,(QE s (.pointer (some a)) f).run P w=.ok (.pointer (some (a.add fd.offset))) w:=by intro a;simp[QE,run_underlying hu,m,Fq,fieldPlace,nL j,t]
 simp only[ck]at h;split at h;simp only[dN,fk,bf]at h;subst h;simp only[ax]at e;obtain⟨g,k,N,n,rfl⟩:=e;refine Sound.same l (d _) ?_;rw[pS];simp only[ax];exact⟨g,k,N,n,by simp[my]⟩;simp only[dN,fk,bf]at h;subst h;simp only[ax]at e;obtain⟨b,q,rfl,hb,o⟩:=e;refine Sound.same l (d _) ?_;rw[pS];simp only[ax];exact⟨b,q,by simp[my],hb,o⟩;simp at h
def WN{t:TypeId}{a:Bool}{i:TypeInfo}(d:pg P t=some a)(b:P.info? t=some i){cs:List aa}{xs:Array Value}(g:bq E w cs xs.toList){o:Nat}{c:aa}(h:aA.part a cs o i.size=some c):∃v,(Go.part t xs o).run P w=.ok v w/\ax E w c v:=by have⟨h1,k,f⟩:=amA h g;refine⟨_,?_,h1⟩;cases a with|true=>simp[Go.part,Hw d,nL b]|false=>have mI:=f rfl;have:o<xs.size:=ac;simp[Go.part,Hw d,this]
def Gv(y:Inv G own E w σ){k:Nat}{x:aa}{v:Value}(d:ax E w x v){ys:List aa}{rd:List Id}(h:iM σ k x=some (ys,rd)):(∀e∈ys,e.size=k)/\∃a cap,v=.slice a ys.length cap/\ys.length<=cap/\(ys=[]\/∃b o,a=some ⟨b,o,none⟩/\eK E w b o (flat ys)):=by
 unfold iM at h;split at h;simp only[bf,c5]at h;have⟨rfl,rfl⟩:=h;simp only[ax]at d;subst d;exact⟨am,none,0,rfl,a2 _,.inl rfl⟩;rename_i k' es;split at h;rename_i f;simp only[bf,c5]at h;have⟨rfl,rfl⟩:=h;subst f;simp only[ax]at d;obtain⟨a,cap,rfl,A,_,f,c⟩:=d;exact⟨f,a,cap,rfl,A,c.imp id λ⟨b,o,e,_,r⟩=>⟨b,o,e,mU.1 r⟩⟩;simp at h;rename_i k' es;split at h;rename_i f;simp only[bf,c5]at h;have⟨rfl,rfl⟩:=h;subst f;simp only[ax]at d;obtain⟨a,rfl,_,f,c⟩:=d;exact⟨f,a,_,rfl,a2 _,c.imp id λ⟨b,o,e,_,r⟩=>⟨b,o,e,mU.1 r⟩⟩;simp at h;rename_i id k' off len m1;split at h;rename_i av B;split at h;rename_i u;have⟨rfl,j,s⟩:=u;simp only[bf,c5]at h;have⟨rfl,rfl⟩:=h;have⟨g,N,t,ty,m⟩:=y.blk id av B;simp only[ax]at d;obtain⟨D,F,cap,n,rfl,z,_⟩:=d;rw[m.μ]at n;simp only[bf,c5]at n;have⟨rfl,_,rfl⟩:=n;have q:∀e∈(av.els.drop off).take len,e.size=k':=λ e C=>by rw[<-j];exact m.k e (wL (gZ C))
 have i:((av.els.drop off).take len).length=len:=by simp;omega
 refine⟨q,some ⟨g,off*k',none⟩,cap,by rw[i],ac,.inr ⟨g,off*k',rfl,?_⟩⟩;have:=AO (l:=off) (r:=off+len) m.k m.row ac s;rw[cI,j]at this;have e:(av.els.take (off+len)).drop off=(av.els.drop off).take len:=by rw[Fx];congr 1;omega
 rwa[e]at this;simp at h;simp at h;simp at h
def Pv{b o:Nat}{cs:List aa}(h:eK E w b o cs):∃vs:List Value,bq E w cs vs/\∀j v,vs[j]?=some v->w.cell? ((⟨b,o,none⟩:Addr).add j)=some v:=by
 refine⟨(aR cs.length).map λ j=>(w.cell? ⟨b,o+j,none⟩).getD undef,fu.2 ⟨am,λ j c d=>?_⟩,λ j v d=>?_⟩;have⟨v,g,f⟩:=h j c d;have a:j<cs.length:=(fl.1 d).1;exact⟨v,by simp[a,g],f⟩;have a:j<cs.length:=by have:=(fl.1 d).1;simpa using this
 have⟨i,e,_⟩:=h j cs[j] (by simp[a]);simp only[kv,a,ab4,fk,bf]at d;rw[pS,e,<-d,e];rfl
def NP{cs:List aa}{vs:List Value}(h:bq E w cs vs)(h1:∀c∈cs,c.one=true):∀v∈vs,v.oneCell'=true:=by
 intro v f;have⟨j,d⟩:=abZ.1 f;have⟨g,e⟩:=fu.1 h;have b:j<cs.length:=by have:=(fl.1 d).1;omega
 have⟨u,hu,a⟩:=e j cs[j] (by simp[b]);have:u=v:=by rw[d]at hu;simpa using hu.symm
 subst this;exact ax.one a (h1 _ am)
def GL(r:Inv G own E w σ)(y:E.μ p=none)(z:σ p=none){k n N:Nat}{els:List aa}(i:∀e∈els,e.size=k)(q:els.length=n){vs:List Value}(u:bq E w (flat els) vs){rest:Array Value}(s:rest.size=(N-n)*k)(h:n<=N)(l:N<=maxLen)(ty:TypeId){rd:List Id}:lV G own E w σ p {val:=.ah p k 0 n false,rd:=rd,up:=[(p,some ⟨els,k,false⟩)]} (.slice (some ⟨w.heap.size,0,none⟩) n N) (E.bind p w.heap.size k N) (w.drew.alloc (.cells (vs.toArray++rest) ty)):=by
 have hd:=r.drew;have⟨t,m⟩:=fu.1 u;have g:=kZ i;have a:fm E E w w.drew:=(Adv.drew (own:=own) E w).step;have d:(vs++rest.toList).length=N*k:=by simp only[cy,Qc,t,g,q,s,<-fw];congr 1;omega
 have:=H5 (p:=p) (rd:=rd) hd y z (els:=els) (k:=k) (N:=N) (vs:=vs++rest.toList) ty i (λ j c o=>by have⟨v,b,f⟩:=m j c o;exact⟨v,by rw[kO (fl.1 b).1];exact b,ax.keep a c v f⟩) d ac l (c:=.ah p k 0 n false) (v:=.slice (some ⟨w.heap.size,0,none⟩) n N) (by simp only[ax];exact⟨w.heap.size,N,N,Env.vb _ _ _ _ _,am,h,ac,l,am⟩);have x:(vs++rest.toList).toArray=vs.toArray++rest:=by apply Array.ext';simp
 rw[x]at this;exact⟨(Adv.drew E w).trans this.jo,this.inv,this.rep,this.ids⟩
def aeN(a:Inv G own E w σ)(id:Id):Inv G own E w (σ.put id none)where
 hR:=a.hR;blk:=λ i av h=>by by_cases e:i=id;subst e;simp[aQ.put]at h;rw[aQ.nF _ _ _ e]at h;exact a.blk i av h
 inj:=λ i j x y d c b h1 o=>by
   have g:i≠id:=by rintro rfl;simp[aQ.put]at d
   have k:j≠id:=by rintro rfl;simp[aQ.put]at c
   rw[aQ.nF _ _ _ g]at d;rw[aQ.nF _ _ _ k]at c;exact a.inj i j x y d c b h1 o
 jX:=a.jX;new:=a.new
def LY{k:Nat}:∀{es:List aa}{n:Nat},(∀x∈es,x.size=k)->flat (es.take n)=(flat es).take (n*k)
 |[],n,_=>by simp[flat]|x::es,0,_=>by simp[flat]|x::es,n+1,h=>by
   have c:x.cells.length=k:=h x am;have b:=LY (es:=es) (n:=n) (λ y d=>h y (by simp[d]));have e:flat (x::es)=x.cells++flat es:=by simp[flat]
   have a:flat ((x::es).take (n+1))=x.cells++flat (es.take n):=by simp[flat]
   rw[e,a,b,show(n+1)*k=x.cells.length+n*k from by rw[c,fw];omega,aa6]
def Tc{k:Nat}:∀{es:List aa}{n:Nat},(∀x∈es,x.size=k)->flat (es.drop n)=(flat es).drop (n*k)
 |[],n,_=>by simp[flat]|x::es,0,_=>am|x::es,n+1,h=>by
   have c:x.cells.length=k:=h x am;have a:=Tc (es:=es) (n:=n) (λ y b=>h y (by simp[b]));have d:flat (x::es)=x.cells++flat es:=by simp[flat]
   rw[List.drop_succ_cons,a,d,show(n+1)*k=x.cells.length+n*k from by rw[c,fw];omega,aa9]
def YL{G:Nat->Option (List aa)}{own:Nat->Prop}{E:Env}{w:World}{σ:aQ}(h:Inv G own E w σ){id:Id}{av:aJ}(V:σ id=some av)(P:av.fr=false){g N:Nat}{a:Array Value}{ty:TypeId}(d:pU E own w id av g N a ty){e:Nat}{news:List aa}{vs:List Value}(S:e+news.length<=av.els.length)(z:∀x∈news,x.size=av.k)(hv:bq E w (flat news) vs):e*av.k+vs.length<=a.size/\Adv own E E w (w.setRow g (a.toList.take (e*av.k)++vs++a.toList.drop (e*av.k+vs.length)).toArray)/\Inv G own E (w.setRow g (a.toList.take (e*av.k)++vs++a.toList.drop (e*av.k+vs.length)).toArray) (σ.put id (some {av with els:=av.els.take e++news++av.els.drop (e+news.length)})):=by
 have⟨Q,T⟩:=fu.1 hv;have O:=kZ z;have q:e*av.k+vs.length<=a.size:=by rw[d.size,Q,O,<-fw];exact cr _ (by have:=d.len;omega)
 refine⟨q,?_⟩;generalize H:(a.toList.take (e*av.k)++vs++a.toList.drop (e*av.k+vs.length)).toArray=o;have hg:=l0 d.heap;have t:(w.setRow g o).heap[g]?=some (.cells o ty (0,0)):=setRow_heap w g a o ty _ d.heap;have L:fm E E w (w.setRow g o):=⟨λ _ _ h=>h,λ _ h=>h,λ b hb=>setRow_other w g b o (λ e=>d.no P (e▸hb))⟩;have R:Adv own E E w (w.setRow g o):=⟨L,rfl,rfl,rfl,am,λ k _ z=>setRow_other w g k o (λ e=>z (e▸d.own)),λ _ h=>.inl h⟩;refine⟨R,?_,?_,?_,?_,?_⟩;intro b hb;simpa using h.hR b hb;intro i W r;by_cases l:i=id;subst l;rw[aQ.vQ]at r;cases r;have A:(av.els.take e++news++av.els.drop (e+news.length)).length=av.els.length:=by simp;omega
 have u:∀x∈av.els.take e++news++av.els.drop (e+news.length),x.size=av.k:=by intro x p;simp only[qL,List.mem_append]at p;rcases p with p|p|p;exact d.k x (gZ p);exact z x p;exact d.k x (wL p)
 refine⟨g,N,o,ty,d.μ,t,?_,by rw[A];exact d.len,d.most,d.own,by simp[P],d.no,u,?_⟩;rw[<-H];simp only[r3,cy,eZ,m8,Qc];rw[<-d.size];omega;show eK E (w.setRow g o) g 0 (flat (av.els.take e++news++av.els.drop (e+news.length)));rw[zx,zx,LY d.k,Tc d.k];have hlen:(flat av.els).length=av.els.length*av.k:=kZ d.k;have agU:av.els.length*av.k<=a.size:=by rw[d.size];exact cr _ d.len
 have K:(e+news.length)*av.k<=av.els.length*av.k:=cr _ S;rw[fw]at K;intro j c n;have C:(w.setRow g o).cell? ⟨g,0+j,none⟩=o[j]?:=by rw[cI];exact cell_of_row _ _ _ _ _ _ t
 rw[C];suffices J:∃v,o[j]?=some v/\ax E w c v by have⟨v,f,m⟩:=J;exact⟨v,f,ax.keep L c v m⟩
 rw[<-H];have s:∀(j:Nat)(c:aa),(flat av.els)[j]?=some c->∃v:Value,a[j]?=some v/\ax E w c v:=by intro j c n;have⟨v,f,m⟩:=d.row j c n;rw[cI,cell_of_row _ _ _ _ _ _ d.heap]at f;exact⟨v,f,m⟩
 simp only[E3];have ha:(a.toList.take (e*av.k)).length=e*av.k:=by simp;omega
 have hb:((flat av.els).take (e*av.k)).length=e*av.k:=by simp;omega
 rw[qL]at n⊢;by_cases Z:j<e*av.k;rw[kO ac,wq Z]at n;rw[kO ac,wq Z];have⟨v,f,m⟩:=s j c n;exact⟨v,by simpa using f,m⟩;rw[kx ac,hb]at n;rw[kx ac,ha];by_cases p6:j-e*av.k<(flat news).length;rw[kO p6]at n;rw[kO ac];have⟨v,f,m⟩:=T _ c n;exact⟨v,f,m⟩;rw[kx ac,tp]at n;rw[kx ac,tp,Q];rw[O]at n p6⊢;have e1:(e+news.length)*av.k+(j-e*av.k-news.length*av.k)=j:=by rw[fw];omega
 have e2:e*av.k+news.length*av.k+(j-e*av.k-news.length*av.k)=j:=ac;rw[e1]at n;rw[e2];have⟨v,f,m⟩:=s _ c n;exact⟨v,by simpa using f,m⟩;rw[aQ.nF _ _ _ l]at r;have⟨F,oZ,I,Y,D⟩:=h.blk i W r;have B:F≠g:=h.inj i id _ _ (by simp[r]) (by simp[V]) l D.μ d.μ;exact⟨F,oZ,I,Y,D.keep L (setRow_other w g F o B) D.no⟩;intro i j x y r n B p hy;refine h.inj i j x y ?_ ?_ B p hy;intro M;by_cases l:i=id;subst l;simp[V]at M;rw[aQ.nF _ _ _ l]at r;exact r M;intro M;by_cases l:j=id;subst l;simp[V]at M;rw[aQ.nF _ _ _ l]at n;exact n M;intro F cs U;have⟨mI,X⟩:=h.jX F cs U;exact⟨mI,eO.keep L.bare (L.same F mI) cs 0 X⟩;intro k z;simp at z;exact h.new k z
end
end Go.aA
