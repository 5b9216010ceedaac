/- For the claim of VerifierRank: parts VL1, VL2, VL3, VL4, VL5, VL6, VL7, VL8, VL9, VL2S. -/
import Derived.Calls
import Derived.Below
import Derived.Laws.AppendOwn
import Derived.Laws.CopyRow
import Derived.Laws.Tables
import Derived.Laws.NewBlocks
import Derived.Laws.OwnMore
import Derived.WideLaws
import Derived.StringKeys
import Derived.Laws.Closers25
import Derived.LaidEql
import Derived.Laws.Append
import Derived.Great.BuildSlice
import Derived.Laws.Strings
set_option linter.defProp false
set_option linter.unusedSimpArgs false
set_option linter.unusedVariables false
set_option maxRecDepth 100000
open Array renaming getD_eq_getD_getElem?->sL,getElem?_eq_some_iff->x2,length_toList->O6,range->J0
open BitVec renaming ofInt->jb
open Bool renaming false_eq_true->jO
open ByteArray renaming mk->vS,size->ZP
open Function renaming comp_def->aaa
open Go.Addr renaming add_lit->pt
open Go.Instr renaming buildSlice->aac,fieldAt->PH,fill->ER,indexAt->yn,loadAt->EH,sliceAt->rn,sliceBound->Be,sliceBounds->PG,storeAt->Z6,sureAddr->EM
open Go.Op renaming bytesLess->JG,equalIn->jz,intBits->ED,unary->JX
open Go.Program renaming built->Z9
open Go.Value renaming cells->x3
open List renaming append_assoc->nC,drop_append_of_le_length->Zn,drop_length_add_append->Zj,drop_take->ES,eq_of_mem_replicate->jA,extract_eq_take_drop->ZM,getElem?_append_left->kB,getElem?_append_right->kh,getElem?_cons_succ->Y3,getElem?_cons_zero->sA,getElem?_drop->sE,getElem?_eq_some_iff->eu,getElem?_map->iI,getElem?_range->aab,getElem?_take->Po,getElem?_take_of_lt->vI,getElem?_toArray->Ep,length_append->cd,length_cons->e6,length_drop->l0,length_singleton->kG,length_take->cZ,mapM_cons->uk,map_cons->hQ,mem_iff_getElem?->Z8,mem_of_getElem?->qW,mem_of_mem_drop->rk,mem_of_mem_take->gq,mem_or_eq_of_mem_set->AO,range->ba,replicate->bG,size_toArray->qZ,take_append_drop->ym,take_length_add_append->Zg
open Nat renaming add_assoc->ow,add_mul->fg,le_refl->a4,le_trans->bs,lt_of_lt_of_le->fv,min_eq_left->jv,mul_le_mul_right->c6,zero_add->c4
open Option renaming bind_eq_bind->JM,bind_eq_some_iff->yf,map_eq_some_iff->ew,map_some->e5,pure_def->ye
open Option.some renaming injEq->a7
open Prod.mk renaming injEq->cY
namespace Go.aF
inductive aa where
 | bool (b:Bool)
 | int (k:IntKind) (n:Int)
 | str (l:List UInt8)
 | jj
 | j2
 | fn (f:Fn) (first cap:List aa)
 | agg (cs:List aa)
 | aS (cs:List aa)
 | sl (k:Nat) (es:List aa)
 | dQ (k:Nat) (es:List aa)
 | aq
 | ai (id:List Nat) (k off len:Nat) (tight:Bool)
 | ref (id:List Nat) (e o:Nat)
 | c2 (cs:List aa) (o:Nat)
 | top
 | jP
 | nc (n:Nat)
instance:Inhabited aa:=⟨.top⟩
abbrev Id:=List Nat
def aa.cells:aa->List aa
 | .agg cs=>cs
 | c=>[c]
def aa.size (c:aa):Nat:=c.cells.length
def aa.one:aa->Bool
 | .agg _ | .aS _ | .top | .jP | .nc _=>false
 | _=>true
def flat (es:List aa):List aa:=es.flatMap aa.cells
structure Env where
 μ : Id->Option (Nat × Nat × Nat)
 ok:Nat->Prop
mutual
def av (E:Env) (w:World):aa->Value->Prop
 | .bool b,v=>v = .bool b
 | .int k n,v=>v = .int k n
 | .str l,v=>v = .string ⟨l.toArray⟩
 | .jj,v=>v = .pointer none
 | .j2,v=>v = .nilFunc
 | .fn f a c,v=>∃ xs ys:Array Value,v = .func f xs ys/\bl E w a xs.toList/\bl E w c ys.toList
 | .agg cs,v=>∃ xs:Array Value,v = .agg xs/\bl E w cs xs.toList
 | .aS cs,v=>∃ xs:Array Value,v = .tuple xs/\bl E w cs xs.toList
 | .sl k es,v=>∃ (a:Option Addr) (cap:Nat),v = .slice a es.length cap/\es.length<=cap/\cap<=maxLen/\(∀ e∈es,e.size=k) /\
     (es=[] \/ ∃ b o,a=some ⟨b,o,none⟩/\E.ok b/\cH E w b o es)
 | .dQ k es,v=>∃ (a:Option Addr),v = .slice a es.length es.length/\es.length<=maxLen/\(∀ e∈es,e.size=k) /\
     (es=[] \/ ∃ b o,a=some ⟨b,o,none⟩/\E.ok b/\cH E w b o es)
 | .aq,v=>v = .slice none 0 0
 | .ai id k off len tight,v=>∃ g N cap,E.μ id=some (g,k,N)/\v = .slice (some ⟨g,off*k,none⟩) len cap/\len<=cap /\
     off+cap<=N/\N<=maxLen/\(if tight then cap=len else off+cap=N)
 | .ref id e o,v=>∃ g k N,E.μ id=some (g,k,N)/\v = .pointer (some ⟨g,e*k+o,none⟩)
 | .c2 cs o,v=>∃ b p,v = .pointer (some ⟨b,p+o,none⟩)/\E.ok b/\eE E w b p cs
 | .top,_=>True
 | .jP,v=>∃ b,v = .bool b
 | .nc n,v=>∃ m:Nat,n<=m/\v = .int .i64 m
def bl (E:Env) (w:World):List aa->List Value->Prop
 | [],vs=>vs=[]
 | c::cs,vs=>∃ v rest,vs=v::rest/\av E w c v/\bl E w cs rest
def cH (E:Env) (w:World) (b o:Nat):List aa->Prop
 | []=>True
 | .agg cs::es=>eE E w b o cs/\cH E w b (o+cs.length) es
 | c::es=>(∃ v,w.cell? ⟨b,o,none⟩=some v/\av E w c v)/\cH E w b (o+1) es
def eE (E:Env) (w:World) (b o:Nat):List aa->Prop
 | []=>True
 | c::cs=>(∃ v,w.cell? ⟨b,o,none⟩=some v/\av E w c v)/\eE E w b (o+1) cs
end
def KA {w w':World} {b o:Nat} (h:w'.heap[b]? = w.heap[b]?):w'.cell? ⟨b,o,none⟩=w.cell? ⟨b,o,none⟩ :=
 World.cell?_of_block (a:=⟨b,o,none⟩) h
structure e7 (E E':Env) (w w':World):Prop where
 μ : ∀ id x,E.μ id=some x->E'.μ id=some x
 ok:∀ b,E.ok b->E'.ok b
 same:∀ b,E.ok b->w'.heap[b]? = w.heap[b]?
mutual
def av.keep {E E':Env} {w w':World} (h:e7 E E' w w'):∀ (c:aa) (v:Value),av E w c v->av E' w' c v
 | .bool _,_,r=>by simpa [av] using r
 | .int _ _,_,r=>by simpa [av] using r
 | .str _,_,r=>by simpa [av] using r
 | .jj,_,r=>by simpa [av] using r
 | .j2,_,r=>by simpa [av] using r
 | .aq,_,r=>by simpa [av] using r
 | .top,_,_=>by simp [av]
 | .jP,_,r=>by simpa [av] using r
 | .nc _,_,r=>by simpa [av] using r
 | .fn f a c,v,r=>by
   simp only [av] at r ⊢
   have ⟨xs,ys,e,j,x⟩:=r
   exact ⟨xs,ys,e,bl.keep h a _ j,bl.keep h c _ x⟩
 | .agg cs,v,r=>by
   simp only [av] at r ⊢
   have ⟨xs,e,j⟩:=r
   exact ⟨xs,e,bl.keep h cs _ j⟩
 | .aS cs,v,r=>by
   simp only [av] at r ⊢
   have ⟨xs,e,j⟩:=r
   exact ⟨xs,e,bl.keep h cs _ j⟩
 | .sl k es,v,r=>by
   simp only [av] at r ⊢
   have ⟨a,cap,e,h1,l,q,u⟩:=r
   refine ⟨a,cap,e,h1,l,q,u.imp id ?_⟩
   rintro ⟨b,o,m,hb,d⟩
   exact ⟨b,o,m,h.ok b hb,cH.keep h (h.same b hb) es o d⟩
 | .dQ k es,v,r=>by
   simp only [av] at r ⊢
   have ⟨a,e,l,q,u⟩:=r
   refine ⟨a,e,l,q,u.imp id ?_⟩
   rintro ⟨b,o,m,hb,d⟩
   exact ⟨b,o,m,h.ok b hb,cH.keep h (h.same b hb) es o d⟩
 | .ai id k off len t,v,r=>by
   simp only [av] at r ⊢
   have ⟨g,N,cap,n,rest⟩:=r
   exact ⟨g,N,cap,h.μ _ _ n,rest⟩
 | .ref id e o,v,r=>by
   simp only [av] at r ⊢
   have ⟨g,k,N,n,rest⟩:=r
   exact ⟨g,k,N,h.μ _ _ n,rest⟩
 | .c2 cs o,v,r=>by
   simp only [av] at r ⊢
   have ⟨b,p,e,hb,d⟩:=r
   exact ⟨b,p,e,h.ok b hb,eE.keep h (h.same b hb) cs p d⟩
def bl.keep {E E':Env} {w w':World} (h:e7 E E' w w'):∀ (cs:List aa) (vs:List Value),bl E w cs vs->bl E' w' cs vs
 | [],_,r=>by simpa [bl] using r
 | c::cs,vs,r=>by
   simp only [bl] at r ⊢
   have ⟨v,rest,e,y,i⟩:=r
   exact ⟨v,rest,e,av.keep h c v y,bl.keep h cs rest i⟩
def cH.keep {E E':Env} {w w':World} (h:e7 E E' w w') {b:Nat} (hb:w'.heap[b]? = w.heap[b]?):∀ (es:List aa) (o:Nat),cH E w b o es->cH E' w' b o es
 | [],_,_=>by simp [cH]
 | .agg cs::es,o,r=>by
   simp only [cH] at r ⊢
   exact ⟨eE.keep h hb cs o r.1,cH.keep h hb es _ r.2⟩
 | .bool _::es,o,r | .int _ _::es,o,r | .str _::es,o,r | .jj::es,o,r | .j2::es,o,r | .aq::es,o,r | .top::es,o,r | .jP::es,o,r | .nc _::es,o,r | .fn _ _ _::es,o,r
 | .aS _::es,o,r | .sl _ _::es,o,r | .dQ _ _::es,o,r | .ai _ _ _ _ _::es,o,r | .ref _ _ _::es,o,r | .c2 _ _::es,o,r=>by
   simp only [cH] at r ⊢
   have ⟨⟨v,s,d⟩,i⟩:=r
   exact ⟨⟨v,(KA hb).trans s,av.keep h _ v d⟩,cH.keep h hb es _ i⟩
def eE.keep {E E':Env} {w w':World} (h:e7 E E' w w') {b:Nat} (hb:w'.heap[b]? = w.heap[b]?):∀ (cs:List aa) (o:Nat),eE E w b o cs->eE E' w' b o cs
 | [],_,_=>by simp [eE]
 | c::cs,o,r=>by
   simp only [eE] at r ⊢
   have ⟨⟨v,s,d⟩,i⟩:=r
   exact ⟨⟨v,(KA hb).trans s,av.keep h c v d⟩,eE.keep h hb cs _ i⟩
end
def ey (E:Env) (w:World) (b o:Nat) (cs:List aa):Prop:=∀ j c,cs[j]? = some c->∃ v,w.cell? ⟨b,o+j,none⟩=some v/\av E w c v
def qI {E:Env} {w:World} {b:Nat}:∀ {cs:List aa} {o:Nat},eE E w b o cs↔ey E w b o cs
 | [],o=>by simp [eE,ey]
 | c :: cs,o=>by
   simp only [eE]
   rw [qI (cs:=cs)]
   constructor
   rintro ⟨h,d⟩ j c' a
   cases j with
   | zero=>simp only [sA,a7] at a;subst a;exact h
   | succ j =>
     simp only [Y3] at a
     have:=d j c' a
     rwa [show o+(j+1)=o+1+j from by omega]
   intro h
   refine ⟨h 0 c rfl, λ j c' a => ?_⟩
   have:=h (j+1) c' (by simpa using a)
   rwa [show o+(j+1)=o+1+j from by omega] at this
def Nj {E:Env} {w:World} {b o:Nat} {xs ys:List aa}:ey E w b o (xs++ys)↔ey E w b o xs/\ey E w b (o+xs.length) ys:=by
 constructor
 intro h
 refine ⟨λ j c a => ?_, λ j c a => ?_⟩
 exact h j c (by rw [kB (eu.1 a).1];exact a)
 have:=h (xs.length+j) c (by rw [kh (by omega)];simpa using a)
 rwa [<- ow] at this
 rintro ⟨h1,e⟩ j c a
 by_cases d:j<xs.length
 rw [kB d] at a;exact h1 j c a
 rw [kh (by omega)] at a
 have:=e (j-xs.length) c a
 rwa [show o+xs.length+(j-xs.length)=o+j from by omega] at this
def alO {E:Env} {w:World} {b o:Nat} {c:aa}:ey E w b o [c]↔∃ v,w.cell? ⟨b,o,none⟩=some v/\av E w c v:=by
 constructor
 intro h;exact h 0 c rfl
 intro h j c' a
 cases j with
 | zero=>simp only [sA,a7] at a;subst a;exact h
 | succ j=>simp at a
def n9 {E:Env} {w:World} {b:Nat}:∀ {es:List aa} {o:Nat},cH E w b o es↔ey E w b o (flat es)
 | [],o=>by simp [cH,ey,flat]
 | e::es,o=>by
   have a := λ o=>n9 (E:=E) (w:=w) (b:=b) (es:=es) (o:=o)
   have c:flat (e::es)=e.cells++flat es:=by simp [flat]
   rw [c,Nj]
   cases e<;>simp only [cH,aa.cells,a,qI,alO,kG]
def ey.keep {E E':Env} {w w':World} (h:e7 E E' w w') {b:Nat} (hb:w'.heap[b]? = w.heap[b]?) {cs:List aa} {o:Nat} (r:ey E w b o cs):ey E' w' b o cs :=
 λ j c d=>let ⟨v,e,a⟩:=r j c d;⟨v,(KA hb).trans e,av.keep h c v a⟩
def kL {k:Nat}:∀ {es:List aa},(∀ e∈es,e.size=k)->(flat es).length=es.length*k
 | [],_=>by simp [flat]
 | e::es,h=>by
   have a:=kL (es:=es) (λ x b=>h x (by simp [b]))
   have d:e.cells.length=k:=h e (by simp)
   have c:flat (e::es)=e.cells++flat es:=by simp [flat]
   rw [c,cd,a,d,e6,fg]
   omega
def yT {k:Nat}:∀ {es:List aa} {i:Nat} {e:aa} {j:Nat},(∀ e∈es,e.size=k)->es[i]? = some e->j<k->(flat es)[i*k+j]? = e.cells[j]?
 | [],_,_,_,_,h,_=>by simp at h
 | x::es,0,e,j,h,a,d=>by
   simp only [sA,a7] at a
   subst a
   have b:x.cells.length=k:=h x (by simp)
   have c:flat (x::es)=x.cells++flat es:=by simp [flat]
   rw [c,kB (by omega)]
   simp
 | x::es,i+1,e,j,h,a,d=>by
   simp only [Y3] at a
   have b:x.cells.length=k:=h x (by simp)
   have c:flat (x::es)=x.cells++flat es:=by simp [flat]
   have f:=yT (es:=es) (λ x b=>h x (by simp [b])) a d
   rw [c,kh (by rw [b,fg];omega),b, <- f]
   congr 1
   rw [fg];omega
def yS (xs ys:List aa):flat (xs++ys)=flat xs++flat ys:=by simp [flat]
def Nk {E:Env} {w:World} {b o k:Nat} {es:List aa} {i:Nat} {e:aa} (d:∀ e∈es,e.size=k) (h:ey E w b o (flat es)) (g:es[i]? = some e) :
   ey E w b (o+i*k) e.cells:=by
 intro j c f
 have a:j<k:=by
   have:=(eu.1 f).1
   have l:e.cells.length=k:=d e (qW g)
   omega
 have:=h (i*k+j) c (by rw [yT d g a];exact f)
 rwa [<- ow] at this
structure aN where
 els:List aa
 k:Nat
 fr:Bool:=false
abbrev aL:=Id->Option aN
def aL.put (σ : aL) (id:Id) (b:Option aN):aL := λ i=>if i=id then b else σ i
def aL.vn (σ : aL) (id:Id) (b:Option aN) : σ.put id b id=b:=by simp [aL.put]
def aL.nj (σ : aL) (id:Id) (b:Option aN) {i:Id} (h:i≠id) : σ.put id b i = σ i:=by simp [aL.put,h]
structure px (E:Env) (own:Nat->Prop) (w:World) (id:Id) (au:aN) (g N:Nat) (cur:Array Value) (ty:TypeId):Prop where
 μ : E.μ id=some (g,au.k,N)
 heap:w.heap[g]? = some (.cells cur ty (0,0))
 size:cur.size=N*au.k
 len:au.els.length<=N
 most:N<=maxLen
 own:own g
 ok:au.fr=true->E.ok g
 no:au.fr=false -> ¬ E.ok g
 k:∀ e∈au.els,e.size=au.k
 row:ey E w g 0 (flat au.els)
def PM (E:Env) (own:Nat->Prop) (w:World) (id:Id) (au:aN):Prop:=∃ g N a ty,px E own w id au g N a ty
def Env.bare (E:Env):Env:=⟨λ _=>none,E.ok⟩
structure Inv (G:Nat->Option (List aa)) (own:Nat->Prop) (E:Env) (w:World) (σ : aL):Prop where
 hh:∀ b,E.ok b->b<w.heap.size
 blk:∀ id au, σ id=some au->PM E own w id au
 inj:∀ i j x y, σ i≠none -> σ j≠none->i≠j->E.μ i=some x->E.μ j=some y->x.1≠y.1
 jH:∀ g cs,G g=some cs->E.ok g/\eE E.bare w g 0 cs
 new:∀ k,w.heap.size<=k->own k
structure Adv (own:Nat->Prop) (E E':Env) (w w':World):Prop where
 step:e7 E E' w w'
 os:w'.os=w.os
 tape:w'.tape=w.tape
 output:w'.output=w.output
 size:w.heap.size<=w'.heap.size
 block:∀ k,k<w.heap.size -> ¬ own k->w'.heap[k]? = w.heap[k]?
 qG:∀ b,E'.ok b->E.ok b \/ own b
def e7.bare {E E':Env} {w w':World} (h:e7 E E' w w'):e7 E.bare E'.bare w w':=⟨λ _ _ h=>by simp [Env.bare] at h,h.ok,h.same⟩
def e7.anK (E:Env) (w:World):e7 E.bare E w w:=⟨λ _ _ h=>by simp [Env.bare] at h, λ _ h=>h, λ _ _=>rfl⟩
def e7.refl (E:Env) (w:World):e7 E E w w:=⟨λ _ _ h=>h, λ _ h=>h, λ _ _=>rfl⟩
def e7.trans {E E' d:Env} {w w' c:World} (a:e7 E E' w w') (b:e7 E' d w' c):e7 E d w c :=
 ⟨λ i x h=>b.μ i x (a.μ i x h), λ x h=>b.ok x (a.ok x h), λ x h=>(b.same x (a.ok x h)).trans (a.same x h)⟩
def Adv.refl (own:Nat->Prop) (E:Env) (w:World):Adv own E E w w :=
 ⟨e7.refl E w,rfl,rfl,rfl,a4 _, λ _ _ _=>rfl, λ _ h => .inl h⟩
def Adv.trans {own:Nat->Prop} {E E' d:Env} {w w' c:World} (a:Adv own E E' w w') (b:Adv own E' d w' c):Adv own E d w c :=
 ⟨a.step.trans b.step,b.os.trans a.os,b.tape.trans a.tape,b.output.trans a.output,bs a.size b.size,
   λ k f e=>(b.block k (fv f a.size) e).trans (a.block k f e),
   λ x h=>(b.qG x h).elim (λ h=>a.qG x h) .inr⟩
def Adv.drew {own:Nat->Prop} (E:Env) (w:World):Adv own E E w w.drew :=
 ⟨⟨λ _ _ h=>h, λ _ h=>h, λ _ _=>rfl⟩,rfl,rfl,rfl,a4 _, λ _ _ _=>rfl, λ _ h => .inl h⟩
def px.keep {E E':Env} {own:Nat->Prop} {w w':World} {id:Id} {au:aN} {g N:Nat} {a:Array Value} {ty:TypeId} (h:px E own w id au g N a ty)
   (s:e7 E E' w w') (hb:w'.heap[g]? = w.heap[g]?) (b:au.fr=false -> ¬ E'.ok g):px E' own w' id au g N a ty :=
 ⟨s.μ _ _ h.μ,hb.trans h.heap,h.size,h.len,h.most,h.own, λ c=>s.ok _ (h.ok c),b,h.k,ey.keep s hb h.row⟩
def lN {w:World} {g:Nat} {o:Obj} (h:w.heap[g]? = some o):g<w.heap.size:=(x2.1 h).1
def Inv.keep {G:Nat->Option (List aa)} {own:Nat->Prop} {E E':Env} {w w':World} {σ : aL} (h:Inv G own E w σ) (a:Adv own E E' w w')
   (l:E'.μ = E.μ) (d:∀ b,E'.ok b->b<w'.heap.size)
   (hb:∀ id au g N, σ id=some au->E.μ id=some (g,au.k,N)->w'.heap[g]? = w.heap[g]? /\ (au.fr=false -> ¬ E'.ok g)):Inv G own E' w' σ where
 hh:=d
 blk := λ id au i=>by
   have ⟨g,N,e,ty,f⟩:=h.blk id au i
   have ⟨h1,c⟩:=hb id au g N i f.μ
   exact ⟨g,N,e,ty,f.keep a.step h1 c⟩
 inj:=by rw [l];exact h.inj
 jH := λ g cs n=>let ⟨h1,c⟩:=h.jH g cs n;⟨a.step.ok g h1,eE.keep a.step.bare (a.step.same g h1) cs 0 c⟩
 new := λ k m=>h.new k (bs a.size m)
def Inv.drew {G:Nat->Option (List aa)} {own:Nat->Prop} {E:Env} {w:World} {σ : aL} (h:Inv G own E w σ):Inv G own E w.drew σ :=
 h.keep (Adv.drew E w) rfl h.hh (λ id au g N c b=>⟨rfl, λ e=>by have ⟨i,f,d,ty,a⟩:=h.blk id au c;have:=a.μ.symm.trans b;simp only [a7,cY] at this;rw [<- this.1];exact a.no e⟩)
def rr (E:Env) (w:World) (cs:List aa) (vs:List Value):Prop:=∀ (j:Nat) (c:aa),cs[j]? = some c->∃ v:Value,vs[j]? = some v/\av E w c v
def bl.len {E:Env} {w:World}:∀ {cs:List aa} {vs:List Value},bl E w cs vs->vs.length=cs.length
 | [],vs,h=>by simp only [bl] at h;simp [h]
 | c::cs,vs,h=>by
   simp only [bl] at h
   obtain ⟨v,rest,rfl,_,a⟩:=h
   simp [bl.len a]
def fe {E:Env} {w:World}:∀ {cs:List aa} {vs:List Value},bl E w cs vs↔vs.length=cs.length/\rr E w cs vs
 | [],vs=>by simp [bl,rr]
 | c :: cs,vs=>by
   constructor
   intro h
   refine ⟨bl.len h, ?_⟩
   simp only [bl] at h
   obtain ⟨v,rest,rfl,h1,e⟩:=h
   intro j d a
   cases j with
   | zero=>simp only [sA,a7] at a;subst a;exact ⟨v,rfl,h1⟩
   | succ j=>simpa using (fe.1 e).2 j d (by simpa using a)
   rintro ⟨f,h⟩
   simp only [bl]
   have ⟨v,b,h1⟩:=h 0 c rfl
   cases vs with
   | nil=>simp at b
   | cons x rest =>
     simp only [sA,a7] at b
     subst b
     refine ⟨x,rest,rfl,h1,fe.2 ⟨by simpa using f, λ j d a => ?_⟩⟩
     simpa using h (j+1) d (by simpa using a)
def rr.append {E:Env} {w:World} {xs ys:List aa} {us vs:List Value} (h1:rr E w xs us) (d:us.length=xs.length) (e:rr E w ys vs):rr E w (xs++ys) (us++vs):=by
 intro j c a
 by_cases b:j<xs.length
 rw [kB b] at a
 rw [kB (by omega)];exact h1 j c a
 rw [kh (by omega)] at a
 rw [kh (by omega),d];exact e _ c a
def av.one {E:Env} {w:World}:∀ {c:aa} {v:Value},av E w c v->c.one=true->v.oneCell'=true
 | .bool _,_,h,_ | .int _ _,_,h,_ | .str _,_,h,_ | .jj,_,h,_ | .j2,_,h,_ | .aq,_,h,_=>by simp only [av] at h;subst h;rfl
 | .fn _ _ _,_,h,_=>by simp only [av] at h;obtain ⟨_,_,rfl,_⟩:=h;rfl
 | .sl _ _,_,h,_=>by simp only [av] at h;obtain ⟨_,_,rfl,_⟩:=h;rfl
 | .dQ _ _,_,h,_=>by simp only [av] at h;obtain ⟨_,rfl,_⟩:=h;rfl
 | .ai _ _ _ _ _,_,h,_=>by simp only [av] at h;obtain ⟨_,_,_,_,rfl,_⟩:=h;rfl
 | .ref _ _ _,_,h,_=>by simp only [av] at h;obtain ⟨_,_,_,_,rfl⟩:=h;rfl
 | .c2 _ _,_,h,_=>by simp only [av] at h;obtain ⟨_,_,rfl,_⟩:=h;rfl
def av.cells {E:Env} {w:World}:∀ {c:aa} {v:Value},av E w c v->(c.one=true \/ ∃ cs,c = .agg cs)->bl E w c.cells v.cells.toList
 | .agg cs,v,h,_=>by simp only [av] at h;obtain ⟨xs,rfl,h⟩:=h;exact h
 | .aS _,_,_,h=>by simp [aa.one] at h
 | .top,_,_,h | .jP,_,_,h | .nc _,_,_,h=>by simp [aa.one] at h
 | .bool _,v,h,_ | .int _ _,v,h,_ | .str _,v,h,_ | .jj,v,h,_ | .j2,v,h,_ | .aq,v,h,_=>by
   have a:=h
   simp only [av] at h;subst h;simp only [aa.cells,x3,bl];exact ⟨_,_,rfl,a,rfl⟩
 | .fn _ _ _,v,h,_=>by
   have a:=h
   simp only [av] at h;obtain ⟨_,_,rfl,_⟩:=h;simp only [aa.cells,x3,bl];exact ⟨_,_,rfl,a,rfl⟩
 | .sl _ _,v,h,_=>by
   have a:=h
   simp only [av] at h;obtain ⟨_,_,rfl,_⟩:=h;simp only [aa.cells,x3,bl];exact ⟨_,_,rfl,a,rfl⟩
 | .dQ _ _,v,h,_=>by
   have a:=h
   simp only [av] at h;obtain ⟨_,rfl,_⟩:=h;simp only [aa.cells,x3,bl];exact ⟨_,_,rfl,a,rfl⟩
 | .ai _ _ _ _ _,v,h,_=>by
   have a:=h
   simp only [av] at h;obtain ⟨_,_,_,_,rfl,_⟩:=h;simp only [aa.cells,x3,bl];exact ⟨_,_,rfl,a,rfl⟩
 | .ref _ _ _,v,h,_=>by
   have a:=h
   simp only [av] at h;obtain ⟨_,_,_,_,rfl⟩:=h;simp only [aa.cells,x3,bl];exact ⟨_,_,rfl,a,rfl⟩
 | .c2 _ _,v,h,_=>by
   have a:=h
   simp only [av] at h;obtain ⟨_,_,rfl,_⟩:=h;simp only [aa.cells,x3,bl];exact ⟨_,_,rfl,a,rfl⟩
def Env.bind (E:Env) (id:Id) (g k N:Nat):Env:={ E with μ := λ i=>if i=id then some (g,k,N) else E.μ i }
def Env.uN (E:Env) (id:Id) (g k N:Nat):(E.bind id g k N).μ id=some (g,k,N):=by simp [Env.bind]
def Env.yD (E:Env) (id:Id) (g k N:Nat) {i:Id} (h:i≠id):(E.bind id g k N).μ i=E.μ i:=by simp [Env.bind,h]
def Lu (w:World) (o:Obj) {k:Nat} (h:k<w.heap.size):(w.alloc o).heap[k]? = w.heap[k]? := heap_alloc_old w o k h
def size_alloc (w:World) (o:Obj):(w.alloc o).heap.size=w.heap.size+1:=by simp
def e7.alloc {E:Env} {w:World} {id:Id} (dz:E.μ id=none) (a:∀ b,E.ok b->b<w.heap.size) (o:Obj) (k N:Nat) :
   e7 E (E.bind id w.heap.size k N) w (w.alloc o) where
 μ := λ i x h=>by rw [Env.yD];exact h;rintro rfl;simp [dz] at h
 ok := λ _ h=>h
 same := λ b hb=>Lu w o (a b hb)
def aaB {G:Nat->Option (List aa)} {own:Nat->Prop} {E:Env} {w:World} {σ : aL} (h:Inv G own E w σ) {id:Id} (dz:E.μ id=none) (M : σ id=none)
   {els:List aa} {k N:Nat} {vs:List Value} (ty:TypeId) (s:∀ e∈els,e.size=k) (L:rr E w (flat els) vs) (J:vs.length=N*k) (K:els.length<=N) (F:N<=maxLen) :
   Adv own E (E.bind id w.heap.size k N) w (w.alloc (.cells vs.toArray ty))/\Inv G own (E.bind id w.heap.size k N) (w.alloc (.cells vs.toArray ty)) (σ.put id (some ⟨els,k,false⟩)):=by
 have t:e7 E (E.bind id w.heap.size k N) w (w.alloc (.cells vs.toArray ty)):=e7.alloc dz h.hh _ k N
 have z:Adv own E (E.bind id w.heap.size k N) w (w.alloc (.cells vs.toArray ty)) :=
   ⟨t,rfl,rfl,rfl,by rw [size_alloc];omega, λ k s _=>Lu w _ s, λ _ hb => .inl hb⟩
 refine ⟨z, ?_, ?_, ?_, ?_, ?_⟩
 intro b hb;rw [size_alloc];have:=h.hh b hb;omega
 intro i au l
 by_cases D:i=id
 subst D
 rw [aL.vn] at l
 cases l
 refine ⟨w.heap.size,N,vs.toArray,ty,Env.uN _ _ _ _ _,heap_alloc_new w _,by simpa using J,K,F,h.new _ (a4 _),by simp, λ _ hb => ?_,s, ?_⟩
 exact absurd (h.hh _ hb) (by omega)
 intro j c q
 have ⟨v,C,B⟩:=L j c q
 refine ⟨v, ?_,av.keep t c v B⟩
 rw [cell_of_row _ _ _ _ _ _ (heap_alloc_new w (.cells vs.toArray ty))]
 simpa using C
 rw [aL.nj _ _ _ D] at l
 have ⟨g,A,p,n,f⟩:=h.blk i au l
 have u:=lN f.heap
 exact ⟨g,A,p,n,f.keep t (Lu w _ u) (λ H=>f.no H)⟩
 intro i j x y l q r m d
 by_cases o:i=id
 subst o
 have a:j≠i := λ e=>r e.symm
 rw [aL.nj _ _ _ a] at q
 rw [Env.uN] at m
 rw [Env.yD _ _ _ _ _ a] at d
 cases hb : σ j with
 | none=>exact absurd hb q
 | some au =>
   have ⟨g,A,p,n,f⟩:=h.blk j au hb
   have u:=lN f.heap
   rw [f.μ] at d
   simp only [a7] at m d
   rw [<- m, <- d];simp only [];omega
 rw [aL.nj _ _ _ o] at l
 rw [Env.yD _ _ _ _ _ o] at m
 by_cases a:j=id
 subst a
 rw [Env.uN] at d
 cases hb : σ i with
 | none=>exact absurd hb l
 | some au =>
   have ⟨g,A,p,n,f⟩:=h.blk i au hb
   have u:=lN f.heap
   rw [f.μ] at m
   simp only [a7] at m d
   rw [<- m, <- d];simp only [];omega
 rw [aL.nj _ _ _ a] at q
 rw [Env.yD _ _ _ _ _ a] at d
 exact h.inj i j x y l q r m d
 intro g cs u
 have ⟨h1,I⟩:=h.jH g cs u
 exact ⟨h1,eE.keep t.bare (t.same g h1) cs 0 I⟩
 intro k s;rw [size_alloc] at s;exact h.new k (by omega)
def aa.upd (c:aa) (o:Nat) (new:List aa):aa :=
 match c with
 | .agg cs => .agg (cs.take o++new++cs.drop (o+new.length))
 | c=>new.headD c
def aa.QL {c:aa} {o:Nat} {new:List aa} (h:o+new.length<=c.size) (h1:∀ x∈new,x.one=true):(c.upd o new).cells=c.cells.take o++new++c.cells.drop (o+new.length):=by
 have b:∀ c:aa,c.cells=[c]->c.upd o new=new.headD c->o+new.length<=c.size->(c.upd o new).cells=c.cells.take o++new++c.cells.drop (o+new.length):=by
   intro c d hu a
   rw [hu,d]
   simp only [aa.size,d,kG] at a
   match new,h1,a with
   | [],_,a =>
     have:o=0 \/ o=1:=by simp at a;omega
     rcases this with rfl | rfl<;>simp [d]
   | [x],h1,a =>
     have e:o=0:=by simp at a;omega
     subst e
     have f:=h1 x (by simp)
     cases x<;>simp [aa.one] at f<;>simp [aa.cells]
   | _::_::_,_,a=>simp at a;omega
 cases c<;>first | exact b _ rfl rfl h | rfl
def aa.amL {c:aa} {o:Nat} {new:List aa} (h:o+new.length<=c.size) (h1:∀ x∈new,x.one=true):(c.upd o new).size=c.size:=by
 unfold aa.size at *
 rw [aa.QL h h1]
 simp only [cd,cZ,l0]
 omega
def K8 {k:Nat}:∀ {es:List aa} {i:Nat} {e a:aa},(∀ x∈es,x.size=k)->es[i]? = some e->a.size=k ->
   flat (es.set i a)=(flat es).take (i*k)++a.cells++(flat es).drop (i*k+k)
 | [],_,_,_,_,h,_=>by simp at h
 | x::es,0,e,a,h,g,f=>by
   have d:x.cells.length=k:=h x (by simp)
   have c:flat (x::es)=x.cells++flat es:=by simp [flat]
   have b:flat ((x::es).set 0 a)=a.cells++flat es:=by simp [flat]
   rw [c,b]
   simp [<- d]
 | x::es,i+1,e,a,h,g,f=>by
   have d:x.cells.length=k:=h x (by simp)
   have l:=K8 (es:=es) (i:=i) (λ y j=>h y (by simp [j])) (by simpa using g) f
   have c:flat (x::es)=x.cells++flat es:=by simp [flat]
   have b:flat ((x::es).set (i+1) a)=x.cells++flat (es.set i a):=by simp [flat]
   rw [c,b,l]
   have m:(i+1)*k=x.cells.length+i*k:=by rw [d,fg];omega
   rw [m,List.take_append,show x.cells.length+i*k+k=x.cells.length+(i*k+k) from by omega,List.drop_append]
   simp [List.take_of_length_le,nC]
def anj {G:Nat->Option (List aa)} {own:Nat->Prop} {E:Env} {w:World} {σ : aL} (h:Inv G own E w σ) {id:Id} {au:aN} (fJ : σ id=some au) (T:au.fr=false)
   {g N:Nat} {a:Array Value} {ty:TypeId} (f:px E own w id au g N a ty)
   {e:Nat} {el:aa} (X:au.els[e]? = some el) {o:Nat} {new:List aa} {vs:List Value} (F:o+new.length<=el.size) (h1:∀ x∈new,x.one=true) (hv:bl E w new vs) :
   e*au.k+o+vs.length<=a.size /\
   Adv own E E w (w.setRow g (a.toList.take (e*au.k+o)++vs++a.toList.drop (e*au.k+o+vs.length)).toArray) /\
   Inv G own E (w.setRow g (a.toList.take (e*au.k+o)++vs++a.toList.drop (e*au.k+o+vs.length)).toArray) (σ.put id (some { au with els:=au.els.set e (el.upd o new) })):=by
 have ⟨Q,hvp⟩:=fe.1 hv
 have H:el.size=au.k:=f.k el (qW X)
 have S:e<au.els.length:=(eu.1 X).1
 have s:e*au.k+o+vs.length<=a.size:=by
   rw [f.size,Q]
   have h2:(e+1)*au.k<=N*au.k:=c6 _ (by have:=f.len;omega)
   rw [fg] at h2
   omega
 refine ⟨s, ?_⟩
 generalize K:(a.toList.take (e*au.k+o)++vs++a.toList.drop (e*au.k+o+vs.length)).toArray=q
 have hg:=lN f.heap
 have z:(w.setRow g q).heap[g]? = some (.cells q ty (0,0)):=setRow_heap w g a q ty _ f.heap
 have O:e7 E E w (w.setRow g q):=⟨λ _ _ h=>h, λ _ h=>h, λ b hb=>setRow_other w g b q (λ e=>f.no T (e▸hb))⟩
 have V:Adv own E E w (w.setRow g q) :=
   ⟨O,rfl,rfl,rfl,by simp, λ k _ W=>setRow_other w g k q (λ e=>W (e▸f.own)), λ _ h => .inl h⟩
 refine ⟨V, ?_, ?_, ?_, ?_, ?_⟩
 intro b hb;simpa using h.hh b hb
 intro i s7 t
 by_cases m:i=id
 subst m
 rw [aL.vn] at t
 cases t
 have hu:=aa.amL F h1
 refine ⟨g,N,q,ty,f.μ,z, ?_,by simpa using f.len,f.most,f.own,by simp [T],f.no, ?_, ?_⟩
 rw [<- K]
 simp only [qZ,cd,cZ,l0,O6]
 rw [<- f.size];omega
 intro x M
 rcases AO M with M | rfl
 exact f.k x M
 rw [hu];exact H
 have Lx:flat (au.els.set e (el.upd o new))=(flat au.els).take (e*au.k+o)++new++(flat au.els).drop (e*au.k+o+new.length):=by
   rw [K8 f.k X (hu.trans H),aa.QL F h1]
   have Lv:∀ j,j<au.k->(flat au.els)[e*au.k+j]? = el.cells[j]? := λ j p=>yT f.k X p
   have U:(flat au.els).length=au.els.length*au.k:=kL f.k
   have B8:el.cells.length=au.k:=H
   have r:(e+1)*au.k<=au.els.length*au.k:=c6 _ S
   rw [fg] at r
   have Z:o+new.length<=au.k:=by have:=F;unfold aa.size at this;omega
   have d:flat au.els=(flat au.els).take (e*au.k)++el.cells++(flat au.els).drop (e*au.k+au.k):=by
     apply List.ext_getElem?
     intro j
     by_cases h1:j<e*au.k
     rw [nC,kB (by simp;omega),vI h1]
     rw [nC,kh (by simp;omega)]
     simp only [cZ,jv (show e*au.k<=(flat au.els).length by omega)]
     by_cases h2:j-e*au.k<au.k
     rw [kB (by omega), <- Lv _ h2]
     congr 1;omega
     rw [kh (by omega),sE]
     congr 1;omega
   generalize (flat au.els).take (e*au.k)=A at d ⊢
   generalize hC:(flat au.els).drop (e*au.k+au.k)=C at d ⊢
   have hA:A.length=e*au.k:=by
     have h3:=congrArg List.length d
     simp only [cd] at h3
     have h4:C.length=(flat au.els).length-(e*au.k+au.k):=by rw [<- hC,l0]
     omega
   rw [d]
   rw [<- hA]
   simp only [nC]
   rw [Zg,show A.length+o+new.length=A.length+(o+new.length) from by omega,Zj,
     List.take_append_of_le_length (by omega),Zn (by omega)]
   simp only [nC]
 show ey E (w.setRow g q) g 0 (flat (au.els.set e (el.upd o new)))
 rw [Lx]
 have U:(flat au.els).length=au.els.length*au.k:=kL f.k
 have r:(e+1)*au.k<=au.els.length*au.k:=c6 _ S
 rw [fg] at r
 have Z:o+new.length<=au.k:=by omega
 have aeY:au.els.length*au.k<=a.size:=by rw [f.size];exact c6 _ f.len
 intro j c p
 have I:(w.setRow g q).cell? ⟨g,0+j,none⟩=q[j]? := by rw [c4];exact cell_of_row _ _ _ _ _ _ z
 rw [I]
 suffices L:∃ v,q[j]? = some v/\av E w c v by
   have ⟨v,l,n⟩:=L;exact ⟨v,l,av.keep O c v n⟩
 rw [<- K]
 have u:∀ (j:Nat) (c:aa),(flat au.els)[j]? = some c->∃ v:Value,a[j]? = some v/\av E w c v:=by
   intro j c p
   have ⟨v,l,n⟩:=f.row j c p
   rw [c4,cell_of_row _ _ _ _ _ _ f.heap] at l
   exact ⟨v,l,n⟩
 simp only [Ep]
 have ha:(a.toList.take (e*au.k+o)).length=e*au.k+o:=by simp;omega
 have hb:((flat au.els).take (e*au.k+o)).length=e*au.k+o:=by simp;omega
 rw [nC] at p ⊢
 by_cases c1:j<e*au.k+o
 rw [kB (by omega),vI c1] at p
 rw [kB (by omega),vI c1]
 have ⟨v,l,n⟩:=u j c p
 exact ⟨v,by simpa using l,n⟩
 rw [kh (by omega),hb] at p
 rw [kh (by omega),ha]
 by_cases pC:j-(e*au.k+o)<new.length
 rw [kB pC] at p
 rw [kB (by omega)]
 have ⟨v,l,n⟩:=hvp _ c p
 exact ⟨v,l,n⟩
 rw [kh (by omega),sE] at p
 rw [kh (by omega),sE,Q]
 have ⟨v,l,n⟩:=u _ c p
 exact ⟨v,by simpa using l,n⟩
 rw [aL.nj _ _ _ m] at t
 have ⟨J,oz,P,Y,B⟩:=h.blk i s7 t
 have D:J≠g:=h.inj i id _ _ (by simp [t]) (by simp [fJ]) m B.μ f.μ
 exact ⟨J,oz,P,Y,B.keep O (setRow_other w g J q D) B.no⟩
 intro i j x y t p D M hy
 refine h.inj i j x y ?_ ?_ D M hy
 intro R;by_cases m:i=id
 subst m;simp [fJ] at R
 rw [aL.nj _ _ _ m] at t;exact t R
 intro R;by_cases m:j=id
 subst m;simp [fJ] at R
 rw [aL.nj _ _ _ m] at p;exact p R
 intro J cs ae7
 have ⟨mi,aeg⟩:=h.jH J cs ae7
 exact ⟨mi,eE.keep O.bare (O.same J mi) cs 0 aeg⟩
 intro k W;simp at W;exact h.new k W
inductive dD where
 | t (n:Nat)
 | c (a:aa)
 | g (n:Nat)
 | f (n:Nat)
def dD.ev (G:Nat->Option (List aa)) (t:List aa):dD->aa
 | .t n=>t.getD n (.aS [])
 | .c a=>a
 | .g n=>match G n with | some cs => .c2 cs 0 | none => .top
 | .f n => .fn (.func n) [] []
inductive eJ where
 | int | str | bool | ptr | slice | func
 deriving DecidableEq
inductive dK (α : Type) where
 | mv (x : α)
 | pick (c a b : α)
 | box (x : α)
 | build (zero:List aa) (parts:List (Nat × Nat × α))
 | uO (k len:Nat) (zero:aa) (parts:List (Nat × α))
 | load (agg:Bool) (n:Nat) (x : α)
 | store (n:Nat) (x v : α)
 | CQ (x : α)
 | bin (op:BinOp) (sh:eJ) (x y : α)
 | un (op:UnOp) (x : α)
 | toInt (k:IntKind) (x : α)
 | zf (x : α)
 | s8 (x : α)
 | idx (x c : α)
 | nh (x y : α)
 | zu (fn:Fn) (first cap:List α)
 | oV (k bytes:Nat) (zero:aa) (len cap : α)
 | slice (k:Nat) (x : α) (lo hi mx:Option α)
 | Ab (x : α) (lo hi:Option α)
 | vv (n:Nat) (x : α) (lo hi:Option α)
 | uZ (off:Nat) (x : α)
 | field (agg:Bool) (off n:Nat) (x : α)
 | u9 (k:Nat) (x i : α)
 | Cl (n k:Nat) (x i : α)
 | zh (x i : α)
 | Cp (agg:Bool) (n k:Nat) (x i : α)
 | extract (x : α) (i:Nat)
 | len (str:Bool) (x : α)
 | Cw (n:Nat) (x : α)
 | append (k bytes:Nat) (s x : α)
 | min (x y : α)
 | max (x y : α)
 | cap (x : α)
 | clear (k:Nat) (zero:aa) (x : α)
 | copy (k:Nat) (d x : α)
 | yB (k bytes:Nat) (zero:aa) (s n : α)
 | bad
 | call (f : α) (args:List α)
def dK.map {α β : Type} (g : α -> β):dK α -> dK β
 | .mv x => .mv (g x)
 | .pick c a b => .pick (g c) (g a) (g b)
 | .box x => .box (g x)
 | .build z h => .build z (h.map λ p=>(p.1,p.2.1,g p.2.2))
 | .uO k n z h => .uO k n z (h.map λ p=>(p.1,g p.2))
 | .load a n x => .load a n (g x)
 | .store n x v => .store n (g x) (g v)
 | .CQ x => .CQ (g x)
 | .bin op j x y => .bin op j (g x) (g y)
 | .un op x => .un op (g x)
 | .toInt k x => .toInt k (g x)
 | .zf x => .zf (g x)
 | .s8 x => .s8 (g x)
 | .idx x c => .idx (g x) (g c)
 | .nh x y => .nh (g x) (g y)
 | .zu fn a c => .zu fn (a.map g) (c.map g)
 | .oV k b z l c => .oV k b z (g l) (g c)
 | .slice k x lo e mx => .slice k (g x) (lo.map g) (e.map g) (mx.map g)
 | .Ab x lo e => .Ab (g x) (lo.map g) (e.map g)
 | .vv n x lo e => .vv n (g x) (lo.map g) (e.map g)
 | .uZ o x => .uZ o (g x)
 | .field a o n x => .field a o n (g x)
 | .u9 k x i => .u9 k (g x) (g i)
 | .Cl n k x i => .Cl n k (g x) (g i)
 | .zh x i => .zh (g x) (g i)
 | .Cp a n k x i => .Cp a n k (g x) (g i)
 | .extract x i => .extract (g x) i
 | .len b x => .len b (g x)
 | .Cw n x => .Cw n (g x)
 | .append k b s x => .append k b (g s) (g x)
 | .min x y => .min (g x) (g y)
 | .max x y => .max (g x) (g y)
 | .cap x => .cap (g x)
 | .clear k z x => .clear k z (g x)
 | .copy k d x => .copy k (g d) (g x)
 | .yB k b z s n => .yB k b z (g s) (g n)
 | .bad => .bad
 | .call f m => .call (g f) (m.map g)
structure bM where
 val:aa
 rd:List Id:=[]
 up:List (Id × Option aN):=[]
def aL.app (σ : aL):List (Id × Option aN)->aL
 | [] => σ
 | (i,b)::r=>(σ.put i b).app r
def s6 (op:BinOp) (k:IntKind) (x y:Int):Option Int :=
 let a:=jb k.bits x
 let b:=jb k.bits y
 match op with
 | .and=>some (k.wrap (a &&& b).toNat)
 | .or=>some (k.wrap (a ||| b).toNat)
 | .xor=>some (k.wrap (a ^^^ b).toNat)
 | .andNot=>some (k.wrap (a &&& ~~~b).toNat)
 | _=>none
def p4 (op:BinOp) (k:IntKind) (a b:Int):Option aa :=
 match op with
 | .add=>some (.int k (k.wrap (a+b)))
 | .sub=>some (.int k (k.wrap (a-b)))
 | .mul=>some (.int k (k.wrap (a*b)))
 | .quo=>if b=0 then none else some (.int k (k.wrap (a.tdiv b)))
 | .rem=>if b=0 then none else some (.int k (a.tmod b))
 | .and | .or | .xor | .andNot=>(s6 op k a b).map (.int k)
 | .eql=>some (.bool (a==b))
 | .neq=>some (.bool (a != b))
 | .lss=>some (.bool (a<b))
 | .leq=>some (.bool (a<=b))
 | .gtr=>some (.bool (a>b))
 | .geq=>some (.bool (a≥b))
 | .shl=>if b<0 then none else some (.int k (k.wrap (a*2 ^ (min b.toNat k.bits))))
 | .shr=>if b<0 then none else some (.int k (a.fdiv (2 ^ (min b.toNat k.bits))))
def OG (op:BinOp) (x y:List UInt8):Option aa :=
 match op with
 | .add=>if x.length+y.length<=maxLen then some (.str (x++y)) else none
 | .eql=>some (.bool (x==y))
 | .neq=>some (.bool !(x==y))
 | .lss=>some (.bool (JG x y))
 | .leq=>some (.bool (JG x y||x==y))
 | .gtr=>some (.bool !(JG x y||x==y))
 | .geq=>some (.bool !(JG x y))
 | _=>none
def lW (op:BinOp) (c:eJ) (x y:aa):Option aa :=
 match c,x,y with
 | .int, .int k a, .int k' b=>if op = .shl \/ op = .shr \/ k=k' then p4 op k a b else none
 | .str, .str a, .str b=>OG op a b
 | .bool, .bool a, .bool b=>match op with
   | .eql=>some (.bool (a==b))
   | .neq=>some (.bool !(a==b))
   | _=>none
 | .ptr, .jj, .jj=>match op with | .eql=>some (.bool true) | .neq=>some (.bool false) | _=>none
 | .ptr, .ref _ _ _, .jj | .ptr, .jj, .ref _ _ _ | .ptr, .c2 _ _, .jj | .ptr, .jj, .c2 _ _ =>
   match op with | .eql=>some (.bool false) | .neq=>some (.bool true) | _=>none
 | .slice, .aq, .aq=>match op with | .eql=>some (.bool true) | .neq=>some (.bool false) | _=>none
 | .slice, .ai _ _ _ _ _, .aq | .slice, .aq, .ai _ _ _ _ _ =>
   match op with | .eql=>some (.bool false) | .neq=>some (.bool true) | _=>none
 | .slice, .sl _ (_::_), .aq | .slice, .dQ _ (_::_), .aq =>
   match op with | .eql=>some (.bool false) | .neq=>some (.bool true) | _=>none
 | .func, .j2, .j2=>match op with | .eql=>some (.bool true) | .neq=>some (.bool false) | _=>none
 | .func, .fn _ _ _, .j2 | .func, .j2, .fn _ _ _=>match op with | .eql=>some (.bool false) | .neq=>some (.bool true) | _=>none
 | _,_,_=>none
def OD (op:BinOp) (b:eJ) (x y:aa):Option aa :=
 match b,x,y with
 | .slice, .sl _ [], .aq | .slice, .dQ _ [], .aq=>match op with | .eql | .neq=>some .jP | _=>none
 | .int, .int .i64 a, .nc n=>match op with | .gtr=>if a<=n then some (.bool false) else none | _=>none
 | _,_,_=>none
def eH (op:BinOp) (a:eJ) (x y:aa):Option aa :=
 match lW op a x y with
 | some c=>some c
 | none=>OD op a x y
def OH (op:UnOp) (x:aa):Option aa :=
 match op,x with
 | .neg, .int k n=>some (.int k (k.wrap (0-n)))
 | .xor, .int k n=>(s6 .xor k (if k.signed then -1 else k.max) n).map (.int k)
 | .not, .bool b=>some (.bool !b)
 | _,_=>none
def part (a:Bool) (cs:List aa) (o n:Nat):Option aa :=
 if o+n<=cs.length then
   if a then some (.agg ((cs.drop o).take n)) else if n=1 then cs[o]? else none
 else none
def kV (σ : aL) (a:Bool) (n:Nat):aa->Option bM
 | .ref id e o=>match σ id with
   | some au=>match au.els[e]? with
     | some el=>(part a el.cells o n).map λ v=>{ val:=v,rd:=[id] }
     | none=>none
   | none=>none
 | .c2 cs o=>(part a cs o n).map λ v=>{ val:=v }
 | _=>none
def tY (σ : aL) (n:Nat) (x v:aa):Option bM :=
 match x with
 | .ref id e o=>match σ id with
   | some au=>match au.els[e]? with
     | some el =>
       if au.fr=false/\v.cells.length=n/\o+n<=el.size/\v.cells.all aa.one=true then
         some { val := .aS [],rd:=[id],up:=[(id,some { au with els:=au.els.set e (el.upd o v.cells) })] }
       else none
     | none=>none
   | none=>none
 | _=>none
def tU (cs:List aa):List (Nat × Nat × aa)->Option (List aa)
 | []=>some cs
 | (o,n,x)::r=>if x.cells.length=n/\o+n<=cs.length/\x.cells.all aa.one=true then tU (cs.take o++x.cells++cs.drop (o+n)) r else none
def Ao (k:Nat) (es:List aa):List (Nat × aa)->Option (List aa)
 | []=>some es
 | (i,x)::r=>if x.size=k/\i<es.length/\x.cells.all aa.one=true then Ao k (es.set i x) r else none
def je (σ : aL) (k:Nat):aa->Option (List aa × List Id)
 | .aq=>some ([],[])
 | .sl k' es | .dQ k' es=>if k'=k then some (es,[]) else none
 | .ai id k' off len _=>match σ id with
   | some au=>if k'=k/\au.k=k/\off+len<=au.els.length then some ((au.els.drop off).take len,[id]) else none
   | none=>none
 | _=>none
def sy (σ : aL) (p:Id) (k bytes:Nat) (s x:aa):Option bM :=
 match je σ k x with
 | none=>none
 | some (ys, rd) =>
   if ys.isEmpty then
     match s with
     | .aq | .dQ _ _ | .ai _ _ _ _ _=>some { val:=s,rd }
     | _=>none
   else match s with
     | .aq=>if ys.length*bytes<=140737488355328/\ys.length<=maxLen/\(ys.all λ e=>e.cells.all aa.one)=true then
         some { val := .ai p k 0 ys.length false,rd,up:=[(p,some ⟨ys,k,false⟩)] } else none
     | .dQ k' es=>if k'=k/\(es.length+ys.length)*bytes<=140737488355328/\es.length+ys.length<=maxLen/\((es++ys).all λ e=>e.cells.all aa.one)=true then
         some { val := .ai p k 0 (es.length+ys.length) false,rd,up:=[(p,some ⟨es++ys,k,false⟩)] } else none
     | .ai id k' off len tight=>match σ id with
       | some au =>
         if k' = k/\au.k=k/\off=0/\len<=au.els.length/\(len+ys.length)*bytes<=140737488355328/\len+ys.length<=maxLen/\(ys.all λ e=>e.cells.all aa.one)=true then
           if tight then
             if (au.els.all λ e=>e.cells.all aa.one)=true then
               some { val := .ai p k 0 (len+ys.length) false,rd:=id::rd,up:=[(p,some ⟨au.els.take len++ys,k,false⟩)] }
             else none
           else if len=au.els.length/\au.fr=false/\(au.els.all λ e=>e.cells.all aa.one)=true then
             some { val := .ai p k 0 (len+ys.length) false,rd:=id::rd,up:=[(id,none),(p,some ⟨au.els++ys,k,false⟩)] }
           else if len+ys.length<=au.els.length/\au.fr=false then
             some { val := .ai id k 0 (len+ys.length) false,rd:=id::rd,up:=[(id,some { au with els:=au.els.take len++ys++au.els.drop (len+ys.length) })] }
           else none
         else none
       | none=>none
     | _=>none
def kz (d a:Nat):Option aa->Option Nat
 | none=>some d
 | some (.int _ i)=>if 0<=i/\i<=a then some i.toNat else none
 | some _=>none
def iD (len:Nat) (lo a:Option aa):Option (Nat × Nat) :=
 match kz len len a with
 | none=>none
 | some h=>match kz 0 h lo with
   | none=>none
   | some l=>some (l,h)
def Ah (mx:Option aa) (h:Nat):Bool:=match mx with
 | some (.int _ m)=>m==(h:Int)
 | _=>false
def iq (k:Nat) (x:aa) (lo a mx:Option aa):Option aa :=
 match x with
 | .aq=>match iD 0 lo a with
   | some _=>if mx.isNone=true \/ Ah mx 0=true then some .aq else none
   | none=>none
 | .sl k' es=>match iD es.length lo a with
   | some (l,h)=>if k'=k then
       if mx.isNone then some (.sl k ((es.take h).drop l)) else if Ah mx h then some (.dQ k ((es.take h).drop l)) else none
     else none
   | none=>none
 | .dQ k' es=>match iD es.length lo a with
   | some (l,h)=>if k'=k/\(mx.isNone=true \/ Ah mx h=true) then
       if mx.isSome=true \/ h=es.length then some (.dQ k ((es.take h).drop l)) else some (.sl k ((es.take h).drop l))
     else none
   | none=>none
 | .ai id k' off len t=>match iD len lo a with
   | some (l,h) =>
     if k' = k then
       if mx.isNone then
         if t=false \/ h=len then
           if l=0 then some (.ai id k off h t) else if l=h then some (.sl k []) else some (.ai id k (off+l) (h-l) t)
         else none
       else if Ah mx h=true/\l=0 then some (.ai id k off h true) else none
     else none
   | none=>none
 | _=>none
def OE (x:aa) (lo a:Option aa):Option aa :=
 match x with
 | .str s=>match iD s.length lo a with
   | some (l,h)=>some (.str ((s.take h).drop l))
   | none=>none
 | _=>none
def Ja (σ : aL) (n:Nat) (x:aa) (lo a:Option aa):Option bM :=
 match x with
 | .ref id e 0=>match σ id with
   | some au=>match au.els[e]? with
     | some el=>match iD n lo a with
       | some (l,h)=>if el.cells.length=n/\el.cells.all aa.one=true then some { val := .sl 1 ((el.cells.take h).drop l),rd:=[id],up:=[(id,some { au with fr:=true })] } else none
       | none=>none
     | none=>none
   | none=>none
 | _=>none
def fY (k:Nat) (x i:aa):Option aa :=
 match i with
 | .int _ i=>match x with
   | .sl k' es | .dQ k' es=>if k'=k/\0<=i then (es[i.toNat]?).map λ e => .c2 e.cells 0 else none
   | .ai id k' off len _=>if k'=k/\0<=i/\i<len then some (.ref id (off+i.toNat) 0) else none
   | _=>none
 | _=>none
def Ow (n k:Nat) (x i:aa):Option aa :=
 match i with
 | .int _ i=>if 0<=i/\i<n then
     match x with
     | .ref id e o=>some (.ref id e (o+i.toNat*k))
     | .c2 cs o=>some (.c2 cs (o+i.toNat*k))
     | _=>none
   else none
 | _=>none
def DR (p:Id) (k bytes:Nat) (zero len cap:aa):Option bM :=
 match len,cap with
 | .int _ l, .int _ c =>
   if 0<=l/\l<=c/\c*bytes<=140737488355328/\c<=maxLen/\zero.size=k/\zero.cells.all aa.one=true then
     some { val := .ai p k 0 l.toNat false,up:=[(p,some ⟨bG l.toNat zero,k,false⟩)] }
   else none
 | _,_=>none
def jr:Bool->aa->Option aa
 | true, .str s=>some (.int .i64 s.length)
 | false, .aq=>some (.int .i64 0)
 | false, .sl _ es=>some (.int .i64 es.length)
 | false, .dQ _ es=>some (.int .i64 es.length)
 | false, .ai _ _ _ len _=>some (.int .i64 len)
 | _,_=>none
def Ot:aa->Option aa
 | .aq=>some (.int .i64 0)
 | .dQ _ es=>some (.int .i64 es.length)
 | .ai _ _ _ len true=>some (.int .i64 len)
 | _=>none
def tV (σ : aL) (id:Id) (off:Nat) (k:Nat) (news:List aa) (v:aa) (rd:List Id):Option bM :=
 match σ id with
 | some au=>if au.k=k/\off+news.length<=au.els.length/\au.fr=false/\(news.all λ e=>e.cells.all aa.one)=true then
     some { val:=v,rd:=id::rd,up:=[(id,some { au with els:=au.els.take off++news++au.els.drop (off+news.length) })] } else none
 | none=>none
def I6 (σ : aL) (k:Nat) (zero:aa) (x:aa):Option bM :=
 match x with
 | .aq=>some { val := .aS [] }
 | .ai id k' off len _=>if len=0 then some { val := .aS [] } else if k'=k/\zero.size=k then tV σ id off k (bG len zero) (.aS []) [] else none
 | _=>none
def I7 (σ : aL) (k:Nat) (d x:aa):Option bM :=
 match je σ k x with
 | none=>none
 | some (ys,rd)=>match d with
   | .aq=>some { val := .int .i64 0,rd }
   | .ai id k' off len _ =>
     if (ys.take len).isEmpty then some { val := .int .i64 0,rd }
     else if k'=k then tV σ id off k (ys.take len) (.int .i64 (ys.take len).length) rd else none
   | _=>none
def Oq (p:Id) (k bytes:Nat) (zero s n:aa):Option bM :=
 match s,n with
 | .aq, .int _ n=>if 0<n/\n*bytes<=140737488355328/\n<=maxLen/\zero.size=k/\zero.cells.all aa.one=true then
     some { val := .ai p k 0 n.toNat false,up:=[(p,some ⟨bG n.toNat zero,k,false⟩)] } else none
 | _,_=>none
def Bx:List aa->Option (List UInt8)
 | []=>some []
 | .int .u8 n::r=>(Bx r).map (UInt8.ofNat n.toNat :: ·)
 | _::_=>none
def DK (σ : aL) (x:aa):Option bM :=
 match je σ 1 x with
 | some (ys,rd)=>(Bx ys).map λ l=>{ val := .str l,rd }
 | none=>none
def dB (v:Option aa):Option bM:=v.map λ v=>{ val:=v }
def wW:List UInt8->UInt8->Int
 | [],_ => -1
 | b::l,c=>if b==c then 0 else if wW l c == -1 then -1 else wW l c+1
def Ox:aa->aa->Option aa
 | .str s, .int .u8 c=>some (.int .i64 (wW s c.toNat.toUInt8))
 | _,_=>none
def Tz (k:Nat):aa->Option Nat
 | .aq=>some 0
 | .sl k' es | .dQ k' es=>if k'=k then some es.length else none
 | .ai _ k' _ len _=>if k'=k then some len else none
 | _=>none
def tW (σ : aL) (k:Nat) (x:aa) (lo a mx:Option aa):Option aa->Option bM
 | some v=>dB (some v)
 | none=>match x,a,mx with
   | .ai id k' off _ false,some h,none=>match σ id with
     | some au=>if off<=au.els.length/\au.k=k then (iq k (.ai id k' off (au.els.length-off) false) lo (some h) none).map λ v=>{ val:=v,rd:=[id] } else none
     | none=>none
   | x,some h,some (.int _ m)=>match Tz k x with
     | some n=>match iD n lo (some h) with
       | some (_,r)=>if (r:Int)<=m/\m<=n then some { val := .top } else none
       | none=>none
     | none=>none
   | _,_,_=>none
def DM (σ : aL) (x:aa):Option aa->Option bM
 | some v=>dB (some v)
 | none=>match x with
   | .ai id _ off _ false=>match σ id with
     | some au=>if off<=au.els.length then some { val := .nc (au.els.length-off),rd:=[id] } else none
     | none=>none
   | _=>none
def DT (σ : aL) (x y:aa):Option bM :=
 match x,y with
 | .ai i _ _ _ _, .ai j _ _ _ _=>if i=j then none else match σ i, σ j with
   | some _,some b=>if 0<b.k/\0<b.els.length then some { val := .bool false,rd:=[i,j] } else none
   | _,_=>none
 | _,_=>none
def bS (σ : aL) (p:Id):dK aa->Option bM
 | .mv x=>dB (some x)
 | .pick c a b=>match c with | .bool c=>dB (some (if c then a else b)) | _=>none
 | .box x=>if x.cells.all aa.one=true then some { val := .ref p 0 0,up:=[(p,some ⟨[x],x.size,false⟩)] } else none
 | .build z g=>dB ((tU z g).map .agg)
 | .uO k n z g=>match Ao k (bG n z) g with
   | some es=>if z.size=k/\z.cells.all aa.one=true then (if n=0 then some { val := .dQ k [] } else some { val := .ai p k 0 n false,up:=[(p,some ⟨es,k,false⟩)] }) else none
   | none=>none
 | .load a n x=>kV σ a n x
 | .store n x v=>tY σ n x v
 | .CQ x=>match x with | .ref _ _ _ | .c2 _ _=>dB (some x) | .fn (.func _) _ _=>dB (some x) | _=>none
 | .bin op h x y=>dB (eH op h x y)
 | .un op x=>dB (OH op x)
 | .toInt k x=>match x with | .int _ n=>dB (some (.int k (k.wrap n))) | _=>none
 | .zf x=>match x with | .str _=>dB (some x) | .int _ n=>if 0<=n/\n<128 then dB (some (.str [UInt8.ofNat n.toNat])) else none | _=>none
 | .s8 x=>DK σ x
 | .idx x c=>dB (Ox x c)
 | .nh x y=>DT σ x y
 | .zu fn a c=>dB (some (.fn fn a c))
 | .oV k b z l c=>DR p k b z l c
 | .slice k x lo f mx=>tW σ k x lo f mx (iq k x lo f mx)
 | .Ab x lo f=>dB (OE x lo f)
 | .vv n x lo f=>Ja σ n x lo f
 | .uZ o x=>match x with
   | .ref id e q=>dB (some (.ref id e (q+o)))
   | .c2 cs q=>dB (some (.c2 cs (q+o)))
   | _=>none
 | .field a o n x=>match x with | .agg cs=>dB (part a cs o n) | _=>none
 | .u9 k x i=>dB (fY k x i)
 | .Cl n k x i=>dB (Ow n k x i)
 | .zh x i=>match x,i with
   | .str s, .int _ i=>if 0<=i then dB ((s[i.toNat]?).map λ b => .int .u8 b.toNat) else none
   | _,_=>none
 | .Cp a n k x i=>match x,i with
   | .agg cs, .int _ i=>if 0<=i/\i<n then dB (part a cs (i.toNat*k) k) else none
   | _,_=>none
 | .extract x i=>match x with | .aS vs=>dB vs[i]? | _=>none
 | .len b x=>dB (jr b x)
 | .Cw n _=>dB (some (.int .i64 n))
 | .append k b s x=>sy σ p k b s x
 | .min x y=>match x,y with | .int k a, .int _ b=>dB (some (.int k (if b<a then b else a))) | _,_=>none
 | .max x y=>match x,y with | .int k a, .int _ b=>dB (some (.int k (if b>a then b else a))) | _,_=>none
 | .cap x=>DM σ x (Ot x)
 | .clear k z x=>I6 σ k z x
 | .copy k d x=>I7 σ k d x
 | .yB k b z s n=>Oq p k b z s n
 | .bad=>none
 | .call _ _=>none
def nR:Nat->Value->Option aa
 | 0,_=>none
 | n+1,v=>match v with
   | .bool b=>some (.bool b)
   | .int k i=>some (.int k i)
   | .string s=>some (.str s.data.toList)
   | .pointer none=>some .jj
   | .nilFunc=>some .j2
   | .slice none 0 0=>some .aq
   | .agg cs=>(cs.toList.mapM (nR n)).map .agg
   | .tuple cs=>(cs.toList.mapM (nR n)).map .aS
   | _=>none
def b6:Operand->Option dD
 | .tmp t=>some (.t t)
 | .const v=>(nR 3 v).map .c
 | .global g=>some (.g g)
 | .func f=>some (.f f)
def wD (xs:Array Operand):Option (List dD):=xs.toList.mapM b6
def lM:Option Operand->Option (Option dD)
 | none=>some none
 | some x=>(b6 x).map some
def oR (P:Program) (t:TypeId):Option Bool :=
 match P.underlying t with
 | some (.struct _) | some (.array _ _)=>some true
 | some _=>some false
 | none=>none
def z8 (P:Program) (t:TypeId):Option eJ :=
 match P.underlying t with
 | some (.int _)=>some .int
 | some .string=>some .str
 | some .bool=>some .bool
 | some (.pointer _)=>some .ptr
 | some (.slice _)=>some .slice
 | some (.func _ _ _)=>some .func
 | _=>none
def mO (P:Program) (t:TypeId):Option aa :=
 match P.info? t with
 | some i=>match i.zero with
   | some z=>match nR 3 z with
     | some a=>if a.size=i.size/\a.cells.all aa.one=true then some a else none
     | none=>none
   | none=>none
 | none=>none
def NA:Option TypeDesc->Bool
 | some (.slice _)=>true
 | _=>false
def Fz (P:Program) (b:Builtin) (args:Array Operand) (c:Array TypeId):Option (dK dD) :=
 match b,args.toList,c.toList with
 | .len,[x],[t]=>match P.underlying t with
   | some .string=>(b6 x).map (.len true)
   | some (.slice _)=>(b6 x).map (.len false)
   | some (.array n _)=>(b6 x).map (.Cw n)
   | _=>none
 | .append,[s,x],[t,a]=>match P.underlying t with
   | some (.slice e)=>match P.info? e with
     | some i=>if NA (P.underlying a)=true/\0<i.size/\0<i.bytes/\(mO P e).isSome then
         match b6 s,b6 x with
         | some s,some x=>some (.append i.size i.bytes s x)
         | _,_=>none
       else match P.underlying a,mO P e,b6 s,b6 x with
         | some (.int _),some z,some s,some x=>if 0<i.size then some (.yB i.size i.bytes z s x) else none
         | _,_,_,_=>none
     | none=>none
   | _=>none
 | .cap,[x],[t]=>match P.underlying t with
   | some (.slice _)=>(b6 x).map .cap
   | _=>none
 | .clear,[x],[t]=>match P.underlying t with
   | some (.slice e)=>match mO P e,b6 x with
     | some z,some x=>if 0<z.size then some (.clear z.size z x) else none
     | _,_=>none
   | _=>none
 | .copy,[d,x],[t,_]=>match P.underlying t with
   | some (.slice e)=>match P.info? e with
     | some i=>if 0<i.size then
         match b6 d,b6 x with
         | some d,some x=>some (.copy i.size d x)
         | _,_=>none
       else none
     | none=>none
   | _=>none
 | .min,[x,y],_=>match b6 x,b6 y with | some x,some y=>some (.min x y) | _,_=>none
 | .max,[x,y],_=>match b6 x,b6 y with | some x,some y=>some (.max x y) | _,_=>none
 | _,_,_=>none
inductive E0 where
 | idx | nh
def CP (n:String):Bool:=(Extern.allGenericRows.lookup n).isNone&&(Extern.allTypedRows.lookup n).isNone&&(Extern.allRows.lookup n).isNone&&(Extern.allNextRows.lookup n).isNone && !(n == "runtime.NumGoroutine")
def BQ (P:Program):Operand->Option E0
 | .func f => match P.funcs[f]? with
   | some fn=>if fn.body.isNone=true then
       if fn.name == "internal/bytealg.IndexByteString" && fn.origin == "" then some .idx
       else if fn.origin == "slices.overlaps" && CP fn.name then
         match fn.params[0]? with
         | some t=>match P.underlying t with
           | some (.slice e)=>if (P.info? e).isSome then some .nh else none
           | _=>none
         | none=>none
       else none
     else none
   | none=>none
 | _=>none
def FA (k:E0):List Operand->Option (dK dD)
 | [x,y]=>match b6 x,b6 y with
   | some x,some y=>some (match k with | .idx => .idx x y | .nh => .nh x y)
   | _,_=>none
 | _=>none
def gI (P:Program):Op->Option (dK dD)
 | .move x | .assign x=>(b6 x).map .mv
 | .pick c a b=>match b6 c,b6 a,b6 b with | some c,some a,some b=>some (.pick c a b) | _,_,_=>none
 | .alloc t=>(mO P t).map λ z => .box (.c z)
 | .box _ x=>(b6 x).map .box
 | .build t m=>match P.underlying t,mO P t,m.toList.mapM λ p=>(b6 p.2).map (p.1, ·) with
   | some (.struct fs),some z,some m=>match fs.toList.mapM (λ f=>(P.info? f.type).map λ i=>(f.offset,i.size)) with
     | some j=>(m.mapM λ (p:Nat × dD)=>(j[p.1]?).map λ q=>(q.1,q.2,p.2)).map (.build z.cells)
     | none=>none
   | some (.array _ e),some z,some m=>match P.info? e with
     | some i=>some (.build z.cells (m.map λ p=>(p.1*i.size,i.size,p.2)))
     | none=>none
   | _,_,_=>none
 | .buildSlice t n m=>match P.underlying t,m.toList.mapM λ p=>(b6 p.2).map (p.1, ·) with
   | some (.slice e),some m=>match P.info? e,mO P e with
     | some i,some z=>if n*i.size<=16777216/\0<i.size/\n<=maxLen then some (.uO i.size n z m) else none
     | _,_=>none
   | _,_=>none
 | .load t x=>match oR P t,P.info? t,b6 x with
   | some a,some i,some x=>if a=true \/ i.size=1 then some (.load a i.size x) else none
   | _,_,_=>none
 | .store t x v=>match P.info? t,b6 x,b6 v with
   | some i,some x,some v=>some (.store i.size x v)
   | _,_,_=>none
 | .nilCheck x=>(b6 x).map .CQ
 | .binOp op t x y _=>match z8 P t,b6 x,b6 y with
   | some o,some x,some y=>some (.bin op o x y)
   | _,_,_=>none
 | .unOp op _ x=>(b6 x).map (.un op)
 | .convert s d x=>match P.underlying s,P.underlying d with
   | some (.int _),some (.int k)=>(b6 x).map (.toInt k)
   | some .string,some .string=>(b6 x).map .zf
   | some (.int _),some .string=>(b6 x).map .zf
   | some (.slice e),some .string=>match P.underlying e with | some (.int .u8)=>(b6 x).map .s8 | _=>none
   | _,_=>none
 | .makeFunc fn a c=>match wD a,wD c with | some a,some c=>some (.zu fn a c) | _,_=>none
 | .makeSlice t l c=>match P.underlying t with
   | some (.slice e)=>match P.info? e,mO P e,b6 l,b6 c with
     | some i,some z,some l,some c=>if 0<i.size/\0<i.bytes then some (.oV i.size i.bytes z l c) else none
     | _,_,_,_=>none
   | _=>none
 | .slice t x lo h mx=>match P.underlying t with
   | some (.slice e)=>match P.info? e,b6 x,lM lo,lM h,lM mx with
     | some i,some x,some lo,some h,some mx=>if mx.isSome->h.isSome then some (.slice i.size x lo h mx) else none
     | _,_,_,_,_=>none
   | some .string=>match b6 x,lM lo,lM h,mx with
     | some x,some lo,some h,none=>some (.Ab x lo h)
     | _,_,_,_=>none
   | some (.array n e)=>match P.info? e,b6 x,lM lo,lM h,mx with
     | some i,some x,some lo,some h,none=>if i.size=1/\n<=maxLen then some (.vv n x lo h) else none
     | _,_,_,_,_=>none
   | _=>none
 | .fieldAddr s x f=>match P.underlying s with
   | some (.struct fs)=>match fs[f]? with
     | some fd=>match P.info? fd.type,b6 x with
       | some i,some x=>if i.size=0 then none else some (.uZ fd.offset x)
       | _,_=>none
     | none=>none
   | _=>none
 | .field s x f=>match P.underlying s with
   | some (.struct fs)=>match fs[f]? with
     | some fd=>match oR P fd.type,P.info? fd.type,b6 x with
       | some a,some i,some x=>some (.field a fd.offset i.size x)
       | _,_,_=>none
     | none=>none
   | _=>none
 | .indexAddr t x g=>match P.underlying t with
   | some (.slice e)=>match P.info? e,b6 x,b6 g with
     | some i,some x,some g=>some (.u9 i.size x g)
     | _,_,_=>none
   | some (.array n e)=>match P.info? e,b6 x,b6 g with
     | some i,some x,some g=>some (.Cl n i.size x g)
     | _,_,_=>none
   | _=>none
 | .index t x g=>match P.underlying t with
   | some .string=>match b6 x,b6 g with | some x,some g=>some (.zh x g) | _,_=>none
   | some (.array n e)=>match oR P e,P.info? e,b6 x,b6 g with
     | some a,some i,some x,some g=>some (.Cp a n i.size x g)
     | _,_,_,_=>none
   | _=>none
 | .extract x i=>(b6 x).map (.extract · i)
 | .call c=>match c.callee with
   | .value f=>match BQ P f with
     | none=>match b6 f,wD c.args with | some f,some r=>some (.call f r) | _,_=>none
     | some k=>FA k c.args.toList
   | .builtin b=>Fz P b c.args c.argTypes
   | .invoke _ _=>none
 | _=>none
def uP (P:Program) (o:Op):Option (dK dD) :=
 match gI P o with
 | some v=>some v
 | none=>some .bad
structure c8 where
 dst:Option Nat
 op:dK dD
 guard:Option (Nat × Bool):=none
inductive cB where
 | skip
 | iB (arj:Option (List (Nat × Nat))) (ops:List c8)
 | seq (a b:cB)
 | cond (c:dD) (a b:cB)
 | block (id:Nat) (c:cB)
 | loop (c:cB)
 | exit (id:Nat)
 | ret
inductive oA where
 | tmp (t:Nat)
 | cell (x:Nat) (agg:Bool) (n:Nat)
structure dS where
 aK:Nat
 results:List oA
 body:cB
def dK.args {α : Type}:dK α -> List α
 | .mv x=>[x]
 | .pick c a b=>[c,a,b]
 | .box x=>[x]
 | .build _ g=>g.map λ p=>p.2.2
 | .uO _ _ _ g=>g.map λ p=>p.2
 | .load _ _ x=>[x]
 | .store _ x v=>[x,v]
 | .CQ x=>[x]
 | .bin _ _ x y=>[x,y]
 | .un _ x=>[x]
 | .toInt _ x=>[x]
 | .zf x=>[x]
 | .s8 x=>[x]
 | .idx x c=>[x,c]
 | .nh x y=>[x,y]
 | .zu _ a c=>a++c
 | .oV _ _ _ l c=>[l,c]
 | .slice _ x lo e mx=>x::(lo.toList++e.toList++mx.toList)
 | .Ab x lo e=>x::(lo.toList++e.toList)
 | .vv _ x lo e=>x::(lo.toList++e.toList)
 | .uZ _ x=>[x]
 | .field _ _ _ x=>[x]
 | .u9 _ x i=>[x,i]
 | .Cl _ _ x i=>[x,i]
 | .zh x i=>[x,i]
 | .Cp _ _ _ x i=>[x,i]
 | .extract x _=>[x]
 | .len _ x=>[x]
 | .Cw _ x=>[x]
 | .append _ _ s x=>[s,x]
 | .min x y=>[x,y]
 | .max x y=>[x,y]
 | .cap x=>[x]
 | .clear _ _ x=>[x]
 | .copy _ d x=>[d,x]
 | .yB _ _ _ s n=>[s,n]
 | .bad=>[]
 | .call f h=>f::h
def dK.pure {α : Type}:dK α -> Bool
 | .box _ | .uO .. | .load .. | .store .. | .oV .. | .append .. | .yB .. | .clear .. | .copy .. | .s8 .. | .nh .. | .slice .. | .vv .. | .cap .. | .call .. => false
 | _=>true
def dK.rP {α : Type}:dK α -> Bool
 | .load .. | .s8 .. | .nh .. | .slice .. | .cap .. => true
 | _=>false
def dD.Xk:dD->Option Nat
 | .t n=>some n
 | _=>none
def c8.names (o:c8):List Nat:=o.op.args.filterMap dD.Xk++(o.guard.map (·.1)).toList
def ik:List (List Nat)->List Nat->List Nat
 | [],a=>a
 | l::r,a=>ik r (a++[l.foldl (λ s i=>s ||| 2 ^ i ||| a.getD i 0) 0])
def Fl (n:Nat):List (Nat × Nat):=(ba n).flatMap λ j=>(ba j).map λ i=>(i,j)
def uS (a b:c8):Bool :=
 (match a.dst with | some d=>b.names.contains d||b.dst==some d | none=>false)||(match b.dst with | some d=>a.names.contains d | none=>false)
def HG (ops:List c8) (c:List (List Nat)):Bool :=
 let d:=ik c []
 c.length==ops.length &&
 ((ba ops.length).all λ j=>(c.getD j []).all λ i=>i<j) &&
 (Fl ops.length).all λ p=>match ops[p.1]?,ops[p.2]? with
   | some a,some b => !uS a b||(d.getD p.2 0).testBit p.1
   | _,_=>true
def F6 (ops:List c8) (c:List (List Nat)):List (Nat × Nat) :=
 let d:=ik c []
 (Fl ops.length).filter λ p=>match ops[p.1]?,ops[p.2]? with
   | some a,some b => !a.op.pure && !b.op.pure && !(a.op.rP&&b.op.rP) && !(d.getD p.2 0).testBit p.1
   | _,_=>false
def rC (P:Program) (ops:Array Oper) (o:Oper):Option c8 :=
 match uP P o.op,o.guard with
 | some op,none=>some { dst:=o.dst,op }
 | some op,some (j,a)=>match (ops[j]?).bind (·.dst) with
   | some d=>some { dst:=o.dst,op,guard:=some (d,a) }
   | none=>none
 | none,_=>none
def rY (o:Oper):List Nat:=(o.after.toList.filter (Region.binds .any)).map (·.on)
def pD (P:Program) (ops:Array Oper) (a:Bool):Option cB :=
 match ops.toList.mapM (rC P ops) with
 | none=>none
 | some vs =>
   if a then
     let b:=ops.toList.map rY
     if HG vs b&&P.follows .mixedOrders then some (.iB (some (F6 vs b)) vs) else none
   else some (.iB none vs)
def gv (P:Program):Code->Option cB
 | .skip=>some .skip
 | .region _ ops d=>pD P ops d
 | .seq a b=>match gv P a,gv P b with | some a,some b=>some (.seq a b) | _,_=>none
 | .cond c a b=>match b6 c,gv P a,gv P b with | some c,some a,some b=>some (.cond c a b) | _,_,_=>none
 | .block id c=>(gv P c).map (.block id)
 | .loop c=>(gv P c).map .loop
 | .exit id=>some (.exit id)
 | .ret=>some .ret
 | _=>none
def BA (P:Program):ResultVar->Option oA
 | .tmp t=>some (.tmp t)
 | .cell a t=>match oR P t,P.info? t with
   | some g,some i=>if g=true \/ i.size=1 then some (.cell a g i.size) else none
   | _,_=>none
def wE (P:Program) (fn:Func):Option dS :=
 if fn.name == "runtime.NumGoroutine" then none else
 match fn.body,fn.results.toList.mapM (BA P) with
 | some c,some d=>(gv P c).map λ b=>{ aK:=fn.ntmps,results:=d,body:=b }
 | _,_=>none
structure lJ (G:Nat->Option (List aa)) (own:Nat->Prop) (E:Env) (w:World) (σ : aL) (p:Id) (r:bM) (v:Value) (E':Env) (w':World):Prop where
 jc:Adv own E E' w w'
 inv:Inv G own E' w' (σ.app r.up)
 rep:av E' w' r.val v
 ids:∀ i:Id, ¬ p <:+ i->E'.μ i=E.μ i
def Sound (P:Program) (G:Nat->Option (List aa)) (own:Nat->Prop) (E:Env) (w:World) (σ : aL) (p:Id) (s:Sem Value) (r:bM):Prop :=
 ∃ v w' E',s.run P w = .ok v w'/\lJ G own E w σ p r v E' w'
section
variable {P:Program} {G:Nat->Option (List aa)} {own:Nat->Prop} {E:Env} {w:World} {σ : aL} {p:Id}
def Sound.same {s:Sem Value} {c:aa} {v:Value} {rd:List Id} (h:Inv G own E w σ) (a:s.run P w = .ok v w) (b:av E w c v):Sound P G own E w σ p s { val:=c,rd:=rd } :=
 ⟨v,w,E,a,Adv.refl own E w,h,b, λ _ _=>rfl⟩
def Sound.MS {s:Sem Value} {oZ:Option aa} {r:bM} (h:dB oZ=some r) (k:∀ c,oZ=some c->Sound P G own E w σ p s { val:=c }):Sound P G own E w σ p s r:=by
 cases oZ with
 | none=>simp [dB] at h
 | some c=>simp only [dB,e5,a7] at h;subst h;exact k c rfl
def vh {α β : Type} {f : α -> Option β}:∀ {l:List α} {r:List β},l.mapM f=some r->r.length=l.length
 | [],r,h=>by simp at h;simp [<- h]
 | a::l,r,h=>by
   simp only [uk,ye,JM,yf] at h
   have ⟨b,_,e,d,c⟩:=h
   cases c
   simp [vh d]
def mapM_some_get {α β : Type} {f : α -> Option β}:∀ {l:List α} {r:List β},l.mapM f=some r->∀ (i:Nat) (b : β),r[i]? = some b->∃ a,l[i]? = some a/\f a=some b
 | [],r,h,i,b,hb=>by simp at h;subst h;simp at hb
 | a::l,r,h,i,b,hb=>by
   simp only [uk,ye,JM,yf] at h
   have ⟨c,h1,g,e,d⟩:=h
   cases d
   cases i with
   | zero=>simp at hb;subst hb;exact ⟨a,rfl,h1⟩
   | succ i=>simpa using mapM_some_get e i b (by simpa using hb)
def ah6 {β : Type} {f : β -> Option aa} {val : β -> Value} (h:∀ x c,f x=some c->av E w c (val x)) {l:List β} {r:List aa} (b:l.mapM f=some r):bl E w r (l.map val):=by
 refine fe.2 ⟨by simp [vh b], λ j c d => ?_⟩
 have ⟨a,h1,e⟩:=mapM_some_get b j c d
 exact ⟨val a,by simp [h1],h a c e⟩
def ta:∀ {n:Nat} {v:Value} {c:aa},nR n v=some c->av E w c v
 | 0,_,_,h=>by simp [nR] at h
 | n + 1,v,c,h=>by
   have d:∀ x c,nR n x=some c->av E w c x := λ x c h=>ta h
   have b:∀ {cs:List Value} {r:List aa},cs.mapM (nR n)=some r->bl E w r cs:=by
     intro cs r a
     simpa using ah6 (val:=id) d a
   unfold nR at h
   split at h
   cases h;simp [av]
   cases h;simp [av]
   cases h;simp [av]
   cases h;simp [av]
   cases h;simp [av]
   cases h;simp [av]
   rename_i cs
   cases a:cs.toList.mapM (nR n) with
   | none=>simp [a] at h
   | some r=>simp only [a,e5,a7] at h;subst h;simp only [av];exact ⟨cs,rfl,b a⟩
   rename_i cs
   cases a:cs.toList.mapM (nR n) with
   | none=>simp [a] at h
   | some r=>simp only [a,e5,a7] at h;subst h;simp only [av];exact ⟨cs,rfl,b a⟩
   simp at h
def gr (E:Env) (w:World) (t:List aa) (a:Act):Prop:=bl E w t a.tmps.toList
def gr.get {t:List aa} {a:Act} (h:gr E w t a) (n:Nat):av E w (t.getD n (.aS [])) (a.tmps.getD n undef):=by
 have ⟨e,d⟩:=fe.1 h
 by_cases b:n<t.length
 have ⟨v,c,f⟩:=d n t[n] (by simp [b])
 have:a.tmps.getD n undef=v:=by
   rw [sL];simp at c;simp [c]
 rw [this]
 simpa [List.getD,b] using f
 have h1:t.getD n (.aS []) = .aS []:=by simp [List.getD,Nat.le_of_not_lt b]
 have g:a.tmps.getD n undef=undef:=by
   rw [sL]
   have:a.tmps.size<=n:=by have:=e;simp at this;omega
   simp [this]
 rw [h1,g]
 simp only [av,undef]
 exact ⟨#[],rfl,by simp [bl]⟩
def di {t:List aa} {a:Act} (l:gr E w t a) (m:Inv G own E w σ) {x:Operand} {gU:dD} (h:b6 x=some gU):av E w (gU.ev G t) (a.eval x):=by
 cases x with
 | tmp n=>simp only [b6,a7] at h;subst h;exact l.get n
 | const v =>
   simp only [b6] at h
   cases e:nR 3 v with
   | none=>simp [e] at h
   | some c=>simp only [e,e5,a7] at h;subst h;exact ta e
 | global g =>
   simp only [b6,a7] at h;subst h
   simp only [dD.ev,Act.eval]
   cases o:G g with
   | none=>simp [av]
   | some cs =>
     have ⟨h1,j⟩:=m.jH g cs o
     simp only [av]
     exact ⟨g,0,rfl,h1,eE.keep (e7.anK E w) rfl cs 0 j⟩
 | func f =>
   simp only [b6,a7] at h;subst h
   simp only [dD.ev,Act.eval,av]
   exact ⟨#[], #[],rfl,by simp [bl],by simp [bl]⟩
def Kv {t:List aa} {a:Act} (f:gr E w t a) (e:Inv G own E w σ) {xs:Array Operand} {vs:List dD} (h:wD xs=some vs) :
   bl E w (vs.map (dD.ev G t)) (xs.map a.eval).toList:=by
 unfold wD at h
 refine fe.2 ⟨by simp [vh h], λ j c d => ?_⟩
 simp only [iI,ew] at d
 obtain ⟨gU,b,rfl⟩:=d
 have ⟨x,h1,g⟩:=mapM_some_get h j gU b
 refine ⟨a.eval x, ?_,di f e g⟩
 simp at h1
 simp [h1]
def GU {t:TypeId} {b:Bool} (h:oR P t=some b) (w:World):(isAgg t).run P w = .ok b w:=by
 unfold oR at h
 cases hu:P.underlying t with
 | none=>simp [hu] at h
 | some d=>cases d<;>simp [hu] at h<;>subst h<;>simp [isAgg,run_underlying hu]
def nr {t:TypeId} {i:TypeInfo} (h:P.info? t=some i) (w:World):(sizeOf t).run P w = .ok i.size w:=by simp [sizeOf,typeInfo,h]
def xW {t:TypeId} {z:aa} (h:mO P t=some z):∃ i v,P.info? t=some i/\i.zero=some v/\nR 3 v=some z/\z.size=i.size/\z.cells.all aa.one=true:=by
 unfold mO at h
 cases d:P.info? t with
 | none=>simp [d] at h
 | some i =>
   simp only [d] at h
   cases c:i.zero with
   | none=>simp [c] at h
   | some v =>
     simp only [c] at h
     cases b:nR 3 v with
     | none=>simp [b] at h
     | some a =>
       simp only [b] at h
       split at h
       rename_i e
       cases h
       exact ⟨i,v,rfl,c,b,e.1,e.2⟩
       simp at h
def YG {t:TypeId} {i:TypeInfo} {v:Value} (h:P.info? t=some i) (a:i.zero=some v) (w:World):(zeroValue t).run P w = .ok v w:=by
 simp [zeroValue,typeInfo,h,a]
def tJ {c:aa} (h:c.cells.all aa.one=true):c.one=true \/ ∃ cs,c = .agg cs:=by
 cases c<;>simp [aa.cells,aa.one] at h ⊢
def aj0 {a:Bool} {cs:List aa} {o n:Nat} {c:aa} (h:part a cs o n=some c) {xs:Array Value} (l:bl E w cs xs.toList) :
   av E w c (if a then .agg (xs.extract o (o+n)) else xs.getD o undef)/\o+n<=xs.size/\(a=false->n=1):=by
 have ⟨k,i⟩:=fe.1 l
 unfold part at h
 split at h
 rename_i q
 refine ⟨?_,by simp at k;omega, ?_⟩
 cases a with
 | true =>
   simp only [if_true,a7] at h ⊢
   subst h
   simp only [av]
   refine ⟨_,rfl,fe.2 ⟨by simp at k ⊢;omega, λ j d f => ?_⟩⟩
   rw [Po] at f
   split at f
   rename_i g
   rw [sE] at f
   have ⟨v,e,b⟩:=i _ _ f
   refine ⟨v, ?_,b⟩
   simp at e
   have:o+j<xs.size:=(x2.1 e).1
   simp only [Array.toList_extract,ZM,Nat.add_sub_cancel_left]
   rw [vI g,sE]
   simpa using e
   simp at f
 | false =>
   simp only [jO,if_false] at h ⊢
   split at h
   have ⟨v,e,b⟩:=i _ _ h
   rw [sL]
   simp at e
   simpa [e] using b
   simp at h
 intro m;subst m
 simp only [jO,if_false] at h
 split at h
 assumption
 simp at h
 simp at h
def kt:aa->Value
 | .bool b => .bool b
 | .int k n => .int k n
 | .str l => .string ⟨l.toArray⟩
 | _=>undef
def aa.plain:aa->Bool
 | .bool _ | .int _ _ | .str _=>true
 | _=>false
def VN {c:aa} (h:c.plain=true):av E w c (kt c):=by cases c<;>simp [aa.plain] at h<;>simp [av,kt]
def XY {op:BinOp} {k k':IntKind} {a b:Int} {t:TypeId} {c:aa} (g:op = .shl \/ op = .shr \/ k=k') (h:p4 op k a b=some c) (w:World) :
   (binOp op t (.int k a) (.int k' b)).run P w = .ok (kt c) w/\c.plain=true:=by
 cases op<;>simp only [p4] at h
 case shl=>split at h<;>simp only [a7,reduceCtorEq] at h;subst h;rename_i hb;exact ⟨by simp only [binOp_shl,Op.shift,hb,if_false];rfl,rfl⟩
 case shr=>split at h<;>simp only [a7,reduceCtorEq] at h;subst h;rename_i hb;exact ⟨by simp only [binOp_shr,Op.shift,hb,if_false];rfl,rfl⟩
 all_goals obtain rfl:=(by simpa using g:k=k')
 case quo=>split at h<;>simp only [a7,reduceCtorEq] at h;subst h;rename_i hb;exact ⟨by simp [binOp_quo,Op.intDiv,hb,kt],rfl⟩
 case rem=>split at h<;>simp only [a7,reduceCtorEq] at h;subst h;rename_i hb;exact ⟨by simp [binOp_rem,Op.intDiv,hb,kt],rfl⟩
 case and=>simp only [s6,e5,a7] at h;subst h;exact ⟨by simp [binOp_and,ED,kt],rfl⟩
 case or=>simp only [s6,e5,a7] at h;subst h;exact ⟨by simp [binOp_or,ED,kt],rfl⟩
 case xor=>simp only [s6,e5,a7] at h;subst h;exact ⟨by simp [binOp_xor,ED,kt],rfl⟩
 case andNot=>simp only [s6,e5,a7] at h;subst h;exact ⟨by simp [binOp_andNot,ED,kt],rfl⟩
 all_goals (cases h;refine ⟨?_,rfl⟩)
 all_goals simp [binOp,Op.intArith,Op.intCmp,kt]
def aoO {op:BinOp} {a b:List UInt8} {t:TypeId} {c:aa} (h:OG op a b=some c) (w:World) :
   (binOp op t (.string ⟨a.toArray⟩) (.string ⟨b.toArray⟩)).run P w = .ok (kt c) w/\c.plain=true:=by
 cases op<;>simp only [OG,reduceCtorEq] at h
 case add =>
   split at h
   rename_i d
   cases h
   refine ⟨?_,rfl⟩
   have h1 : ¬ (((vS a.toArray).size+(vS b.toArray).size:Nat):Int)>IntKind.i64.max:=by
     simp only [IntKind.max_i64,ZP,qZ]
     unfold maxLen at d;omega
   simp only [binOp,Op.stringOp,h1,if_false,kt,Sem.run_pure]
   congr 2
   simp at h
 all_goals (cases h;refine ⟨?_,rfl⟩;simp [binOp,Op.stringOp,kt])
def XD {t:TypeId} {d:eJ} (h:z8 P t=some d) :
   match d with
   | .int=>∃ k,P.underlying t=some (.int k)
   | .str=>P.underlying t=some .string
   | .bool=>P.underlying t=some .bool
   | .ptr=>∃ e,P.underlying t=some (.pointer e)
   | .slice=>∃ e,P.underlying t=some (.slice e)
   | .func=>∃ a b c,P.underlying t=some (.func a b c):=by
 unfold z8 at h
 split at h<;>simp only [a7,reduceCtorEq] at h<;>subst h<;>simp_all
def RH (op:BinOp) (t:TypeId) (x y:Operand) (a b:Value) (c:a ≠ .nilIface) (hb:∀ cs,a ≠ .agg cs) (w:World):(eqGuard op t x y a b).run P w = .ok () w:=by
 unfold eqGuard
 cases op<;>cases a<;>first | rfl | exact absurd rfl c | exact absurd rfl (hb _)
variable {t:TypeId} (d:Nat)
def adi (hu:P.underlying t=some .bool) (a b:Bool):(jz (d+1) t (.bool a) (.bool b)).run P w = .ok (a==b) w:=by simp [jz,run_underlying hu]
def adm {e:TypeId} (hu:P.underlying t=some (.pointer e)):(jz (d+1) t (.pointer none) (.pointer none)).run P w = .ok true w:=by simp [jz,run_underlying hu]
def RI {e:TypeId} (hu:P.underlying t=some (.pointer e)) (a:Addr):(jz (d+1) t (.pointer none) (.pointer (some a))).run P w = .ok false w:=by simp [jz,run_underlying hu]
def RJ {e:TypeId} (hu:P.underlying t=some (.pointer e)) (a:Addr):(jz (d+1) t (.pointer (some a)) (.pointer none)).run P w = .ok false w:=by simp [jz,run_underlying hu]
def adn {e:TypeId} (hu:P.underlying t=some (.slice e)):(jz (d+1) t (.slice none 0 0) (.slice none 0 0)).run P w = .ok true w:=by simp [jz,run_underlying hu]
def ado {e:TypeId} (hu:P.underlying t=some (.slice e)) (a:Addr) (n m:Nat):(jz (d+1) t (.slice none 0 0) (.slice (some a) n m)).run P w = .ok false w:=by simp [jz,run_underlying hu]
def KZ {e:TypeId} (hu:P.underlying t=some (.slice e)) (a:Addr) (n m:Nat):(jz (d+1) t (.slice (some a) n m) (.slice none 0 0)).run P w = .ok false w:=by simp [jz,run_underlying hu]
def adj {e f:Array TypeId} {g:Bool} (hu:P.underlying t=some (.func e f g)):(jz (d+1) t .nilFunc .nilFunc).run P w = .ok true w:=by simp [jz,run_underlying hu]
def adk {e f:Array TypeId} {g:Bool} (hu:P.underlying t=some (.func e f g)) (x:Fn) (y z:Array Value):(jz (d+1) t .nilFunc (.func x y z)).run P w = .ok false w:=by simp [jz,run_underlying hu]
def adl {e f:Array TypeId} {g:Bool} (hu:P.underlying t=some (.func e f g)) (x:Fn) (y z:Array Value):(jz (d+1) t (.func x y z) .nilFunc).run P w = .ok false w:=by simp [jz,run_underlying hu]
def m1 {op:BinOp} {t:TypeId} {a b:Value} {r:Bool} {c:aa} (g:∀ (k:IntKind) n,a ≠ .int k n) (i:∀ s,a ≠ .string s) (h:∀ k n,a ≠ .float k n) (e:∀ k n m,a ≠ .complex k n m)
   (d:(jz (9999+1) t a b).run P w = .ok r w)
   (f:(match op with | .eql=>some (aa.bool r) | .neq=>some (aa.bool !r) | _=>none)=some c):(binOp op t a b).run P w = .ok (kt c) w/\c.plain=true:=by
 have j:(Op.equal t a b).run P w = .ok r w:=d
 clear d
 cases op<;>simp only [reduceCtorEq] at f
 all_goals
   cases f;refine ⟨?_,rfl⟩
   cases a<;>first
     | exact absurd rfl (g _ _)
     | exact absurd rfl (i _)
     | exact absurd rfl (h _ _)
     | exact absurd rfl (e _ _ _)
     | simp [binOp,j,kt]
def aol {op:BinOp} {t:TypeId} {l:eJ} (j:z8 P t=some l) {x y c:aa} {a b:Value} (h:lW op l x y=some c) (d:av E w x a) (i:av E w y b) :
   (binOp op t a b).run P w = .ok (kt c) w/\c.plain=true/\a ≠ .nilIface/\(∀ cs,a ≠ .agg cs):=by
 have hu:=XD j
 unfold lW at h
 split at h
 simp only [av] at d i;subst d;subst i
 split at h
 rename_i m
 obtain ⟨h1,k⟩:=XY (t:=t) (P:=P) (by simpa using m) h w
 exact ⟨h1,k,by simp,by simp⟩
 simp at h
 simp only [av] at d i;subst d;subst i
 have ⟨h1,k⟩:=aoO (t:=t) (P:=P) h w
 exact ⟨h1,k,by simp,by simp⟩
 simp only [av] at d i;subst d;subst i
 rename_i a b
 refine and_assoc.1 ⟨?_,by simp,by simp⟩
 exact m1 (r:=a==b) (by simp) (by simp) (by simp) (by simp) (adi _ hu _ _) h
 have ⟨e,hu⟩:=hu
 simp only [av] at d i;subst d;subst i
 refine and_assoc.1 ⟨?_,by simp,by simp⟩
 exact m1 (r:=true) (by simp) (by simp) (by simp) (by simp) (adm _ hu) h
 have ⟨e,hu⟩:=hu
 simp only [av] at d i;subst i;obtain ⟨_,_,_,_,rfl⟩:=d
 refine and_assoc.1 ⟨?_,by simp,by simp⟩
 exact m1 (r:=false) (by simp) (by simp) (by simp) (by simp) (RJ _ hu _) h
 have ⟨e,hu⟩:=hu
 simp only [av] at d i;subst d;obtain ⟨_,_,_,_,rfl⟩:=i
 refine and_assoc.1 ⟨?_,by simp,by simp⟩
 exact m1 (r:=false) (by simp) (by simp) (by simp) (by simp) (RI _ hu _) h
 have ⟨e,hu⟩:=hu
 simp only [av] at d i;subst i;obtain ⟨_,_,rfl,_⟩:=d
 refine and_assoc.1 ⟨?_,by simp,by simp⟩
 exact m1 (r:=false) (by simp) (by simp) (by simp) (by simp) (RJ _ hu _) h
 have ⟨e,hu⟩:=hu
 simp only [av] at d i;subst d;obtain ⟨_,_,rfl,_⟩:=i
 refine and_assoc.1 ⟨?_,by simp,by simp⟩
 exact m1 (r:=false) (by simp) (by simp) (by simp) (by simp) (RI _ hu _) h
 obtain ⟨e,hu⟩:=hu
 simp only [av] at d i;subst d;subst i
 refine and_assoc.1 ⟨?_,by simp,by simp⟩
 exact m1 (r:=true) (by simp) (by simp) (by simp) (by simp) (adn _ hu) h
 obtain ⟨e,hu⟩:=hu
 simp only [av] at d i;subst i;obtain ⟨_,_,_,_,rfl,_⟩:=d
 refine and_assoc.1 ⟨?_,by simp,by simp⟩
 exact m1 (r:=false) (by simp) (by simp) (by simp) (by simp) (KZ _ hu _ _ _) h
 obtain ⟨e,hu⟩:=hu
 simp only [av] at d i;subst d;obtain ⟨_,_,_,_,rfl,_⟩:=i
 refine and_assoc.1 ⟨?_,by simp,by simp⟩
 exact m1 (r:=false) (by simp) (by simp) (by simp) (by simp) (ado _ hu _ _ _) h
 obtain ⟨e,hu⟩:=hu
 simp only [av] at d i;subst i;obtain ⟨a,cap,rfl,_,_,_,d⟩:=d
 simp only [reduceCtorEq,false_or] at d
 obtain ⟨b,o,rfl,_⟩:=d
 refine and_assoc.1 ⟨?_,by simp,by simp⟩
 exact m1 (r:=false) (by simp) (by simp) (by simp) (by simp) (KZ _ hu _ _ _) h
 obtain ⟨e,hu⟩:=hu
 simp only [av] at d i;subst i;obtain ⟨a,rfl,_,_,d⟩:=d
 simp only [reduceCtorEq,false_or] at d
 obtain ⟨b,o,rfl,_⟩:=d
 refine and_assoc.1 ⟨?_,by simp,by simp⟩
 exact m1 (r:=false) (by simp) (by simp) (by simp) (by simp) (KZ _ hu _ _ _) h
 obtain ⟨e,f,g,hu⟩:=hu
 simp only [av] at d i;subst d;subst i
 refine and_assoc.1 ⟨?_,by simp,by simp⟩
 exact m1 (r:=true) (by simp) (by simp) (by simp) (by simp) (adj _ hu) h
 obtain ⟨e,f,g,hu⟩:=hu
 simp only [av] at d i;subst i;obtain ⟨_,_,rfl,_⟩:=d
 refine and_assoc.1 ⟨?_,by simp,by simp⟩
 exact m1 (r:=false) (by simp) (by simp) (by simp) (by simp) (adl _ hu _ _ _) h
 obtain ⟨e,f,g,hu⟩:=hu
 simp only [av] at d i;subst d;obtain ⟨_,_,rfl,_⟩:=i
 refine and_assoc.1 ⟨?_,by simp,by simp⟩
 exact m1 (r:=false) (by simp) (by simp) (by simp) (by simp) (adk _ hu _ _ _) h
 simp at h
def adp {P:Program} {w:World} {t e:TypeId} {d:Nat} (hu:P.underlying t=some (.slice e)) (a:Option Addr) (n m:Nat):(jz (d+1) t (.slice a n m) (.slice none 0 0)).run P w = .ok a.isNone w:=by cases a<;>simp [jz,run_underlying hu]
def aoH {op:BinOp} {t:TypeId} {i:eJ} (g:z8 P t=some i) {x y c:aa} {a b:Value} (h:OD op i x y=some c) (d:av E w x a) (f:av E w y b) :
   (∃ r,av E w c (.bool r)/\(binOp op t a b).run P w = .ok (.bool r) w)/\a ≠ .nilIface/\(∀ cs,a ≠ .agg cs):=by
 have hu:=XD g
 have key:∀ (a:Option Addr) (n m:Nat) (op:BinOp) (c:aa) (e:TypeId),P.underlying t=some (.slice e)->(match op with | .eql | .neq=>some aa.jP | _=>none)=some c ->
     ∃ r,av E w c (.bool r)/\(binOp op t (.slice a n m) (.slice none 0 0)).run P w = .ok (.bool r) w:=by
   intro a n m op c e hu h
   have j := λ r=>m1 (P:=P) (w:=w) (op:=op) (t:=t) (a := .slice a n m) (b := .slice none 0 0) (r:=a.isNone) (c:=r) (by simp) (by simp) (by simp) (by simp) (adp hu a n m)
   cases op<;>simp only [reduceCtorEq,a7] at h
   subst h;exact ⟨_,by simp [av],(j (.bool a.isNone) rfl).1⟩
   subst h;exact ⟨_,by simp [av],(j (.bool !a.isNone) rfl).1⟩
 unfold OD at h
 split at h
 have ⟨e,hu⟩:=hu
 simp only [av] at d f;subst f;obtain ⟨a,cap,rfl,_⟩:=d
 exact ⟨key a _ cap op c e hu h,by simp,by simp⟩
 have ⟨e,hu⟩:=hu
 simp only [av] at d f;subst f;obtain ⟨a,rfl,_⟩:=d
 exact ⟨key a _ _ op c e hu h,by simp,by simp⟩
 rename_i a0 n
 simp only [av] at d f
 obtain ⟨m,l,rfl⟩:=f
 subst d
 refine ⟨?_,by simp,by simp⟩
 split at h
 split at h
 rename_i o
 cases h
 have q:p4 .gtr .i64 a0 (m:Int)=some (.bool (decide (a0>(m:Int)))):=by simp [p4]
 have ⟨h1,_⟩:=XY (P:=P) (t:=t) (k := .i64) (k' := .i64) (op := .gtr) (by simp) q w
 have hd:decide (a0>(m:Int))=false:=by simp;omega
 rw [hd] at h1
 exact ⟨false,by simp [av],h1⟩
 simp at h
 simp at h
 simp at h
def aoP {op:UnOp} {x c:aa} {a:Value} (h:OH op x=some c) (b:av E w x a):(JX op a).run P w = .ok (kt c) w/\c.plain=true:=by
 unfold OH at h
 split at h
 simp only [av] at b;subst b
 cases h
 exact ⟨by simp [JX,Op.intArith,kt],rfl⟩
 simp only [av] at b;subst b
 simp only [s6,e5,a7] at h;subst h
 exact ⟨by simp [JX,ED,kt],rfl⟩
 simp only [av] at b;subst b
 cases h
 exact ⟨by simp [JX,kt],rfl⟩
 simp at h
def X0 (U:Inv G own E w σ) {t:TypeId} {s:Bool} {i:TypeInfo} (M:oR P t=some s) (J:P.info? t=some i) {x:aa} {a:Value} (F:av E w x a) {r:bM}
   (h:kV σ s i.size x=some r):(∃ v,(EH t a).run P w = .ok v w/\av E w r.val v)/\r.up=[]/\∃ S,a = .pointer (some S):=by
 have key:∀ (b q o:Nat) (cs:List aa) (c:aa),ey E w b q cs->part s cs o i.size=some c->(∃ v,(EH t (.pointer (some ⟨b,q+o,none⟩))).run P w = .ok v w/\av E w c v):=by
   intro b q o cs c D m
   unfold part at m
   split at m
   rename_i O
   cases s with
   | true =>
     simp only [if_true,a7] at m;subst m
     have n:∀ j,j<i.size->∃ v,w.cell? ⟨b,q+o+j,none⟩=some v/\∃ d,((cs.drop o).take i.size)[j]? = some d/\av E w d v:=by
       intro j z
       have C:o+j<cs.length:=by omega
       have ⟨v,y,u⟩:=D (o+j) cs[o+j] (by simp [C])
       refine ⟨v,by rw [<- y];congr 2;omega,cs[o+j], ?_,u⟩
       rw [vI z,sE];simp [C]
     let f:Nat->Value := λ j=>(w.cell? ⟨b,q+o+j,none⟩).getD undef
     have T:∀ j,j<i.size->w.cell? ((⟨b,q+o,none⟩:Addr).add j)=some (f j):=by
       intro j z
       have ⟨v,y,_⟩:=n j z
       rw [pt];simp [f,y]
     have Q:=run_loadCells (P:=P) w ⟨b,q+o,none⟩ i.size f T
     refine ⟨.agg ((ba i.size).map f).toArray, ?_, ?_⟩
     simp [EH,EM,loadVar,GU M,nr J,Q]
     simp only [av]
     refine ⟨_,rfl,fe.2 ⟨by simp;omega, λ j d z => ?_⟩⟩
     have A:j<i.size:=by
       have:=(eu.1 z).1
       simp at this;omega
     have ⟨v,y,V,B,K⟩:=n j A
     have:d=V:=by rw [z] at B;simpa using B
     subst this
     refine ⟨v, ?_,K⟩
     simp [A,f,y]
   | false =>
     simp only [jO,if_false] at m
     split at m
     rename_i h1
     have ⟨v,y,u⟩:=D o c m
     refine ⟨v, ?_,u⟩
     simp [EH,EM,loadVar,GU M,y]
     simp at m
   simp at m
 unfold kV at h
 split at h
 rename_i id e o
 split at h
 rename_i au R
 split at h
 rename_i el L
 cases m:part s el.cells o i.size with
 | none=>simp [m] at h
 | some c =>
   simp only [m,e5,a7] at h;subst h
   have ⟨g,N,W,ty,H⟩:=U.blk id au R
   simp only [av] at F
   obtain ⟨X,k',Y,I,rfl⟩:=F
   rw [H.μ] at I
   simp only [a7,cY] at I
   have ⟨rfl,rfl,rfl⟩:=I
   have:=Nk H.k H.row L
   rw [c4] at this
   exact ⟨key _ _ _ _ _ this m,rfl,_,rfl⟩
 simp at h
 simp at h
 rename_i cs o
 cases m:part s cs o i.size with
 | none=>simp [m] at h
 | some c =>
   simp only [m,e5,a7] at h;subst h
   simp only [av] at F
   obtain ⟨b,q,rfl,_,D⟩:=F
   exact ⟨key _ _ _ _ _ (qI.1 D) m,rfl,_,rfl⟩
 simp at h
def aoG (e:Inv G own E w σ) {t:TypeId} {b:Bool} {i:TypeInfo} (f:oR P t=some b) (c:P.info? t=some i) {x:aa} {a:Value} (g:av E w x a) {r:bM}
   (h:kV σ b i.size x=some r):Sound P G own E w σ p (EH t a) r:=by
 have ⟨⟨v,h1,j⟩,k,_⟩:=X0 e f c g h
 exact ⟨v,w,E,h1,Adv.refl own E w,by rw [k];exact e,j, λ _ _=>rfl⟩
def ab1 {c:aa} (h:c.cells.all aa.one=true):∀ x∈c.cells,x.one=true:=by simpa using h
def aoN (L:Inv G own E w σ) {t:TypeId} {i:TypeInfo} (F:P.info? t=some i) {x y:aa} {a b:Value} (M:av E w x a) (U:av E w y b) {r:bM}
   (h:tY σ i.size x y=some r):∃ w',(Z6 t a b).run P w = .ok () w'/\lJ G own E w σ p r undef E w':=by
 unfold tY at h
 split at h
 rename_i id e o
 split at h
 rename_i au Q
 split at h
 rename_i el s
 split at h
 rename_i R
 have ⟨B,O,S,f⟩:=R
 cases h
 have ⟨g,N,I,ty,C⟩:=L.blk id au Q
 simp only [av] at M
 obtain ⟨W,k',X,z,rfl⟩:=M
 rw [C.μ] at z
 simp only [a7,cY] at z
 have ⟨rfl,rfl,rfl⟩:=z
 have c:=ab1 f
 have l:=av.cells U (tJ f)
 have A:b.cells.size=i.size:=by have:=bl.len l;simp at this;omega
 have ⟨hb,m,q⟩:=anj L Q B C s (o:=o) (new:=y.cells) (vs:=b.cells.toList) (by omega) c l
 refine ⟨_, ?_,m,q, ?_, λ _ _=>rfl⟩
 have h1:∀ v∈b.cells.toList,v.oneCell'=true:=by
   intro v V
   have ⟨j,K⟩:=Z8.1 V
   have ⟨T,J⟩:=fe.1 l
   have H:j<y.cells.length:=by have:=(eu.1 K).1;omega
   have ⟨u,hu,D⟩:=J j y.cells[j] (by simp [H])
   have:u=v:=by rw [K] at hu;simpa using hu.symm
   subst this
   exact av.one D (c _ (by simp))
 have n:=run_storeCells_at P g (e*au.k+o) ty b.cells.toList 0 I w C.heap (by simpa using hb) h1
 simp only [Nat.add_zero] at n
 simp [Z6,EM,storeVar,nr F,A,n]
 simp only [av,undef];exact ⟨#[],rfl,by simp [bl]⟩
 simp at h
 simp at h
 simp at h
 simp at h
def Inv.sub {G:Nat->Option (List aa)} {own:Nat->Prop} {E:Env} {w:World} {σ a:aL} (h:Inv G own E w σ) (c:∀ id,a id=none \/ a id = σ id):Inv G own E w a where
 hh:=h.hh
 blk := λ id au hb=>by
   rcases c id with h1 | h1
   simp [h1] at hb
   exact h.blk id au (h1▸hb)
 inj := λ i j x y d f b h1 g=>by
   refine h.inj i j x y ?_ ?_ b h1 g
   rcases c i with h | h
   exact absurd h d
   rw [<- h];exact d
   rcases c j with h | h
   exact absurd h f
   rw [<- h];exact f
 jH:=h.jH
 new:=h.new
def Ht (h:Inv G own E w σ) (f:E.μ p=none) (g : σ p=none) {els:List aa} {k N:Nat} {vs:List Value} (ty:TypeId)
   (j:∀ e∈els,e.size=k) (d:rr E w (flat els) vs) (l:vs.length=N*k) (b:els.length<=N) (o:N<=maxLen) {c:aa} {v:Value}
   (m:av (E.bind p w.heap.size k N) (w.alloc (.cells vs.toArray ty)) c v) {rd:List Id} :
   lJ G own E w σ p { val:=c,rd:=rd,up:=[(p,some ⟨els,k,false⟩)] } v (E.bind p w.heap.size k N) (w.alloc (.cells vs.toArray ty)):=by
 have ⟨h1,n⟩:=aaB h f g ty j d l b o
 exact ⟨h1,n,m, λ i a=>Env.yD _ _ _ _ _ (λ e=>a (by rw [e];exact List.suffix_refl _))⟩
def Qp (f:Inv G own E w σ) (g:E.μ p=none) (j : σ p=none) {x:aa} {a:Value} (i:av E w x a) (b:x.cells.all aa.one=true) (t:TypeId) :
   Sound P G own E w σ p (do pure (.pointer (some (<- newVar t a)))) { val := .ref p 0 0,up:=[(p,some ⟨[x],x.size,false⟩)] }:=by
 have d:=av.cells i (tJ b)
 have ⟨h,e⟩:=fe.1 d
 refine ⟨.pointer (some ⟨w.heap.size,0,none⟩),w.alloc (.cells a.cells t),E.bind p w.heap.size x.size 1,by simp [newVar,newRow], ?_⟩
 have:=Ht (p:=p) (rd:=[]) f g j (els:=[x]) (k:=x.size) (N:=1) (vs:=a.cells.toList) t (by simp) (by simpa [flat] using e) (by simpa [aa.size] using h) (by simp) (by unfold maxLen;omega)
   (c := .ref p 0 0) (v := .pointer (some ⟨w.heap.size,0,none⟩)) (by simp only [av];exact ⟨w.heap.size,x.size,1,Env.uN _ _ _ _ _,by simp⟩)
 simpa using this
def R1 (off:Nat):∀ (l:List Value) (s:Nat) (cs:Array Value),off+s+l.length<=cs.size ->
   ((l.zipIdx s).foldl (λ cs x=>cs.setIfInBounds (off+x.2) x.1) cs).toList=cs.toList.take (off+s)++l++cs.toList.drop (off+s+l.length)
 | [],s,cs,_=>by simp
 | v::l,s,cs,h=>by
   simp only [e6] at h
   simp only [List.zipIdx_cons,List.foldl_cons]
   rw [R1 off l (s+1) _ (by simp;omega)]
   simp only [Array.toList_setIfInBounds,e6]
   have h1:off+s<cs.toList.length:=by simp;omega
   rw [show off+(s+1)=off+s+1 from by omega]
   rw [List.take_succ_eq_append_getElem (by simpa using h1)]
   simp only [List.getElem_set_self,nC,List.singleton_append]
   rw [List.take_set_of_le (by omega),List.drop_set_of_lt (by omega)]
   rw [show off+s+1+l.length=off+s+(l.length+1) from by omega]
def adH {cells:Array Value} {off:Nat} {v:Value} (h:off+v.cells.size<=cells.size) :
   (v.cells.zipIdx.foldl (λ cs (c,j)=>cs.setIfInBounds (off+j) c) cells).toList=cells.toList.take off++v.cells.toList++cells.toList.drop (off+v.cells.size):=by
 rw [<- Array.foldl_toList,Array.toList_zipIdx]
 have:=R1 off v.cells.toList 0 cells (by simpa using h)
 simpa using this
def bl.append {xs ys:List aa} {us vs:List Value} (h1:bl E w xs us) (e:bl E w ys vs):bl E w (xs++ys) (us++vs):=by
 have ⟨a,b⟩:=fe.1 h1
 have ⟨c,d⟩:=fe.1 e
 exact fe.2 ⟨by simp [a,c],rr.append b a d⟩
def bl.take {xs:List aa} {us:List Value} (h:bl E w xs us) (n:Nat):bl E w (xs.take n) (us.take n):=by
 have ⟨a,b⟩:=fe.1 h
 refine fe.2 ⟨by simp [a], λ j c d => ?_⟩
 rw [Po] at d
 split at d
 rename_i e;rw [vI e];exact b j c d
 simp at d
def bl.drop {xs:List aa} {us:List Value} (h:bl E w xs us) (n:Nat):bl E w (xs.drop n) (us.drop n):=by
 have ⟨a,b⟩:=fe.1 h
 refine fe.2 ⟨by simp [a], λ j c d => ?_⟩
 rw [sE] at d ⊢
 exact b _ c d
def uC (E:Env) (w:World) (place:Nat->Option (Nat × Nat)):List (Nat × Nat × aa)->List (Nat × Value)->Prop
 | [],a=>a=[]
 | (o,n,x)::r,a=>∃ i v rest,a=(i,v)::rest/\place i=some (o,n)/\av E w x v/\uC E w place r rest
def Ou {place:Nat->Option (Nat × Nat)}:∀ {vA:List (Nat × Nat × aa)} {q:List (Nat × Value)} {cs b:List aa} {cells:Array Value},uC E w place vA q->bl E w cs cells.toList ->
   tU cs vA=some b->∃ a:Array Value,ER place cells q=some a/\bl E w b a.toList
 | [],q,cs,b,cells,e,g,h=>by
   simp only [uC] at e;subst e
   simp only [tU,a7] at h;subst h
   exact ⟨cells,rfl,g⟩
 | (o,n,x)::r,q,cs,b,cells,e,g,h=>by
   simp only [uC] at e
   obtain ⟨i,v,rest,rfl,s,u,z⟩:=e
   simp only [tU] at h
   split at h
   rename_i A
   have ⟨h1,D,C⟩:=A
   have m:=av.cells u (tJ C)
   have f:v.cells.size=n:=by have:=bl.len m;simp at this;omega
   have y:cells.size=cs.length:=by have:=bl.len g;simpa using this
   have k:o+v.cells.size<=cells.size:=by omega
   have l:bl E w (cs.take o++x.cells++cs.drop (o+n)) (v.cells.zipIdx.foldl (λ cs (c,j)=>cs.setIfInBounds (o+j) c) cells).toList:=by
     rw [adH k,f]
     exact bl.append (bl.append (bl.take g o) m) (bl.drop g (o+n))
   have ⟨a,B,t⟩:=Ou z l h
   refine ⟨a, ?_,t⟩
   simp only [ER,s]
   rw [if_neg (by simp [f];omega)]
   exact B
   simp at h
def HL {t:List aa} {a:Act} (n:gr E w t a) (o:Inv G own E w σ) {place:Nat->Option (Nat × Nat)} {f:Nat × dD->Option (Nat × Nat × dD)}
   (c:∀ q r,f q=some r->r.2.2=q.2/\place q.1=some (r.1,r.2.1)) :
   ∀ {l:List (Nat × Operand)} {e:List (Nat × dD)} {g:List (Nat × Nat × dD)},l.mapM (λ p=>(b6 p.2).map (p.1, ·))=some e->e.mapM f=some g ->
   uC E w place (g.map λ p=>(p.1,p.2.1,p.2.2.ev G t)) (l.map λ p=>(p.1,a.eval p.2))
 | [],e,g,h1,d=>by
   simp at h1;subst h1;simp at d;subst d;simp [uC]
 | (i,x)::l,e,g,h1,d=>by
   simp only [uk,ye,JM,yf] at h1
   have ⟨q,h,s,k,b⟩:=h1
   cases b
   simp only [uk,ye,JM,yf] at d
   have ⟨r,y,u,m,b⟩:=d
   cases b
   cases j:b6 x with
   | none=>simp [j] at h
   | some gU =>
     simp only [j,e5,a7] at h;subst h
     have ⟨z,v⟩:=c _ _ y
     simp only [hQ,uC]
     refine ⟨i,a.eval x,_,rfl,v, ?_,HL n o c k m⟩
     rw [z];exact di n o j
def abu (hi:Inv G own E w σ) {t:List aa} {a:Act} (hf:gr E w t a) {ty:TypeId} {B:Array (Nat × Operand)} {qR:dK dD} (k:gI P (.build ty B)=some qR) {r:bM}
   (h:bS σ p (qR.map (dD.ev G t))=some r):Sound P G own E w σ p (Instr.build ty (B.map λ (i,x)=>(i,a.eval x))) r:=by
 simp only [gI] at k
 cases hu:P.underlying ty with
 | none=>simp [hu] at k
 | some d =>
 cases F:mO P ty with
 | none=>cases d<;>simp [hu,F] at k
 | some z =>
 cases j:B.toList.mapM (λ p=>(b6 p.2).map (p.1, ·)) with
 | none=>cases d<;>simp [hu,F,j] at k
 | some HZ =>
 obtain ⟨it,ua,hit,u7,wU,LR,zd⟩:=xW F
 have A:av E w z ua:=ta wU
 have afU:=av.cells A (tJ zd)
 have fin:∀ {place:Nat->Option (Nat × Nat)} {vA:List (Nat × Nat × aa)} {cs:List aa},uC E w place vA (B.map λ (i,x)=>(i,a.eval x)).toList->tU z.cells vA=some cs ->
     (∀ cells,ER place ua.cells (B.map λ (i,x)=>(i,a.eval x)).toList=some cells->P.built ty (B.map λ (i,x)=>(i,a.eval x)).toList=some cells) ->
     Sound P G own E w σ p (Instr.build ty (B.map λ (i,x)=>(i,a.eval x))) { val := .agg cs }:=by
   intro place vA cs hp H hb
   obtain ⟨cells,s,hr⟩:=Ou hp afU H
   refine Sound.same hi (run_build w ty _ cells (hb cells s)) ?_
   simp only [av];exact ⟨cells,rfl,hr⟩
 cases d with
 | struct fs =>
   simp only [hu,F,j] at k
   cases y:fs.toList.mapM (λ f=>(P.info? f.type).map λ i=>(f.offset,i.size)) with
   | none=>simp [y] at k
   | some g =>
     simp only [y,ew] at k
     obtain ⟨rs,v,rfl⟩:=k
     simp only [dK.map,bS] at h
     refine Sound.MS h λ c o => ?_
     simp only [ew] at o
     obtain ⟨cs,H,rfl⟩:=o
     refine fin (place:=(g.toArray[·]?)) (vA:=rs.map λ p=>(p.1,p.2.1,p.2.2.ev G t)) ?_ H ?_
     have:=HL (place:=(g.toArray[·]?)) hf hi (f := λ (p:Nat × dD)=>(g[p.1]?).map λ q=>(q.1,q.2,p.2)) (by
       intro q r l
       simp only [ew] at l
       obtain ⟨b,hb,rfl⟩:=l
       exact ⟨rfl,by simpa using hb⟩) j v
     simpa using this
     intro cells s
     simp only [Z9,hit,hu,u7,y]
     exact s
 | array n e =>
   simp only [hu,F,j] at k
   cases C:P.info? e with
   | none=>simp [C] at k
   | some u =>
     simp only [C,a7] at k
     subst k
     simp only [dK.map,bS,List.map_map] at h
     refine Sound.MS h λ c o => ?_
     simp only [ew] at o
     obtain ⟨cs,H,rfl⟩:=o
     have v:HZ.mapM (λ (q:Nat × dD)=>some (q.1*u.size,u.size,q.2))=some (HZ.map λ q=>(q.1*u.size,u.size,q.2)):=by
       clear H h j
       induction HZ with
       | nil=>rfl
       | cons q HZ ih=>simp [uk,ih]
     have:=HL (place := λ i=>some (i*u.size,u.size)) hf hi (f := λ (q:Nat × dD)=>some (q.1*u.size,u.size,q.2)) (by
         intro q r l
         cases l;exact ⟨rfl,rfl⟩) j v
     refine fin (place := λ i=>some (i*u.size,u.size)) (vA:=_) (by simpa using this) (by simpa [aaa] using H) ?_
     intro cells s
     simp only [Z9,hit,hu,u7,C]
     exact s
 | _=>simp [hu,F,j] at k
def TZ {z:aa} {g:Value} {k:Nat} (A:bl E w z.cells g.cells.toList) (o:z.size=k) (a:0<k) (n N:Nat) (y:n<=N) :
   rr E w (flat (bG n z)) ((J0 (N*k)).map (g.cells[· % g.cells.size]!)).toList:=by
 have ⟨u,s⟩:=fe.1 A
 have h:g.cells.size=k:=by simp at u;unfold aa.size at o;omega
 have d:∀ e∈bG n z,e.size=k:=by intro e x;rw [jA x];exact o
 intro j c m
 have f:=kL d
 have b:j<n*k:=by have:=(eu.1 m).1;rw [f] at this;simpa using this
 have B:j/k<n:=(Nat.div_lt_iff_lt_mul a).2 b
 have q:=yT (i:=j/k) (e:=z) (j:=j%k) d (by simp [B]) (Nat.mod_lt _ a)
 rw [Nat.div_add_mod' j k] at q
 rw [q] at m
 have ⟨v,r,t⟩:=s _ c m
 have l:j<N*k:=fv b (c6 _ y)
 refine ⟨v, ?_,t⟩
 simp at r
 simp only [Array.toList_map,Array.toList_range,iI,l,aab,e5,a7,h]
 rw [getElem!_def,r]
def XT {k:Nat}:∀ {b:List (Nat × aa)} {es es':List aa},(∀ e∈es,e.size=k)->Ao k es b=some es' ->
   (∀ e∈es',e.size=k)/\es'.length=es.length/\tU (flat es) (b.map λ q=>(q.1*k,k,q.2))=some (flat es')
 | [],es,es',a,h=>by
   simp only [Ao,a7] at h;subst h
   exact ⟨a,rfl,by simp [tU]⟩
 | (i,x)::b,es,es',a,h=>by
   simp only [Ao] at h
   split at h
   rename_i m
   have ⟨h1,l,o⟩:=m
   have d:∀ e∈es.set i x,e.size=k:=by
     intro e g
     rcases AO g with g | rfl
     exact a e g
     exact h1
   have ⟨r,n,s⟩:=XT d h
   refine ⟨r,by simpa using n, ?_⟩
   have f:=K8 a (show es[i]? = some es[i] by simp [l]) h1
   have j:=kL a
   have c:(i+1)*k<=es.length*k:=c6 _ l
   rw [fg] at c
   simp only [hQ,tU]
   rw [if_pos ⟨h1,by omega,o⟩, <- f]
   exact s
   simp at h
def abt (hi:Inv G own E w σ) (kn:E.μ p=none) (fJ : σ p=none) {t:List aa} {a:Act} (hf:gr E w t a) {ty:TypeId} {n:Nat} {I:Array (Nat × Operand)} {qR:dK dD}
   (o:gI P (.buildSlice ty n I)=some qR) {r:bM} (h:bS σ p (qR.map (dD.ev G t))=some r):Sound P G own E w σ p (aac ty n (I.map λ (i,x)=>(i,a.eval x))) r:=by
 simp only [gI] at o
 cases hu:P.underlying ty with
 | none=>simp [hu] at o
 | some d =>
 cases u:I.toList.mapM (λ p=>(b6 p.2).map (p.1, ·)) with
 | none=>cases d<;>simp [hu,u] at o
 | some M =>
 cases d with
 | slice e =>
   simp only [hu,u] at o
   cases m:P.info? e with
   | none=>simp [m] at o
   | some j =>
   cases hz:mO P e with
   | none=>simp [m,hz] at o
   | some z =>
     simp only [m,hz] at o
     split at o
     rename_i b7
     have ⟨hsm,afd,L⟩:=b7
     cases o
     have ⟨it,R,B,X,wU,H,T⟩:=xW hz
     rw [m] at B
     cases B
     simp only [dK.map,bS] at h
     cases y:Ao j.size (bG n z) (M.map λ p=>(p.1,p.2.ev G t)) with
     | none=>simp [y] at h
     | some es =>
       simp only [y] at h
       split at h
       have Q:∀ e∈bG n z,e.size=j.size:=by intro e he;rw [jA he];exact H
       have ⟨r1,r2,U⟩:=XT Q y
       have Y:bl E w z.cells R.cells.toList:=av.cells (ta wU) (tJ T)
       have K:=kL Q
       generalize g:(J0 (n*j.size)).map (R.cells[· % R.cells.size]!)=b at *
       have V:bl E w (flat (bG n z)) b.toList:=by
         refine fe.2 ⟨?_, ?_⟩
         rw [K, <- g];simp
         rw [<- g];exact TZ Y H afd n n (a4 _)
       have S:M.mapM (λ (q:Nat × dD)=>some (q.1*j.size,j.size,q.2))=some (M.map λ q=>(q.1*j.size,j.size,q.2)):=by
         clear y U u
         induction M with
         | nil=>rfl
         | cons q M ih=>simp [uk,ih]
       have J:=HL (place := λ i=>some (i*j.size,j.size)) hf hi (f := λ (q:Nat × dD)=>some (q.1*j.size,j.size,q.2)) (by
         intro q r F
         cases F;exact ⟨rfl,rfl⟩) u S
       simp only [List.map_map,aaa] at J U
       have ⟨cells,W,hr⟩:=Ou (cells:=b) J V U
       have ⟨afg,Ch⟩:=fe.1 hr
       have C:=kL r1
       refine ⟨.slice (some ⟨w.heap.size,0,none⟩) n n,w.alloc (.cells cells e),E.bind p w.heap.size j.size n, ?_, ?_⟩
       have s:ER (λ i=>some (i*j.size,j.size)) b (I.map λ (i,x)=>(i,a.eval x)).toList=some cells:=by simpa using W
       by_cases h0:n*j.size=0
       have Z:b = #[]:=by rw [<- g,h0];simp
       rw [Z] at s
       have aq7 : ¬ (n*j.size>2 ^ 24):=by omega
       have A:n=0:=by
         rcases Nat.mul_eq_zero.1 h0 with h | h
         exact h
         omega
       subst A
       have rM:∀ w,(newRow e cells).run P w = .ok ⟨w.heap.size,0,none⟩ (w.alloc (.cells cells e)) := λ _=>rfl
       have O:ER (λ i=>some (i*j.size,j.size)) ((J0 0).map (λ _:Nat=>(default:Value))) (List.map (λ x=>(x.fst,a.eval x.snd)) I.toList)=some cells:=by
         have:(J0 0).map (λ _:Nat=>(default:Value)) = #[]:=by apply Array.eq_empty_of_size_eq_zero;simp
         rw [this];simpa using s
       simp [aac,run_underlying hu,nr m,O,rM]
       exact run_buildSlice w ty e n _ cells j R hu m X (by omega) h0 (by rw [g];exact s)
       have:=Ht (p:=p) (rd:=[]) hi kn fJ (els:=es) (k:=j.size) (N:=n) (vs:=cells.toList) e r1 Ch (by rw [afg,C,r2];simp) (by rw [r2];simp) L
         (c := .ai p j.size 0 n false) (v := .slice (some ⟨w.heap.size,0,none⟩) n n)
         (by simp only [av];exact ⟨w.heap.size,n,n,Env.uN _ _ _ _ _,by simp,a4 _,by omega,L,by simp⟩)
       split at h
       rename_i A
       subst A
       cases h
       have ⟨h1,h2,h3,h4⟩:=this
       refine ⟨h1,h2.sub λ i => ?_,by simp only [av];exact ⟨_,rfl,Nat.zero_le _,by simp, .inl trivial⟩,h4⟩
       by_cases e:i=p
       subst e;left;exact fJ
       right;simp [aL.app,aL.put,e]
       cases h
       simpa using this
       simp at h
     simp at o
 | _=>simp [hu,u] at o
def aie (J:Inv G own E w σ) (M:E.μ p=none) (F : σ p=none) {t e:TypeId} {i:TypeInfo} {z:aa} (hu:P.underlying t=some (.slice e)) (d:P.info? e=some i) (T:mO P e=some z)
   (y:0<i.size) {l c:aa} {B eB:Value} (A:av E w l B) (C:av E w c eB) {r:bM} (h:DR p i.size i.bytes z l c=some r):Sound P G own E w σ p (Instr.makeSlice t B eB) r:=by
 have ⟨V,j,a,m,n,g,u⟩:=xW T
 rw [d] at a
 cases a
 unfold DR at h
 split at h
 rename_i S l U c
 simp only [av] at A C;subst A;subst C
 split at h
 rename_i O
 have ⟨Q,x,hb,L,H,K⟩:=O
 cases h
 have q:bl E w z.cells j.cells.toList:=av.cells (ta n) (tJ u)
 have f:c.toNat<=maxLen:=by omega
 have b:l.toNat<=c.toNat:=by omega
 have I:=run_make (P:=P) w t e i j hu d m S U l c Q x (by rw [Int.mul_comm];omega) (by unfold maxLen at L;omega)
 have s:∀ e∈bG l.toNat z,e.size=i.size:=by intro e R;rw [jA R];exact g
 refine ⟨_,_,E.bind p w.heap.size i.size c.toNat,I, ?_⟩
 have D:=TZ q g y l.toNat c.toNat b
 have:=Ht (p:=p) (rd:=[]) J M F (els:=bG l.toNat z) (k:=i.size) (N:=c.toNat) (vs:=(madeCells j.cells (c.toNat*i.size)).toList) e s D (by simp [madeCells]) (by simpa using b) f
   (c := .ai p i.size 0 l.toNat false) (v := .slice (some ⟨w.heap.size,0,none⟩) l.toNat c.toNat)
   (by simp only [av];exact ⟨w.heap.size,c.toNat,c.toNat,Env.uN _ _ _ _ _,by simp,b,by omega,f,by simp⟩)
 simpa using this
 simp at h
 simp at h
def qP {d c:Nat} {x:Option aa} {v:Option Value} {n:Nat} (g:match x,v with | none,none=>True | some a,some b=>av E w a b | _,_=>False) (h:kz d c x=some n) (y:Nat) (j:c<=y) (f:BoundsCode) :
   (x=none/\v=none/\n=d) \/ (∃ u,v=some u/\x≠none/\n<=c/\(Be u y f).run P w = .ok n w):=by
 unfold kz at h
 split at h
 cases h
 cases v with
 | none=>exact .inl ⟨rfl,rfl,rfl⟩
 | some u=>exact g.elim
 rename_i k i
 cases v with
 | none=>exact g.elim
 | some u =>
   simp only [av] at g;subst g
   split at h
   rename_i l
   cases h
   refine .inr ⟨_,rfl,by simp,by omega, ?_⟩
   have:0<=i/\i<=(y:Int):=by omega
   simp [Be,asIntOf,this]
   simp at h
 simp at h
def ma (E:Env) (w:World) (x:Option aa) (v:Option Value):Prop:=match x,v with | none,none=>True | some a,some b=>av E w a b | _,_=>False
def ql {isSlice:Bool} {len cap l h m:Nat} {lo v mx:Option aa} {t r lX:Option Value} (f:ma E w lo t) (d:ma E w v r) (o:ma E w mx lX) (A:len<=cap)
   (b:kz len len v=some h) (g:kz 0 h lo=some l) (J:(mx=none/\m=cap) \/ (∃ k,mx=some (.int k (m:Int))/\v≠none/\h<=m/\m<=cap)) :
   (PG isSlice len cap t r lX).run P w = .ok (l,h,m) w/\l<=h/\h<=len:=by
 have D:h<=len:=by
   rcases qP (P:=P) d b len (a4 _) .index with ⟨_,_,e⟩ | ⟨_,_,_,e,_⟩<;>omega
 have H:l<=h:=by
   rcases qP (P:=P) f g h (a4 _) .index with ⟨_,_,e⟩ | ⟨_,_,_,e,_⟩<;>omega
 refine ⟨?_,H,D⟩
 unfold PG
 rcases J with ⟨rfl,rfl⟩ | ⟨k,rfl,y,C,F⟩
 cases lX with
 | some _=>exact (o:False).elim
 | none =>
   rcases qP (P:=P) d b m (bs (a4 _) A) (if isSlice then .sliceAcap else .sliceAlen) with ⟨_,rfl,rfl⟩ | ⟨u,rfl,_,_,n⟩
   rcases qP (P:=P) f g h (a4 _) .sliceB with ⟨_,rfl,rfl⟩ | ⟨u,rfl,_,_,n⟩
   simp
   simp [n]
   rcases qP (P:=P) f g h (a4 _) .sliceB with ⟨_,rfl,rfl⟩ | ⟨B,rfl,_,_,j⟩
   simp [n]
   simp [n,j]
 cases lX with
 | none=>exact (o:False).elim
 | some I =>
   have z:I = .int k (m:Int):=by simpa [ma,av] using o
   subst z
   have q:∀ c,(Be (.int k (m:Int)) cap c).run P w = .ok m w:=by
     intro c
     have:(0:Int)<=m/\(m:Int)<=cap:=by omega
     simp [Be,asIntOf,this]
   rcases qP (P:=P) d b len (a4 _) .slice3B with ⟨e,_,_⟩ | ⟨u,rfl,_,_,_⟩
   exact absurd e y
   have n:∀ c,(Be u m c).run P w = .ok h w:=by
     intro c
     cases v with
     | none=>exact (d:False).elim
     | some x =>
       unfold kz at b
       split at b
       simp_all
       rename_i k' i s
       cases s
       have:u = .int k' i:=by simpa [ma,av] using d
       subst this
       split at b
       simp only [a7] at b
       have:(0:Int)<=i/\i<=m:=by omega
       simp [Be,asIntOf,this,b]
       simp at b
       simp at b
   rcases qP (P:=P) f g h (a4 _) .slice3C with ⟨_,rfl,rfl⟩ | ⟨B,rfl,_,_,j⟩
   simp [n,q]
   simp [n,j,q]
def adN {k:Nat} {es:List aa} (b:∀ e∈es,e.size=k) {l h:Nat} (c:l<=h) (g:h<=es.length):flat ((es.take h).drop l)=((flat es).drop (l*k)).take ((h-l)*k):=by
 have d:es=es.take l++((es.take h).drop l++es.drop h):=by
   rw [<- Zn (by simp;omega),ym,ym]
 have h1:(flat (es.take l)).length=l*k:=by rw [kL (λ e a=>b e (gq a))];simp;rw [jv (by omega)]
 have f:(flat ((es.take h).drop l)).length=(h-l)*k:=by
   rw [kL (λ e a=>b e (gq (rk a)))];simp;rw [jv (by omega)]
 conv=>rhs;rw [d]
 rw [yS,yS, <- h1,List.drop_left, <- f,List.take_left]
def z1 {b o k:Nat} {es:List aa} (f:∀ e∈es,e.size=k) (h:ey E w b o (flat es)) {l r:Nat} (d:l<=r) (g:r<=es.length):ey E w b (o+l*k) (flat ((es.take r).drop l)):=by
 rw [adN f d g]
 intro j c a
 rw [Po] at a
 split at a
 rw [sE] at a
 have:=h _ c a
 rwa [<- ow] at this
 simp at a
def X5 (hi:Inv G own E w σ) {t e:TypeId} {i:TypeInfo} (hu:P.underlying t=some (.slice e)) (mn:P.info? e=some i) {x:aa} {v:Value} (hx:av E w x v)
   {lo g7 mx:Option aa} {I9 I8 lX:Option Value} (rL:ma E w lo I9) (nY:ma E w g7 I8) (hmx:ma E w mx lX) (afo:mx.isSome->g7.isSome) {c:aa}
   (h:iq i.size x lo g7 mx=some c):Sound P G own E w σ p (rn t v I9 I8 lX) { val:=c }:=by
 have hrun:∀ (a:Option Addr) (len cap l h m:Nat),(PG true len cap I9 I8 lX).run P w = .ok (l,h,m) w ->
     (rn t (.slice a len cap) I9 I8 lX).run P w = .ok (.slice (if m=l then a else a.map (·.add (l*i.size))) (h-l) (m-l)) w:=by
   intro a len cap l h m hb
   simp [rn,Instr.slice,run_underlying hu,hb,nr mn]
 have GG:∀ (h:Nat),Ah mx h=true->∃ k,mx=some (.int k (h:Int)):=by
   intro h b7
   unfold Ah at b7
   split at b7
   rename_i k m';simp only [beq_iff_eq] at b7;subst b7;exact ⟨k,rfl⟩
   simp at b7
 have wQ:∀ {len l r:Nat},iD len lo g7=some (l,r)->kz len len g7=some r/\kz 0 r lo=some l:=by
   intro len l r hb
   unfold iD at hb
   split at hb
   simp at hb
   rename_i h1 e1
   split at hb
   simp at hb
   rename_i hY e2
   simp only [a7,cY] at hb
   obtain ⟨rfl,rfl⟩:=hb
   exact ⟨e1,e2⟩
 have hne:∀ k n,mx=some (aa.int k n)->g7≠none:=by
   intro k n e cO
   have:=afo (by simp [e])
   simp [cO] at this
 unfold iq at h
 split at h
 ·
   simp only [av] at hx;subst hx
   split at h
   rename_i b hb
   split at h
   rename_i hcnd
   cases h
   obtain ⟨l,b7⟩:=b
   obtain ⟨lQ,oN⟩:=wQ hb
   have aee:b7=0:=by
     rcases qP (P:=P) nY lQ 0 (a4 _) .index with ⟨_,_,e⟩ | ⟨_,_,_,e,_⟩<;>omega
   subst aee
   obtain ⟨kN,oM,m8⟩:=ql (P:=P) (isSlice:=true) (len:=0) (cap:=0) (m:=0) rL nY hmx (a4 _) lQ oN (by
     rcases hcnd with hn | ht
     exact .inl ⟨by simpa using hn,rfl⟩
     obtain ⟨k,hk⟩:=GG 0 ht
     exact .inr ⟨k,hk,hne _ _ hk,a4 _,a4 _⟩)
   have y7:l=0:=by omega
   subst y7
   exact Sound.same hi (hrun none 0 0 0 0 0 kN) (by simp [av])
   simp at h
   simp at h
 ·
   rename_i k' es
   simp only [av] at hx
   obtain ⟨a,cap,rfl,hlen,oO,hk,tl⟩:=hx
   split at h
   rename_i l' b7 hb
   obtain ⟨lQ,oN⟩:=wQ hb
   ·
     ·
       split at h
       . rename_i lp
         subst lp
         have zC:∀ m,l'<=b7->b7<=es.length->b7<=m ->
             ((es.take b7).drop l'=[] \/ ∃ b o,(if m=l' then a else a.map (·.add (l'*i.size)))=some ⟨b,o,none⟩/\E.ok b/\cH E w b o ((es.take b7).drop l')):=by
           intro m h1 h2 h3
           by_cases he:l'=b7
           . left;subst he;simp
           . rcases tl with rfl | ⟨b,o,rfl,hb,hr⟩
             . left;simp
             . right
               refine ⟨b,o+l'*i.size,by rw [if_neg (by omega)];simp [pt],hb, ?_⟩
               rw [n9] at hr ⊢
               exact z1 hk hr h1 h2
         have oP:∀ e∈(es.take b7).drop l',e.size=i.size := λ e he=>hk e (gq (rk he))
         split at h
         . rename_i hn
           cases h
           obtain ⟨kN,oM,m8⟩:=ql (P:=P) (isSlice:=true) (m:=cap) rL nY hmx hlen lQ oN (.inl ⟨by simpa using hn,rfl⟩)
           refine Sound.same hi (hrun a es.length cap l' b7 cap kN) ?_
           simp only [av]
           exact ⟨_,cap-l',by simp;omega,by simp;omega,by omega,oP,zC cap oM m8 (by omega)⟩
         . split at h
           . rename_i ht
             cases h
             obtain ⟨kk,lp⟩:=GG b7 ht
             have Gz:b7<=es.length:=by
               rcases qP (P:=P) nY lQ es.length (a4 _) .index with ⟨_,_,e⟩ | ⟨_,_,_,e,_⟩<;>omega
             obtain ⟨kN,oM,m8⟩:=ql (P:=P) (isSlice:=true) (m:=b7) rL nY hmx hlen lQ oN (.inr ⟨kk,lp,hne _ _ lp,a4 _,by omega⟩)
             refine Sound.same hi (hrun a es.length cap l' b7 b7 kN) ?_
             simp only [av]
             exact ⟨_,by simp;omega,by simp;omega,oP,zC b7 oM m8 (a4 _)⟩
           . simp at h
       . simp at h
   . simp at h
 ·
   rename_i k' es
   simp only [av] at hx
   obtain ⟨a,rfl,oO,hk,tl⟩:=hx
   split at h
   . rename_i l' b7 hb
     obtain ⟨lQ,oN⟩:=wQ hb
     ·
       ·
         split at h
         . rename_i lp
           obtain ⟨rfl,afp⟩:=lp
           have zC:∀ m,l'<=b7->b7<=es.length->b7<=m ->
               ((es.take b7).drop l'=[] \/ ∃ b o,(if m=l' then a else a.map (·.add (l'*i.size)))=some ⟨b,o,none⟩/\E.ok b/\cH E w b o ((es.take b7).drop l')):=by
             intro m h1 h2 h3
             by_cases he:l'=b7
             . left;subst he;simp
             . rcases tl with rfl | ⟨b,o,rfl,hb,hr⟩
               . left;simp
               . right
                 refine ⟨b,o+l'*i.size,by rw [if_neg (by omega)];simp [pt],hb, ?_⟩
                 rw [n9] at hr ⊢
                 exact z1 hk hr h1 h2
           have oP:∀ e∈(es.take b7).drop l',e.size=i.size := λ e he=>hk e (gq (rk he))
           have Gz:b7<=es.length:=by
             rcases qP (P:=P) nY lQ es.length (a4 _) .index with ⟨_,_,e⟩ | ⟨_,_,_,e,_⟩<;>omega
           split at h
           . rename_i y8
             cases h
             rcases afp with hn | ht
             . have aqY:b7=es.length:=by
                 rcases y8 with h1 | h1
                 . cases mx<;>simp at hn h1
                 . exact h1
               obtain ⟨kN,oM,m8⟩:=ql (P:=P) (isSlice:=true) (m:=es.length) rL nY hmx (a4 _) lQ oN (.inl ⟨by simpa using hn,rfl⟩)
               refine Sound.same hi (hrun a es.length es.length l' b7 es.length kN) ?_
               simp only [av]
               exact ⟨_,by simp;omega,by simp;omega,oP,zC es.length oM m8 m8⟩
             . obtain ⟨kk,lp⟩:=GG b7 ht
               obtain ⟨kN,oM,m8⟩:=ql (P:=P) (isSlice:=true) (m:=b7) rL nY hmx (a4 _) lQ oN (.inr ⟨kk,lp,hne _ _ lp,a4 _,Gz⟩)
               refine Sound.same hi (hrun a es.length es.length l' b7 b7 kN) ?_
               simp only [av]
               exact ⟨_,by simp;omega,by simp;omega,oP,zC b7 oM m8 (a4 _)⟩
           . rename_i y8
             cases h
             have hn:mx=none:=by
               cases mx with
               | none=>rfl
               | some _=>simp at y8
             obtain ⟨kN,oM,m8⟩:=ql (P:=P) (isSlice:=true) (m:=es.length) rL nY hmx (a4 _) lQ oN (.inl ⟨hn,rfl⟩)
             refine Sound.same hi (hrun a es.length es.length l' b7 es.length kN) ?_
             simp only [av]
             exact ⟨_,es.length-l',by simp;omega,by simp;omega,by omega,oP,zC es.length oM m8 m8⟩
         . simp at h
   . simp at h
 ·
   rename_i id k' off len mK
   simp only [av] at hx
   obtain ⟨g,N,cap,hm,rfl,LA,GH,B5,rO⟩:=hx
   split at h
   . rename_i l' b7 hb
     obtain ⟨lQ,oN⟩:=wQ hb
     ·
       ·
         split at h
         . rename_i lp
           subst lp
           split at h
           . rename_i hn
             obtain ⟨kN,oM,m8⟩:=ql (P:=P) (isSlice:=true) (m:=cap) rL nY hmx LA lQ oN (.inl ⟨by simpa using hn,rfl⟩)
             have hr:=hrun (some ⟨g,off*i.size,none⟩) len cap l' b7 cap kN
             split at h
             . rename_i SQ
               split at h
               . rename_i y7
                 subst y7
                 cases h
                 refine Sound.same hi hr ?_
                 simp only [av]
                 refine ⟨g,N,cap,hm, ?_,by omega,GH,B5, ?_⟩
                 . by_cases wS:cap=0<;>simp [wS,pt]
                 . cases mK with
                   | true =>
                     simp at SQ rO ⊢
                     omega
                   | false=>simpa using rO
               . rename_i y7
                 split at h
                 . rename_i afh
                   subst afh
                   cases h
                   refine Sound.same hi hr ?_
                   simp only [av]
                   refine ⟨_,cap-l',by simp;rfl,by simp,by omega,by simp, .inl trivial⟩
                 . cases h
                   refine Sound.same hi hr ?_
                   simp only [av]
                   refine ⟨g,N,cap-l',hm, ?_,by omega,by omega,B5, ?_⟩
                   . rw [if_neg (by omega)];simp [pt,fg]
                   . cases mK with
                     | true=>simp at SQ rO ⊢;omega
                     | false=>simp at rO ⊢;omega
             . simp at h
           . split at h
             . rename_i ht
               obtain ⟨afH,y7⟩:=ht
               subst y7
               cases h
               obtain ⟨kk,lp⟩:=GG b7 afH
               have Gz:b7<=len:=by
                 rcases qP (P:=P) nY lQ len (a4 _) .index with ⟨_,_,e⟩ | ⟨_,_,_,e,_⟩<;>omega
               obtain ⟨kN,oM,m8⟩:=ql (P:=P) (isSlice:=true) (m:=b7) rL nY hmx LA lQ oN (.inr ⟨kk,lp,hne _ _ lp,a4 _,by omega⟩)
               have hr:=hrun (some ⟨g,off*i.size,none⟩) len cap 0 b7 b7 kN
               refine Sound.same hi hr ?_
               simp only [av]
               refine ⟨g,N,b7,hm, ?_,a4 _,by omega,B5,by simp⟩
               by_cases wS:b7=0<;>simp [wS,pt]
             . simp at h
         . simp at h
   . simp at h
 . simp at h
def XQ {len l r:Nat} {lo a:Option aa} (hb:iD len lo a=some (l,r)):kz len len a=some r/\kz 0 r lo=some l:=by
 unfold iD at hb
 split at hb
 simp at hb
 rename_i h1 c
 split at hb
 simp at hb
 rename_i d b
 simp only [a7,cY] at hb
 have ⟨rfl,rfl⟩:=hb
 exact ⟨c,b⟩
def adx (s:List UInt8) (l r:Nat):(vS s.toArray).extract l r=⟨((s.take r).drop l).toArray⟩:=by
 apply ByteArray.ext
 rw [ByteArray.data_extract]
 apply Array.ext'
 simp [ZM,ES]
def aoL (q:Inv G own E w σ) {t:TypeId} (hu:P.underlying t=some .string) {x:aa} {v:Value} (o:av E w x v)
   {lo d:Option aa} {b e:Option Value} (g:ma E w lo b) (f:ma E w d e) {c:aa} (h:OE x lo d=some c):Sound P G own E w σ p (rn t v b e none) { val:=c }:=by
 unfold OE at h
 split at h
 rename_i s
 simp only [av] at o;subst o
 split at h
 rename_i l r hb
 have ⟨i,n⟩:=XQ hb
 cases h
 have ⟨j,y,u⟩:=ql (P:=P) (isSlice:=false) (mx:=none) (lX:=none) (m:=s.length) g f trivial (a4 _) i n (.inl ⟨rfl,rfl⟩)
 refine Sound.same (v := .string ⟨((s.take r).drop l).toArray⟩) q ?_ (by simp [av])
 have k:(vS s.toArray).size=s.length:=by simp [ZP]
 simp [rn,Instr.slice,run_underlying hu,k,j,adx]
 simp at h
 simp at h
def alP {b o k:Nat} {es:List aa} (a:∀ e∈es,e.size=k) (h:cH E w b o es) {i:Nat} {e:aa} (c:es[i]? = some e):eE E w b (o+i*k) e.cells :=
 qI.2 (Nk a (n9.1 h) c)
def af8 (C:Inv G own E w σ) {t e:TypeId} {i:TypeInfo} (hu:P.underlying t=some (.slice e)) (A:P.info? e=some i) {x j:aa} {v u:Value} (q:av E w x v) (B:av E w j u) {c:aa}
   (h:fY i.size x j=some c):Sound P G own E w σ p (yn t v u) { val:=c }:=by
 have m:∀ (a:Addr) (len cap:Nat) (k:IntKind) (n:Int),0<=n->n<len->(yn t (.slice (some a) len cap) (.int k n)).run P w = .ok (.pointer (some (a.add (n.toNat*i.size)))) w:=by
   intro a len cap k n l h1
   simp [yn,run_underlying hu,asIntOf,l,h1,nr A]
 unfold fY at h
 split at h
 rename_i kk n
 simp only [av] at B;subst B
 have row:∀ {es:List aa} {a:Option Addr} {cap:Nat},(∀ e∈es,e.size=i.size)->(es=[] \/ ∃ b o,a=some ⟨b,o,none⟩/\E.ok b/\cH E w b o es)->0<=n ->
     (es[n.toNat]?).map (λ e=>aa.c2 e.cells 0)=some c->Sound P G own E w σ p (yn t (.slice a es.length cap) (.int kk n)) { val:=c }:=by
   intro es a cap r d l h
   simp only [ew] at h
   obtain ⟨el,y,rfl⟩:=h
   have z:n.toNat<es.length:=(eu.1 y).1
   rcases d with rfl | ⟨b,o,rfl,hb,F⟩
   simp at z
   refine Sound.same C (m _ _ cap kk n l (by omega)) ?_
   rw [pt]
   simp only [av]
   exact ⟨b,o+n.toNat*i.size,by simp,hb,alP r F y⟩
 split at h
 rename_i k' es
 simp only [av] at q
 obtain ⟨a,cap,rfl,_,_,r,d⟩:=q
 split at h
 rename_i s
 obtain ⟨rfl,l⟩:=s
 exact row r d l h
 simp at h
 rename_i k' es
 simp only [av] at q
 obtain ⟨a,rfl,_,r,d⟩:=q
 split at h
 rename_i s
 obtain ⟨rfl,l⟩:=s
 exact row r d l h
 simp at h
 rename_i id k' off len mK
 simp only [av] at q
 obtain ⟨g,N,cap,D,rfl,_⟩:=q
 split at h
 rename_i s
 obtain ⟨rfl,l,h1⟩:=s
 cases h
 refine Sound.same C (m _ _ cap kk n l h1) ?_
 rw [pt]
 simp only [av]
 exact ⟨g,i.size,N,D,by simp [fg]⟩
 simp at h
 simp at h
 simp at h
def af7 (r:Inv G own E w σ) {t e:TypeId} {n:Nat} {i:TypeInfo} (hu:P.underlying t=some (.array n e)) (o:P.info? e=some i) {x j:aa} {v u:Value} (l:av E w x v) (s:av E w j u) {c:aa}
   (h:Ow n i.size x j=some c):Sound P G own E w σ p (yn t v u) { val:=c }:=by
 unfold Ow at h
 split at h
 rename_i kk m
 simp only [av] at s;subst s
 split at h
 rename_i z
 have f:∀ a:Addr,(yn t (.pointer (some a)) (.int kk m)).run P w = .ok (.pointer (some (a.add (m.toNat*i.size)))) w:=by
   intro a
   simp [yn,run_underlying hu,asIntOf,z,nr o,EM]
 split at h
 cases h
 simp only [av] at l
 obtain ⟨g,k,N,y,rfl⟩:=l
 refine Sound.same r (f _) ?_
 rw [pt]
 simp only [av]
 exact ⟨g,k,N,y,by simp [ow]⟩
 cases h
 simp only [av] at l
 obtain ⟨b,q,rfl,hb,A⟩:=l
 refine Sound.same r (f _) ?_
 rw [pt]
 simp only [av]
 exact ⟨b,q,by simp [ow],hb,A⟩
 simp at h
 simp at h
 simp at h
def adD (l:Inv G own E w σ) {s:TypeId} {fs:Array Field} {f:Nat} {fd:Field} {i:TypeInfo} (hu:P.underlying s=some (.struct fs)) (m:fs[f]? = some fd) (j:P.info? fd.type=some i) (t:i.size≠0)
   {x:aa} {v:Value} (e:av E w x v) {r:bM} (h:bS σ p (.uZ fd.offset x)=some r):Sound P G own E w σ p (PH s v f) r:=by
 have d:∀ a:Addr,(PH s (.pointer (some a)) f).run P w = .ok (.pointer (some (a.add fd.offset))) w:=by
   intro a
   simp [PH,run_underlying hu,m,EM,fieldPlace,nr j,t]
 simp only [bS] at h
 split at h
 simp only [dB,e5,a7] at h;subst h
 simp only [av] at e
 obtain ⟨g,k,N,n,rfl⟩:=e
 refine Sound.same l (d _) ?_
 rw [pt]
 simp only [av]
 exact ⟨g,k,N,n,by simp [ow]⟩
 simp only [dB,e5,a7] at h;subst h
 simp only [av] at e
 obtain ⟨b,q,rfl,hb,o⟩:=e
 refine Sound.same l (d _) ?_
 rw [pt]
 simp only [av]
 exact ⟨b,q,by simp [ow],hb,o⟩
 simp at h
def U2 {t:TypeId} {a:Bool} {i:TypeInfo} (d:oR P t=some a) (b:P.info? t=some i) {cs:List aa} {xs:Array Value} (g:bl E w cs xs.toList) {o:Nat} {c:aa} (h:aF.part a cs o i.size=some c) :
   ∃ v,(Go.part t xs o).run P w = .ok v w/\av E w c v:=by
 have ⟨h1,k,f⟩:=aj0 h g
 refine ⟨_, ?_,h1⟩
 cases a with
 | true=>simp [Go.part,GU d,nr b]
 | false =>
   have mi:=f rfl
   have:o<xs.size:=by omega
   simp [Go.part,GU d,this]
def FU (y:Inv G own E w σ) {k:Nat} {x:aa} {v:Value} (d:av E w x v) {ys:List aa} {rd:List Id} (h:je σ k x=some (ys,rd)) :
   (∀ e∈ys,e.size=k)/\∃ a cap,v = .slice a ys.length cap/\ys.length<=cap/\(ys=[] \/ ∃ b o,a=some ⟨b,o,none⟩/\ey E w b o (flat ys)):=by
 unfold je at h
 split at h
 simp only [a7,cY] at h
 have ⟨rfl,rfl⟩:=h
 simp only [av] at d;subst d
 exact ⟨by simp,none,0,rfl,a4 _, .inl rfl⟩
 rename_i k' es
 split at h
 rename_i f
 simp only [a7,cY] at h
 have ⟨rfl,rfl⟩:=h
 subst f
 simp only [av] at d
 obtain ⟨a,cap,rfl,A,_,f,c⟩:=d
 exact ⟨f,a,cap,rfl,A,c.imp id λ ⟨b,o,e,_,r⟩=>⟨b,o,e,n9.1 r⟩⟩
 simp at h
 rename_i k' es
 split at h
 rename_i f
 simp only [a7,cY] at h
 have ⟨rfl,rfl⟩:=h
 subst f
 simp only [av] at d
 obtain ⟨a,rfl,_,f,c⟩:=d
 exact ⟨f,a,_,rfl,a4 _,c.imp id λ ⟨b,o,e,_,r⟩=>⟨b,o,e,n9.1 r⟩⟩
 simp at h
 rename_i id k' off len mK
 split at h
 rename_i au B
 split at h
 rename_i u
 have ⟨rfl,j,s⟩:=u
 simp only [a7,cY] at h
 have ⟨rfl,rfl⟩:=h
 have ⟨g,N,t,ty,m⟩:=y.blk id au B
 simp only [av] at d
 obtain ⟨D,F,cap,n,rfl,z,_⟩:=d
 rw [m.μ] at n
 simp only [a7,cY] at n
 have ⟨rfl,_,rfl⟩:=n
 have q:∀ e∈(au.els.drop off).take len,e.size=k' := λ e C=>by rw [<- j];exact m.k e (rk (gq C))
 have i:((au.els.drop off).take len).length=len:=by simp;omega
 refine ⟨q,some ⟨g,off*k',none⟩,cap,by rw [i],by omega, .inr ⟨g,off*k',rfl, ?_⟩⟩
 have:=z1 (l:=off) (r:=off+len) m.k m.row (by omega) s
 rw [c4,j] at this
 have e:(au.els.take (off+len)).drop off=(au.els.drop off).take len:=by rw [ES];congr 1;omega
 rwa [e] at this
 simp at h
 simp at h
 simp at h
def On {b o:Nat} {cs:List aa} (h:ey E w b o cs):∃ vs:List Value,bl E w cs vs/\∀ j v,vs[j]? = some v->w.cell? ((⟨b,o,none⟩:Addr).add j)=some v:=by
 refine ⟨(ba cs.length).map λ j=>(w.cell? ⟨b,o+j,none⟩).getD undef,fe.2 ⟨by simp, λ j c d => ?_⟩, λ j v d => ?_⟩
 have ⟨v,g,f⟩:=h j c d
 have a:j<cs.length:=(eu.1 d).1
 exact ⟨v,by simp [a,g],f⟩
 have a:j<cs.length:=by have:=(eu.1 d).1;simpa using this
 have ⟨i,e,_⟩:=h j cs[j] (by simp [a])
 simp only [iI,a,aab,e5,a7] at d
 rw [pt,e, <- d,e]
 rfl
def MU {cs:List aa} {vs:List Value} (h:bl E w cs vs) (h1:∀ c∈cs,c.one=true):∀ v∈vs,v.oneCell'=true:=by
 intro v f
 have ⟨j,d⟩:=Z8.1 f
 have ⟨g,e⟩:=fe.1 h
 have b:j<cs.length:=by have:=(eu.1 d).1;omega
 have ⟨u,hu,a⟩:=e j cs[j] (by simp [b])
 have:u=v:=by rw [d] at hu;simpa using hu.symm
 subst this
 exact av.one a (h1 _ (by simp))
def F7 (r:Inv G own E w σ) (y:E.μ p=none) (z : σ p=none) {k n N:Nat} {els:List aa} (i:∀ e∈els,e.size=k) (q:els.length=n) {vs:List Value} (u:bl E w (flat els) vs)
   {rest:Array Value} (s:rest.size=(N-n)*k) (h:n<=N) (l:N<=maxLen) (ty:TypeId) {rd:List Id} :
   lJ G own E w σ p { val := .ai p k 0 n false,rd:=rd,up:=[(p,some ⟨els,k,false⟩)] } (.slice (some ⟨w.heap.size,0,none⟩) n N) (E.bind p w.heap.size k N) (w.drew.alloc (.cells (vs.toArray++rest) ty)):=by
 have hd:=r.drew
 have ⟨t,m⟩:=fe.1 u
 have g:=kL i
 have a:e7 E E w w.drew:=(Adv.drew (own:=own) E w).step
 have d:(vs++rest.toList).length=N*k:=by
   simp only [cd,O6,t,g,q,s, <- fg]
   congr 1;omega
 have:=Ht (p:=p) (rd:=rd) hd y z (els:=els) (k:=k) (N:=N) (vs:=vs++rest.toList) ty i
   (λ j c o=>by
     have ⟨v,b,f⟩:=m j c o
     exact ⟨v,by rw [kB (eu.1 b).1];exact b,av.keep a c v f⟩) d (by omega) l
   (c := .ai p k 0 n false) (v := .slice (some ⟨w.heap.size,0,none⟩) n N)
   (by simp only [av];exact ⟨w.heap.size,N,N,Env.uN _ _ _ _ _,by simp,h,by omega,l,by simp⟩)
 have x:(vs++rest.toList).toArray=vs.toArray++rest:=by apply Array.ext';simp
 rw [x] at this
 exact ⟨(Adv.drew E w).trans this.jc,this.inv,this.rep,this.ids⟩
def acM (a:Inv G own E w σ) (id:Id):Inv G own E w (σ.put id none) where
 hh:=a.hh
 blk := λ i au h=>by
   by_cases e:i=id
   subst e;simp [aL.put] at h
   rw [aL.nj _ _ _ e] at h;exact a.blk i au h
 inj := λ i j x y d c b h1 o=>by
   have g:i≠id:=by rintro rfl;simp [aL.put] at d
   have k:j≠id:=by rintro rfl;simp [aL.put] at c
   rw [aL.nj _ _ _ g] at d
   rw [aL.nj _ _ _ k] at c
   exact a.inj i j x y d c b h1 o
 jH:=a.jH
 new:=a.new
def K9 {k:Nat}:∀ {es:List aa} {n:Nat},(∀ x∈es,x.size=k)->flat (es.take n)=(flat es).take (n*k)
 | [],n,_=>by simp [flat]
 | x::es,0,_=>by simp [flat]
 | x::es,n+1,h=>by
   have c:x.cells.length=k:=h x (by simp)
   have b:=K9 (es:=es) (n:=n) (λ y d=>h y (by simp [d]))
   have e:flat (x::es)=x.cells++flat es:=by simp [flat]
   have a:flat ((x::es).take (n+1))=x.cells++flat (es.take n):=by simp [flat]
   rw [e,a,b,show (n+1)*k=x.cells.length+n*k from by rw [c,fg];omega,Zg]
def RU {k:Nat}:∀ {es:List aa} {n:Nat},(∀ x∈es,x.size=k)->flat (es.drop n)=(flat es).drop (n*k)
 | [],n,_=>by simp [flat]
 | x::es,0,_=>by simp
 | x::es,n+1,h=>by
   have c:x.cells.length=k:=h x (by simp)
   have a:=RU (es:=es) (n:=n) (λ y b=>h y (by simp [b]))
   have d:flat (x::es)=x.cells++flat es:=by simp [flat]
   rw [List.drop_succ_cons,a,d,show (n+1)*k=x.cells.length+n*k from by rw [c,fg];omega,Zj]
def WV {G:Nat->Option (List aa)} {own:Nat->Prop} {E:Env} {w:World} {σ : aL} (h:Inv G own E w σ) {id:Id} {au:aN} (V : σ id=some au) (P:au.fr=false)
   {g N:Nat} {a:Array Value} {ty:TypeId} (d:px E own w id au g N a ty)
   {e:Nat} {news:List aa} {vs:List Value} (S:e+news.length<=au.els.length) (z:∀ x∈news,x.size=au.k) (hv:bl E w (flat news) vs) :
   e*au.k+vs.length<=a.size /\
   Adv own E E w (w.setRow g (a.toList.take (e*au.k)++vs++a.toList.drop (e*au.k+vs.length)).toArray) /\
   Inv G own E (w.setRow g (a.toList.take (e*au.k)++vs++a.toList.drop (e*au.k+vs.length)).toArray) (σ.put id (some { au with els:=au.els.take e++news++au.els.drop (e+news.length) })):=by
 have ⟨Q,T⟩:=fe.1 hv
 have O:=kL z
 have q:e*au.k+vs.length<=a.size:=by
   rw [d.size,Q,O, <- fg]
   exact c6 _ (by have:=d.len;omega)
 refine ⟨q, ?_⟩
 generalize H:(a.toList.take (e*au.k)++vs++a.toList.drop (e*au.k+vs.length)).toArray=o
 have hg:=lN d.heap
 have t:(w.setRow g o).heap[g]? = some (.cells o ty (0,0)):=setRow_heap w g a o ty _ d.heap
 have L:e7 E E w (w.setRow g o):=⟨λ _ _ h=>h, λ _ h=>h, λ b hb=>setRow_other w g b o (λ e=>d.no P (e▸hb))⟩
 have R:Adv own E E w (w.setRow g o) :=
   ⟨L,rfl,rfl,rfl,by simp, λ k _ z=>setRow_other w g k o (λ e=>z (e▸d.own)), λ _ h => .inl h⟩
 refine ⟨R, ?_, ?_, ?_, ?_, ?_⟩
 intro b hb;simpa using h.hh b hb
 intro i W r
 by_cases l:i=id
 subst l
 rw [aL.vn] at r
 cases r
 have A:(au.els.take e++news++au.els.drop (e+news.length)).length=au.els.length:=by simp;omega
 have u:∀ x∈au.els.take e++news++au.els.drop (e+news.length),x.size=au.k:=by
   intro x p
   simp only [nC,List.mem_append] at p
   rcases p with p | p | p
   exact d.k x (gq p)
   exact z x p
   exact d.k x (rk p)
 refine ⟨g,N,o,ty,d.μ,t, ?_,by rw [A];exact d.len,d.most,d.own,by simp [P],d.no,u, ?_⟩
 rw [<- H]
 simp only [qZ,cd,cZ,l0,O6]
 rw [<- d.size];omega
 show ey E (w.setRow g o) g 0 (flat (au.els.take e++news++au.els.drop (e+news.length)))
 rw [yS,yS,K9 d.k,RU d.k]
 have hlen:(flat au.els).length=au.els.length*au.k:=kL d.k
 have aeY:au.els.length*au.k<=a.size:=by rw [d.size];exact c6 _ d.len
 have K:(e+news.length)*au.k<=au.els.length*au.k:=c6 _ S
 rw [fg] at K
 intro j c n
 have C:(w.setRow g o).cell? ⟨g,0+j,none⟩=o[j]? := by rw [c4];exact cell_of_row _ _ _ _ _ _ t
 rw [C]
 suffices J:∃ v,o[j]? = some v/\av E w c v by
   have ⟨v,f,m⟩:=J;exact ⟨v,f,av.keep L c v m⟩
 rw [<- H]
 have s:∀ (j:Nat) (c:aa),(flat au.els)[j]? = some c->∃ v:Value,a[j]? = some v/\av E w c v:=by
   intro j c n
   have ⟨v,f,m⟩:=d.row j c n
   rw [c4,cell_of_row _ _ _ _ _ _ d.heap] at f
   exact ⟨v,f,m⟩
 simp only [Ep]
 have ha:(a.toList.take (e*au.k)).length=e*au.k:=by simp;omega
 have hb:((flat au.els).take (e*au.k)).length=e*au.k:=by simp;omega
 rw [nC] at n ⊢
 by_cases Z:j<e*au.k
 rw [kB (by omega),vI Z] at n
 rw [kB (by omega),vI Z]
 have ⟨v,f,m⟩:=s j c n
 exact ⟨v,by simpa using f,m⟩
 rw [kh (by omega),hb] at n
 rw [kh (by omega),ha]
 by_cases pC:j-e*au.k<(flat news).length
 rw [kB pC] at n
 rw [kB (by omega)]
 have ⟨v,f,m⟩:=T _ c n
 exact ⟨v,f,m⟩
 rw [kh (by omega),sE] at n
 rw [kh (by omega),sE,Q]
 rw [O] at n pC ⊢
 have e1:(e+news.length)*au.k+(j-e*au.k-news.length*au.k)=j:=by rw [fg];omega
 have e2:e*au.k+news.length*au.k+(j-e*au.k-news.length*au.k)=j:=by omega
 rw [e1] at n;rw [e2]
 have ⟨v,f,m⟩:=s _ c n
 exact ⟨v,by simpa using f,m⟩
 rw [aL.nj _ _ _ l] at r
 have ⟨F,oz,I,Y,D⟩:=h.blk i W r
 have B:F≠g:=h.inj i id _ _ (by simp [r]) (by simp [V]) l D.μ d.μ
 exact ⟨F,oz,I,Y,D.keep L (setRow_other w g F o B) D.no⟩
 intro i j x y r n B p hy
 refine h.inj i j x y ?_ ?_ B p hy
 intro M;by_cases l:i=id
 subst l;simp [V] at M
 rw [aL.nj _ _ _ l] at r;exact r M
 intro M;by_cases l:j=id
 subst l;simp [V] at M
 rw [aL.nj _ _ _ l] at n;exact n M
 intro F cs U
 have ⟨mi,X⟩:=h.jH F cs U
 exact ⟨mi,eE.keep L.bare (L.same F mi) cs 0 X⟩
 intro k z;simp at z;exact h.new k z
end
end Go.aF
