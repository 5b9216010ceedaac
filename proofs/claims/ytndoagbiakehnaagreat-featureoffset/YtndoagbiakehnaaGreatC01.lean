/- For the claim of FeatureOffset: parts VL1, VL2, VL3, VL4, VL5, VL6, VL7, VL8. -/
import Derived.Calls
import Derived.Below
import Derived.Laws.AppendOwn
import Derived.Laws.CopyRow
import Derived.Laws.Tables
import Derived.Laws.NewBlocks
import Derived.Laws.OwnMore
import Derived.WideLaws
import Derived.StringKeys
import Derived.Laws.Closers25
import Derived.LaidEql
import Derived.Laws.Append
import Derived.Great.BuildSlice
import Derived.Laws.Strings
set_option linter.unusedSimpArgs false
set_option linter.unusedVariables false
section
namespace Go.VL
inductive AV where
 | bool (b:Bool)
 | int (k:IntKind) (n:Int)
 | str (l:List UInt8)
 | nilp
 | nilf
 | fn (f:Fn) (first cap:List AV)
 | agg (cs:List AV)
 | tup (cs:List AV)
 | sl (k:Nat) (es:List AV)
 | tsl (k:Nat) (es:List AV)
 | nils
 | osl (id:List Nat) (k off len:Nat) (tight:Bool)
 | ref (id:List Nat) (e o:Nat)
 | ep (cs:List AV) (o:Nat)
 | top
 | anyb
 | ige (n:Nat)
instance:Inhabited AV:=⟨.top⟩
abbrev Id:=List Nat
def AV.cells:AV->List AV
 | .agg cs=>cs
 | c=>[c]
def AV.size (c:AV):Nat:=c.cells.length
def AV.one:AV->Bool
 | .agg _ | .tup _ | .top | .anyb | .ige _=>false
 | _=>true
def flat (es:List AV):List AV:=es.flatMap AV.cells
structure Env where
 μ : Id->Option (Nat × Nat × Nat)
 ok:Nat->Prop
mutual
def aN (E:Env) (w:World):AV->Value->Prop
 | .bool b,v=>v = .bool b
 | .int k n,v=>v = .int k n
 | .str l,v=>v = .string ⟨l.toArray⟩
 | .nilp,v=>v = .pointer none
 | .nilf,v=>v = .nilFunc
 | .fn f a c,v=>∃ xs ys:Array Value,v = .func f xs ys/\aU E w a xs.toList/\aU E w c ys.toList
 | .agg cs,v=>∃ xs:Array Value,v = .agg xs/\aU E w cs xs.toList
 | .tup cs,v=>∃ xs:Array Value,v = .tuple xs/\aU E w cs xs.toList
 | .sl k es,v=>∃ (a:Option Addr) (cap:Nat),v = .slice a es.length cap/\es.length<=cap/\cap<=maxLen/\(∀ e∈es,e.size=k) /\
     (es=[]∨∃ b o,a=some ⟨b,o,none⟩/\E.ok b/\bm E w b o es)
 | .tsl k es,v=>∃ (a:Option Addr),v = .slice a es.length es.length/\es.length<=maxLen/\(∀ e∈es,e.size=k) /\
     (es=[]∨∃ b o,a=some ⟨b,o,none⟩/\E.ok b/\bm E w b o es)
 | .nils,v=>v = .slice none 0 0
 | .osl id k off len tight,v=>∃ g N cap,E.μ id=some (g,k,N)/\v = .slice (some ⟨g,off*k,none⟩) len cap/\len<=cap /\
     off+cap<=N/\N<=maxLen/\(if tight then cap=len else off+cap=N)
 | .ref id e o,v=>∃ g k N,E.μ id=some (g,k,N)/\v = .pointer (some ⟨g,e*k+o,none⟩)
 | .ep cs o,v=>∃ b p,v = .pointer (some ⟨b,p+o,none⟩)/\E.ok b/\bq E w b p cs
 | .top,_=>True
 | .anyb,v=>∃ b,v = .bool b
 | .ige n,v=>∃ m:Nat,n<=m/\v = .int .i64 m
def aU (E:Env) (w:World):List AV->List Value->Prop
 | [],vs=>vs=[]
 | c::cs,vs=>∃ v rest,vs=v::rest/\aN E w c v/\aU E w cs rest
def bm (E:Env) (w:World) (b o:Nat):List AV->Prop
 | []=>True
 | .agg cs::es=>bq E w b o cs/\bm E w b (o+cs.length) es
 | c::es=>(∃ v,w.cell? ⟨b,o,none⟩=some v/\aN E w c v)/\bm E w b (o+1) es
def bq (E:Env) (w:World) (b o:Nat):List AV->Prop
 | []=>True
 | c::cs=>(∃ v,w.cell? ⟨b,o,none⟩=some v/\aN E w c v)/\bq E w b (o+1) cs
end
theorem w7 {w w':World} {b o:Nat} (h:w'.heap[b]? = w.heap[b]?):w'.cell? ⟨b,o,none⟩=w.cell? ⟨b,o,none⟩ :=
 World.cell?_of_block (a:=⟨b,o,none⟩) h
structure Step (E E':Env) (w w':World):Prop where
 μ : ∀ id x,E.μ id=some x->E'.μ id=some x
 ok:∀ b,E.ok b->E'.ok b
 same:∀ b,E.ok b->w'.heap[b]? = w.heap[b]?
mutual
theorem aN.keep {E E':Env} {w w':World} (h:Step E E' w w'):∀ (c:AV) (v:Value),aN E w c v->aN E' w' c v
 | .bool _,_,r=>by simpa [aN] using r
 | .int _ _,_,r=>by simpa [aN] using r
 | .str _,_,r=>by simpa [aN] using r
 | .nilp,_,r=>by simpa [aN] using r
 | .nilf,_,r=>by simpa [aN] using r
 | .nils,_,r=>by simpa [aN] using r
 | .top,_,_=>by simp [aN]
 | .anyb,_,r=>by simpa [aN] using r
 | .ige _,_,r=>by simpa [aN] using r
 | .fn f a c,v,r=>by
   simp only [aN] at r ⊢
   obtain ⟨xs,ys,e,ra,rc⟩:=r
   exact ⟨xs,ys,e,aU.keep h a _ ra,aU.keep h c _ rc⟩
 | .agg cs,v,r=>by
   simp only [aN] at r ⊢
   obtain ⟨xs,e,ra⟩:=r
   exact ⟨xs,e,aU.keep h cs _ ra⟩
 | .tup cs,v,r=>by
   simp only [aN] at r ⊢
   obtain ⟨xs,e,ra⟩:=r
   exact ⟨xs,e,aU.keep h cs _ ra⟩
 | .sl k es,v,r=>by
   simp only [aN] at r ⊢
   obtain ⟨a,cap,e,h1,h2,hk,h3⟩:=r
   refine ⟨a,cap,e,h1,h2,hk,h3.imp id ?_⟩
   rintro ⟨b,o,ea,hb,hr⟩
   exact ⟨b,o,ea,h.ok b hb,bm.keep h (h.same b hb) es o hr⟩
 | .tsl k es,v,r=>by
   simp only [aN] at r ⊢
   obtain ⟨a,e,h2,hk,h3⟩:=r
   refine ⟨a,e,h2,hk,h3.imp id ?_⟩
   rintro ⟨b,o,ea,hb,hr⟩
   exact ⟨b,o,ea,h.ok b hb,bm.keep h (h.same b hb) es o hr⟩
 | .osl id k off len t,v,r=>by
   simp only [aN] at r ⊢
   obtain ⟨g,N,cap,hm,rest⟩:=r
   exact ⟨g,N,cap,h.μ _ _ hm,rest⟩
 | .ref id e o,v,r=>by
   simp only [aN] at r ⊢
   obtain ⟨g,k,N,hm,rest⟩:=r
   exact ⟨g,k,N,h.μ _ _ hm,rest⟩
 | .ep cs o,v,r=>by
   simp only [aN] at r ⊢
   obtain ⟨b,p,e,hb,hr⟩:=r
   exact ⟨b,p,e,h.ok b hb,bq.keep h (h.same b hb) cs p hr⟩
theorem aU.keep {E E':Env} {w w':World} (h:Step E E' w w'):∀ (cs:List AV) (vs:List Value),aU E w cs vs->aU E' w' cs vs
 | [],_,r=>by simpa [aU] using r
 | c::cs,vs,r=>by
   simp only [aU] at r ⊢
   obtain ⟨v,rest,e,r1,r2⟩:=r
   exact ⟨v,rest,e,aN.keep h c v r1,aU.keep h cs rest r2⟩
theorem bm.keep {E E':Env} {w w':World} (h:Step E E' w w') {b:Nat} (hb:w'.heap[b]? = w.heap[b]?):∀ (es:List AV) (o:Nat),bm E w b o es->bm E' w' b o es
 | [],_,_=>by simp [bm]
 | .agg cs::es,o,r=>by
   simp only [bm] at r ⊢
   exact ⟨bq.keep h hb cs o r.1,bm.keep h hb es _ r.2⟩
 | .bool _::es,o,r | .int _ _::es,o,r | .str _::es,o,r | .nilp::es,o,r | .nilf::es,o,r | .nils::es,o,r | .top::es,o,r | .anyb::es,o,r | .ige _::es,o,r | .fn _ _ _::es,o,r
 | .tup _::es,o,r | .sl _ _::es,o,r | .tsl _ _::es,o,r | .osl _ _ _ _ _::es,o,r | .ref _ _ _::es,o,r | .ep _ _::es,o,r=>by
   simp only [bm] at r ⊢
   obtain ⟨⟨v,hv,hr⟩,r2⟩:=r
   exact ⟨⟨v,(w7 hb).trans hv,aN.keep h _ v hr⟩,bm.keep h hb es _ r2⟩
theorem bq.keep {E E':Env} {w w':World} (h:Step E E' w w') {b:Nat} (hb:w'.heap[b]? = w.heap[b]?):∀ (cs:List AV) (o:Nat),bq E w b o cs->bq E' w' b o cs
 | [],_,_=>by simp [bq]
 | c::cs,o,r=>by
   simp only [bq] at r ⊢
   obtain ⟨⟨v,hv,hr⟩,r2⟩:=r
   exact ⟨⟨v,(w7 hb).trans hv,aN.keep h c v hr⟩,bq.keep h hb cs _ r2⟩
end
def fy (E:Env) (w:World) (b o:Nat) (cs:List AV):Prop:=∀ j c,cs[j]? = some c->∃ v,w.cell? ⟨b,o+j,none⟩=some v/\aN E w c v
theorem fN {E:Env} {w:World} {b:Nat}:∀ {cs:List AV} {o:Nat},bq E w b o cs↔fy E w b o cs
 | [],o=>by simp [bq,fy]
 | c :: cs,o=>by
   simp only [bq]
   rw [fN (cs:=cs)]
   constructor
   . rintro ⟨h,hr⟩ j c' hj
     cases j with
     | zero=>simp only [List.getElem?_cons_zero,Option.some.injEq] at hj;subst hj;exact h
     | succ j =>
       simp only [List.getElem?_cons_succ] at hj
       have:=hr j c' hj
       rwa [show o+(j+1)=o+1+j from by omega]
   . intro h
     refine ⟨h 0 c rfl,fun j c' hj => ?_⟩
     have:=h (j+1) c' (by simpa using hj)
     rwa [show o+(j+1)=o+1+j from by omega] at this
theorem w9 {E:Env} {w:World} {b o:Nat} {xs ys:List AV}:fy E w b o (xs++ys)↔fy E w b o xs/\fy E w b (o+xs.length) ys:=by
 constructor
 . intro h
   refine ⟨fun j c hj => ?_,fun j c hj => ?_⟩
   . exact h j c (by rw [List.getElem?_append_left (List.getElem?_eq_some_iff.1 hj).1];exact hj)
   . have:=h (xs.length+j) c (by rw [List.getElem?_append_right (by omega)];simpa using hj)
     rwa [<- Nat.add_assoc] at this
 . rintro ⟨h1,h2⟩ j c hj
   by_cases hlt:j<xs.length
   . rw [List.getElem?_append_left hlt] at hj;exact h1 j c hj
   . rw [List.getElem?_append_right (by omega)] at hj
     have:=h2 (j-xs.length) c hj
     rwa [show o+xs.length+(j-xs.length)=o+j from by omega] at this
theorem SZ {E:Env} {w:World} {b o:Nat} {c:AV}:fy E w b o [c]↔∃ v,w.cell? ⟨b,o,none⟩=some v/\aN E w c v:=by
 constructor
 . intro h;exact h 0 c rfl
 . intro h j c' hj
   cases j with
   | zero=>simp only [List.getElem?_cons_zero,Option.some.injEq] at hj;subst hj;exact h
   | succ j=>simp at hj
theorem dY {E:Env} {w:World} {b:Nat}:∀ {es:List AV} {o:Nat},bm E w b o es↔fy E w b o (flat es)
 | [],o=>by simp [bm,fy,flat]
 | e::es,o=>by
   have ih:=fun o=>dY (E:=E) (w:=w) (b:=b) (es:=es) (o:=o)
   have hf:flat (e::es)=e.cells++flat es:=by simp [flat]
   rw [hf,w9]
   cases e<;>simp only [bm,AV.cells,ih,fN,SZ,List.length_singleton]
theorem fy.keep {E E':Env} {w w':World} (h:Step E E' w w') {b:Nat} (hb:w'.heap[b]? = w.heap[b]?) {cs:List AV} {o:Nat} (r:fy E w b o cs):fy E' w' b o cs :=
 fun j c hj=>let ⟨v,hv,hr⟩:=r j c hj;⟨v,(w7 hb).trans hv,aN.keep h c v hr⟩
theorem cO {k:Nat}:∀ {es:List AV},(∀ e∈es,e.size=k)->(flat es).length=es.length*k
 | [],_=>by simp [flat]
 | e::es,h=>by
   have ih:=cO (es:=es) (fun x hx=>h x (by simp [hx]))
   have he:e.cells.length=k:=h e (by simp)
   have hf:flat (e::es)=e.cells++flat es:=by simp [flat]
   rw [hf,List.length_append,ih,he,List.length_cons,Nat.add_mul]
   omega
theorem flat_get {k:Nat}:∀ {es:List AV} {i:Nat} {e:AV} {j:Nat},(∀ e∈es,e.size=k)->es[i]? = some e->j<k->(flat es)[i*k+j]? = e.cells[j]?
 | [],_,_,_,_,h,_=>by simp at h
 | x::es,0,e,j,h,he,hj=>by
   simp only [List.getElem?_cons_zero,Option.some.injEq] at he
   subst he
   have hx:x.cells.length=k:=h x (by simp)
   have hf:flat (x::es)=x.cells++flat es:=by simp [flat]
   rw [hf,List.getElem?_append_left (by omega)]
   simp
 | x::es,i+1,e,j,h,he,hj=>by
   simp only [List.getElem?_cons_succ] at he
   have hx:x.cells.length=k:=h x (by simp)
   have hf:flat (x::es)=x.cells++flat es:=by simp [flat]
   have ih:=flat_get (es:=es) (fun x hx=>h x (by simp [hx])) he hj
   rw [hf,List.getElem?_append_right (by rw [hx,Nat.add_mul];omega),hx, <- ih]
   congr 1
   rw [Nat.add_mul];omega
theorem ow (xs ys:List AV):flat (xs++ys)=flat xs++flat ys:=by simp [flat]
theorem Mr {E:Env} {w:World} {b o k:Nat} {es:List AV} {i:Nat} {e:AV} (hk:∀ e∈es,e.size=k) (h:fy E w b o (flat es)) (he:es[i]? = some e) :
   fy E w b (o+i*k) e.cells:=by
 intro j c hj
 have hlt:j<k:=by
   have:=(List.getElem?_eq_some_iff.1 hj).1
   have h2:e.cells.length=k:=hk e (List.mem_of_getElem? he)
   omega
 have:=h (i*k+j) c (by rw [flat_get hk he hlt];exact hj)
 rwa [<- Nat.add_assoc] at this
end Go.VL
end

section
namespace Go.VL
structure dc where
 els:List AV
 k:Nat
 fr:Bool:=false
abbrev ae:=Id->Option dc
def ae.put (σ : ae) (id:Id) (b:Option dc):ae:=fun i=>if i=id then b else σ i
theorem ae.dO (σ : ae) (id:Id) (b:Option dc) : σ.put id b id=b:=by simp [ae.put]
theorem ae.cN (σ : ae) (id:Id) (b:Option dc) {i:Id} (h:i≠id) : σ.put id b i = σ i:=by simp [ae.put,h]
structure yq (E:Env) (own:Nat->Prop) (w:World) (id:Id) (bk:dc) (g N:Nat) (cur:Array Value) (ty:TypeId):Prop where
 μ : E.μ id=some (g,bk.k,N)
 heap:w.heap[g]? = some (.cells cur ty (0,0))
 size:cur.size=N*bk.k
 len:bk.els.length<=N
 most:N<=maxLen
 own:own g
 ok:bk.fr=true->E.ok g
 no:bk.fr=false -> ¬ E.ok g
 k:∀ e∈bk.els,e.size=bk.k
 row:fy E w g 0 (flat bk.els)
def abw (E:Env) (own:Nat->Prop) (w:World) (id:Id) (bk:dc):Prop:=∃ g N cur ty,yq E own w id bk g N cur ty
def Env.bare (E:Env):Env:=⟨fun _=>none,E.ok⟩
structure Inv (G:Nat->Option (List AV)) (own:Nat->Prop) (E:Env) (w:World) (σ : ae):Prop where
 okb:∀ b,E.ok b->b<w.heap.size
 blk:∀ id bk, σ id=some bk->abw E own w id bk
 inj:∀ i j x y, σ i≠none -> σ j≠none->i≠j->E.μ i=some x->E.μ j=some y->x.1≠y.1
 glob:∀ g cs,G g=some cs->E.ok g/\bq E.bare w g 0 cs
 new:∀ k,w.heap.size<=k->own k
structure Adv (own:Nat->Prop) (E E':Env) (w w':World):Prop where
 step:Step E E' w w'
 os:w'.os=w.os
 tape:w'.tape=w.tape
 output:w'.output=w.output
 size:w.heap.size<=w'.heap.size
 block:∀ k,k<w.heap.size -> ¬ own k->w'.heap[k]? = w.heap[k]?
 YE:∀ b,E'.ok b->E.ok b∨own b
theorem Step.bare {E E':Env} {w w':World} (h:Step E E' w w'):Step E.bare E'.bare w w':=⟨fun _ _ h=>by simp [Env.bare] at h,h.ok,h.same⟩
theorem Step.ade (E:Env) (w:World):Step E.bare E w w:=⟨fun _ _ h=>by simp [Env.bare] at h,fun _ h=>h,fun _ _=>rfl⟩
theorem Step.refl (E:Env) (w:World):Step E E w w:=⟨fun _ _ h=>h,fun _ h=>h,fun _ _=>rfl⟩
theorem Step.trans {E E' E'':Env} {w w' w'':World} (a:Step E E' w w') (b:Step E' E'' w' w''):Step E E'' w w'' :=
 ⟨fun i x h=>b.μ i x (a.μ i x h),fun x h=>b.ok x (a.ok x h),fun x h=>(b.same x (a.ok x h)).trans (a.same x h)⟩
theorem Adv.refl (own:Nat->Prop) (E:Env) (w:World):Adv own E E w w :=
 ⟨Step.refl E w,rfl,rfl,rfl,Nat.le_refl _,fun _ _ _=>rfl,fun _ h => .inl h⟩
theorem Adv.trans {own:Nat->Prop} {E E' E'':Env} {w w' w'':World} (a:Adv own E E' w w') (b:Adv own E' E'' w' w''):Adv own E E'' w w'' :=
 ⟨a.step.trans b.step,b.os.trans a.os,b.tape.trans a.tape,b.output.trans a.output,Nat.le_trans a.size b.size,
   fun k hk ho=>(b.block k (Nat.lt_of_lt_of_le hk a.size) ho).trans (a.block k hk ho),
   fun x h=>(b.YE x h).elim (fun h=>a.YE x h) .inr⟩
theorem Adv.drew {own:Nat->Prop} (E:Env) (w:World):Adv own E E w w.drew :=
 ⟨⟨fun _ _ h=>h,fun _ h=>h,fun _ _=>rfl⟩,rfl,rfl,rfl,Nat.le_refl _,fun _ _ _=>rfl,fun _ h => .inl h⟩
theorem yq.keep {E E':Env} {own:Nat->Prop} {w w':World} {id:Id} {bk:dc} {g N:Nat} {cur:Array Value} {ty:TypeId} (h:yq E own w id bk g N cur ty)
   (s:Step E E' w w') (hb:w'.heap[g]? = w.heap[g]?) (hno:bk.fr=false -> ¬ E'.ok g):yq E' own w' id bk g N cur ty :=
 ⟨s.μ _ _ h.μ,hb.trans h.heap,h.size,h.len,h.most,h.own,fun hf=>s.ok _ (h.ok hf),hno,h.k,fy.keep s hb h.row⟩
theorem ic {w:World} {g:Nat} {o:Obj} (h:w.heap[g]? = some o):g<w.heap.size:=(Array.getElem?_eq_some_iff.1 h).1
theorem Inv.keep {G:Nat->Option (List AV)} {own:Nat->Prop} {E E':Env} {w w':World} {σ : ae} (h:Inv G own E w σ) (a:Adv own E E' w w')
   (hμ : E'.μ = E.μ) (ib:∀ b,E'.ok b->b<w'.heap.size)
   (hb:∀ id bk g N, σ id=some bk->E.μ id=some (g,bk.k,N)->w'.heap[g]? = w.heap[g]? /\ (bk.fr=false -> ¬ E'.ok g)):Inv G own E' w' σ where
 okb:=ib
 blk:=fun id bk hs=>by
   obtain ⟨g,N,cur,ty,hB⟩:=h.blk id bk hs
   obtain ⟨h1,h2⟩:=hb id bk g N hs hB.μ
   exact ⟨g,N,cur,ty,hB.keep a.step h1 h2⟩
 inj:=by rw [hμ];exact h.inj
 glob:=fun g cs hg=>let ⟨h1,h2⟩:=h.glob g cs hg;⟨a.step.ok g h1,bq.keep a.step.bare (a.step.same g h1) cs 0 h2⟩
 new:=fun k hk=>h.new k (Nat.le_trans a.size hk)
theorem Inv.drew {G:Nat->Option (List AV)} {own:Nat->Prop} {E:Env} {w:World} {σ : ae} (h:Inv G own E w σ):Inv G own E w.drew σ :=
 h.keep (Adv.drew E w) rfl h.okb (fun id bk g N hs hm=>⟨rfl,fun hf=>by obtain ⟨g',N',cur,ty,hB⟩:=h.blk id bk hs;have:=hB.μ.symm.trans hm;simp only [Option.some.injEq,Prod.mk.injEq] at this;rw [<- this.1];exact hB.no hf⟩)
def Em (E:Env) (w:World) (cs:List AV) (vs:List Value):Prop:=∀ (j:Nat) (c:AV),cs[j]? = some c->∃ v:Value,vs[j]? = some v/\aN E w c v
theorem aU.len {E:Env} {w:World}:∀ {cs:List AV} {vs:List Value},aU E w cs vs->vs.length=cs.length
 | [],vs,h=>by simp only [aU] at h;simp [h]
 | c::cs,vs,h=>by
   simp only [aU] at h
   obtain ⟨v,rest,rfl,_,h2⟩:=h
   simp [aU.len h2]
theorem bT {E:Env} {w:World}:∀ {cs:List AV} {vs:List Value},aU E w cs vs↔vs.length=cs.length/\Em E w cs vs
 | [],vs=>by simp [aU,Em]
 | c :: cs,vs=>by
   constructor
   . intro h
     refine ⟨aU.len h, ?_⟩
     simp only [aU] at h
     obtain ⟨v,rest,rfl,h1,h2⟩:=h
     intro j d hj
     cases j with
     | zero=>simp only [List.getElem?_cons_zero,Option.some.injEq] at hj;subst hj;exact ⟨v,rfl,h1⟩
     | succ j=>simpa using (bT.1 h2).2 j d (by simpa using hj)
   . rintro ⟨hl,h⟩
     simp only [aU]
     obtain ⟨v,hv,h1⟩:=h 0 c rfl
     cases vs with
     | nil=>simp at hv
     | cons x rest =>
       simp only [List.getElem?_cons_zero,Option.some.injEq] at hv
       subst hv
       refine ⟨x,rest,rfl,h1,bT.2 ⟨by simpa using hl,fun j d hj => ?_⟩⟩
       simpa using h (j+1) d (by simpa using hj)
theorem Em.append {E:Env} {w:World} {xs ys:List AV} {us vs:List Value} (h1:Em E w xs us) (hl:us.length=xs.length) (h2:Em E w ys vs):Em E w (xs++ys) (us++vs):=by
 intro j c hj
 by_cases hlt:j<xs.length
 . rw [List.getElem?_append_left hlt] at hj
   rw [List.getElem?_append_left (by omega)];exact h1 j c hj
 . rw [List.getElem?_append_right (by omega)] at hj
   rw [List.getElem?_append_right (by omega),hl];exact h2 _ c hj
theorem Em.keep {E E':Env} {w w':World} (s:Step E E' w w') {cs:List AV} {vs:List Value} (h:Em E w cs vs):Em E' w' cs vs :=
 fun j c hj=>let ⟨v,hv,hr⟩:=h j c hj;⟨v,hv,aN.keep s c v hr⟩
theorem aN.one {E:Env} {w:World}:∀ {c:AV} {v:Value},aN E w c v->c.one=true->v.oneCell'=true
 | .bool _,_,h,_ | .int _ _,_,h,_ | .str _,_,h,_ | .nilp,_,h,_ | .nilf,_,h,_ | .nils,_,h,_=>by simp only [aN] at h;subst h;rfl
 | .fn _ _ _,_,h,_=>by simp only [aN] at h;obtain ⟨_,_,rfl,_⟩:=h;rfl
 | .sl _ _,_,h,_=>by simp only [aN] at h;obtain ⟨_,_,rfl,_⟩:=h;rfl
 | .tsl _ _,_,h,_=>by simp only [aN] at h;obtain ⟨_,rfl,_⟩:=h;rfl
 | .osl _ _ _ _ _,_,h,_=>by simp only [aN] at h;obtain ⟨_,_,_,_,rfl,_⟩:=h;rfl
 | .ref _ _ _,_,h,_=>by simp only [aN] at h;obtain ⟨_,_,_,_,rfl⟩:=h;rfl
 | .ep _ _,_,h,_=>by simp only [aN] at h;obtain ⟨_,_,rfl,_⟩:=h;rfl
theorem aN.cells {E:Env} {w:World}:∀ {c:AV} {v:Value},aN E w c v->(c.one=true∨∃ cs,c = .agg cs)->aU E w c.cells v.cells.toList
 | .agg cs,v,h,_=>by simp only [aN] at h;obtain ⟨xs,rfl,h⟩:=h;exact h
 | .tup _,_,_,h=>by simp [AV.one] at h
 | .top,_,_,h | .anyb,_,_,h | .ige _,_,_,h=>by simp [AV.one] at h
 | .bool _,v,h,_ | .int _ _,v,h,_ | .str _,v,h,_ | .nilp,v,h,_ | .nilf,v,h,_ | .nils,v,h,_=>by
   have h':=h
   simp only [aN] at h;subst h;simp only [AV.cells,Value.cells,aU];exact ⟨_,_,rfl,h',rfl⟩
 | .fn _ _ _,v,h,_=>by
   have h':=h
   simp only [aN] at h;obtain ⟨_,_,rfl,_⟩:=h;simp only [AV.cells,Value.cells,aU];exact ⟨_,_,rfl,h',rfl⟩
 | .sl _ _,v,h,_=>by
   have h':=h
   simp only [aN] at h;obtain ⟨_,_,rfl,_⟩:=h;simp only [AV.cells,Value.cells,aU];exact ⟨_,_,rfl,h',rfl⟩
 | .tsl _ _,v,h,_=>by
   have h':=h
   simp only [aN] at h;obtain ⟨_,rfl,_⟩:=h;simp only [AV.cells,Value.cells,aU];exact ⟨_,_,rfl,h',rfl⟩
 | .osl _ _ _ _ _,v,h,_=>by
   have h':=h
   simp only [aN] at h;obtain ⟨_,_,_,_,rfl,_⟩:=h;simp only [AV.cells,Value.cells,aU];exact ⟨_,_,rfl,h',rfl⟩
 | .ref _ _ _,v,h,_=>by
   have h':=h
   simp only [aN] at h;obtain ⟨_,_,_,_,rfl⟩:=h;simp only [AV.cells,Value.cells,aU];exact ⟨_,_,rfl,h',rfl⟩
 | .ep _ _,v,h,_=>by
   have h':=h
   simp only [aN] at h;obtain ⟨_,_,rfl,_⟩:=h;simp only [AV.cells,Value.cells,aU];exact ⟨_,_,rfl,h',rfl⟩
def Env.bind (E:Env) (id:Id) (g k N:Nat):Env:={ E with μ := fun i=>if i=id then some (g,k,N) else E.μ i }
theorem Env.jQ (E:Env) (id:Id) (g k N:Nat):(E.bind id g k N).μ id=some (g,k,N):=by simp [Env.bind]
theorem Env.ju (E:Env) (id:Id) (g k N:Nat) {i:Id} (h:i≠id):(E.bind id g k N).μ i=E.μ i:=by simp [Env.bind,h]
theorem uI (w:World) (o:Obj) {k:Nat} (h:k<w.heap.size):(w.alloc o).heap[k]? = w.heap[k]? := heap_alloc_old w o k h
theorem size_alloc (w:World) (o:Obj):(w.alloc o).heap.size=w.heap.size+1:=by simp
theorem Step.alloc {E:Env} {w:World} {id:Id} (qg:E.μ id=none) (akT:∀ b,E.ok b->b<w.heap.size) (o:Obj) (k N:Nat) :
   Step E (E.bind id w.heap.size k N) w (w.alloc o) where
 μ := fun i x h=>by rw [Env.ju];exact h;rintro rfl;simp [qg] at h
 ok:=fun _ h=>h
 same:=fun b hb=>uI w o (akT b hb)
theorem U2 {G:Nat->Option (List AV)} {own:Nat->Prop} {E:Env} {w:World} {σ : ae} (h:Inv G own E w σ) {id:Id} (qg:E.μ id=none) (hσ : σ id=none)
   {els:List AV} {k N:Nat} {vs:List Value} (ty:TypeId) (hk:∀ e∈els,e.size=k) (hv:Em E w (flat els) vs) (hl:vs.length=N*k) (hN:els.length<=N) (hm:N<=maxLen) :
   Adv own E (E.bind id w.heap.size k N) w (w.alloc (.cells vs.toArray ty))/\Inv G own (E.bind id w.heap.size k N) (w.alloc (.cells vs.toArray ty)) (σ.put id (some ⟨els,k,false⟩)):=by
 have hs:Step E (E.bind id w.heap.size k N) w (w.alloc (.cells vs.toArray ty)):=Step.alloc qg h.okb _ k N
 have ig:Adv own E (E.bind id w.heap.size k N) w (w.alloc (.cells vs.toArray ty)) :=
   ⟨hs,rfl,rfl,rfl,by rw [size_alloc];omega,fun k hk _=>uI w _ hk,fun _ hb => .inl hb⟩
 refine ⟨ig, ?_, ?_, ?_, ?_, ?_⟩
 . intro b hb;rw [size_alloc];have:=h.okb b hb;omega
 . intro i bk hi
   by_cases he:i=id
   . subst he
     rw [ae.dO] at hi
     simp only [Option.some.injEq] at hi
     subst hi
     refine ⟨w.heap.size,N,vs.toArray,ty,Env.jQ _ _ _ _ _,heap_alloc_new w _,by simpa using hl,hN,hm,h.new _ (Nat.le_refl _),by simp,fun _ hb => ?_,hk, ?_⟩
     . exact absurd (h.okb _ hb) (by omega)
     . intro j c hj
       obtain ⟨v,qq,xd⟩:=hv j c hj
       refine ⟨v, ?_,aN.keep hs c v xd⟩
       rw [cell_of_row _ _ _ _ _ _ (heap_alloc_new w (.cells vs.toArray ty))]
       simpa using qq
   . rw [ae.cN _ _ _ he] at hi
     obtain ⟨g,N',cur,Pp,hB⟩:=h.blk i bk hi
     have hg:=ic hB.heap
     exact ⟨g,N',cur,Pp,hB.keep hs (uI w _ hg) (fun hf=>hB.no hf)⟩
 . intro i j x y hi hj hne hx hy
   by_cases dT:i=id
   . subst dT
     have UN:j≠i:=fun e=>hne e.symm
     rw [ae.cN _ _ _ UN] at hj
     rw [Env.jQ] at hx
     rw [Env.ju _ _ _ _ _ UN] at hy
     cases hb : σ j with
     | none=>exact absurd hb hj
     | some bk =>
       obtain ⟨g,N',cur,Pp,hB⟩:=h.blk j bk hb
       have hg:=ic hB.heap
       rw [hB.μ] at hy
       simp only [Option.some.injEq] at hx hy
       rw [<- hx, <- hy];simp only [];omega
   . rw [ae.cN _ _ _ dT] at hi
     rw [Env.ju _ _ _ _ _ dT] at hx
     by_cases UN:j=id
     . subst UN
       rw [Env.jQ] at hy
       cases hb : σ i with
       | none=>exact absurd hb hi
       | some bk =>
         obtain ⟨g,N',cur,Pp,hB⟩:=h.blk i bk hb
         have hg:=ic hB.heap
         rw [hB.μ] at hx
         simp only [Option.some.injEq] at hx hy
         rw [<- hx, <- hy];simp only [];omega
     . rw [ae.cN _ _ _ UN] at hj
       rw [Env.ju _ _ _ _ _ UN] at hy
       exact h.inj i j x y hi hj hne hx hy
 . intro g cs hg
   obtain ⟨h1,h2⟩:=h.glob g cs hg
   exact ⟨h1,bq.keep hs.bare (hs.same g h1) cs 0 h2⟩
 . intro k hk;rw [size_alloc] at hk;exact h.new k (by omega)
def AV.upd (c:AV) (o:Nat) (new:List AV):AV :=
 match c with
 | .agg cs => .agg (cs.take o++new++cs.drop (o+new.length))
 | c=>new.headD c
theorem AV.Jv {c:AV} {o:Nat} {new:List AV} (h:o+new.length<=c.size) (h1:∀ x∈new,x.one=true):(c.upd o new).cells=c.cells.take o++new++c.cells.drop (o+new.length):=by
 have single:∀ c:AV,c.cells=[c]->c.upd o new=new.headD c->o+new.length<=c.size->(c.upd o new).cells=c.cells.take o++new++c.cells.drop (o+new.length):=by
   intro c hc hu hle
   rw [hu,hc]
   simp only [AV.size,hc,List.length_singleton] at hle
   match new,h1,hle with
   | [],_,hle =>
     have:o=0∨o=1:=by simp at hle;omega
     rcases this with rfl | rfl<;>simp [hc]
   | [x],h1,hle =>
     have ho:o=0:=by simp at hle;omega
     subst ho
     have hx:=h1 x (by simp)
     cases x<;>simp [AV.one] at hx<;>simp [AV.cells]
   | _::_::_,_,hle=>simp at hle;omega
 cases c<;>first | exact single _ rfl rfl h | rfl
theorem AV.U3 {c:AV} {o:Nat} {new:List AV} (h:o+new.length<=c.size) (h1:∀ x∈new,x.one=true):(c.upd o new).size=c.size:=by
 unfold AV.size at *
 rw [AV.Jv h h1]
 simp only [List.length_append,List.length_take,List.length_drop]
 omega
theorem GL {k:Nat}:∀ {es:List AV} {i:Nat} {e e':AV},(∀ x∈es,x.size=k)->es[i]? = some e->e'.size=k ->
   flat (es.set i e')=(flat es).take (i*k)++e'.cells++(flat es).drop (i*k+k)
 | [],_,_,_,_,h,_=>by simp at h
 | x::es,0,e,e',h,he,hk=>by
   have hx:x.cells.length=k:=h x (by simp)
   have hf:flat (x::es)=x.cells++flat es:=by simp [flat]
   have YT:flat ((x::es).set 0 e')=e'.cells++flat es:=by simp [flat]
   rw [hf,YT]
   simp [<- hx]
 | x::es,i+1,e,e',h,he,hk=>by
   have hx:x.cells.length=k:=h x (by simp)
   have ih:=GL (es:=es) (i:=i) (fun y hy=>h y (by simp [hy])) (by simpa using he) hk
   have hf:flat (x::es)=x.cells++flat es:=by simp [flat]
   have YT:flat ((x::es).set (i+1) e')=x.cells++flat (es.set i e'):=by simp [flat]
   rw [hf,YT,ih]
   have e1:(i+1)*k=x.cells.length+i*k:=by rw [hx,Nat.add_mul];omega
   rw [e1,List.take_append,show x.cells.length+i*k+k=x.cells.length+(i*k+k) from by omega,List.drop_append]
   simp [List.take_of_length_le,List.append_assoc]
theorem U4 {G:Nat->Option (List AV)} {own:Nat->Prop} {E:Env} {w:World} {σ : ae} (h:Inv G own E w σ) {id:Id} {bk:dc} (hσ : σ id=some bk) (I0:bk.fr=false)
   {g N:Nat} {cur:Array Value} {ty:TypeId} (hB:yq E own w id bk g N cur ty)
   {e:Nat} {el:AV} (he:bk.els[e]? = some el) {o:Nat} {new:List AV} {vs:List Value} (hle:o+new.length<=el.size) (h1:∀ x∈new,x.one=true) (hv:aU E w new vs) :
   e*bk.k+o+vs.length<=cur.size /\
   Adv own E E w (w.setRow g (cur.toList.take (e*bk.k+o)++vs++cur.toList.drop (e*bk.k+o+vs.length)).toArray) /\
   Inv G own E (w.setRow g (cur.toList.take (e*bk.k+o)++vs++cur.toList.drop (e*bk.k+o+vs.length)).toArray) (σ.put id (some { bk with els:=bk.els.set e (el.upd o new) })):=by
 obtain ⟨yK,hvp⟩:=bT.1 hv
 have Jw:el.size=bk.k:=hB.k el (List.mem_of_getElem? he)
 have hlt:e<bk.els.length:=(List.getElem?_eq_some_iff.1 he).1
 have hbound:e*bk.k+o+vs.length<=cur.size:=by
   rw [hB.size,yK]
   have h2:(e+1)*bk.k<=N*bk.k:=Nat.mul_le_mul_right _ (by have:=hB.len;omega)
   rw [Nat.add_mul] at h2
   omega
 refine ⟨hbound, ?_⟩
 generalize YU:(cur.toList.take (e*bk.k+o)++vs++cur.toList.drop (e*bk.k+o+vs.length)).toArray=nv
 have hg:=ic hB.heap
 have En:(w.setRow g nv).heap[g]? = some (.cells nv ty (0,0)):=setRow_heap w g cur nv ty _ hB.heap
 have hs:Step E E w (w.setRow g nv):=⟨fun _ _ h=>h,fun _ h=>h,fun b hb=>setRow_other w g b nv (fun e=>hB.no I0 (e▸hb))⟩
 have ig:Adv own E E w (w.setRow g nv) :=
   ⟨hs,rfl,rfl,rfl,by simp,fun k _ hk=>setRow_other w g k nv (fun e=>hk (e▸hB.own)),fun _ h => .inl h⟩
 refine ⟨ig, ?_, ?_, ?_, ?_, ?_⟩
 . intro b hb;simpa using h.okb b hb
 . intro i GM hi
   by_cases dT:i=id
   . subst dT
     rw [ae.dO] at hi
     simp only [Option.some.injEq] at hi
     subst hi
     have hu:=AV.U3 hle h1
     refine ⟨g,N,nv,ty,hB.μ,En, ?_,by simpa using hB.len,hB.most,hB.own,by simp [I0],hB.no, ?_, ?_⟩
     . rw [<- YU]
       simp only [List.size_toArray,List.length_append,List.length_take,List.length_drop,Array.length_toList]
       rw [<- hB.size];omega
     . intro x hx
       rcases List.mem_or_eq_of_mem_set hx with hx | rfl
       . exact hB.k x hx
       . rw [hu];exact Jw
     . have GN : flat (bk.els.set e (el.upd o new))=(flat bk.els).take (e*bk.k+o)++new++(flat bk.els).drop (e*bk.k+o+new.length):=by
         rw [GL hB.k he (hu.trans Jw),AV.Jv hle h1]
         have C3:∀ j,j<bk.k->(flat bk.els)[e*bk.k+j]? = el.cells[j]? := fun j hj=>flat_get hB.k he hj
         have hlen:(flat bk.els).length=bk.els.length*bk.k:=cO hB.k
         have I4:el.cells.length=bk.k:=Jw
         have hmul:(e+1)*bk.k<=bk.els.length*bk.k:=Nat.mul_le_mul_right _ hlt
         rw [Nat.add_mul] at hmul
         have hon:o+new.length<=bk.k:=by have:=hle;unfold AV.size at this;omega
         have KI:flat bk.els=(flat bk.els).take (e*bk.k)++el.cells++(flat bk.els).drop (e*bk.k+bk.k):=by
           apply List.ext_getElem?
           intro j
           by_cases h1:j<e*bk.k
           . rw [List.append_assoc,List.getElem?_append_left (by simp;omega),List.getElem?_take_of_lt h1]
           . rw [List.append_assoc,List.getElem?_append_right (by simp;omega)]
             simp only [List.length_take,Nat.min_eq_left (show e*bk.k<=(flat bk.els).length by omega)]
             by_cases h2:j-e*bk.k<bk.k
             . rw [List.getElem?_append_left (by omega), <- C3 _ h2]
               congr 1;omega
             . rw [List.getElem?_append_right (by omega),List.getElem?_drop]
               congr 1;omega
         generalize (flat bk.els).take (e*bk.k)=A at KI ⊢
         generalize hC:(flat bk.els).drop (e*bk.k+bk.k)=C at KI ⊢
         have hA:A.length=e*bk.k:=by
           have h3:=congrArg List.length KI
           simp only [List.length_append] at h3
           have h4:C.length=(flat bk.els).length-(e*bk.k+bk.k):=by rw [<- hC,List.length_drop]
           omega
         rw [KI]
         rw [<- hA]
         simp only [List.append_assoc]
         rw [List.take_length_add_append,show A.length+o+new.length=A.length+(o+new.length) from by omega,List.drop_length_add_append,
           List.take_append_of_le_length (by omega),List.drop_append_of_le_length (by omega)]
         simp only [List.append_assoc]
       show fy E (w.setRow g nv) g 0 (flat (bk.els.set e (el.upd o new)))
       rw [GN]
       have hlen:(flat bk.els).length=bk.els.length*bk.k:=cO hB.k
       have hmul:(e+1)*bk.k<=bk.els.length*bk.k:=Nat.mul_le_mul_right _ hlt
       rw [Nat.add_mul] at hmul
       have hon:o+new.length<=bk.k:=by omega
       have hcz:bk.els.length*bk.k<=cur.size:=by rw [hB.size];exact Nat.mul_le_mul_right _ hB.len
       intro j c hj
       have hcell:(w.setRow g nv).cell? ⟨g,0+j,none⟩=nv[j]? := by rw [Nat.zero_add];exact cell_of_row _ _ _ _ _ _ En
       rw [hcell]
       suffices adf:∃ v,nv[j]? = some v/\aN E w c v by
         obtain ⟨v,qq,xd⟩:=adf;exact ⟨v,qq,aN.keep hs c v xd⟩
       rw [<- YU]
       have hold:∀ (j:Nat) (c:AV),(flat bk.els)[j]? = some c->∃ v:Value,cur[j]? = some v/\aN E w c v:=by
         intro j c hj
         obtain ⟨v,qq,xd⟩:=hB.row j c hj
         rw [Nat.zero_add,cell_of_row _ _ _ _ _ _ hB.heap] at qq
         exact ⟨v,qq,xd⟩
       simp only [List.getElem?_toArray]
       have ha:(cur.toList.take (e*bk.k+o)).length=e*bk.k+o:=by simp;omega
       have hb:((flat bk.els).take (e*bk.k+o)).length=e*bk.k+o:=by simp;omega
       rw [List.append_assoc] at hj ⊢
       by_cases c1:j<e*bk.k+o
       . rw [List.getElem?_append_left (by omega),List.getElem?_take_of_lt c1] at hj
         rw [List.getElem?_append_left (by omega),List.getElem?_take_of_lt c1]
         obtain ⟨v,qq,xd⟩:=hold j c hj
         exact ⟨v,by simpa using qq,xd⟩
       . rw [List.getElem?_append_right (by omega),hb] at hj
         rw [List.getElem?_append_right (by omega),ha]
         by_cases c2:j-(e*bk.k+o)<new.length
         . rw [List.getElem?_append_left c2] at hj
           rw [List.getElem?_append_left (by omega)]
           obtain ⟨v,qq,xd⟩:=hvp _ c hj
           exact ⟨v,qq,xd⟩
         . rw [List.getElem?_append_right (by omega),List.getElem?_drop] at hj
           rw [List.getElem?_append_right (by omega),List.getElem?_drop,yK]
           obtain ⟨v,qq,xd⟩:=hold _ c hj
           exact ⟨v,by simpa using qq,xd⟩
   . rw [ae.cN _ _ _ dT] at hi
     obtain ⟨g',N',Ms,Pp,Jy⟩:=h.blk i GM hi
     have hne:g'≠g:=h.inj i id _ _ (by simp [hi]) (by simp [hσ]) dT Jy.μ hB.μ
     exact ⟨g',N',Ms,Pp,Jy.keep hs (setRow_other w g g' nv hne) Jy.no⟩
 . intro i j x y hi hj hne hx hy
   refine h.inj i j x y ?_ ?_ hne hx hy
   . intro hn;by_cases dT:i=id
     . subst dT;simp [hσ] at hn
     . rw [ae.cN _ _ _ dT] at hi;exact hi hn
   . intro hn;by_cases dT:j=id
     . subst dT;simp [hσ] at hn
     . rw [ae.cN _ _ _ dT] at hj;exact hj hn
 . intro g' cs Pq
   obtain ⟨h1',h2'⟩:=h.glob g' cs Pq
   exact ⟨h1',bq.keep hs.bare (hs.same g' h1') cs 0 h2'⟩
 . intro k hk;simp at hk;exact h.new k hk
end Go.VL
end

section
namespace Go.VL
inductive aV where
 | t (n:Nat)
 | c (a:AV)
 | g (n:Nat)
 | f (n:Nat)
def aV.ev (G:Nat->Option (List AV)) (t:List AV):aV->AV
 | .t n=>t.getD n (.tup [])
 | .c a=>a
 | .g n=>match G n with | some cs => .ep cs 0 | none => .top
 | .f n => .fn (.func n) [] []
inductive Sh where
 | int | str | bool | ptr | slice | func
 deriving DecidableEq
inductive hH (α : Type) where
 | mv (x : α)
 | pick (c a b : α)
 | box (x : α)
 | build (zero:List AV) (parts:List (Nat × Nat × α))
 | buildSl (k len:Nat) (zero:AV) (parts:List (Nat × α))
 | load (agg:Bool) (n:Nat) (x : α)
 | store (n:Nat) (x v : α)
 | nilck (x : α)
 | bin (op:BinOp) (sh:Sh) (x y : α)
 | un (op:UnOp) (x : α)
 | toInt (k:IntKind) (x : α)
 | idStr (x : α)
 | bytesStr (x : α)
 | idx (x c : α)
 | ovl (x y : α)
 | mkfn (fn:Fn) (first cap:List α)
 | mksl (k bytes:Nat) (zero:AV) (len cap : α)
 | slice (k:Nat) (x : α) (lo hi mx:Option α)
 | sliceS (x : α) (lo hi:Option α)
 | faddr (off:Nat) (x : α)
 | field (agg:Bool) (off n:Nat) (x : α)
 | iaddrS (k:Nat) (x i : α)
 | iaddrA (n k:Nat) (x i : α)
 | indexS (x i : α)
 | indexA (agg:Bool) (n k:Nat) (x i : α)
 | extract (x : α) (i:Nat)
 | len (str:Bool) (x : α)
 | lenN (n:Nat) (x : α)
 | append (k bytes:Nat) (s x : α)
 | min (x y : α)
 | max (x y : α)
 | cap (x : α)
 | clear (k:Nat) (zero:AV) (x : α)
 | copy (k:Nat) (d x : α)
 | appz (k bytes:Nat) (zero:AV) (s n : α)
 | bad
 | call (f : α) (args:List α)
def hH.map {α β : Type} (g : α -> β):hH α -> hH β
 | .mv x => .mv (g x)
 | .pick c a b => .pick (g c) (g a) (g b)
 | .box x => .box (g x)
 | .build z ps => .build z (ps.map fun p=>(p.1,p.2.1,g p.2.2))
 | .buildSl k n z ps => .buildSl k n z (ps.map fun p=>(p.1,g p.2))
 | .load a n x => .load a n (g x)
 | .store n x v => .store n (g x) (g v)
 | .nilck x => .nilck (g x)
 | .bin op sh x y => .bin op sh (g x) (g y)
 | .un op x => .un op (g x)
 | .toInt k x => .toInt k (g x)
 | .idStr x => .idStr (g x)
 | .bytesStr x => .bytesStr (g x)
 | .idx x c => .idx (g x) (g c)
 | .ovl x y => .ovl (g x) (g y)
 | .mkfn fn a c => .mkfn fn (a.map g) (c.map g)
 | .mksl k b z l c => .mksl k b z (g l) (g c)
 | .slice k x lo hi mx => .slice k (g x) (lo.map g) (hi.map g) (mx.map g)
 | .sliceS x lo hi => .sliceS (g x) (lo.map g) (hi.map g)
 | .faddr o x => .faddr o (g x)
 | .field a o n x => .field a o n (g x)
 | .iaddrS k x i => .iaddrS k (g x) (g i)
 | .iaddrA n k x i => .iaddrA n k (g x) (g i)
 | .indexS x i => .indexS (g x) (g i)
 | .indexA a n k x i => .indexA a n k (g x) (g i)
 | .extract x i => .extract (g x) i
 | .len b x => .len b (g x)
 | .lenN n x => .lenN n (g x)
 | .append k b s x => .append k b (g s) (g x)
 | .min x y => .min (g x) (g y)
 | .max x y => .max (g x) (g y)
 | .cap x => .cap (g x)
 | .clear k z x => .clear k z (g x)
 | .copy k d x => .copy k (g d) (g x)
 | .appz k b z s n => .appz k b z (g s) (g n)
 | .bad => .bad
 | .call f as => .call (g f) (as.map g)
structure fL where
 val:AV
 rd:List Id:=[]
 up:List (Id × Option dc):=[]
def ae.app (σ : ae):List (Id × Option dc)->ae
 | [] => σ
 | (i,b)::r=>(σ.put i b).app r
def bitsOf (op:BinOp) (k:IntKind) (x y:Int):Option Int :=
 let a:=BitVec.ofInt k.bits x
 let b:=BitVec.ofInt k.bits y
 match op with
 | .and=>some (k.wrap (a &&& b).toNat)
 | .or=>some (k.wrap (a ||| b).toNat)
 | .xor=>some (k.wrap (a ^^^ b).toNat)
 | .andNot=>some (k.wrap (a &&& ~~~b).toNat)
 | _=>none
def vH (op:BinOp) (k:IntKind) (a b:Int):Option AV :=
 match op with
 | .add=>some (.int k (k.wrap (a+b)))
 | .sub=>some (.int k (k.wrap (a-b)))
 | .mul=>some (.int k (k.wrap (a*b)))
 | .quo=>if b=0 then none else some (.int k (k.wrap (a.tdiv b)))
 | .rem=>if b=0 then none else some (.int k (a.tmod b))
 | .and | .or | .xor | .andNot=>(bitsOf op k a b).map (.int k)
 | .eql=>some (.bool (a==b))
 | .neq=>some (.bool (a != b))
 | .lss=>some (.bool (a<b))
 | .leq=>some (.bool (a<=b))
 | .gtr=>some (.bool (a>b))
 | .geq=>some (.bool (a≥b))
 | .shl=>if b<0 then none else some (.int k (k.wrap (a*2 ^ (min b.toNat k.bits))))
 | .shr=>if b<0 then none else some (.int k (a.fdiv (2 ^ (min b.toNat k.bits))))
def YV (op:BinOp) (x y:List UInt8):Option AV :=
 match op with
 | .add=>if x.length+y.length<=maxLen then some (.str (x++y)) else none
 | .eql=>some (.bool (x==y))
 | .neq=>some (.bool !(x==y))
 | .lss=>some (.bool (Op.bytesLess x y))
 | .leq=>some (.bool (Op.bytesLess x y||x==y))
 | .gtr=>some (.bool !(Op.bytesLess x y||x==y))
 | .geq=>some (.bool !(Op.bytesLess x y))
 | _=>none
def lW (op:BinOp) (sh:Sh) (x y:AV):Option AV :=
 match sh,x,y with
 | .int, .int k a, .int k' b=>if op = .shl∨op = .shr∨k=k' then vH op k a b else none
 | .str, .str a, .str b=>YV op a b
 | .bool, .bool a, .bool b=>match op with
   | .eql=>some (.bool (a==b))
   | .neq=>some (.bool !(a==b))
   | _=>none
 | .ptr, .nilp, .nilp=>match op with | .eql=>some (.bool true) | .neq=>some (.bool false) | _=>none
 | .ptr, .ref _ _ _, .nilp | .ptr, .nilp, .ref _ _ _ | .ptr, .ep _ _, .nilp | .ptr, .nilp, .ep _ _ =>
   match op with | .eql=>some (.bool false) | .neq=>some (.bool true) | _=>none
 | .slice, .nils, .nils=>match op with | .eql=>some (.bool true) | .neq=>some (.bool false) | _=>none
 | .slice, .osl _ _ _ _ _, .nils | .slice, .nils, .osl _ _ _ _ _ =>
   match op with | .eql=>some (.bool false) | .neq=>some (.bool true) | _=>none
 | .slice, .sl _ (_::_), .nils | .slice, .tsl _ (_::_), .nils =>
   match op with | .eql=>some (.bool false) | .neq=>some (.bool true) | _=>none
 | .func, .nilf, .nilf=>match op with | .eql=>some (.bool true) | .neq=>some (.bool false) | _=>none
 | .func, .fn _ _ _, .nilf | .func, .nilf, .fn _ _ _=>match op with | .eql=>some (.bool false) | .neq=>some (.bool true) | _=>none
 | _,_,_=>none
def U5 (op:BinOp) (sh:Sh) (x y:AV):Option AV :=
 match sh,x,y with
 | .slice, .sl _ [], .nils | .slice, .tsl _ [], .nils=>match op with | .eql | .neq=>some .anyb | _=>none
 | .int, .int .i64 a, .ige n=>match op with | .gtr=>if a<=n then some (.bool false) else none | _=>none
 | _,_,_=>none
def bP (op:BinOp) (sh:Sh) (x y:AV):Option AV :=
 match lW op sh x y with
 | some c=>some c
 | none=>U5 op sh x y
def vun (op:UnOp) (x:AV):Option AV :=
 match op,x with
 | .neg, .int k n=>some (.int k (k.wrap (0-n)))
 | .xor, .int k n=>(bitsOf .xor k (if k.signed then -1 else k.max) n).map (.int k)
 | .not, .bool b=>some (.bool !b)
 | _,_=>none
def part (agg:Bool) (cs:List AV) (o n:Nat):Option AV :=
 if o+n<=cs.length then
   if agg then some (.agg ((cs.drop o).take n)) else if n=1 then cs[o]? else none
 else none
def lK (σ : ae) (agg:Bool) (n:Nat):AV->Option fL
 | .ref id e o=>match σ id with
   | some bk=>match bk.els[e]? with
     | some el=>(part agg el.cells o n).map fun v=>{ val:=v,rd:=[id] }
     | none=>none
   | none=>none
 | .ep cs o=>(part agg cs o n).map fun v=>{ val:=v }
 | _=>none
def ir (σ : ae) (n:Nat) (x v:AV):Option fL :=
 match x with
 | .ref id e o=>match σ id with
   | some bk=>match bk.els[e]? with
     | some el =>
       if bk.fr=false/\v.cells.length=n/\o+n<=el.size/\v.cells.all AV.one=true then
         some { val := .tup [],rd:=[id],up:=[(id,some { bk with els:=bk.els.set e (el.upd o v.cells) })] }
       else none
     | none=>none
   | none=>none
 | _=>none
def kW (cs:List AV):List (Nat × Nat × AV)->Option (List AV)
 | []=>some cs
 | (o,n,x)::r=>if x.cells.length=n/\o+n<=cs.length/\x.cells.all AV.one=true then kW (cs.take o++x.cells++cs.drop (o+n)) r else none
def kY (k:Nat) (es:List AV):List (Nat × AV)->Option (List AV)
 | []=>some es
 | (i,x)::r=>if x.size=k/\i<es.length/\x.cells.all AV.one=true then kY k (es.set i x) r else none
def gG (σ : ae) (k:Nat):AV->Option (List AV × List Id)
 | .nils=>some ([],[])
 | .sl k' es | .tsl k' es=>if k'=k then some (es,[]) else none
 | .osl id k' off len _=>match σ id with
   | some bk=>if k'=k/\bk.k=k/\off+len<=bk.els.length then some ((bk.els.drop off).take len,[id]) else none
   | none=>none
 | _=>none
def fK (σ : ae) (p:Id) (k bytes:Nat) (s x:AV):Option fL :=
 match gG σ k x with
 | none=>none
 | some (ys, rd) =>
   if ys.isEmpty then
     match s with
     | .nils | .tsl _ _ | .osl _ _ _ _ _=>some { val:=s,rd }
     | _=>none
   else match s with
     | .nils=>if ys.length*bytes<=140737488355328/\ys.length<=maxLen/\(ys.all fun e=>e.cells.all AV.one)=true then
         some { val := .osl p k 0 ys.length false,rd,up:=[(p,some ⟨ys,k,false⟩)] } else none
     | .tsl k' es=>if k'=k/\(es.length+ys.length)*bytes<=140737488355328/\es.length+ys.length<=maxLen/\((es++ys).all fun e=>e.cells.all AV.one)=true then
         some { val := .osl p k 0 (es.length+ys.length) false,rd,up:=[(p,some ⟨es++ys,k,false⟩)] } else none
     | .osl id k' off len tight=>match σ id with
       | some bk =>
         if k' = k/\bk.k=k/\off=0/\len<=bk.els.length/\(len+ys.length)*bytes<=140737488355328/\len+ys.length<=maxLen/\(ys.all fun e=>e.cells.all AV.one)=true then
           if tight then
             if (bk.els.all fun e=>e.cells.all AV.one)=true then
               some { val := .osl p k 0 (len+ys.length) false,rd:=id::rd,up:=[(p,some ⟨bk.els.take len++ys,k,false⟩)] }
             else none
           else if len=bk.els.length/\bk.fr=false/\(bk.els.all fun e=>e.cells.all AV.one)=true then
             some { val := .osl p k 0 (len+ys.length) false,rd:=id::rd,up:=[(id,none),(p,some ⟨bk.els++ys,k,false⟩)] }
           else if len+ys.length<=bk.els.length/\bk.fr=false then
             some { val := .osl id k 0 (len+ys.length) false,rd:=id::rd,up:=[(id,some { bk with els:=bk.els.take len++ys++bk.els.drop (len+ys.length) })] }
           else none
         else none
       | none=>none
     | _=>none
def lv (d most:Nat):Option AV->Option Nat
 | none=>some d
 | some (.int _ i)=>if 0<=i/\i<=most then some i.toNat else none
 | some _=>none
def iW (len:Nat) (lo hi:Option AV):Option (Nat × Nat) :=
 match lv len len hi with
 | none=>none
 | some h=>match lv 0 h lo with
   | none=>none
   | some l=>some (l,h)
def Bg (mx:Option AV) (h:Nat):Bool:=match mx with
 | some (.int _ m)=>m==(h:Int)
 | _=>false
def gh (k:Nat) (x:AV) (lo hi mx:Option AV):Option AV :=
 match x with
 | .nils=>match iW 0 lo hi with
   | some _=>if mx.isNone=true∨Bg mx 0=true then some .nils else none
   | none=>none
 | .sl k' es=>match iW es.length lo hi with
   | some (l,h)=>if k'=k then
       if mx.isNone then some (.sl k ((es.take h).drop l)) else if Bg mx h then some (.tsl k ((es.take h).drop l)) else none
     else none
   | none=>none
 | .tsl k' es=>match iW es.length lo hi with
   | some (l,h)=>if k'=k/\(mx.isNone=true∨Bg mx h=true) then
       if mx.isSome=true∨h=es.length then some (.tsl k ((es.take h).drop l)) else some (.sl k ((es.take h).drop l))
     else none
   | none=>none
 | .osl id k' off len t=>match iW len lo hi with
   | some (l,h) =>
     if k' = k then
       if mx.isNone then
         if t=false∨h=len then
           if l=0 then some (.osl id k off h t) else if l=h then some (.sl k []) else some (.osl id k (off+l) (h-l) t)
         else none
       else if Bg mx h=true/\l=0 then some (.osl id k off h true) else none
     else none
   | none=>none
 | _=>none
def Gt (x:AV) (lo hi:Option AV):Option AV :=
 match x with
 | .str s=>match iW s.length lo hi with
   | some (l,h)=>some (.str ((s.take h).drop l))
   | none=>none
 | _=>none
def bK (k:Nat) (x i:AV):Option AV :=
 match i with
 | .int _ i=>match x with
   | .sl k' es | .tsl k' es=>if k'=k/\0<=i then (es[i.toNat]?).map fun e => .ep e.cells 0 else none
   | .osl id k' off len _=>if k'=k/\0<=i/\i<len then some (.ref id (off+i.toNat) 0) else none
   | _=>none
 | _=>none
def pc (n k:Nat) (x i:AV):Option AV :=
 match i with
 | .int _ i=>if 0<=i/\i<n then
     match x with
     | .ref id e o=>some (.ref id e (o+i.toNat*k))
     | .ep cs o=>some (.ep cs (o+i.toNat*k))
     | _=>none
   else none
 | _=>none
def jJ (p:Id) (k bytes:Nat) (zero len cap:AV):Option fL :=
 match len,cap with
 | .int _ l, .int _ c =>
   if 0<=l/\l<=c/\c*bytes<=140737488355328/\c<=maxLen/\zero.size=k/\zero.cells.all AV.one=true then
     some { val := .osl p k 0 l.toNat false,up:=[(p,some ⟨List.replicate l.toNat zero,k,false⟩)] }
   else none
 | _,_=>none
def ni:Bool->AV->Option AV
 | true, .str s=>some (.int .i64 s.length)
 | false, .nils=>some (.int .i64 0)
 | false, .sl _ es=>some (.int .i64 es.length)
 | false, .tsl _ es=>some (.int .i64 es.length)
 | false, .osl _ _ _ len _=>some (.int .i64 len)
 | _,_=>none
def U6:AV->Option AV
 | .nils=>some (.int .i64 0)
 | .tsl _ es=>some (.int .i64 es.length)
 | .osl _ _ _ len true=>some (.int .i64 len)
 | _=>none
def C6 (σ : ae) (id:Id) (off:Nat) (k:Nat) (news:List AV) (v:AV) (rd:List Id):Option fL :=
 match σ id with
 | some bk=>if bk.k=k/\off+news.length<=bk.els.length/\bk.fr=false/\(news.all fun e=>e.cells.all AV.one)=true then
     some { val:=v,rd:=id::rd,up:=[(id,some { bk with els:=bk.els.take off++news++bk.els.drop (off+news.length) })] } else none
 | none=>none
def GO (σ : ae) (k:Nat) (zero:AV) (x:AV):Option fL :=
 match x with
 | .nils=>some { val := .tup [] }
 | .osl id k' off len _=>if len=0 then some { val := .tup [] } else if k'=k/\zero.size=k then C6 σ id off k (List.replicate len zero) (.tup []) [] else none
 | _=>none
def Mt (σ : ae) (k:Nat) (d x:AV):Option fL :=
 match gG σ k x with
 | none=>none
 | some (ys,rd)=>match d with
   | .nils=>some { val := .int .i64 0,rd }
   | .osl id k' off len _ =>
     if (ys.take len).isEmpty then some { val := .int .i64 0,rd }
     else if k'=k then C6 σ id off k (ys.take len) (.int .i64 (ys.take len).length) rd else none
   | _=>none
def Jz (p:Id) (k bytes:Nat) (zero s n:AV):Option fL :=
 match s,n with
 | .nils, .int _ n=>if 0<n/\n*bytes<=140737488355328/\n<=maxLen/\zero.size=k/\zero.cells.all AV.one=true then
     some { val := .osl p k 0 n.toNat false,up:=[(p,some ⟨List.replicate n.toNat zero,k,false⟩)] } else none
 | _,_=>none
def bytesOf:List AV->Option (List UInt8)
 | []=>some []
 | .int .u8 n::r=>(bytesOf r).map (UInt8.ofNat n.toNat :: ·)
 | _::_=>none
def sc (σ : ae) (x:AV):Option fL :=
 match gG σ 1 x with
 | some (ys,rd)=>(bytesOf ys).map fun l=>{ val := .str l,rd }
 | none=>none
def bB (v:Option AV):Option fL:=v.map fun v=>{ val:=v }
def ud:List UInt8->UInt8->Int
 | [],_ => -1
 | b::l,c=>if b==c then 0 else if ud l c == -1 then -1 else ud l c+1
def U7:AV->AV->Option AV
 | .str s, .int .u8 c=>some (.int .i64 (ud s c.toNat.toUInt8))
 | _,_=>none
def abz (k:Nat):AV->Option Nat
 | .nils=>some 0
 | .sl k' es | .tsl k' es=>if k'=k then some es.length else none
 | .osl _ k' _ len _=>if k'=k then some len else none
 | _=>none
def rT (σ : ae) (k:Nat) (x:AV) (lo hi mx:Option AV):Option AV->Option fL
 | some v=>bB (some v)
 | none=>match x,hi,mx with
   | .osl id k' off _ false,some h,none=>match σ id with
     | some bk=>if off<=bk.els.length/\bk.k=k then (gh k (.osl id k' off (bk.els.length-off) false) lo (some h) none).map fun v=>{ val:=v,rd:=[id] } else none
     | none=>none
   | x,some h,some (.int _ m)=>match abz k x with
     | some n=>match iW n lo (some h) with
       | some (_,r)=>if (r:Int)<=m/\m<=n then some { val := .top } else none
       | none=>none
     | none=>none
   | _,_,_=>none
def GQ (σ : ae) (x:AV):Option AV->Option fL
 | some v=>bB (some v)
 | none=>match x with
   | .osl id _ off _ false=>match σ id with
     | some bk=>if off<=bk.els.length then some { val := .ige (bk.els.length-off),rd:=[id] } else none
     | none=>none
   | _=>none
def S2 (σ : ae) (x y:AV):Option fL :=
 match x,y with
 | .osl i _ _ _ _, .osl j _ _ _ _=>if i=j then none else match σ i, σ j with
   | some _,some b=>if 0<b.k/\0<b.els.length then some { val := .bool false,rd:=[i,j] } else none
   | _,_=>none
 | _,_=>none
def bW (σ : ae) (p:Id):hH AV->Option fL
 | .mv x=>bB (some x)
 | .pick c a b=>match c with | .bool c=>bB (some (if c then a else b)) | _=>none
 | .box x=>if x.cells.all AV.one=true then some { val := .ref p 0 0,up:=[(p,some ⟨[x],x.size,false⟩)] } else none
 | .build z ps=>bB ((kW z ps).map .agg)
 | .buildSl k n z ps=>match kY k (List.replicate n z) ps with
   | some es=>if z.size=k/\z.cells.all AV.one=true then (if n=0 then some { val := .tsl k [] } else some { val := .osl p k 0 n false,up:=[(p,some ⟨es,k,false⟩)] }) else none
   | none=>none
 | .load a n x=>lK σ a n x
 | .store n x v=>ir σ n x v
 | .nilck x=>match x with | .ref _ _ _ | .ep _ _=>bB (some x) | .fn (.func _) _ _=>bB (some x) | _=>none
 | .bin op sh x y=>bB (bP op sh x y)
 | .un op x=>bB (vun op x)
 | .toInt k x=>match x with | .int _ n=>bB (some (.int k (k.wrap n))) | _=>none
 | .idStr x=>match x with | .str _=>bB (some x) | .int _ n=>if 0<=n/\n<128 then bB (some (.str [UInt8.ofNat n.toNat])) else none | _=>none
 | .bytesStr x=>sc σ x
 | .idx x c=>bB (U7 x c)
 | .ovl x y=>S2 σ x y
 | .mkfn fn a c=>bB (some (.fn fn a c))
 | .mksl k b z l c=>jJ p k b z l c
 | .slice k x lo hi mx=>rT σ k x lo hi mx (gh k x lo hi mx)
 | .sliceS x lo hi=>bB (Gt x lo hi)
 | .faddr o x=>match x with
   | .ref id e q=>bB (some (.ref id e (q+o)))
   | .ep cs q=>bB (some (.ep cs (q+o)))
   | _=>none
 | .field a o n x=>match x with | .agg cs=>bB (part a cs o n) | _=>none
 | .iaddrS k x i=>bB (bK k x i)
 | .iaddrA n k x i=>bB (pc n k x i)
 | .indexS x i=>match x,i with
   | .str s, .int _ i=>if 0<=i then bB ((s[i.toNat]?).map fun b => .int .u8 b.toNat) else none
   | _,_=>none
 | .indexA a n k x i=>match x,i with
   | .agg cs, .int _ i=>if 0<=i/\i<n then bB (part a cs (i.toNat*k) k) else none
   | _,_=>none
 | .extract x i=>match x with | .tup vs=>bB vs[i]? | _=>none
 | .len b x=>bB (ni b x)
 | .lenN n _=>bB (some (.int .i64 n))
 | .append k b s x=>fK σ p k b s x
 | .min x y=>match x,y with | .int k a, .int _ b=>bB (some (.int k (if b<a then b else a))) | _,_=>none
 | .max x y=>match x,y with | .int k a, .int _ b=>bB (some (.int k (if b>a then b else a))) | _,_=>none
 | .cap x=>GQ σ x (U6 x)
 | .clear k z x=>GO σ k z x
 | .copy k d x=>Mt σ k d x
 | .appz k b z s n=>Jz p k b z s n
 | .bad=>none
 | .call _ _=>none
def lL:Nat->Value->Option AV
 | 0,_=>none
 | n+1,v=>match v with
   | .bool b=>some (.bool b)
   | .int k i=>some (.int k i)
   | .string s=>some (.str s.data.toList)
   | .pointer none=>some .nilp
   | .nilFunc=>some .nilf
   | .slice none 0 0=>some .nils
   | .agg cs=>(cs.toList.mapM (lL n)).map .agg
   | .tuple cs=>(cs.toList.mapM (lL n)).map .tup
   | _=>none
def cU:Operand->Option aV
 | .tmp t=>some (.t t)
 | .const v=>(lL 3 v).map .c
 | .global g=>some (.g g)
 | .func f=>some (.f f)
def GR (xs:Array Operand):Option (List aV):=xs.toList.mapM cU
def Eo:Option Operand->Option (Option aV)
 | none=>some none
 | some x=>(cU x).map some
def qu (P:Program) (t:TypeId):Option Bool :=
 match P.underlying t with
 | some (.struct _) | some (.array _ _)=>some true
 | some _=>some false
 | none=>none
def S3 (P:Program) (t:TypeId):Option Sh :=
 match P.underlying t with
 | some (.int _)=>some .int
 | some .string=>some .str
 | some .bool=>some .bool
 | some (.pointer _)=>some .ptr
 | some (.slice _)=>some .slice
 | some (.func _ _ _)=>some .func
 | _=>none
def nj (P:Program) (t:TypeId):Option AV :=
 match P.info? t with
 | some i=>match i.zero with
   | some z=>match lL 3 z with
     | some a=>if a.size=i.size/\a.cells.all AV.one=true then some a else none
     | none=>none
   | none=>none
 | none=>none
def Ep:Option TypeDesc->Bool
 | some (.slice _)=>true
 | _=>false
def C7 (P:Program) (b:Builtin) (args:Array Operand) (ts:Array TypeId):Option (hH aV) :=
 match b,args.toList,ts.toList with
 | .len,[x],[t]=>match P.underlying t with
   | some .string=>(cU x).map (.len true)
   | some (.slice _)=>(cU x).map (.len false)
   | some (.array n _)=>(cU x).map (.lenN n)
   | _=>none
 | .append,[s,x],[t,t']=>match P.underlying t with
   | some (.slice e)=>match P.info? e with
     | some i=>if Ep (P.underlying t')=true/\0<i.size/\0<i.bytes/\(nj P e).isSome then
         match cU s,cU x with
         | some s,some x=>some (.append i.size i.bytes s x)
         | _,_=>none
       else match P.underlying t',nj P e,cU s,cU x with
         | some (.int _),some z,some s,some x=>if 0<i.size then some (.appz i.size i.bytes z s x) else none
         | _,_,_,_=>none
     | none=>none
   | _=>none
 | .cap,[x],[t]=>match P.underlying t with
   | some (.slice _)=>(cU x).map .cap
   | _=>none
 | .clear,[x],[t]=>match P.underlying t with
   | some (.slice e)=>match nj P e,cU x with
     | some z,some x=>if 0<z.size then some (.clear z.size z x) else none
     | _,_=>none
   | _=>none
 | .copy,[d,x],[t,_]=>match P.underlying t with
   | some (.slice e)=>match P.info? e with
     | some i=>if 0<i.size then
         match cU d,cU x with
         | some d,some x=>some (.copy i.size d x)
         | _,_=>none
       else none
     | none=>none
   | _=>none
 | .min,[x,y],_=>match cU x,cU y with | some x,some y=>some (.min x y) | _,_=>none
 | .max,[x,y],_=>match cU x,cU y with | some x,some y=>some (.max x y) | _,_=>none
 | _,_,_=>none
inductive YW where
 | idx | ovl
def zG (n:String):Bool:=(Extern.allGenericRows.lookup n).isNone&&(Extern.allTypedRows.lookup n).isNone&&(Extern.allRows.lookup n).isNone&&(Extern.allNextRows.lookup n).isNone && !(n == "runtime.NumGoroutine")
def U8 (P:Program):Operand->Option YW
 | .func f => match P.funcs[f]? with
   | some fn=>if fn.body.isNone=true then
       if fn.name == "internal/bytealg.IndexByteString" && fn.origin == "" then some .idx
       else if fn.origin == "slices.overlaps" && zG fn.name then
         match fn.params[0]? with
         | some t=>match P.underlying t with
           | some (.slice e)=>if (P.info? e).isSome then some .ovl else none
           | _=>none
         | none=>none
       else none
     else none
   | none=>none
 | _=>none
def YX (k:YW):List Operand->Option (hH aV)
 | [x,y]=>match cU x,cU y with
   | some x,some y=>some (match k with | .idx => .idx x y | .ovl => .ovl x y)
   | _,_=>none
 | _=>none
def o0 (P:Program):Op->Option (hH aV)
 | .move x | .assign x=>(cU x).map .mv
 | .pick c a b=>match cU c,cU a,cU b with | some c,some a,some b=>some (.pick c a b) | _,_,_=>none
 | .alloc t=>(nj P t).map fun z => .box (.c z)
 | .box _ x=>(cU x).map .box
 | .build t ps=>match P.underlying t,nj P t,ps.toList.mapM fun p=>(cU p.2).map (p.1, ·) with
   | some (.struct fs),some z,some ps=>match fs.toList.mapM (fun f=>(P.info? f.type).map fun i=>(f.offset,i.size)) with
     | some places=>(ps.mapM fun (p:Nat × aV)=>(places[p.1]?).map fun q=>(q.1,q.2,p.2)).map (.build z.cells)
     | none=>none
   | some (.array _ e),some z,some ps=>match P.info? e with
     | some i=>some (.build z.cells (ps.map fun p=>(p.1*i.size,i.size,p.2)))
     | none=>none
   | _,_,_=>none
 | .buildSlice t n ps=>match P.underlying t,ps.toList.mapM fun p=>(cU p.2).map (p.1, ·) with
   | some (.slice e),some ps=>match P.info? e,nj P e with
     | some i,some z=>if n*i.size<=16777216/\0<i.size/\n<=maxLen then some (.buildSl i.size n z ps) else none
     | _,_=>none
   | _,_=>none
 | .load t x=>match qu P t,P.info? t,cU x with
   | some a,some i,some x=>if a=true∨i.size=1 then some (.load a i.size x) else none
   | _,_,_=>none
 | .store t x v=>match P.info? t,cU x,cU v with
   | some i,some x,some v=>some (.store i.size x v)
   | _,_,_=>none
 | .nilCheck x=>(cU x).map .nilck
 | .binOp op t x y _=>match S3 P t,cU x,cU y with
   | some sh,some x,some y=>some (.bin op sh x y)
   | _,_,_=>none
 | .unOp op _ x=>(cU x).map (.un op)
 | .convert s d x=>match P.underlying s,P.underlying d with
   | some (.int _),some (.int k)=>(cU x).map (.toInt k)
   | some .string,some .string=>(cU x).map .idStr
   | some (.int _),some .string=>(cU x).map .idStr
   | some (.slice e),some .string=>match P.underlying e with | some (.int .u8)=>(cU x).map .bytesStr | _=>none
   | _,_=>none
 | .makeFunc fn a c=>match GR a,GR c with | some a,some c=>some (.mkfn fn a c) | _,_=>none
 | .makeSlice t l c=>match P.underlying t with
   | some (.slice e)=>match P.info? e,nj P e,cU l,cU c with
     | some i,some z,some l,some c=>if 0<i.size/\0<i.bytes then some (.mksl i.size i.bytes z l c) else none
     | _,_,_,_=>none
   | _=>none
 | .slice t x lo hi mx=>match P.underlying t with
   | some (.slice e)=>match P.info? e,cU x,Eo lo,Eo hi,Eo mx with
     | some i,some x,some lo,some hi,some mx=>if mx.isSome->hi.isSome then some (.slice i.size x lo hi mx) else none
     | _,_,_,_,_=>none
   | some .string=>match cU x,Eo lo,Eo hi,mx with
     | some x,some lo,some hi,none=>some (.sliceS x lo hi)
     | _,_,_,_=>none
   | _=>none
 | .fieldAddr s x f=>match P.underlying s with
   | some (.struct fs)=>match fs[f]? with
     | some fd=>match P.info? fd.type,cU x with
       | some i,some x=>if i.size=0 then none else some (.faddr fd.offset x)
       | _,_=>none
     | none=>none
   | _=>none
 | .field s x f=>match P.underlying s with
   | some (.struct fs)=>match fs[f]? with
     | some fd=>match qu P fd.type,P.info? fd.type,cU x with
       | some a,some i,some x=>some (.field a fd.offset i.size x)
       | _,_,_=>none
     | none=>none
   | _=>none
 | .indexAddr t x ix=>match P.underlying t with
   | some (.slice e)=>match P.info? e,cU x,cU ix with
     | some i,some x,some ix=>some (.iaddrS i.size x ix)
     | _,_,_=>none
   | some (.array n e)=>match P.info? e,cU x,cU ix with
     | some i,some x,some ix=>some (.iaddrA n i.size x ix)
     | _,_,_=>none
   | _=>none
 | .index t x ix=>match P.underlying t with
   | some .string=>match cU x,cU ix with | some x,some ix=>some (.indexS x ix) | _,_=>none
   | some (.array n e)=>match qu P e,P.info? e,cU x,cU ix with
     | some a,some i,some x,some ix=>some (.indexA a n i.size x ix)
     | _,_,_,_=>none
   | _=>none
 | .extract x i=>(cU x).map (.extract · i)
 | .call c=>match c.callee with
   | .value f=>match U8 P f with
     | none=>match cU f,GR c.args with | some f,some as=>some (.call f as) | _,_=>none
     | some k=>YX k c.args.toList
   | .builtin b=>C7 P b c.args c.argTypes
   | .invoke _ _=>none
 | _=>none
def cOp (P:Program) (o:Op):Option (hH aV) :=
 match o0 P o with
 | some v=>some v
 | none=>some .bad
end Go.VL
end

section
namespace Go.VL
structure bx where
 dst:Option Nat
 op:hH aV
 guard:Option (Nat × Bool):=none
inductive bY where
 | skip
 | reg (aoi:Option (List (Nat × Nat))) (ops:List bx)
 | seq (a b:bY)
 | cond (c:aV) (a b:bY)
 | block (id:Nat) (c:bY)
 | loop (c:bY)
 | exit (id:Nat)
 | ret
inductive vI where
 | tmp (t:Nat)
 | cell (x:Nat) (agg:Bool) (n:Nat)
structure ax where
 nt:Nat
 results:List vI
 body:bY
def hH.args {α : Type}:hH α -> List α
 | .mv x=>[x]
 | .pick c a b=>[c,a,b]
 | .box x=>[x]
 | .build _ ps=>ps.map fun p=>p.2.2
 | .buildSl _ _ _ ps=>ps.map fun p=>p.2
 | .load _ _ x=>[x]
 | .store _ x v=>[x,v]
 | .nilck x=>[x]
 | .bin _ _ x y=>[x,y]
 | .un _ x=>[x]
 | .toInt _ x=>[x]
 | .idStr x=>[x]
 | .bytesStr x=>[x]
 | .idx x c=>[x,c]
 | .ovl x y=>[x,y]
 | .mkfn _ a c=>a++c
 | .mksl _ _ _ l c=>[l,c]
 | .slice _ x lo hi mx=>x::(lo.toList++hi.toList++mx.toList)
 | .sliceS x lo hi=>x::(lo.toList++hi.toList)
 | .faddr _ x=>[x]
 | .field _ _ _ x=>[x]
 | .iaddrS _ x i=>[x,i]
 | .iaddrA _ _ x i=>[x,i]
 | .indexS x i=>[x,i]
 | .indexA _ _ _ x i=>[x,i]
 | .extract x _=>[x]
 | .len _ x=>[x]
 | .lenN _ x=>[x]
 | .append _ _ s x=>[s,x]
 | .min x y=>[x,y]
 | .max x y=>[x,y]
 | .cap x=>[x]
 | .clear _ _ x=>[x]
 | .copy _ d x=>[d,x]
 | .appz _ _ _ s n=>[s,n]
 | .bad=>[]
 | .call f as=>f::as
def hH.pure {α : Type}:hH α -> Bool
 | .box _ | .buildSl .. | .load .. | .store .. | .mksl .. | .append .. | .appz .. | .clear .. | .copy .. | .bytesStr .. | .ovl .. | .slice .. | .cap .. | .call .. => false
 | _=>true
def hH.uJ {α : Type}:hH α -> Bool
 | .load .. | .bytesStr .. | .ovl .. | .slice .. | .cap .. => true
 | _=>false
def aV.ags:aV->Option Nat
 | .t n=>some n
 | _=>none
def bx.names (o:bx):List Nat:=o.op.args.filterMap aV.ags++(o.guard.map (·.1)).toList
def kh:List (List Nat)->List Nat->List Nat
 | [],acc=>acc
 | l::r,acc=>kh r (acc++[l.foldl (fun s i=>s ||| 2 ^ i ||| acc.getD i 0) 0])
def C8 (n:Nat):List (Nat × Nat):=(List.range n).flatMap fun j=>(List.range j).map fun i=>(i,j)
def Fq (a b:bx):Bool :=
 (match a.dst with | some d=>b.names.contains d||b.dst==some d | none=>false)||(match b.dst with | some d=>a.names.contains d | none=>false)
def Gu (ops:List bx) (rO:List (List Nat)):Bool :=
 let ms:=kh rO []
 rO.length==ops.length &&
 ((List.range ops.length).all fun j=>(rO.getD j []).all fun i=>i<j) &&
 (C8 ops.length).all fun p=>match ops[p.1]?,ops[p.2]? with
   | some a,some b => !Fq a b||(ms.getD p.2 0).testBit p.1
   | _,_=>true
def Bh (ops:List bx) (rO:List (List Nat)):List (Nat × Nat) :=
 let ms:=kh rO []
 (C8 ops.length).filter fun p=>match ops[p.1]?,ops[p.2]? with
   | some a,some b => !a.op.pure && !b.op.pure && !(a.op.uJ&&b.op.uJ) && !(ms.getD p.2 0).testBit p.1
   | _,_=>false
def BV (P:Program) (ops:Array Oper) (o:Oper):Option bx :=
 match cOp P o.op,o.guard with
 | some op,none=>some { dst:=o.dst,op }
 | some op,some (j,want)=>match (ops[j]?).bind (·.dst) with
   | some d=>some { dst:=o.dst,op,guard:=some (d,want) }
   | none=>none
 | none,_=>none
def BW (o:Oper):List Nat:=(o.after.toList.filter (Region.binds .any)).map (·.on)
def mP (P:Program) (ops:Array Oper) (draw:Bool):Option bY :=
 match ops.toList.mapM (BV P ops) with
 | none=>none
 | some vs =>
   if draw then
     let rO:=ops.toList.map BW
     if Gu vs rO&&P.follows .mixedOrders then some (.reg (some (Bh vs rO)) vs) else none
   else some (.reg none vs)
def ij (P:Program):Code->Option bY
 | .skip=>some .skip
 | .region _ ops draw=>mP P ops draw
 | .seq a b=>match ij P a,ij P b with | some a,some b=>some (.seq a b) | _,_=>none
 | .cond c a b=>match cU c,ij P a,ij P b with | some c,some a,some b=>some (.cond c a b) | _,_,_=>none
 | .block id c=>(ij P c).map (.block id)
 | .loop c=>(ij P c).map .loop
 | .exit id=>some (.exit id)
 | .ret=>some .ret
 | _=>none
def U9 (P:Program):ResultVar->Option vI
 | .tmp t=>some (.tmp t)
 | .cell a t=>match qu P t,P.info? t with
   | some g,some i=>if g=true∨i.size=1 then some (.cell a g i.size) else none
   | _,_=>none
def JA (P:Program) (fn:Func):Option ax :=
 if fn.name == "runtime.NumGoroutine" then none else
 match fn.body,fn.results.toList.mapM (U9 P) with
 | some c,some rs=>(ij P c).map fun b=>{ nt:=fn.ntmps,results:=rs,body:=b }
 | _,_=>none
end Go.VL
end

section
namespace Go.VL
structure lX (G:Nat->Option (List AV)) (own:Nat->Prop) (E:Env) (w:World) (σ : ae) (p:Id) (r:fL) (v:Value) (E':Env) (w':World):Prop where
 I1:Adv own E E' w w'
 inv:Inv G own E' w' (σ.app r.up)
 rep:aN E' w' r.val v
 ids:∀ i:Id, ¬ p <:+ i->E'.μ i=E.μ i
def Sound (P:Program) (G:Nat->Option (List AV)) (own:Nat->Prop) (E:Env) (w:World) (σ : ae) (p:Id) (s:Sem Value) (r:fL):Prop :=
 ∃ v w' E',s.run P w = .ok v w'/\lX G own E w σ p r v E' w'
section
variable {P:Program} {G:Nat->Option (List AV)} {own:Nat->Prop} {E:Env} {w:World} {σ : ae} {p:Id}
theorem Sound.same {s:Sem Value} {c:AV} {v:Value} {rd:List Id} (h:Inv G own E w σ) (hr:s.run P w = .ok v w) (hv:aN E w c v):Sound P G own E w σ p s { val:=c,rd:=rd } :=
 ⟨v,w,E,hr,Adv.refl own E w,h,hv,fun _ _=>rfl⟩
theorem Sound.gn {s:Sem Value} {oc:Option AV} {r:fL} (h:bB oc=some r) (k:∀ c,oc=some c->Sound P G own E w σ p s { val:=c }):Sound P G own E w σ p s r:=by
 cases oc with
 | none=>simp [bB] at h
 | some c=>simp only [bB,Option.map_some,Option.some.injEq] at h;subst h;exact k c rfl
theorem iJ {α β : Type} {f : α -> Option β}:∀ {l:List α} {r:List β},l.mapM f=some r->r.length=l.length
 | [],r,h=>by simp at h;simp [<- h]
 | a::l,r,h=>by
   simp only [List.mapM_cons,Option.pure_def,Option.bind_eq_bind,Option.bind_eq_some_iff] at h
   obtain ⟨b,_,r',h2,h3⟩:=h
   simp only [Option.some.injEq] at h3
   subst h3
   simp [iJ h2]
theorem mapM_some_get {α β : Type} {f : α -> Option β}:∀ {l:List α} {r:List β},l.mapM f=some r->∀ (i:Nat) (b : β),r[i]? = some b->∃ a,l[i]? = some a/\f a=some b
 | [],r,h,i,b,hb=>by simp at h;subst h;simp at hb
 | a::l,r,h,i,b,hb=>by
   simp only [List.mapM_cons,Option.pure_def,Option.bind_eq_bind,Option.bind_eq_some_iff] at h
   obtain ⟨c,h1,r',h2,h3⟩:=h
   simp only [Option.some.injEq] at h3
   subst h3
   cases i with
   | zero=>simp at hb;subst hb;exact ⟨a,rfl,h1⟩
   | succ i=>simpa using mapM_some_get h2 i b (by simpa using hb)
theorem S4 {β : Type} {f : β -> Option AV} {val : β -> Value} (h:∀ x c,f x=some c->aN E w c (val x)) {l:List β} {r:List AV} (hm:l.mapM f=some r):aU E w r (l.map val):=by
 refine bT.2 ⟨by simp [iJ hm],fun j c hj => ?_⟩
 obtain ⟨a,h1,h2⟩:=mapM_some_get hm j c hj
 exact ⟨val a,by simp [h1],h a c h2⟩
theorem jh:∀ {n:Nat} {v:Value} {c:AV},lL n v=some c->aN E w c v
 | 0,_,_,h=>by simp [lL] at h
 | n + 1,v,c,h=>by
   have ih:∀ x c,lL n x=some c->aN E w c x:=fun x c h=>jh h
   have hl:∀ {cs:List Value} {r:List AV},cs.mapM (lL n)=some r->aU E w r cs:=by
     intro cs r hm
     simpa using S4 (val:=id) ih hm
   unfold lL at h
   split at h
   . simp only [Option.some.injEq] at h;subst h;simp [aN]
   . simp only [Option.some.injEq] at h;subst h;simp [aN]
   . simp only [Option.some.injEq] at h;subst h;simp [aN]
   . simp only [Option.some.injEq] at h;subst h;simp [aN]
   . simp only [Option.some.injEq] at h;subst h;simp [aN]
   . simp only [Option.some.injEq] at h;subst h;simp [aN]
   . rename_i cs
     cases hm:cs.toList.mapM (lL n) with
     | none=>simp [hm] at h
     | some r=>simp only [hm,Option.map_some,Option.some.injEq] at h;subst h;simp only [aN];exact ⟨cs,rfl,hl hm⟩
   . rename_i cs
     cases hm:cs.toList.mapM (lL n) with
     | none=>simp [hm] at h
     | some r=>simp only [hm,Option.map_some,Option.some.injEq] at h;subst h;simp only [aN];exact ⟨cs,rfl,hl hm⟩
   . simp at h
def cF (E:Env) (w:World) (t:List AV) (a:Act):Prop:=aU E w t a.tmps.toList
theorem cF.get {t:List AV} {a:Act} (h:cF E w t a) (n:Nat):aN E w (t.getD n (.tup [])) (a.tmps.getD n undef):=by
 obtain ⟨hl,hp⟩:=bT.1 h
 by_cases hn:n<t.length
 . obtain ⟨v,hv,hr⟩:=hp n t[n] (by simp [hn])
   have:a.tmps.getD n undef=v:=by
     rw [Array.getD_eq_getD_getElem?];simp at hv;simp [hv]
   rw [this]
   simpa [List.getD,hn] using hr
 . have h1:t.getD n (.tup []) = .tup []:=by simp [List.getD,Nat.le_of_not_lt hn]
   have h2:a.tmps.getD n undef=undef:=by
     rw [Array.getD_eq_getD_getElem?]
     have:a.tmps.size<=n:=by have:=hl;simp at this;omega
     simp [this]
   rw [h1,h2]
   simp only [aN,undef]
   exact ⟨#[],rfl,by simp [aU]⟩
theorem aX {t:List AV} {a:Act} (hf:cF E w t a) (hi:Inv G own E w σ) {x:Operand} {va:aV} (h:cU x=some va):aN E w (va.ev G t) (a.eval x):=by
 cases x with
 | tmp n=>simp only [cU,Option.some.injEq] at h;subst h;exact hf.get n
 | const v =>
   simp only [cU] at h
   cases hc:lL 3 v with
   | none=>simp [hc] at h
   | some c=>simp only [hc,Option.map_some,Option.some.injEq] at h;subst h;exact jh hc
 | global g =>
   simp only [cU,Option.some.injEq] at h;subst h
   simp only [aV.ev,Act.eval]
   cases hg:G g with
   | none=>simp [aN]
   | some cs =>
     obtain ⟨h1,h2⟩:=hi.glob g cs hg
     simp only [aN]
     exact ⟨g,0,rfl,h1,bq.keep (Step.ade E w) rfl cs 0 h2⟩
 | func f =>
   simp only [cU,Option.some.injEq] at h;subst h
   simp only [aV.ev,Act.eval,aN]
   exact ⟨#[], #[],rfl,by simp [aU],by simp [aU]⟩
theorem Er {t:List AV} {a:Act} (hf:cF E w t a) (hi:Inv G own E w σ) {xs:Array Operand} {vs:List aV} (h:GR xs=some vs) :
   aU E w (vs.map (aV.ev G t)) (xs.map a.eval).toList:=by
 unfold GR at h
 refine bT.2 ⟨by simp [iJ h],fun j c hj => ?_⟩
 simp only [List.getElem?_map,Option.map_eq_some_iff] at hj
 obtain ⟨va,BX,rfl⟩:=hj
 obtain ⟨x,h1,h2⟩:=mapM_some_get h j va BX
 refine ⟨a.eval x, ?_,aX hf hi h2⟩
 simp at h1
 simp [h1]
theorem xe {t:TypeId} {b:Bool} (h:qu P t=some b) (w:World):(isAgg t).run P w = .ok b w:=by
 unfold qu at h
 cases hu:P.underlying t with
 | none=>simp [hu] at h
 | some d=>cases d<;>simp [hu] at h<;>subst h<;>simp [isAgg,run_underlying hu]
theorem fO {t:TypeId} {i:TypeInfo} (h:P.info? t=some i) (w:World):(sizeOf t).run P w = .ok i.size w:=by simp [sizeOf,typeInfo,h]
theorem lY {t:TypeId} {z:AV} (h:nj P t=some z):∃ i v,P.info? t=some i/\i.zero=some v/\lL 3 v=some z/\z.size=i.size/\z.cells.all AV.one=true:=by
 unfold nj at h
 cases hi:P.info? t with
 | none=>simp [hi] at h
 | some i =>
   simp only [hi] at h
   cases hz:i.zero with
   | none=>simp [hz] at h
   | some v =>
     simp only [hz] at h
     cases hc:lL 3 v with
     | none=>simp [hc] at h
     | some a =>
       simp only [hc] at h
       split at h
       . rename_i hh
         simp only [Option.some.injEq] at h;subst h
         exact ⟨i,v,rfl,hz,hc,hh.1,hh.2⟩
       . simp at h
theorem BZ {t:TypeId} {i:TypeInfo} {v:Value} (h:P.info? t=some i) (hz:i.zero=some v) (w:World):(zeroValue t).run P w = .ok v w:=by
 simp [zeroValue,typeInfo,h,hz]
theorem kr {c:AV} (h:c.cells.all AV.one=true):c.one=true∨∃ cs,c = .agg cs:=by
 cases c<;>simp [AV.cells,AV.one] at h ⊢
theorem Va {agg:Bool} {cs:List AV} {o n:Nat} {c:AV} (h:part agg cs o n=some c) {xs:Array Value} (hr:aU E w cs xs.toList) :
   aN E w c (if agg then .agg (xs.extract o (o+n)) else xs.getD o undef)/\o+n<=xs.size/\(agg=false->n=1):=by
 obtain ⟨hl,hp⟩:=bT.1 hr
 unfold part at h
 split at h
 . rename_i hle
   refine ⟨?_,by simp at hl;omega, ?_⟩
   . cases agg with
     | true =>
       simp only [if_true,Option.some.injEq] at h ⊢
       subst h
       simp only [aN]
       refine ⟨_,rfl,bT.2 ⟨by simp at hl ⊢;omega,fun j d hj => ?_⟩⟩
       rw [List.getElem?_take] at hj
       split at hj
       . rename_i S5
         rw [List.getElem?_drop] at hj
         obtain ⟨v,hv,hvr⟩:=hp _ _ hj
         refine ⟨v, ?_,hvr⟩
         simp at hv
         have:o+j<xs.size:=(Array.getElem?_eq_some_iff.1 hv).1
         simp only [Array.toList_extract,List.extract_eq_take_drop,Nat.add_sub_cancel_left]
         rw [List.getElem?_take_of_lt S5,List.getElem?_drop]
         simpa using hv
       . simp at hj
     | false =>
       simp only [Bool.false_eq_true,if_false] at h ⊢
       split at h
       . obtain ⟨v,hv,hvr⟩:=hp _ _ h
         rw [Array.getD_eq_getD_getElem?]
         simp at hv
         simpa [hv] using hvr
       . simp at h
   . intro ha;subst ha
     simp only [Bool.false_eq_true,if_false] at h
     split at h
     . assumption
     . simp at h
 . simp at h
def jR:AV->Value
 | .bool b => .bool b
 | .int k n => .int k n
 | .str l => .string ⟨l.toArray⟩
 | _=>undef
def AV.plain:AV->Bool
 | .bool _ | .int _ _ | .str _=>true
 | _=>false
theorem JB {c:AV} (h:c.plain=true):aN E w c (jR c):=by cases c<;>simp [AV.plain] at h<;>simp [aN,jR]
theorem Mu {op:BinOp} {k k':IntKind} {a b:Int} {t:TypeId} {c:AV} (hk:op = .shl∨op = .shr∨k=k') (h:vH op k a b=some c) (w:World) :
   (binOp op t (.int k a) (.int k' b)).run P w = .ok (jR c) w/\c.plain=true:=by
 cases op<;>simp only [vH] at h
 case shl=>split at h<;>simp only [Option.some.injEq,reduceCtorEq] at h;subst h;rename_i hb;exact ⟨by simp only [binOp_shl,Op.shift,hb,if_false];rfl,rfl⟩
 case shr=>split at h<;>simp only [Option.some.injEq,reduceCtorEq] at h;subst h;rename_i hb;exact ⟨by simp only [binOp_shr,Op.shift,hb,if_false];rfl,rfl⟩
 all_goals obtain rfl:=(by simpa using hk:k=k')
 case quo=>split at h<;>simp only [Option.some.injEq,reduceCtorEq] at h;subst h;rename_i hb;exact ⟨by simp [binOp_quo,Op.intDiv,hb,jR],rfl⟩
 case rem=>split at h<;>simp only [Option.some.injEq,reduceCtorEq] at h;subst h;rename_i hb;exact ⟨by simp [binOp_rem,Op.intDiv,hb,jR],rfl⟩
 case and=>simp only [bitsOf,Option.map_some,Option.some.injEq] at h;subst h;exact ⟨by simp [binOp_and,Op.intBits,jR],rfl⟩
 case or=>simp only [bitsOf,Option.map_some,Option.some.injEq] at h;subst h;exact ⟨by simp [binOp_or,Op.intBits,jR],rfl⟩
 case xor=>simp only [bitsOf,Option.map_some,Option.some.injEq] at h;subst h;exact ⟨by simp [binOp_xor,Op.intBits,jR],rfl⟩
 case andNot=>simp only [bitsOf,Option.map_some,Option.some.injEq] at h;subst h;exact ⟨by simp [binOp_andNot,Op.intBits,jR],rfl⟩
 all_goals (simp only [Option.some.injEq] at h;subst h;refine ⟨?_,rfl⟩)
 all_goals simp [binOp,Op.intArith,Op.intCmp,jR]
theorem Vb {op:BinOp} {a b:List UInt8} {t:TypeId} {c:AV} (h:YV op a b=some c) (w:World) :
   (binOp op t (.string ⟨a.toArray⟩) (.string ⟨b.toArray⟩)).run P w = .ok (jR c) w/\c.plain=true:=by
 cases op<;>simp only [YV,reduceCtorEq] at h
 case add =>
   split at h
   . rename_i hle
     simp only [Option.some.injEq] at h;subst h
     refine ⟨?_,rfl⟩
     have h1 : ¬ (((ByteArray.mk a.toArray).size+(ByteArray.mk b.toArray).size:Nat):Int)>IntKind.i64.max:=by
       simp only [IntKind.max_i64,ByteArray.size,List.size_toArray]
       unfold maxLen at hle;omega
     simp only [binOp,Op.stringOp,h1,if_false,jR,Sem.run_pure]
     congr 2
   . simp at h
 all_goals (simp only [Option.some.injEq] at h;subst h;refine ⟨?_,rfl⟩;simp [binOp,Op.stringOp,jR])
end
end Go.VL
end

section
namespace Go.VL
section
variable {P:Program} {G:Nat->Option (List AV)} {own:Nat->Prop} {E:Env} {w:World} {σ : ae} {p:Id}
theorem vJ {t:TypeId} {sh:Sh} (h:S3 P t=some sh) :
   match sh with
   | .int=>∃ k,P.underlying t=some (.int k)
   | .str=>P.underlying t=some .string
   | .bool=>P.underlying t=some .bool
   | .ptr=>∃ e,P.underlying t=some (.pointer e)
   | .slice=>∃ e,P.underlying t=some (.slice e)
   | .func=>∃ a b c,P.underlying t=some (.func a b c):=by
 unfold S3 at h
 split at h<;>simp only [Option.some.injEq,reduceCtorEq] at h<;>subst h<;>simp_all
theorem C9 (op:BinOp) (t:TypeId) (x y:Operand) (a b:Value) (ha:a ≠ .nilIface) (hb:∀ cs,a ≠ .agg cs) (w:World):(eqGuard op t x y a b).run P w = .ok () w:=by
 unfold eqGuard
 cases op<;>cases a<;>first | rfl | exact absurd rfl ha | exact absurd rfl (hb _)
section
variable {t:TypeId} (d:Nat)
theorem S6 (hu:P.underlying t=some .bool) (a b:Bool):(Op.equalIn (d+1) t (.bool a) (.bool b)).run P w = .ok (a==b) w:=by simp [Op.equalIn,run_underlying hu]
theorem S7 {e:TypeId} (hu:P.underlying t=some (.pointer e)):(Op.equalIn (d+1) t (.pointer none) (.pointer none)).run P w = .ok true w:=by simp [Op.equalIn,run_underlying hu]
theorem JC {e:TypeId} (hu:P.underlying t=some (.pointer e)) (a:Addr):(Op.equalIn (d+1) t (.pointer none) (.pointer (some a))).run P w = .ok false w:=by simp [Op.equalIn,run_underlying hu]
theorem JD {e:TypeId} (hu:P.underlying t=some (.pointer e)) (a:Addr):(Op.equalIn (d+1) t (.pointer (some a)) (.pointer none)).run P w = .ok false w:=by simp [Op.equalIn,run_underlying hu]
theorem Vc {e:TypeId} (hu:P.underlying t=some (.slice e)):(Op.equalIn (d+1) t (.slice none 0 0) (.slice none 0 0)).run P w = .ok true w:=by simp [Op.equalIn,run_underlying hu]
theorem Vd {e:TypeId} (hu:P.underlying t=some (.slice e)) (a:Addr) (n m:Nat):(Op.equalIn (d+1) t (.slice none 0 0) (.slice (some a) n m)).run P w = .ok false w:=by simp [Op.equalIn,run_underlying hu]
theorem GU {e:TypeId} (hu:P.underlying t=some (.slice e)) (a:Addr) (n m:Nat):(Op.equalIn (d+1) t (.slice (some a) n m) (.slice none 0 0)).run P w = .ok false w:=by simp [Op.equalIn,run_underlying hu]
theorem Ve {e f:Array TypeId} {g:Bool} (hu:P.underlying t=some (.func e f g)):(Op.equalIn (d+1) t .nilFunc .nilFunc).run P w = .ok true w:=by simp [Op.equalIn,run_underlying hu]
theorem Vf {e f:Array TypeId} {g:Bool} (hu:P.underlying t=some (.func e f g)) (x:Fn) (y z:Array Value):(Op.equalIn (d+1) t .nilFunc (.func x y z)).run P w = .ok false w:=by simp [Op.equalIn,run_underlying hu]
theorem Vg {e f:Array TypeId} {g:Bool} (hu:P.underlying t=some (.func e f g)) (x:Fn) (y z:Array Value):(Op.equalIn (d+1) t (.func x y z) .nilFunc).run P w = .ok false w:=by simp [Op.equalIn,run_underlying hu]
end
theorem n9 {op:BinOp} {t:TypeId} {a b:Value} {r:Bool} {c:AV} (hn:∀ (k:IntKind) n,a ≠ .int k n) (hs:∀ s,a ≠ .string s) (hf:∀ k n,a ≠ .float k n) (Vh:∀ k n m,a ≠ .complex k n m)
   (he':(Op.equalIn (9999+1) t a b).run P w = .ok r w)
   (hc:(match op with | .eql=>some (AV.bool r) | .neq=>some (AV.bool !r) | _=>none)=some c):(binOp op t a b).run P w = .ok (jR c) w/\c.plain=true:=by
 have he:(Op.equal t a b).run P w = .ok r w:=he'
 clear he'
 cases op<;>simp only [reduceCtorEq] at hc
 all_goals
   simp only [Option.some.injEq] at hc;subst hc;refine ⟨?_,rfl⟩
   cases a<;>first
     | exact absurd rfl (hn _ _)
     | exact absurd rfl (hs _)
     | exact absurd rfl (hf _ _)
     | exact absurd rfl (Vh _ _ _)
     | simp [binOp,he,jR]
theorem Vi {op:BinOp} {t:TypeId} {sh:Sh} (QK:S3 P t=some sh) {x y c:AV} {a b:Value} (h:lW op sh x y=some c) (hx:aN E w x a) (hy:aN E w y b) :
   (binOp op t a b).run P w = .ok (jR c) w/\c.plain=true/\a ≠ .nilIface/\(∀ cs,a ≠ .agg cs):=by
 have hu:=vJ QK
 unfold lW at h
 split at h
 . simp only [aN] at hx hy;subst hx;subst hy
   split at h
   . rename_i hk
     obtain ⟨h1,h2⟩:=Mu (t:=t) (P:=P) (by simpa using hk) h w
     exact ⟨h1,h2,by simp,by simp⟩
   . simp at h
 . simp only [aN] at hx hy;subst hx;subst hy
   obtain ⟨h1,h2⟩:=Vb (t:=t) (P:=P) h w
   exact ⟨h1,h2,by simp,by simp⟩
 . simp only [aN] at hx hy;subst hx;subst hy
   rename_i a b
   refine and_assoc.1 ⟨?_,by simp,by simp⟩
   exact n9 (r:=a==b) (by simp) (by simp) (by simp) (by simp) (S6 _ hu _ _) h
 . obtain ⟨e,hu⟩:=hu
   simp only [aN] at hx hy;subst hx;subst hy
   refine and_assoc.1 ⟨?_,by simp,by simp⟩
   exact n9 (r:=true) (by simp) (by simp) (by simp) (by simp) (S7 _ hu) h
 . obtain ⟨e,hu⟩:=hu
   simp only [aN] at hx hy;subst hy;obtain ⟨_,_,_,_,rfl⟩:=hx
   refine and_assoc.1 ⟨?_,by simp,by simp⟩
   exact n9 (r:=false) (by simp) (by simp) (by simp) (by simp) (JD _ hu _) h
 . obtain ⟨e,hu⟩:=hu
   simp only [aN] at hx hy;subst hx;obtain ⟨_,_,_,_,rfl⟩:=hy
   refine and_assoc.1 ⟨?_,by simp,by simp⟩
   exact n9 (r:=false) (by simp) (by simp) (by simp) (by simp) (JC _ hu _) h
 . obtain ⟨e,hu⟩:=hu
   simp only [aN] at hx hy;subst hy;obtain ⟨_,_,rfl,_⟩:=hx
   refine and_assoc.1 ⟨?_,by simp,by simp⟩
   exact n9 (r:=false) (by simp) (by simp) (by simp) (by simp) (JD _ hu _) h
 . obtain ⟨e,hu⟩:=hu
   simp only [aN] at hx hy;subst hx;obtain ⟨_,_,rfl,_⟩:=hy
   refine and_assoc.1 ⟨?_,by simp,by simp⟩
   exact n9 (r:=false) (by simp) (by simp) (by simp) (by simp) (JC _ hu _) h
 . obtain ⟨e,hu⟩:=hu
   simp only [aN] at hx hy;subst hx;subst hy
   refine and_assoc.1 ⟨?_,by simp,by simp⟩
   exact n9 (r:=true) (by simp) (by simp) (by simp) (by simp) (Vc _ hu) h
 . obtain ⟨e,hu⟩:=hu
   simp only [aN] at hx hy;subst hy;obtain ⟨_,_,_,_,rfl,_⟩:=hx
   refine and_assoc.1 ⟨?_,by simp,by simp⟩
   exact n9 (r:=false) (by simp) (by simp) (by simp) (by simp) (GU _ hu _ _ _) h
 . obtain ⟨e,hu⟩:=hu
   simp only [aN] at hx hy;subst hx;obtain ⟨_,_,_,_,rfl,_⟩:=hy
   refine and_assoc.1 ⟨?_,by simp,by simp⟩
   exact n9 (r:=false) (by simp) (by simp) (by simp) (by simp) (Vd _ hu _ _ _) h
 . obtain ⟨e,hu⟩:=hu
   simp only [aN] at hx hy;subst hy;obtain ⟨a,cap,rfl,_,_,_,hx⟩:=hx
   simp only [reduceCtorEq,false_or] at hx
   obtain ⟨b,o,rfl,_⟩:=hx
   refine and_assoc.1 ⟨?_,by simp,by simp⟩
   exact n9 (r:=false) (by simp) (by simp) (by simp) (by simp) (GU _ hu _ _ _) h
 . obtain ⟨e,hu⟩:=hu
   simp only [aN] at hx hy;subst hy;obtain ⟨a,rfl,_,_,hx⟩:=hx
   simp only [reduceCtorEq,false_or] at hx
   obtain ⟨b,o,rfl,_⟩:=hx
   refine and_assoc.1 ⟨?_,by simp,by simp⟩
   exact n9 (r:=false) (by simp) (by simp) (by simp) (by simp) (GU _ hu _ _ _) h
 . obtain ⟨e,f,g,hu⟩:=hu
   simp only [aN] at hx hy;subst hx;subst hy
   refine and_assoc.1 ⟨?_,by simp,by simp⟩
   exact n9 (r:=true) (by simp) (by simp) (by simp) (by simp) (Ve _ hu) h
 . obtain ⟨e,f,g,hu⟩:=hu
   simp only [aN] at hx hy;subst hy;obtain ⟨_,_,rfl,_⟩:=hx
   refine and_assoc.1 ⟨?_,by simp,by simp⟩
   exact n9 (r:=false) (by simp) (by simp) (by simp) (by simp) (Vg _ hu _ _ _) h
 . obtain ⟨e,f,g,hu⟩:=hu
   simp only [aN] at hx hy;subst hx;obtain ⟨_,_,rfl,_⟩:=hy
   refine and_assoc.1 ⟨?_,by simp,by simp⟩
   exact n9 (r:=false) (by simp) (by simp) (by simp) (by simp) (Vf _ hu _ _ _) h
 . simp at h
theorem Vj {P:Program} {w:World} {t e:TypeId} {d:Nat} (hu:P.underlying t=some (.slice e)) (a:Option Addr) (n m:Nat):(Op.equalIn (d+1) t (.slice a n m) (.slice none 0 0)).run P w = .ok a.isNone w:=by cases a<;>simp [Op.equalIn,run_underlying hu]
theorem S8 {op:BinOp} {t:TypeId} {sh:Sh} (QK:S3 P t=some sh) {x y c:AV} {a b:Value} (h:U5 op sh x y=some c) (hx:aN E w x a) (hy:aN E w y b) :
   (∃ r,aN E w c (.bool r)/\(binOp op t a b).run P w = .ok (.bool r) w)/\a ≠ .nilIface/\(∀ cs,a ≠ .agg cs):=by
 have hu:=vJ QK
 have key:∀ (a:Option Addr) (n m:Nat) (op:BinOp) (c:AV) (e:TypeId),P.underlying t=some (.slice e)->(match op with | .eql | .neq=>some AV.anyb | _=>none)=some c ->
     ∃ r,aN E w c (.bool r)/\(binOp op t (.slice a n m) (.slice none 0 0)).run P w = .ok (.bool r) w:=by
   intro a n m op c e hu h
   have hq:=fun r=>n9 (P:=P) (w:=w) (op:=op) (t:=t) (a := .slice a n m) (b := .slice none 0 0) (r:=a.isNone) (c:=r) (by simp) (by simp) (by simp) (by simp) (Vj hu a n m)
   cases op<;>simp only [reduceCtorEq,Option.some.injEq] at h
   . subst h;exact ⟨_,by simp [aN],(hq (.bool a.isNone) rfl).1⟩
   . subst h;exact ⟨_,by simp [aN],(hq (.bool !a.isNone) rfl).1⟩
 unfold U5 at h
 split at h
 . obtain ⟨e,hu⟩:=hu
   simp only [aN] at hx hy;subst hy;obtain ⟨a,cap,rfl,_⟩:=hx
   exact ⟨key a _ cap op c e hu h,by simp,by simp⟩
 . obtain ⟨e,hu⟩:=hu
   simp only [aN] at hx hy;subst hy;obtain ⟨a,rfl,_⟩:=hx
   exact ⟨key a _ _ op c e hu h,by simp,by simp⟩
 . rename_i a0 n
   simp only [aN] at hx hy
   obtain ⟨m,zH,rfl⟩:=hy
   subst hx
   refine ⟨?_,by simp,by simp⟩
   split at h
   . split at h
     . rename_i hle
       simp only [Option.some.injEq] at h;subst h
       have hv:vH .gtr .i64 a0 (m:Int)=some (.bool (decide (a0>(m:Int)))):=by simp [vH]
       obtain ⟨h1,_⟩:=Mu (P:=P) (t:=t) (k := .i64) (k' := .i64) (op := .gtr) (by simp) hv w
       have hd:decide (a0>(m:Int))=false:=by simp;omega
       rw [hd] at h1
       exact ⟨false,by simp [aN],h1⟩
     . simp at h
   . simp at h
 . simp at h
theorem YY {op:UnOp} {x c:AV} {a:Value} (h:vun op x=some c) (hx:aN E w x a):(Op.unary op a).run P w = .ok (jR c) w/\c.plain=true:=by
 unfold vun at h
 split at h
 . simp only [aN] at hx;subst hx
   simp only [Option.some.injEq] at h;subst h
   exact ⟨by simp [Op.unary,Op.intArith,jR],rfl⟩
 . simp only [aN] at hx;subst hx
   simp only [bitsOf,Option.map_some,Option.some.injEq] at h;subst h
   exact ⟨by simp [Op.unary,Op.intBits,jR],rfl⟩
 . simp only [aN] at hx;subst hx
   simp only [Option.some.injEq] at h;subst h
   exact ⟨by simp [Op.unary,jR],rfl⟩
 . simp at h
theorem JE (hi:Inv G own E w σ) {t:TypeId} {agg:Bool} {i:TypeInfo} (ha:qu P t=some agg) (F0:P.info? t=some i) {x:AV} {a:Value} (hx:aN E w x a) {r:fL}
   (h:lK σ agg i.size x=some r):(∃ v,(Instr.loadAt t a).run P w = .ok v w/\aN E w r.val v)/\r.up=[]/\∃ ad,a = .pointer (some ad):=by
 have key:∀ (b q o:Nat) (cs:List AV) (c:AV),fy E w b q cs->part agg cs o i.size=some c->(∃ v,(Instr.loadAt t (.pointer (some ⟨b,q+o,none⟩))).run P w = .ok v w/\aN E w c v):=by
   intro b q o cs c hr hp
   unfold part at hp
   split at hp
   . rename_i hle
     cases agg with
     | true =>
       simp only [if_true,Option.some.injEq] at hp;subst hp
       have Cp:∀ j,j<i.size->∃ v,w.cell? ⟨b,q+o+j,none⟩=some v/\∃ d,((cs.drop o).take i.size)[j]? = some d/\aN E w d v:=by
         intro j hj
         have hlt:o+j<cs.length:=by omega
         obtain ⟨v,hv,GV⟩:=hr (o+j) cs[o+j] (by simp [hlt])
         refine ⟨v,by rw [<- hv];congr 2;omega,cs[o+j], ?_,GV⟩
         rw [List.getElem?_take_of_lt hj,List.getElem?_drop];simp [hlt]
       let f:Nat->Value:=fun j=>(w.cell? ⟨b,q+o+j,none⟩).getD undef
       have hf:∀ j,j<i.size->w.cell? ((⟨b,q+o,none⟩:Addr).add j)=some (f j):=by
         intro j hj
         obtain ⟨v,hv,_⟩:=Cp j hj
         rw [Addr.add_lit];simp [f,hv]
       have hl:=run_loadCells (P:=P) w ⟨b,q+o,none⟩ i.size f hf
       refine ⟨.agg ((List.range i.size).map f).toArray, ?_, ?_⟩
       . simp [Instr.loadAt,Instr.sureAddr,loadVar,xe ha,fO F0,hl]
       . simp only [aN]
         refine ⟨_,rfl,bT.2 ⟨by simp;omega,fun j d hj => ?_⟩⟩
         have zD:j<i.size:=by
           have:=(List.getElem?_eq_some_iff.1 hj).1
           simp at this;omega
         obtain ⟨v,hv,d',YF,hrd⟩:=Cp j zD
         have:d=d':=by rw [hj] at YF;simpa using YF
         subst this
         refine ⟨v, ?_,hrd⟩
         simp [zD,f,hv]
     | false =>
       simp only [Bool.false_eq_true,if_false] at hp
       split at hp
       . rename_i h1
         obtain ⟨v,hv,GV⟩:=hr o c hp
         refine ⟨v, ?_,GV⟩
         simp [Instr.loadAt,Instr.sureAddr,loadVar,xe ha,hv]
       . simp at hp
   . simp at hp
 unfold lK at h
 split at h
 . rename_i id e o
   split at h
   . rename_i bk hσ
     split at h
     . rename_i el C3
       cases hp:part agg el.cells o i.size with
       | none=>simp [hp] at h
       | some c =>
         simp only [hp,Option.map_some,Option.some.injEq] at h;subst h
         obtain ⟨g,N,cur,ty,hB⟩:=hi.blk id bk hσ
         simp only [aN] at hx
         obtain ⟨g',k',N',hm,rfl⟩:=hx
         rw [hB.μ] at hm
         simp only [Option.some.injEq,Prod.mk.injEq] at hm
         obtain ⟨rfl,rfl,rfl⟩:=hm
         have:=Mr hB.k hB.row C3
         rw [Nat.zero_add] at this
         exact ⟨key _ _ _ _ _ this hp,rfl,_,rfl⟩
     . simp at h
   . simp at h
 . rename_i cs o
   cases hp:part agg cs o i.size with
   | none=>simp [hp] at h
   | some c =>
     simp only [hp,Option.map_some,Option.some.injEq] at h;subst h
     simp only [aN] at hx
     obtain ⟨b,q,rfl,_,hr⟩:=hx
     exact ⟨key _ _ _ _ _ (fN.1 hr) hp,rfl,_,rfl⟩
 . simp at h
theorem Mv (hi:Inv G own E w σ) {t:TypeId} {agg:Bool} {i:TypeInfo} (ha:qu P t=some agg) (F0:P.info? t=some i) {x:AV} {a:Value} (hx:aN E w x a) {r:fL}
   (h:lK σ agg i.size x=some r):Sound P G own E w σ p (Instr.loadAt t a) r:=by
 obtain ⟨⟨v,h1,h2⟩,h3,_⟩:=JE hi ha F0 hx h
 exact ⟨v,w,E,h1,Adv.refl own E w,by rw [h3];exact hi,h2,fun _ _=>rfl⟩
theorem I5 {c:AV} (h:c.cells.all AV.one=true):∀ x∈c.cells,x.one=true:=by simpa using h
theorem KJ (hi:Inv G own E w σ) {t:TypeId} {i:TypeInfo} (F0:P.info? t=some i) {x y:AV} {a b:Value} (hx:aN E w x a) (hy:aN E w y b) {r:fL}
   (h:ir σ i.size x y=some r):∃ w',(Instr.storeAt t a b).run P w = .ok () w'/\lX G own E w σ p r undef E w':=by
 unfold ir at h
 split at h
 . rename_i id e o
   split at h
   . rename_i bk hσ
     split at h
     . rename_i el C3
       split at h
       . rename_i hh
         obtain ⟨I0,hlen,hle,Es⟩:=hh
         simp only [Option.some.injEq] at h;subst h
         obtain ⟨g,N,cur,ty,hB⟩:=hi.blk id bk hσ
         simp only [aN] at hx
         obtain ⟨g',k',N',hm,rfl⟩:=hx
         rw [hB.μ] at hm
         simp only [Option.some.injEq,Prod.mk.injEq] at hm
         obtain ⟨rfl,rfl,rfl⟩:=hm
         have abB:=I5 Es
         have YZ:=aN.cells hy (kr Es)
         have yK:b.cells.size=i.size:=by have:=aU.len YZ;simp at this;omega
         obtain ⟨hb,ig,hinv⟩:=U4 hi hσ I0 hB C3 (o:=o) (new:=y.cells) (vs:=b.cells.toList) (by omega) abB YZ
         refine ⟨_, ?_,ig,hinv, ?_,fun _ _=>rfl⟩
         . have h1:∀ v∈b.cells.toList,v.oneCell'=true:=by
             intro v hv
             obtain ⟨j,hj⟩:=List.mem_iff_getElem?.1 hv
             obtain ⟨Mw,hp2⟩:=bT.1 YZ
             have zD:j<y.cells.length:=by have:=(List.getElem?_eq_some_iff.1 hj).1;omega
             obtain ⟨u,hu,hru⟩:=hp2 j y.cells[j] (by simp [zD])
             have:u=v:=by rw [hj] at hu;simpa using hu.symm
             subst this
             exact aN.one hru (abB _ (by simp))
           have hst:=run_storeCells_at P g (e*bk.k+o) ty b.cells.toList 0 cur w hB.heap (by simpa using hb) h1
           simp only [Nat.add_zero] at hst
           simp [Instr.storeAt,Instr.sureAddr,storeVar,fO F0,yK,hst]
         . simp only [aN,undef];exact ⟨#[],rfl,by simp [aU]⟩
       . simp at h
     . simp at h
   . simp at h
 . simp at h
theorem Inv.sub {G:Nat->Option (List AV)} {own:Nat->Prop} {E:Env} {w:World} {σ σ':ae} (h:Inv G own E w σ) (hs:∀ id, σ' id=none ∨ σ' id = σ id):Inv G own E w σ' where
 okb:=h.okb
 blk:=fun id bk hb=>by
   rcases hs id with h1 | h1
   . simp [h1] at hb
   . exact h.blk id bk (h1▸hb)
 inj := fun i j x y hi hj hne h1 h2=>by
   refine h.inj i j x y ?_ ?_ hne h1 h2
   . rcases hs i with h | h
     . exact absurd h hi
     . rw [<- h];exact hi
   . rcases hs j with h | h
     . exact absurd h hj
     . rw [<- h];exact hj
 glob:=h.glob
 new:=h.new
theorem Bi (hi:Inv G own E w σ) (hμ : E.μ p=none) (hσ : σ p=none) {els:List AV} {k N:Nat} {vs:List Value} (ty:TypeId)
   (hk:∀ e∈els,e.size=k) (hv:Em E w (flat els) vs) (hl:vs.length=N*k) (hN:els.length<=N) (hm:N<=maxLen) {c:AV} {v:Value}
   (hc:aN (E.bind p w.heap.size k N) (w.alloc (.cells vs.toArray ty)) c v) {rd:List Id} :
   lX G own E w σ p { val:=c,rd:=rd,up:=[(p,some ⟨els,k,false⟩)] } v (E.bind p w.heap.size k N) (w.alloc (.cells vs.toArray ty)):=by
 obtain ⟨h1,h2⟩:=U2 hi hμ hσ ty hk hv hl hN hm
 exact ⟨h1,h2,hc,fun i hne=>Env.ju _ _ _ _ _ (fun e=>hne (by rw [e];exact List.suffix_refl _))⟩
theorem JF (hi:Inv G own E w σ) (hμ : E.μ p=none) (hσ : σ p=none) {x:AV} {a:Value} (hx:aN E w x a) (Es:x.cells.all AV.one=true) (t:TypeId) :
   Sound P G own E w σ p (do pure (.pointer (some (<- newVar t a)))) { val := .ref p 0 0,up:=[(p,some ⟨[x],x.size,false⟩)] }:=by
 have YZ:=aN.cells hx (kr Es)
 obtain ⟨hl,hp⟩:=bT.1 YZ
 refine ⟨.pointer (some ⟨w.heap.size,0,none⟩),w.alloc (.cells a.cells t),E.bind p w.heap.size x.size 1,by simp [newVar,newRow], ?_⟩
 have:=Bi (p:=p) (rd:=[]) hi hμ hσ (els:=[x]) (k:=x.size) (N:=1) (vs:=a.cells.toList) t (by simp) (by simpa [flat] using hp) (by simpa [AV.size] using hl) (by simp) (by unfold maxLen;omega)
   (c := .ref p 0 0) (v := .pointer (some ⟨w.heap.size,0,none⟩)) (by simp only [aN];exact ⟨w.heap.size,x.size,1,Env.jQ _ _ _ _ _,by simp⟩)
 simpa using this
end
end Go.VL
end

section
namespace Go.VL
section
variable {P:Program} {G:Nat->Option (List AV)} {own:Nat->Prop} {E:Env} {w:World} {σ : ae} {p:Id}
theorem Fs (off:Nat):∀ (l:List Value) (s:Nat) (cs:Array Value),off+s+l.length<=cs.size ->
   ((l.zipIdx s).foldl (fun cs x=>cs.setIfInBounds (off+x.2) x.1) cs).toList=cs.toList.take (off+s)++l++cs.toList.drop (off+s+l.length)
 | [],s,cs,_=>by simp
 | v::l,s,cs,h=>by
   simp only [List.length_cons] at h
   simp only [List.zipIdx_cons,List.foldl_cons]
   rw [Fs off l (s+1) _ (by simp;omega)]
   simp only [Array.toList_setIfInBounds,List.length_cons]
   have h1:off+s<cs.toList.length:=by simp;omega
   rw [show off+(s+1)=off+s+1 from by omega]
   rw [List.take_succ_eq_append_getElem (by simpa using h1)]
   simp only [List.getElem_set_self,List.append_assoc,List.singleton_append]
   rw [List.take_set_of_le (by omega),List.drop_set_of_lt (by omega)]
   rw [show off+s+1+l.length=off+s+(l.length+1) from by omega]
theorem Vk {cells:Array Value} {off:Nat} {v:Value} (h:off+v.cells.size<=cells.size) :
   (v.cells.zipIdx.foldl (fun cs (c,j)=>cs.setIfInBounds (off+j) c) cells).toList=cells.toList.take off++v.cells.toList++cells.toList.drop (off+v.cells.size):=by
 rw [<- Array.foldl_toList,Array.toList_zipIdx]
 have:=Fs off v.cells.toList 0 cells (by simpa using h)
 simpa using this
theorem aU.append {xs ys:List AV} {us vs:List Value} (h1:aU E w xs us) (h2:aU E w ys vs):aU E w (xs++ys) (us++vs):=by
 obtain ⟨a,b⟩:=bT.1 h1
 obtain ⟨c,d⟩:=bT.1 h2
 exact bT.2 ⟨by simp [a,c],Em.append b a d⟩
theorem aU.take {xs:List AV} {us:List Value} (h:aU E w xs us) (n:Nat):aU E w (xs.take n) (us.take n):=by
 obtain ⟨a,b⟩:=bT.1 h
 refine bT.2 ⟨by simp [a],fun j c hj => ?_⟩
 rw [List.getElem?_take] at hj
 split at hj
 . rename_i hlt;rw [List.getElem?_take_of_lt hlt];exact b j c hj
 . simp at hj
theorem aU.drop {xs:List AV} {us:List Value} (h:aU E w xs us) (n:Nat):aU E w (xs.drop n) (us.drop n):=by
 obtain ⟨a,b⟩:=bT.1 h
 refine bT.2 ⟨by simp [a],fun j c hj => ?_⟩
 rw [List.getElem?_drop] at hj ⊢
 exact b _ c hj
def rb (E:Env) (w:World) (place:Nat->Option (Nat × Nat)):List (Nat × Nat × AV)->List (Nat × Value)->Prop
 | [],ps=>ps=[]
 | (o,n,x)::r,ps=>∃ i v rest,ps=(i,v)::rest/\place i=some (o,n)/\aN E w x v/\rb E w place r rest
theorem Et {place:Nat->Option (Nat × Nat)}:∀ {vps:List (Nat × Nat × AV)} {ps:List (Nat × Value)} {cs C4:List AV} {cells:Array Value},rb E w place vps ps->aU E w cs cells.toList ->
   kW cs vps=some C4->∃ KL:Array Value,Instr.fill place cells ps=some KL/\aU E w C4 KL.toList
 | [],ps,cs,C4,cells,hp,hc,h=>by
   simp only [rb] at hp;subst hp
   simp only [kW,Option.some.injEq] at h;subst h
   exact ⟨cells,rfl,hc⟩
 | (o, n,x)::r,ps,cs,C4,cells,hp,hc,h=>by
   simp only [rb] at hp
   obtain ⟨i,v,rest,rfl,hpl,hx,hr⟩:=hp
   simp only [kW] at h
   split at h
   . rename_i hh
     obtain ⟨h1,h2,h3⟩:=hh
     have hxc:=aN.cells hx (kr h3)
     have yK:v.cells.size=n:=by have:=aU.len hxc;simp at this;omega
     have I4:cells.size=cs.length:=by have:=aU.len hc;simpa using this
     have Ps:o+v.cells.size<=cells.size:=by omega
     have En:aU E w (cs.take o++x.cells++cs.drop (o+n)) (v.cells.zipIdx.foldl (fun cs (c,j)=>cs.setIfInBounds (o+j) c) cells).toList:=by
       rw [Vk Ps,yK]
       exact aU.append (aU.append (aU.take hc o) hxc) (aU.drop hc (o+n))
     obtain ⟨KL,hf,GX⟩:=Et hr En h
     refine ⟨KL, ?_,GX⟩
     simp only [Instr.fill,hpl]
     rw [if_neg (by simp [yK];omega)]
     exact hf
   . simp at h
theorem qX {t:List AV} {a:Act} (hf:cF E w t a) (hi:Inv G own E w σ) {place:Nat->Option (Nat × Nat)} {f:Nat × aV->Option (Nat × Nat × aV)}
   (hfp:∀ q r,f q=some r->r.2.2=q.2/\place q.1=some (r.1,r.2.1)) :
   ∀ {ps:List (Nat × Operand)} {qs:List (Nat × aV)} {rs:List (Nat × Nat × aV)},ps.mapM (fun p=>(cU p.2).map (p.1, ·))=some qs->qs.mapM f=some rs ->
   rb E w place (rs.map fun p=>(p.1,p.2.1,p.2.2.ev G t)) (ps.map fun p=>(p.1,a.eval p.2))
 | [],qs,rs,h1,h2=>by
   simp at h1;subst h1;simp at h2;subst h2;simp [rb]
 | (i,x)::ps,qs,rs,h1,h2=>by
   simp only [List.mapM_cons,Option.pure_def,Option.bind_eq_bind,Option.bind_eq_some_iff] at h1
   obtain ⟨q,hq,qs',hqs,he⟩:=h1
   simp only [Option.some.injEq] at he;subst he
   simp only [List.mapM_cons,Option.pure_def,Option.bind_eq_bind,Option.bind_eq_some_iff] at h2
   obtain ⟨r,hr,rs',I3,he⟩:=h2
   simp only [Option.some.injEq] at he;subst he
   cases hx:cU x with
   | none=>simp [hx] at hq
   | some va =>
     simp only [hx,Option.map_some,Option.some.injEq] at hq;subst hq
     obtain ⟨e1,e2⟩:=hfp _ _ hr
     simp only [List.map_cons,rb]
     refine ⟨i,a.eval x,_,rfl,e2, ?_,qX hf hi hfp hqs I3⟩
     rw [e1];exact aX hf hi hx
theorem Mx (hi:Inv G own E w σ) {t:List AV} {a:Act} (hf:cF E w t a) {ty:TypeId} {ps:Array (Nat × Operand)} {vo:hH aV} (hc:o0 P (.build ty ps)=some vo) {r:fL}
   (h:bW σ p (vo.map (aV.ev G t))=some r):Sound P G own E w σ p (Instr.build ty (ps.map fun (i,x)=>(i,a.eval x))) r:=by
 simp only [o0] at hc
 cases hu:P.underlying ty with
 | none=>simp [hu] at hc
 | some d =>
 cases hz:nj P ty with
 | none=>cases d<;>simp [hu,hz] at hc
 | some z =>
 cases Pc:ps.toList.mapM (fun p=>(cU p.2).map (p.1, ·)) with
 | none=>cases d<;>simp [hu,hz,Pc] at hc
 | some qs =>
 obtain ⟨it,zv,hit,Pd,KM,QL,QM⟩:=lY hz
 have agw:aN E w z zv:=jh KM
 have hzl:=aN.cells agw (kr QM)
 have fin:∀ {place:Nat->Option (Nat × Nat)} {vps:List (Nat × Nat × AV)} {cs:List AV},rb E w place vps (ps.map fun (i,x)=>(i,a.eval x)).toList->kW z.cells vps=some cs ->
     (∀ cells,Instr.fill place zv.cells (ps.map fun (i,x)=>(i,a.eval x)).toList=some cells->P.built ty (ps.map fun (i,x)=>(i,a.eval x)).toList=some cells) ->
     Sound P G own E w σ p (Instr.build ty (ps.map fun (i,x)=>(i,a.eval x))) { val := .agg cs }:=by
   intro place vps cs hp hv hb
   obtain ⟨cells,GN,hr⟩:=Et hp hzl hv
   refine Sound.same hi (run_build w ty _ cells (hb cells GN)) ?_
   simp only [aN];exact ⟨cells,rfl,hr⟩
 cases d with
 | struct fs =>
   simp only [hu,hz,Pc] at hc
   cases hpl:fs.toList.mapM (fun f=>(P.info? f.type).map fun i=>(f.offset,i.size)) with
   | none=>simp [hpl] at hc
   | some places =>
     simp only [hpl,Option.map_eq_some_iff] at hc
     obtain ⟨rs,I3,rfl⟩:=hc
     simp only [hH.map,bW] at h
     refine Sound.gn h fun c hcs => ?_
     simp only [Option.map_eq_some_iff] at hcs
     obtain ⟨cs,hv,rfl⟩:=hcs
     refine fin (place:=(places.toArray[·]?)) (vps:=rs.map fun p=>(p.1,p.2.1,p.2.2.ev G t)) ?_ hv ?_
     . have:=qX (place:=(places.toArray[·]?)) hf hi (f:=fun (p:Nat × aV)=>(places[p.1]?).map fun q=>(q.1,q.2,p.2)) (by
         intro q r QN
         simp only [Option.map_eq_some_iff] at QN
         obtain ⟨b,hb,rfl⟩:=QN
         exact ⟨rfl,by simpa using hb⟩) Pc I3
       simpa using this
     . intro cells GN
       simp only [Program.built,hit,hu,Pd,hpl]
       exact GN
 | array n e =>
   simp only [hu,hz,Pc] at hc
   cases dT:P.info? e with
   | none=>simp [dT] at hc
   | some ie =>
     simp only [dT,Option.some.injEq] at hc
     subst hc
     simp only [hH.map,bW,List.map_map] at h
     refine Sound.gn h fun c hcs => ?_
     simp only [Option.map_eq_some_iff] at hcs
     obtain ⟨cs,hv,rfl⟩:=hcs
     have I3:qs.mapM (fun (q:Nat × aV)=>some (q.1*ie.size,ie.size,q.2))=some (qs.map fun q=>(q.1*ie.size,ie.size,q.2)):=by
       clear hv h Pc
       induction qs with
       | nil=>rfl
       | cons q qs ih=>simp [List.mapM_cons,ih]
     have:=qX (place:=fun i=>some (i*ie.size,ie.size)) hf hi (f:=fun (q:Nat × aV)=>some (q.1*ie.size,ie.size,q.2)) (by
         intro q r QN
         simp only [Option.some.injEq] at QN
         subst QN;exact ⟨rfl,rfl⟩) Pc I3
     refine fin (place:=fun i=>some (i*ie.size,ie.size)) (vps:=_) (by simpa using this) (by simpa [Function.comp_def] using hv) ?_
     intro cells GN
     simp only [Program.built,hit,hu,Pd,dT]
     exact GN
 | _=>simp [hu,hz,Pc] at hc
theorem B0 {z:AV} {zv:Value} {k:Nat} (hz:aU E w z.cells zv.cells.toList) (hk:z.size=k) (Pe:0<k) (n N:Nat) (hn:n<=N) :
   Em E w (flat (List.replicate n z)) ((Array.range (N*k)).map (zv.cells[· % zv.cells.size]!)).toList:=by
 obtain ⟨hl,hp⟩:=bT.1 hz
 have QL:zv.cells.size=k:=by simp at hl;unfold AV.size at hk;omega
 have hsz:∀ e∈List.replicate n z,e.size=k:=by intro e he;rw [List.eq_of_mem_replicate he];exact hk
 intro j c hj
 have hlen:=cO hsz
 have zD:j<n*k:=by have:=(List.getElem?_eq_some_iff.1 hj).1;rw [hlen] at this;simpa using this
 have hi:j/k<n:=(Nat.div_lt_iff_lt_mul Pe).2 zD
 have hg:=flat_get (i:=j/k) (e:=z) (j:=j%k) hsz (by simp [hi]) (Nat.mod_lt _ Pe)
 rw [Nat.div_add_mod' j k] at hg
 rw [hg] at hj
 obtain ⟨v,hv,hr⟩:=hp _ c hj
 have hjN:j<N*k:=Nat.lt_of_lt_of_le zD (Nat.mul_le_mul_right _ hn)
 refine ⟨v, ?_,hr⟩
 simp at hv
 simp only [Array.toList_map,Array.toList_range,List.getElem?_map,hjN,List.getElem?_range,Option.map_some,Option.some.injEq,QL]
 rw [getElem!_def,hv]
theorem B1 {k:Nat}:∀ {ps:List (Nat × AV)} {es es':List AV},(∀ e∈es,e.size=k)->kY k es ps=some es' ->
   (∀ e∈es',e.size=k)/\es'.length=es.length/\kW (flat es) (ps.map fun q=>(q.1*k,k,q.2))=some (flat es')
 | [],es,es',hk,h=>by
   simp only [kY,Option.some.injEq] at h;subst h
   exact ⟨hk,rfl,by simp [kW]⟩
 | (i, x)::ps,es,es',hk,h=>by
   simp only [kY] at h
   split at h
   . rename_i hh
     obtain ⟨h1,h2,h3⟩:=hh
     have hk':∀ e∈es.set i x,e.size=k:=by
       intro e he
       rcases List.mem_or_eq_of_mem_set he with he | rfl
       . exact hk e he
       . exact h1
     obtain ⟨r1,r2,r3⟩:=B1 hk' h
     refine ⟨r1,by simpa using r2, ?_⟩
     have GN:=GL hk (show es[i]? = some es[i] by simp [h2]) h1
     have hlen:=cO hk
     have hle:(i+1)*k<=es.length*k:=Nat.mul_le_mul_right _ h2
     rw [Nat.add_mul] at hle
     simp only [List.map_cons,kW]
     rw [if_pos ⟨h1,by omega,h3⟩, <- GN]
     exact r3
   . simp at h
theorem I6 (hi : Inv G own E w σ) (hμ : E.μ p=none) (hσ : σ p=none) {t:List AV} {a:Act} (hf:cF E w t a) {ty:TypeId} {n:Nat} {ps:Array (Nat × Operand)} {vo:hH aV}
   (hc:o0 P (.buildSlice ty n ps)=some vo) {r:fL} (h:bW σ p (vo.map (aV.ev G t))=some r):Sound P G own E w σ p (Instr.buildSlice ty n (ps.map fun (i,x)=>(i,a.eval x))) r:=by
 simp only [o0] at hc
 cases hu:P.underlying ty with
 | none=>simp [hu] at hc
 | some d =>
 cases Pc:ps.toList.mapM (fun p=>(cU p.2).map (p.1, ·)) with
 | none=>cases d<;>simp [hu,Pc] at hc
 | some qs =>
 cases d with
 | slice e =>
   simp only [hu,Pc] at hc
   cases dT:P.info? e with
   | none=>simp [dT] at hc
   | some ie =>
   cases hz:nj P e with
   | none=>simp [dT,hz] at hc
   | some z =>
     simp only [dT,hz] at hc
     split at hc
     . rename_i hh
       obtain ⟨hsm,Pe,zH⟩:=hh
       simp only [Option.some.injEq] at hc;subst hc
       obtain ⟨it,zv,hit,Pd,KM,QL,QM⟩:=lY hz
       rw [dT] at hit
       simp only [Option.some.injEq] at hit;subst hit
       simp only [hH.map,bW] at h
       cases Vl:kY ie.size (List.replicate n z) (qs.map fun p=>(p.1,p.2.ev G t)) with
       | none=>simp [Vl] at h
       | some es =>
         simp only [Vl] at h
         split at h
         . have Ft:∀ e∈List.replicate n z,e.size=ie.size:=by intro e he;rw [List.eq_of_mem_replicate he];exact QL
           obtain ⟨r1,r2,r3⟩:=B1 Ft Vl
           have hzl:aU E w z.cells zv.cells.toList:=aN.cells (jh KM) (kr QM)
           have hlen:=cO Ft
           -- the zero cells
           generalize Cp:(Array.range (n*ie.size)).map (zv.cells[· % zv.cells.size]!)=KN at *
           have Y0:aU E w (flat (List.replicate n z)) KN.toList:=by
             refine bT.2 ⟨?_, ?_⟩
             . rw [hlen, <- Cp];simp
             . rw [<- Cp];exact B0 hzl QL Pe n n (Nat.le_refl _)
           have I3:qs.mapM (fun (q:Nat × aV)=>some (q.1*ie.size,ie.size,q.2))=some (qs.map fun q=>(q.1*ie.size,ie.size,q.2)):=by
             clear Vl r3 Pc
             induction qs with
             | nil=>rfl
             | cons q qs ih=>simp [List.mapM_cons,ih]
           have hpr:=qX (place:=fun i=>some (i*ie.size,ie.size)) hf hi (f:=fun (q:Nat × aV)=>some (q.1*ie.size,ie.size,q.2)) (by
             intro q r QN
             simp only [Option.some.injEq] at QN
             subst QN;exact ⟨rfl,rfl⟩) Pc I3
           simp only [List.map_map,Function.comp_def] at hpr r3
           obtain ⟨cells,GN,hr⟩:=Et (cells:=KN) hpr Y0 r3
           obtain ⟨tG,hp1⟩:=bT.1 hr
           have agz:=cO r1
           refine ⟨.slice (some ⟨w.heap.size,0,none⟩) n n,w.alloc (.cells cells e),E.bind p w.heap.size ie.size n, ?_, ?_⟩
           . have adg:Instr.fill (fun i=>some (i*ie.size,ie.size)) KN (ps.map fun (i,x)=>(i,a.eval x)).toList=some cells:=by simpa using GN
             by_cases h0:n*ie.size=0
             . have hce:KN = #[]:=by rw [<- Cp,h0];simp
               rw [hce] at adg
               have apR : ¬ (n*ie.size>2 ^ 24):=by omega
               have Gv:n=0:=by
                 rcases Nat.mul_eq_zero.1 h0 with h | h
                 . exact h
                 . omega
               subst Gv
               have S9:∀ w,(newRow e cells).run P w = .ok ⟨w.heap.size,0,none⟩ (w.alloc (.cells cells e)):=fun _=>rfl
               have akW:Instr.fill (fun i=>some (i*ie.size,ie.size)) ((Array.range 0).map (fun _:Nat=>(default:Value))) (List.map (fun x=>(x.fst,a.eval x.snd)) ps.toList)=some cells:=by
                 have:(Array.range 0).map (fun _:Nat=>(default:Value)) = #[]:=by apply Array.eq_empty_of_size_eq_zero;simp
                 rw [this];simpa using adg
               simp [Instr.buildSlice,run_underlying hu,fO dT,akW,S9]
             . exact run_buildSlice w ty e n _ cells ie zv hu dT Pd (by omega) h0 (by rw [Cp];exact adg)
           . have:=Bi (p:=p) (rd:=[]) hi hμ hσ (els:=es) (k:=ie.size) (N:=n) (vs:=cells.toList) e r1 hp1 (by rw [tG,agz,r2];simp) (by rw [r2];simp) zH
               (c := .osl p ie.size 0 n false) (v := .slice (some ⟨w.heap.size,0,none⟩) n n)
               (by simp only [aN];exact ⟨w.heap.size,n,n,Env.jQ _ _ _ _ _,by simp,Nat.le_refl _,by omega,zH,by simp⟩)
             split at h
             . rename_i Gv
               subst Gv
               simp only [Option.some.injEq] at h;subst h
               obtain ⟨h1,h2,h3,h4⟩:=this
               refine ⟨h1,h2.sub fun i => ?_,by simp only [aN];exact ⟨_,rfl,Nat.zero_le _,by simp, .inl trivial⟩,h4⟩
               by_cases e:i=p
               . subst e;left;exact hσ
               . right;simp [ae.app,ae.put,e]
             . simp only [Option.some.injEq] at h;subst h
               simpa using this
         . simp at h
     . simp at hc
 | _=>simp [hu,Pc] at hc
end
end Go.VL
end

section
namespace Go.VL
section
variable {P:Program} {G:Nat->Option (List AV)} {own:Nat->Prop} {E:Env} {w:World} {σ : ae} {p:Id}
theorem Pt (hi:Inv G own E w σ) (hμ : E.μ p=none) (hσ : σ p=none) {t e:TypeId} {i:TypeInfo} {z:AV} (hu:P.underlying t=some (.slice e)) (dT:P.info? e=some i) (hz:nj P e=some z)
   (Pe:0<i.size) {l c:AV} {vl vc:Value} (hl:aN E w l vl) (hc:aN E w c vc) {r:fL} (h:jJ p i.size i.bytes z l c=some r):Sound P G own E w σ p (Instr.makeSlice t vl vc) r:=by
 obtain ⟨it,zv,hit,Pd,KM,QL,QM⟩:=lY hz
 rw [dT] at hit
 simp only [Option.some.injEq] at hit;subst hit
 unfold jJ at h
 split at h
 . rename_i kl l kc c
   simp only [aN] at hl hc;subst hl;subst hc
   split at h
   . rename_i hh
     obtain ⟨h0,Mm,hb,hm,hzk,hz1⟩:=hh
     simp only [Option.some.injEq] at h;subst h
     have hzl:aU E w z.cells zv.cells.toList:=aN.cells (jh KM) (kr QM)
     have JG:c.toNat<=maxLen:=by omega
     have hln:l.toNat<=c.toNat:=by omega
     have hr:=run_make (P:=P) w t e i zv hu dT Pd kl kc l c h0 Mm (by rw [Int.mul_comm];omega) (by unfold maxLen at hm;omega)
     have Ft:∀ e∈List.replicate l.toNat z,e.size=i.size:=by intro e he;rw [List.eq_of_mem_replicate he];exact QL
     refine ⟨_,_,E.bind p w.heap.size i.size c.toNat,hr, ?_⟩
     have hp:=B0 hzl QL Pe l.toNat c.toNat hln
     have:=Bi (p:=p) (rd:=[]) hi hμ hσ (els:=List.replicate l.toNat z) (k:=i.size) (N:=c.toNat) (vs:=(madeCells zv.cells (c.toNat*i.size)).toList) e Ft hp (by simp [madeCells]) (by simpa using hln) JG
       (c := .osl p i.size 0 l.toNat false) (v := .slice (some ⟨w.heap.size,0,none⟩) l.toNat c.toNat)
       (by simp only [aN];exact ⟨w.heap.size,c.toNat,c.toNat,Env.jQ _ _ _ _ _,by simp,hln,by omega,JG,by simp⟩)
     simpa using this
   . simp at h
 . simp at h
theorem iN {d most:Nat} {x:Option AV} {v:Option Value} {n:Nat} (hx:match x,v with | none,none=>True | some a,some b=>aN E w a b | _,_=>False) (h:lv d most x=some n) (y:Nat) (hy:most<=y) (code:BoundsCode) :
   (x=none/\v=none/\n=d)∨(∃ u,v=some u/\x≠none/\n<=most/\(Instr.sliceBound u y code).run P w = .ok n w):=by
 unfold lv at h
 split at h
 . simp only [Option.some.injEq] at h;subst h
   cases v with
   | none=>exact .inl ⟨rfl,rfl,rfl⟩
   | some u=>exact hx.elim
 . rename_i k i
   cases v with
   | none=>exact hx.elim
   | some u =>
     simp only [aN] at hx;subst hx
     split at h
     . rename_i hh
       simp only [Option.some.injEq] at h;subst h
       refine .inr ⟨_,rfl,by simp,by omega, ?_⟩
       have:0<=i/\i<=(y:Int):=by omega
       simp [Instr.sliceBound,asIntOf,this]
     . simp at h
 . simp at h
def pe (E:Env) (w:World) (x:Option AV) (v:Option Value):Prop:=match x,v with | none,none=>True | some a,some b=>aN E w a b | _,_=>False
theorem jv {isSlice:Bool} {len cap l h m:Nat} {lo hi mx:Option AV} {Ta QO vmx:Option Value} (zI:pe E w lo Ta) (F1:pe E w hi QO) (hmx:pe E w mx vmx) (Mm:len<=cap)
   (El:lv len len hi=some h) (B2:lv 0 h lo=some l) (hm:(mx=none/\m=cap)∨(∃ k,mx=some (.int k (m:Int))/\hi≠none/\h<=m/\m<=cap)) :
   (Instr.sliceBounds isSlice len cap Ta QO vmx).run P w = .ok (l,h,m) w/\l<=h/\h<=len:=by
 have hh:h<=len:=by
   rcases iN (P:=P) F1 El len (Nat.le_refl _) .index with ⟨_,_,e⟩ | ⟨_,_,_,e,_⟩<;>omega
 have hl:l<=h:=by
   rcases iN (P:=P) zI B2 h (Nat.le_refl _) .index with ⟨_,_,e⟩ | ⟨_,_,_,e,_⟩<;>omega
 refine ⟨?_,hl,hh⟩
 unfold Instr.sliceBounds
 rcases hm with ⟨rfl,rfl⟩ | ⟨k,rfl,hne,hhm,hmc⟩
 . cases vmx with
   | some _=>exact (hmx:False).elim
   | none =>
     rcases iN (P:=P) F1 El m (Nat.le_trans (Nat.le_refl _) Mm) (if isSlice then .sliceAcap else .sliceAlen) with ⟨_,rfl,rfl⟩ | ⟨u,rfl,_,_,hr⟩
     . rcases iN (P:=P) zI B2 h (Nat.le_refl _) .sliceB with ⟨_,rfl,rfl⟩ | ⟨u,rfl,_,_,hr⟩
       . simp
       . simp [hr]
     . rcases iN (P:=P) zI B2 h (Nat.le_refl _) .sliceB with ⟨_,rfl,rfl⟩ | ⟨u',rfl,_,_,GX⟩
       . simp [hr]
       . simp [hr,GX]
 . cases vmx with
   | none=>exact (hmx:False).elim
   | some vm =>
     have hvm:vm = .int k (m:Int):=by simpa [pe,aN] using hmx
     subst hvm
     have hbm:∀ code,(Instr.sliceBound (.int k (m:Int)) cap code).run P w = .ok m w:=by
       intro code
       have:(0:Int)<=m/\(m:Int)<=cap:=by omega
       simp [Instr.sliceBound,asIntOf,this]
     rcases iN (P:=P) F1 El len (Nat.le_refl _) .slice3B with ⟨e,_,_⟩ | ⟨u,rfl,_,_,_⟩
     . exact absurd e hne
     . have hr : ∀ code,(Instr.sliceBound u m code).run P w = .ok h w:=by
         intro code
         cases hi with
         | none=>exact (F1:False).elim
         | some x =>
           unfold lv at El
           split at El
           . simp_all
           . rename_i k' i heq
             simp only [Option.some.injEq] at heq;subst heq
             have:u = .int k' i:=by simpa [pe,aN] using F1
             subst this
             split at El
             . simp only [Option.some.injEq] at El
               have:(0:Int)<=i/\i<=m:=by omega
               simp [Instr.sliceBound,asIntOf,this,El]
             . simp at El
           . simp at El
       rcases iN (P:=P) zI B2 h (Nat.le_refl _) .slice3C with ⟨_,rfl,rfl⟩ | ⟨u',rfl,_,_,GX⟩
       . simp [hr,hbm]
       . simp [hr,GX,hbm]
theorem GY {k:Nat} {es:List AV} (hk:∀ e∈es,e.size=k) {l h:Nat} (hlh:l<=h) (hh:h<=es.length):flat ((es.take h).drop l)=((flat es).drop (l*k)).take ((h-l)*k):=by
 have e1:es=es.take l++((es.take h).drop l++es.drop h):=by
   rw [<- List.drop_append_of_le_length (by simp;omega),List.take_append_drop,List.take_append_drop]
 have h1:(flat (es.take l)).length=l*k:=by rw [cO (fun e he=>hk e (List.mem_of_mem_take he))];simp;rw [Nat.min_eq_left (by omega)]
 have h2:(flat ((es.take h).drop l)).length=(h-l)*k:=by
   rw [cO (fun e he=>hk e (List.mem_of_mem_take (List.mem_of_mem_drop he)))];simp;rw [Nat.min_eq_left (by omega)]
 conv=>rhs;rw [e1]
 rw [ow,ow, <- h1,List.drop_left, <- h2,List.take_left]
theorem se {b o k:Nat} {es:List AV} (hk:∀ e∈es,e.size=k) (h:fy E w b o (flat es)) {l r:Nat} (hlh:l<=r) (hh:r<=es.length):fy E w b (o+l*k) (flat ((es.take r).drop l)):=by
 rw [GY hk hlh hh]
 intro j c hj
 rw [List.getElem?_take] at hj
 split at hj
 . rw [List.getElem?_drop] at hj
   have:=h _ c hj
   rwa [<- Nat.add_assoc] at this
 . simp at hj
theorem Da (hi:Inv G own E w σ) {t e:TypeId} {i:TypeInfo} (hu:P.underlying t=some (.slice e)) (dT:P.info? e=some i) {x:AV} {v:Value} (hx:aN E w x v)
   {lo qY mx:Option AV} {Ta QO vmx:Option Value} (zI:pe E w lo Ta) (F1:pe E w qY QO) (hmx:pe E w mx vmx) (hmh:mx.isSome->qY.isSome) {c:AV}
   (h:gh i.size x lo qY mx=some c):Sound P G own E w σ p (Instr.sliceAt t v Ta QO vmx) { val:=c }:=by
 have hrun:∀ (a:Option Addr) (len cap l h m:Nat),(Instr.sliceBounds true len cap Ta QO vmx).run P w = .ok (l,h,m) w ->
     (Instr.sliceAt t (.slice a len cap) Ta QO vmx).run P w = .ok (.slice (if m=l then a else a.map (·.add (l*i.size))) (h-l) (m-l)) w:=by
   intro a len cap l h m hb
   simp [Instr.sliceAt,Instr.slice,run_underlying hu,hb,fO dT]
 -- what the bounds are
 have Y1:∀ (h:Nat),Bg mx h=true->∃ k,mx=some (.int k (h:Int)):=by
   intro h hh
   unfold Bg at hh
   split at hh
   . rename_i k m';simp only [beq_iff_eq] at hh;subst hh;exact ⟨k,rfl⟩
   . simp at hh
 have Gw:∀ {len l r:Nat},iW len lo qY=some (l,r)->lv len len qY=some r/\lv 0 r lo=some l:=by
   intro len l r hb
   unfold iW at hb
   split at hb
   . simp at hb
   . rename_i h1 e1
     split at hb
     . simp at hb
     . rename_i l1 e2
       simp only [Option.some.injEq,Prod.mk.injEq] at hb
       obtain ⟨rfl,rfl⟩:=hb
       exact ⟨e1,e2⟩
 have hne:∀ k n,mx=some (AV.int k n)->qY≠none:=by
   intro k n e en
   have:=hmh (by simp [e])
   simp [en] at this
 unfold gh at h
 split at h
 . -- nil
   simp only [aN] at hx;subst hx
   split at h
   . rename_i b hb
     split at h
     . rename_i hcnd
       simp only [Option.some.injEq] at h;subst h
       obtain ⟨l,hh⟩:=b
       obtain ⟨El,B2⟩:=Gw hb
       have h00:hh=0:=by
         rcases iN (P:=P) F1 El 0 (Nat.le_refl _) .index with ⟨_,_,e⟩ | ⟨_,_,_,e,_⟩<;>omega
       subst h00
       obtain ⟨yr,zE,Pu⟩:=jv (P:=P) (isSlice:=true) (len:=0) (cap:=0) (m:=0) zI F1 hmx (Nat.le_refl _) El B2 (by
         rcases hcnd with hn | ht
         . exact .inl ⟨by simpa using hn,rfl⟩
         . obtain ⟨k,hk⟩:=Y1 0 ht
           exact .inr ⟨k,hk,hne _ _ hk,Nat.le_refl _,Nat.le_refl _⟩)
       have Mn:l=0:=by omega
       subst Mn
       exact Sound.same hi (hrun none 0 0 0 0 0 yr) (by simp [aN])
     . simp at h
   . simp at h
 . -- sl
   rename_i k' es
   simp only [aN] at hx
   obtain ⟨a,cap,rfl,hlen,JG,hk,xf⟩:=hx
   split at h
   . rename_i l' hh hb
     obtain ⟨El,B2⟩:=Gw hb
     . -- the case
       . -- its ways
         split at h
         . rename_i KO
           subst KO
           have Eu:∀ m,l'<=hh->hh<=es.length->hh<=m ->
               ((es.take hh).drop l'=[]∨∃ b o,(if m=l' then a else a.map (·.add (l'*i.size)))=some ⟨b,o,none⟩/\E.ok b/\bm E w b o ((es.take hh).drop l')):=by
             intro m h1 h2 h3
             by_cases he:l'=hh
             . left;subst he;simp
             . rcases xf with rfl | ⟨b,o,rfl,hb,hr⟩
               . left;simp
               . right
                 refine ⟨b,o+l'*i.size,by rw [if_neg (by omega)];simp [Addr.add_lit],hb, ?_⟩
                 rw [dY] at hr ⊢
                 exact se hk hr h1 h2
           have Jw:∀ e∈(es.take hh).drop l',e.size=i.size:=fun e he=>hk e (List.mem_of_mem_take (List.mem_of_mem_drop he))
           split at h
           . rename_i hn
             simp only [Option.some.injEq] at h;subst h
             obtain ⟨yr,zE,Pu⟩:=jv (P:=P) (isSlice:=true) (m:=cap) zI F1 hmx hlen El B2 (.inl ⟨by simpa using hn,rfl⟩)
             refine Sound.same hi (hrun a es.length cap l' hh cap yr) ?_
             simp only [aN]
             exact ⟨_,cap-l',by simp;omega,by simp;omega,by omega,Jw,Eu cap zE Pu (by omega)⟩
           . split at h
             . rename_i ht
               simp only [Option.some.injEq] at h;subst h
               obtain ⟨kk,KO⟩:=Y1 hh ht
               have hhl:hh<=es.length:=by
                 rcases iN (P:=P) F1 El es.length (Nat.le_refl _) .index with ⟨_,_,e⟩ | ⟨_,_,_,e,_⟩<;>omega
               obtain ⟨yr,zE,Pu⟩:=jv (P:=P) (isSlice:=true) (m:=hh) zI F1 hmx hlen El B2 (.inr ⟨kk,KO,hne _ _ KO,Nat.le_refl _,by omega⟩)
               refine Sound.same hi (hrun a es.length cap l' hh hh yr) ?_
               simp only [aN]
               exact ⟨_,by simp;omega,by simp;omega,Jw,Eu hh zE Pu (Nat.le_refl _)⟩
             . simp at h
         . simp at h
   . simp at h
 . -- tsl
   rename_i k' es
   simp only [aN] at hx
   obtain ⟨a,rfl,JG,hk,xf⟩:=hx
   split at h
   . rename_i l' hh hb
     obtain ⟨El,B2⟩:=Gw hb
     . -- the case
       . -- its ways
         split at h
         . rename_i KO
           obtain ⟨rfl,hmt⟩:=KO
           have Eu:∀ m,l'<=hh->hh<=es.length->hh<=m ->
               ((es.take hh).drop l'=[]∨∃ b o,(if m=l' then a else a.map (·.add (l'*i.size)))=some ⟨b,o,none⟩/\E.ok b/\bm E w b o ((es.take hh).drop l')):=by
             intro m h1 h2 h3
             by_cases he:l'=hh
             . left;subst he;simp
             . rcases xf with rfl | ⟨b,o,rfl,hb,hr⟩
               . left;simp
               . right
                 refine ⟨b,o+l'*i.size,by rw [if_neg (by omega)];simp [Addr.add_lit],hb, ?_⟩
                 rw [dY] at hr ⊢
                 exact se hk hr h1 h2
           have Jw:∀ e∈(es.take hh).drop l',e.size=i.size:=fun e he=>hk e (List.mem_of_mem_take (List.mem_of_mem_drop he))
           have hhl:hh<=es.length:=by
             rcases iN (P:=P) F1 El es.length (Nat.le_refl _) .index with ⟨_,_,e⟩ | ⟨_,_,_,e,_⟩<;>omega
           split at h
           . rename_i YG
             simp only [Option.some.injEq] at h;subst h
             rcases hmt with hn | ht
             . have hhe:hh=es.length:=by
                 rcases YG with h1 | h1
                 . cases mx<;>simp at hn h1
                 . exact h1
               obtain ⟨yr,zE,Pu⟩:=jv (P:=P) (isSlice:=true) (m:=es.length) zI F1 hmx (Nat.le_refl _) El B2 (.inl ⟨by simpa using hn,rfl⟩)
               refine Sound.same hi (hrun a es.length es.length l' hh es.length yr) ?_
               simp only [aN]
               exact ⟨_,by simp;omega,by simp;omega,Jw,Eu es.length zE Pu Pu⟩
             . obtain ⟨kk,KO⟩:=Y1 hh ht
               obtain ⟨yr,zE,Pu⟩:=jv (P:=P) (isSlice:=true) (m:=hh) zI F1 hmx (Nat.le_refl _) El B2 (.inr ⟨kk,KO,hne _ _ KO,Nat.le_refl _,hhl⟩)
               refine Sound.same hi (hrun a es.length es.length l' hh hh yr) ?_
               simp only [aN]
               exact ⟨_,by simp;omega,by simp;omega,Jw,Eu hh zE Pu (Nat.le_refl _)⟩
           . rename_i YG
             simp only [Option.some.injEq] at h;subst h
             have hn:mx=none:=by
               cases mx with
               | none=>rfl
               | some _=>simp at YG
             obtain ⟨yr,zE,Pu⟩:=jv (P:=P) (isSlice:=true) (m:=es.length) zI F1 hmx (Nat.le_refl _) El B2 (.inl ⟨hn,rfl⟩)
             refine Sound.same hi (hrun a es.length es.length l' hh es.length yr) ?_
             simp only [aN]
             exact ⟨_,es.length-l',by simp;omega,by simp;omega,by omega,Jw,Eu es.length zE Pu Pu⟩
         . simp at h
   . simp at h
 . -- a slice of a block of the store
   rename_i id k' off len tt
   simp only [aN] at hx
   obtain ⟨g,N,cap,hm,rfl,Mm,hoc,hNm,Vm⟩:=hx
   split at h
   . rename_i l' hh hb
     obtain ⟨El,B2⟩:=Gw hb
     . -- the case
       . -- its ways
         split at h
         . rename_i KO
           subst KO
           split at h
           . rename_i hn
             obtain ⟨yr,zE,Pu⟩:=jv (P:=P) (isSlice:=true) (m:=cap) zI F1 hmx Mm El B2 (.inl ⟨by simpa using hn,rfl⟩)
             have hr:=hrun (some ⟨g,off*i.size,none⟩) len cap l' hh cap yr
             split at h
             . rename_i hth
               split at h
               . rename_i Mn
                 subst Mn
                 simp only [Option.some.injEq] at h;subst h
                 refine Sound.same hi hr ?_
                 simp only [aN]
                 refine ⟨g,N,cap,hm, ?_,by omega,hoc,hNm, ?_⟩
                 . by_cases Y0:cap=0<;>simp [Y0,Addr.add_lit]
                 . cases tt with
                   | true =>
                     simp at hth Vm ⊢
                     omega
                   | false=>simpa using Vm
               . rename_i Mn
                 split at h
                 . rename_i hlh
                   subst hlh
                   simp only [Option.some.injEq] at h;subst h
                   refine Sound.same hi hr ?_
                   simp only [aN]
                   refine ⟨_,cap-l',by simp;rfl,by simp,by omega,by simp, .inl trivial⟩
                 . simp only [Option.some.injEq] at h;subst h
                   refine Sound.same hi hr ?_
                   simp only [aN]
                   refine ⟨g,N,cap-l',hm, ?_,by omega,by omega,hNm, ?_⟩
                   . rw [if_neg (by omega)];simp [Addr.add_lit,Nat.add_mul]
                   . cases tt with
                     | true=>simp at hth Vm ⊢;omega
                     | false=>simp at Vm ⊢;omega
             . simp at h
           . split at h
             . rename_i ht
               obtain ⟨ht1,Mn⟩:=ht
               subst Mn
               simp only [Option.some.injEq] at h;subst h
               obtain ⟨kk,KO⟩:=Y1 hh ht1
               have hhl:hh<=len:=by
                 rcases iN (P:=P) F1 El len (Nat.le_refl _) .index with ⟨_,_,e⟩ | ⟨_,_,_,e,_⟩<;>omega
               obtain ⟨yr,zE,Pu⟩:=jv (P:=P) (isSlice:=true) (m:=hh) zI F1 hmx Mm El B2 (.inr ⟨kk,KO,hne _ _ KO,Nat.le_refl _,by omega⟩)
               have hr:=hrun (some ⟨g,off*i.size,none⟩) len cap 0 hh hh yr
               refine Sound.same hi hr ?_
               simp only [aN]
               refine ⟨g,N,hh,hm, ?_,Nat.le_refl _,by omega,hNm,by simp⟩
               by_cases Y0:hh=0<;>simp [Y0,Addr.add_lit]
             . simp at h
         . simp at h
   . simp at h
 . simp at h
end
end Go.VL
end
