/- For the claim of HistoryNoAliasing: parts VL1, VL2, VL3, VL4, VL5, VL6, VL7, VL8. -/
import Derived.Calls
import Derived.Below
import Derived.Laws.AppendOwn
import Derived.Laws.CopyRow
import Derived.Laws.Tables
import Derived.Laws.NewBlocks
import Derived.Laws.OwnMore
import Derived.WideLaws
import Derived.StringKeys
import Derived.Laws.Closers25
import Derived.LaidEql
import Derived.Laws.Append
import Derived.Great.BuildSlice
import Derived.Laws.Strings
set_option linter.unusedSimpArgs false
set_option linter.unusedVariables false
set_option maxRecDepth 100000
namespace Go.VL
inductive AV where
 | bool (b:Bool)
 | int (k:IntKind) (n:Int)
 | str (l:List UInt8)
 | nilp
 | nilf
 | fn (f:Fn) (first cap:List AV)
 | agg (cs:List AV)
 | tup (cs:List AV)
 | sl (k:Nat) (es:List AV)
 | tsl (k:Nat) (es:List AV)
 | nils
 | osl (id:List Nat) (k off len:Nat) (tight:Bool)
 | ref (id:List Nat) (e o:Nat)
 | ep (cs:List AV) (o:Nat)
 | top
 | anyb
 | ige (n:Nat)
instance:Inhabited AV:=⟨.top⟩
abbrev Id:=List Nat
def AV.cells:AV->List AV
 | .agg cs=>cs
 | c=>[c]
def AV.size (c:AV):Nat:=c.cells.length
def AV.one:AV->Bool
 | .agg _ | .tup _ | .top | .anyb | .ige _=>false
 | _=>true
def flat (es:List AV):List AV:=es.flatMap AV.cells
structure Env where
 μ : Id->Option (Nat × Nat × Nat)
 ok:Nat->Prop
mutual
def aD (E:Env) (w:World):AV->Value->Prop
 | .bool b,v=>v = .bool b
 | .int k n,v=>v = .int k n
 | .str l,v=>v = .string ⟨l.toArray⟩
 | .nilp,v=>v = .pointer none
 | .nilf,v=>v = .nilFunc
 | .fn f a c,v=>∃ xs ys:Array Value,v = .func f xs ys/\aF E w a xs.toList/\aF E w c ys.toList
 | .agg cs,v=>∃ xs:Array Value,v = .agg xs/\aF E w cs xs.toList
 | .tup cs,v=>∃ xs:Array Value,v = .tuple xs/\aF E w cs xs.toList
 | .sl k es,v=>∃ (a:Option Addr) (cap:Nat),v = .slice a es.length cap/\es.length<=cap/\cap<=maxLen/\(∀ e∈es,e.size=k) /\
     (es=[]∨∃ b o,a=some ⟨b,o,none⟩/\E.ok b/\bd E w b o es)
 | .tsl k es,v=>∃ (a:Option Addr),v = .slice a es.length es.length/\es.length<=maxLen/\(∀ e∈es,e.size=k) /\
     (es=[]∨∃ b o,a=some ⟨b,o,none⟩/\E.ok b/\bd E w b o es)
 | .nils,v=>v = .slice none 0 0
 | .osl id k off len tight,v=>∃ g N cap,E.μ id=some (g,k,N)/\v = .slice (some ⟨g,off*k,none⟩) len cap/\len<=cap /\
     off+cap<=N/\N<=maxLen/\(if tight then cap=len else off+cap=N)
 | .ref id e o,v=>∃ g k N,E.μ id=some (g,k,N)/\v = .pointer (some ⟨g,e*k+o,none⟩)
 | .ep cs o,v=>∃ b p,v = .pointer (some ⟨b,p+o,none⟩)/\E.ok b/\aX E w b p cs
 | .top,_=>True
 | .anyb,v=>∃ b,v = .bool b
 | .ige n,v=>∃ m:Nat,n<=m/\v = .int .i64 m
def aF (E:Env) (w:World):List AV->List Value->Prop
 | [],vs=>vs=[]
 | c::cs,vs=>∃ v rest,vs=v::rest/\aD E w c v/\aF E w cs rest
def bd (E:Env) (w:World) (b o:Nat):List AV->Prop
 | []=>True
 | .agg cs::es=>aX E w b o cs/\bd E w b (o+cs.length) es
 | c::es=>(∃ v,w.cell? ⟨b,o,none⟩=some v/\aD E w c v)/\bd E w b (o+1) es
def aX (E:Env) (w:World) (b o:Nat):List AV->Prop
 | []=>True
 | c::cs=>(∃ v,w.cell? ⟨b,o,none⟩=some v/\aD E w c v)/\aX E w b (o+1) cs
end
theorem cell_of_heap {w w':World} {b o:Nat} (h:w'.heap[b]? = w.heap[b]?):w'.cell? ⟨b,o,none⟩=w.cell? ⟨b,o,none⟩ :=
 World.cell?_of_block (a:=⟨b,o,none⟩) h
structure Step (E E':Env) (w w':World):Prop where
 μ : ∀ id x,E.μ id=some x->E'.μ id=some x
 ok:∀ b,E.ok b->E'.ok b
 same:∀ b,E.ok b->w'.heap[b]? = w.heap[b]?
mutual
theorem aD.keep {E E':Env} {w w':World} (h:Step E E' w w'):∀ (c:AV) (v:Value),aD E w c v->aD E' w' c v
 | .bool _,_,r=>by simpa [aD] using r
 | .int _ _,_,r=>by simpa [aD] using r
 | .str _,_,r=>by simpa [aD] using r
 | .nilp,_,r=>by simpa [aD] using r
 | .nilf,_,r=>by simpa [aD] using r
 | .nils,_,r=>by simpa [aD] using r
 | .top,_,_=>by simp [aD]
 | .anyb,_,r=>by simpa [aD] using r
 | .ige _,_,r=>by simpa [aD] using r
 | .fn f a c,v,r=>by
   simp only [aD] at r ⊢
   obtain ⟨xs,ys,e,ra,rc⟩:=r
   exact ⟨xs,ys,e,aF.keep h a _ ra,aF.keep h c _ rc⟩
 | .agg cs,v,r=>by
   simp only [aD] at r ⊢
   obtain ⟨xs,e,ra⟩:=r
   exact ⟨xs,e,aF.keep h cs _ ra⟩
 | .tup cs,v,r=>by
   simp only [aD] at r ⊢
   obtain ⟨xs,e,ra⟩:=r
   exact ⟨xs,e,aF.keep h cs _ ra⟩
 | .sl k es,v,r=>by
   simp only [aD] at r ⊢
   obtain ⟨a,cap,e,h1,h2,hk,h3⟩:=r
   refine ⟨a,cap,e,h1,h2,hk,h3.imp id ?_⟩
   rintro ⟨b,o,ea,hb,hr⟩
   exact ⟨b,o,ea,h.ok b hb,bd.keep h (h.same b hb) es o hr⟩
 | .tsl k es,v,r=>by
   simp only [aD] at r ⊢
   obtain ⟨a,e,h2,hk,h3⟩:=r
   refine ⟨a,e,h2,hk,h3.imp id ?_⟩
   rintro ⟨b,o,ea,hb,hr⟩
   exact ⟨b,o,ea,h.ok b hb,bd.keep h (h.same b hb) es o hr⟩
 | .osl id k off len t,v,r=>by
   simp only [aD] at r ⊢
   obtain ⟨g,N,cap,hm,rest⟩:=r
   exact ⟨g,N,cap,h.μ _ _ hm,rest⟩
 | .ref id e o,v,r=>by
   simp only [aD] at r ⊢
   obtain ⟨g,k,N,hm,rest⟩:=r
   exact ⟨g,k,N,h.μ _ _ hm,rest⟩
 | .ep cs o,v,r=>by
   simp only [aD] at r ⊢
   obtain ⟨b,p,e,hb,hr⟩:=r
   exact ⟨b,p,e,h.ok b hb,aX.keep h (h.same b hb) cs p hr⟩
theorem aF.keep {E E':Env} {w w':World} (h:Step E E' w w'):∀ (cs:List AV) (vs:List Value),aF E w cs vs->aF E' w' cs vs
 | [],_,r=>by simpa [aF] using r
 | c::cs,vs,r=>by
   simp only [aF] at r ⊢
   obtain ⟨v,rest,e,r1,r2⟩:=r
   exact ⟨v,rest,e,aD.keep h c v r1,aF.keep h cs rest r2⟩
theorem bd.keep {E E':Env} {w w':World} (h:Step E E' w w') {b:Nat} (hb:w'.heap[b]? = w.heap[b]?):∀ (es:List AV) (o:Nat),bd E w b o es->bd E' w' b o es
 | [],_,_=>by simp [bd]
 | .agg cs::es,o,r=>by
   simp only [bd] at r ⊢
   exact ⟨aX.keep h hb cs o r.1,bd.keep h hb es _ r.2⟩
 | .bool _::es,o,r | .int _ _::es,o,r | .str _::es,o,r | .nilp::es,o,r | .nilf::es,o,r | .nils::es,o,r | .top::es,o,r | .anyb::es,o,r | .ige _::es,o,r | .fn _ _ _::es,o,r
 | .tup _::es,o,r | .sl _ _::es,o,r | .tsl _ _::es,o,r | .osl _ _ _ _ _::es,o,r | .ref _ _ _::es,o,r | .ep _ _::es,o,r=>by
   simp only [bd] at r ⊢
   obtain ⟨⟨v,hv,hr⟩,r2⟩:=r
   exact ⟨⟨v,(cell_of_heap hb).trans hv,aD.keep h _ v hr⟩,bd.keep h hb es _ r2⟩
theorem aX.keep {E E':Env} {w w':World} (h:Step E E' w w') {b:Nat} (hb:w'.heap[b]? = w.heap[b]?):∀ (cs:List AV) (o:Nat),aX E w b o cs->aX E' w' b o cs
 | [],_,_=>by simp [aX]
 | c::cs,o,r=>by
   simp only [aX] at r ⊢
   obtain ⟨⟨v,hv,hr⟩,r2⟩:=r
   exact ⟨⟨v,(cell_of_heap hb).trans hv,aD.keep h c v hr⟩,aX.keep h hb cs _ r2⟩
end
def eh (E:Env) (w:World) (b o:Nat) (cs:List AV):Prop:=∀ j c,cs[j]? = some c->∃ v,w.cell? ⟨b,o+j,none⟩=some v/\aD E w c v
theorem dP {E:Env} {w:World} {b:Nat}:∀ {cs:List AV} {o:Nat},aX E w b o cs↔eh E w b o cs
 | [],o=>by simp [aX,eh]
 | c :: cs,o=>by
   simp only [aX]
   rw [dP (cs:=cs)]
   constructor
   . rintro ⟨h,hr⟩ j c' hj
     cases j with
     | zero=>simp only [List.getElem?_cons_zero,Option.some.injEq] at hj;subst hj;exact h
     | succ j =>
       simp only [List.getElem?_cons_succ] at hj
       have:=hr j c' hj
       rwa [show o+(j+1)=o+1+j from by omega]
   . intro h
     refine ⟨h 0 c rfl,fun j c' hj => ?_⟩
     have:=h (j+1) c' (by simpa using hj)
     rwa [show o+(j+1)=o+1+j from by omega] at this
theorem rp {E:Env} {w:World} {b o:Nat} {xs ys:List AV}:eh E w b o (xs++ys)↔eh E w b o xs/\eh E w b (o+xs.length) ys:=by
 constructor
 . intro h
   refine ⟨fun j c hj => ?_,fun j c hj => ?_⟩
   . exact h j c (by rw [List.getElem?_append_left (List.getElem?_eq_some_iff.1 hj).1];exact hj)
   . have:=h (xs.length+j) c (by rw [List.getElem?_append_right (by omega)];simpa using hj)
     rwa [<- Nat.add_assoc] at this
 . rintro ⟨h1,h2⟩ j c hj
   by_cases hlt:j<xs.length
   . rw [List.getElem?_append_left hlt] at hj;exact h1 j c hj
   . rw [List.getElem?_append_right (by omega)] at hj
     have:=h2 (j-xs.length) c hj
     rwa [show o+xs.length+(j-xs.length)=o+j from by omega] at this
theorem NA {E:Env} {w:World} {b o:Nat} {c:AV}:eh E w b o [c]↔∃ v,w.cell? ⟨b,o,none⟩=some v/\aD E w c v:=by
 constructor
 . intro h;exact h 0 c rfl
 . intro h j c' hj
   cases j with
   | zero=>simp only [List.getElem?_cons_zero,Option.some.injEq] at hj;subst hj;exact h
   | succ j=>simp at hj
theorem eN {E:Env} {w:World} {b:Nat}:∀ {es:List AV} {o:Nat},bd E w b o es↔eh E w b o (flat es)
 | [],o=>by simp [bd,eh,flat]
 | e::es,o=>by
   have ih:=fun o=>eN (E:=E) (w:=w) (b:=b) (es:=es) (o:=o)
   have hf:flat (e::es)=e.cells++flat es:=by simp [flat]
   rw [hf,rp]
   cases e<;>simp only [bd,AV.cells,ih,dP,NA,List.length_singleton]
theorem eh.keep {E E':Env} {w w':World} (h:Step E E' w w') {b:Nat} (hb:w'.heap[b]? = w.heap[b]?) {cs:List AV} {o:Nat} (r:eh E w b o cs):eh E' w' b o cs :=
 fun j c hj=>let ⟨v,hv,hr⟩:=r j c hj;⟨v,(cell_of_heap hb).trans hv,aD.keep h c v hr⟩
theorem cB {k:Nat}:∀ {es:List AV},(∀ e∈es,e.size=k)->(flat es).length=es.length*k
 | [],_=>by simp [flat]
 | e::es,h=>by
   have ih:=cB (es:=es) (fun x hx=>h x (by simp [hx]))
   have he:e.cells.length=k:=h e (by simp)
   have hf:flat (e::es)=e.cells++flat es:=by simp [flat]
   rw [hf,List.length_append,ih,he,List.length_cons,Nat.add_mul]
   omega
theorem flat_get {k:Nat}:∀ {es:List AV} {i:Nat} {e:AV} {j:Nat},(∀ e∈es,e.size=k)->es[i]? = some e->j<k->(flat es)[i*k+j]? = e.cells[j]?
 | [],_,_,_,_,h,_=>by simp at h
 | x::es,0,e,j,h,he,hj=>by
   simp only [List.getElem?_cons_zero,Option.some.injEq] at he
   subst he
   have hx:x.cells.length=k:=h x (by simp)
   have hf:flat (x::es)=x.cells++flat es:=by simp [flat]
   rw [hf,List.getElem?_append_left (by omega)]
   simp
 | x::es,i+1,e,j,h,he,hj=>by
   simp only [List.getElem?_cons_succ] at he
   have hx:x.cells.length=k:=h x (by simp)
   have hf:flat (x::es)=x.cells++flat es:=by simp [flat]
   have ih:=flat_get (es:=es) (fun x hx=>h x (by simp [hx])) he hj
   rw [hf,List.getElem?_append_right (by rw [hx,Nat.add_mul];omega),hx, <- ih]
   congr 1
   rw [Nat.add_mul];omega
theorem ln (xs ys:List AV):flat (xs++ys)=flat xs++flat ys:=by simp [flat]
theorem Bd {E:Env} {w:World} {b o k:Nat} {es:List AV} {i:Nat} {e:AV} (hk:∀ e∈es,e.size=k) (h:eh E w b o (flat es)) (he:es[i]? = some e) :
   eh E w b (o+i*k) e.cells:=by
 intro j c hj
 have hlt:j<k:=by
   have:=(List.getElem?_eq_some_iff.1 hj).1
   have h2:e.cells.length=k:=hk e (List.mem_of_getElem? he)
   omega
 have:=h (i*k+j) c (by rw [flat_get hk he hlt];exact hj)
 rwa [<- Nat.add_assoc] at this
structure a8 where
 els:List AV
 k:Nat
 fr:Bool:=false
abbrev aa:=Id->Option a8
def aa.put (σ : aa) (id:Id) (b:Option a8):aa:=fun i=>if i=id then b else σ i
theorem aa.a6 (σ : aa) (id:Id) (b:Option a8) : σ.put id b id=b:=by simp [aa.put]
theorem aa.bb (σ : aa) (id:Id) (b:Option a8) {i:Id} (h:i≠id) : σ.put id b i = σ i:=by simp [aa.put,h]
structure o6 (E:Env) (own:Nat->Prop) (w:World) (id:Id) (bk:a8) (g N:Nat) (cur:Array Value) (ty:TypeId):Prop where
 μ : E.μ id=some (g,bk.k,N)
 heap:w.heap[g]? = some (.cells cur ty (0,0))
 size:cur.size=N*bk.k
 len:bk.els.length<=N
 most:N<=maxLen
 own:own g
 ok:bk.fr=true->E.ok g
 no:bk.fr=false -> ¬ E.ok g
 k:∀ e∈bk.els,e.size=bk.k
 row:eh E w g 0 (flat bk.els)
def VU (E:Env) (own:Nat->Prop) (w:World) (id:Id) (bk:a8):Prop:=∃ g N cur ty,o6 E own w id bk g N cur ty
def Env.bare (E:Env):Env:=⟨fun _=>none,E.ok⟩
structure Inv (G:Nat->Option (List AV)) (own:Nat->Prop) (E:Env) (w:World) (σ : aa):Prop where
 okb:∀ b,E.ok b->b<w.heap.size
 blk:∀ id bk, σ id=some bk->VU E own w id bk
 inj:∀ i j x y, σ i≠none -> σ j≠none->i≠j->E.μ i=some x->E.μ j=some y->x.1≠y.1
 glob:∀ g cs,G g=some cs->E.ok g/\aX E.bare w g 0 cs
 new:∀ k,w.heap.size<=k->own k
structure Adv (own:Nat->Prop) (E E':Env) (w w':World):Prop where
 step:Step E E' w w'
 os:w'.os=w.os
 tape:w'.tape=w.tape
 output:w'.output=w.output
 size:w.heap.size<=w'.heap.size
 block:∀ k,k<w.heap.size -> ¬ own k->w'.heap[k]? = w.heap[k]?
 PB:∀ b,E'.ok b->E.ok b∨own b
theorem Step.bare {E E':Env} {w w':World} (h:Step E E' w w'):Step E.bare E'.bare w w':=⟨fun _ _ h=>by simp [Env.bare] at h,h.ok,h.same⟩
theorem Step.Xh (E:Env) (w:World):Step E.bare E w w:=⟨fun _ _ h=>by simp [Env.bare] at h,fun _ h=>h,fun _ _=>rfl⟩
theorem Step.refl (E:Env) (w:World):Step E E w w:=⟨fun _ _ h=>h,fun _ h=>h,fun _ _=>rfl⟩
theorem Step.trans {E E' VV:Env} {w w' w'':World} (a:Step E E' w w') (b:Step E' VV w' w''):Step E VV w w'' :=
 ⟨fun i x h=>b.μ i x (a.μ i x h),fun x h=>b.ok x (a.ok x h),fun x h=>(b.same x (a.ok x h)).trans (a.same x h)⟩
theorem Adv.refl (own:Nat->Prop) (E:Env) (w:World):Adv own E E w w :=
 ⟨Step.refl E w,rfl,rfl,rfl,Nat.le_refl _,fun _ _ _=>rfl,fun _ h => .inl h⟩
theorem Adv.trans {own:Nat->Prop} {E E' VV:Env} {w w' w'':World} (a:Adv own E E' w w') (b:Adv own E' VV w' w''):Adv own E VV w w'' :=
 ⟨a.step.trans b.step,b.os.trans a.os,b.tape.trans a.tape,b.output.trans a.output,Nat.le_trans a.size b.size,
   fun k hk ho=>(b.block k (Nat.lt_of_lt_of_le hk a.size) ho).trans (a.block k hk ho),
   fun x h=>(b.PB x h).elim (fun h=>a.PB x h) .inr⟩
theorem Adv.drew {own:Nat->Prop} (E:Env) (w:World):Adv own E E w w.drew :=
 ⟨⟨fun _ _ h=>h,fun _ h=>h,fun _ _=>rfl⟩,rfl,rfl,rfl,Nat.le_refl _,fun _ _ _=>rfl,fun _ h => .inl h⟩
theorem o6.keep {E E':Env} {own:Nat->Prop} {w w':World} {id:Id} {bk:a8} {g N:Nat} {cur:Array Value} {ty:TypeId} (h:o6 E own w id bk g N cur ty)
   (s:Step E E' w w') (hb:w'.heap[g]? = w.heap[g]?) (hno:bk.fr=false -> ¬ E'.ok g):o6 E' own w' id bk g N cur ty :=
 ⟨s.μ _ _ h.μ,hb.trans h.heap,h.size,h.len,h.most,h.own,fun hf=>s.ok _ (h.ok hf),hno,h.k,eh.keep s hb h.row⟩
theorem cV {w:World} {g:Nat} {o:Obj} (h:w.heap[g]? = some o):g<w.heap.size:=(Array.getElem?_eq_some_iff.1 h).1
theorem Inv.keep {G:Nat->Option (List AV)} {own:Nat->Prop} {E E':Env} {w w':World} {σ : aa} (h:Inv G own E w σ) (a:Adv own E E' w w')
   (hμ : E'.μ = E.μ) (dI:∀ b,E'.ok b->b<w'.heap.size)
   (hb:∀ id bk g N, σ id=some bk->E.μ id=some (g,bk.k,N)->w'.heap[g]? = w.heap[g]? /\ (bk.fr=false -> ¬ E'.ok g)):Inv G own E' w' σ where
 okb:=dI
 blk:=fun id bk hs=>by
   obtain ⟨g,N,cur,ty,hB⟩:=h.blk id bk hs
   obtain ⟨h1,h2⟩:=hb id bk g N hs hB.μ
   exact ⟨g,N,cur,ty,hB.keep a.step h1 h2⟩
 inj:=by rw [hμ];exact h.inj
 glob:=fun g cs hg=>let ⟨h1,h2⟩:=h.glob g cs hg;⟨a.step.ok g h1,aX.keep a.step.bare (a.step.same g h1) cs 0 h2⟩
 new:=fun k hk=>h.new k (Nat.le_trans a.size hk)
theorem Inv.drew {G:Nat->Option (List AV)} {own:Nat->Prop} {E:Env} {w:World} {σ : aa} (h:Inv G own E w σ):Inv G own E w.drew σ :=
 h.keep (Adv.drew E w) rfl h.okb (fun id bk g N hs hm=>⟨rfl,fun hf=>by obtain ⟨g',N',cur,ty,hB⟩:=h.blk id bk hs;have:=hB.μ.symm.trans hm;simp only [Option.some.injEq,Prod.mk.injEq] at this;rw [<- this.1];exact hB.no hf⟩)
def Da (E:Env) (w:World) (cs:List AV) (vs:List Value):Prop:=∀ (j:Nat) (c:AV),cs[j]? = some c->∃ v:Value,vs[j]? = some v/\aD E w c v
theorem aF.len {E:Env} {w:World}:∀ {cs:List AV} {vs:List Value},aF E w cs vs->vs.length=cs.length
 | [],vs,h=>by simp only [aF] at h;simp [h]
 | c::cs,vs,h=>by
   simp only [aF] at h
   obtain ⟨v,rest,rfl,_,h2⟩:=h
   simp [aF.len h2]
theorem bj {E:Env} {w:World}:∀ {cs:List AV} {vs:List Value},aF E w cs vs↔vs.length=cs.length/\Da E w cs vs
 | [],vs=>by simp [aF,Da]
 | c :: cs,vs=>by
   constructor
   . intro h
     refine ⟨aF.len h, ?_⟩
     simp only [aF] at h
     obtain ⟨v,rest,rfl,h1,h2⟩:=h
     intro j d hj
     cases j with
     | zero=>simp only [List.getElem?_cons_zero,Option.some.injEq] at hj;subst hj;exact ⟨v,rfl,h1⟩
     | succ j=>simpa using (bj.1 h2).2 j d (by simpa using hj)
   . rintro ⟨hl,h⟩
     simp only [aF]
     obtain ⟨v,hv,h1⟩:=h 0 c rfl
     cases vs with
     | nil=>simp at hv
     | cons x rest =>
       simp only [List.getElem?_cons_zero,Option.some.injEq] at hv
       subst hv
       refine ⟨x,rest,rfl,h1,bj.2 ⟨by simpa using hl,fun j d hj => ?_⟩⟩
       simpa using h (j+1) d (by simpa using hj)
theorem Da.append {E:Env} {w:World} {xs ys:List AV} {us vs:List Value} (h1:Da E w xs us) (hl:us.length=xs.length) (h2:Da E w ys vs):Da E w (xs++ys) (us++vs):=by
 intro j c hj
 by_cases hlt:j<xs.length
 . rw [List.getElem?_append_left hlt] at hj
   rw [List.getElem?_append_left (by omega)];exact h1 j c hj
 . rw [List.getElem?_append_right (by omega)] at hj
   rw [List.getElem?_append_right (by omega),hl];exact h2 _ c hj
theorem aD.one {E:Env} {w:World}:∀ {c:AV} {v:Value},aD E w c v->c.one=true->v.oneCell'=true
 | .bool _,_,h,_ | .int _ _,_,h,_ | .str _,_,h,_ | .nilp,_,h,_ | .nilf,_,h,_ | .nils,_,h,_=>by simp only [aD] at h;subst h;rfl
 | .fn _ _ _,_,h,_=>by simp only [aD] at h;obtain ⟨_,_,rfl,_⟩:=h;rfl
 | .sl _ _,_,h,_=>by simp only [aD] at h;obtain ⟨_,_,rfl,_⟩:=h;rfl
 | .tsl _ _,_,h,_=>by simp only [aD] at h;obtain ⟨_,rfl,_⟩:=h;rfl
 | .osl _ _ _ _ _,_,h,_=>by simp only [aD] at h;obtain ⟨_,_,_,_,rfl,_⟩:=h;rfl
 | .ref _ _ _,_,h,_=>by simp only [aD] at h;obtain ⟨_,_,_,_,rfl⟩:=h;rfl
 | .ep _ _,_,h,_=>by simp only [aD] at h;obtain ⟨_,_,rfl,_⟩:=h;rfl
theorem aD.cells {E:Env} {w:World}:∀ {c:AV} {v:Value},aD E w c v->(c.one=true∨∃ cs,c = .agg cs)->aF E w c.cells v.cells.toList
 | .agg cs,v,h,_=>by simp only [aD] at h;obtain ⟨xs,rfl,h⟩:=h;exact h
 | .tup _,_,_,h=>by simp [AV.one] at h
 | .top,_,_,h | .anyb,_,_,h | .ige _,_,_,h=>by simp [AV.one] at h
 | .bool _,v,h,_ | .int _ _,v,h,_ | .str _,v,h,_ | .nilp,v,h,_ | .nilf,v,h,_ | .nils,v,h,_=>by
   have h':=h
   simp only [aD] at h;subst h;simp only [AV.cells,Value.cells,aF];exact ⟨_,_,rfl,h',rfl⟩
 | .fn _ _ _,v,h,_=>by
   have h':=h
   simp only [aD] at h;obtain ⟨_,_,rfl,_⟩:=h;simp only [AV.cells,Value.cells,aF];exact ⟨_,_,rfl,h',rfl⟩
 | .sl _ _,v,h,_=>by
   have h':=h
   simp only [aD] at h;obtain ⟨_,_,rfl,_⟩:=h;simp only [AV.cells,Value.cells,aF];exact ⟨_,_,rfl,h',rfl⟩
 | .tsl _ _,v,h,_=>by
   have h':=h
   simp only [aD] at h;obtain ⟨_,rfl,_⟩:=h;simp only [AV.cells,Value.cells,aF];exact ⟨_,_,rfl,h',rfl⟩
 | .osl _ _ _ _ _,v,h,_=>by
   have h':=h
   simp only [aD] at h;obtain ⟨_,_,_,_,rfl,_⟩:=h;simp only [AV.cells,Value.cells,aF];exact ⟨_,_,rfl,h',rfl⟩
 | .ref _ _ _,v,h,_=>by
   have h':=h
   simp only [aD] at h;obtain ⟨_,_,_,_,rfl⟩:=h;simp only [AV.cells,Value.cells,aF];exact ⟨_,_,rfl,h',rfl⟩
 | .ep _ _,v,h,_=>by
   have h':=h
   simp only [aD] at h;obtain ⟨_,_,rfl,_⟩:=h;simp only [AV.cells,Value.cells,aF];exact ⟨_,_,rfl,h',rfl⟩
def Env.bind (E:Env) (id:Id) (g k N:Nat):Env:={ E with μ := fun i=>if i=id then some (g,k,N) else E.μ i }
theorem Env.iO (E:Env) (id:Id) (g k N:Nat):(E.bind id g k N).μ id=some (g,k,N):=by simp [Env.bind]
theorem Env.iv (E:Env) (id:Id) (g k N:Nat) {i:Id} (h:i≠id):(E.bind id g k N).μ i=E.μ i:=by simp [Env.bind,h]
theorem pL (w:World) (o:Obj) {k:Nat} (h:k<w.heap.size):(w.alloc o).heap[k]? = w.heap[k]? := heap_alloc_old w o k h
theorem size_alloc (w:World) (o:Obj):(w.alloc o).heap.size=w.heap.size+1:=by simp
theorem Step.alloc {E:Env} {w:World} {id:Id} (hid:E.μ id=none) (adP:∀ b,E.ok b->b<w.heap.size) (o:Obj) (k N:Nat) :
   Step E (E.bind id w.heap.size k N) w (w.alloc o) where
 μ := fun i x h=>by rw [Env.iv];exact h;rintro rfl;simp [hid] at h
 ok:=fun _ h=>h
 same:=fun b hb=>pL w o (adP b hb)
theorem PL {G:Nat->Option (List AV)} {own:Nat->Prop} {E:Env} {w:World} {σ : aa} (h:Inv G own E w σ) {id:Id} (hid:E.μ id=none) (hσ : σ id=none)
   {els:List AV} {k N:Nat} {vs:List Value} (ty:TypeId) (hk:∀ e∈els,e.size=k) (hv:Da E w (flat els) vs) (hl:vs.length=N*k) (hN:els.length<=N) (hm:N<=maxLen) :
   Adv own E (E.bind id w.heap.size k N) w (w.alloc (.cells vs.toArray ty))/\Inv G own (E.bind id w.heap.size k N) (w.alloc (.cells vs.toArray ty)) (σ.put id (some ⟨els,k,false⟩)):=by
 have hs:Step E (E.bind id w.heap.size k N) w (w.alloc (.cells vs.toArray ty)):=Step.alloc hid h.okb _ k N
 have dS:Adv own E (E.bind id w.heap.size k N) w (w.alloc (.cells vs.toArray ty)) :=
   ⟨hs,rfl,rfl,rfl,by rw [size_alloc];omega,fun k hk _=>pL w _ hk,fun _ hb => .inl hb⟩
 refine ⟨dS, ?_, ?_, ?_, ?_, ?_⟩
 . intro b hb;rw [size_alloc];have:=h.okb b hb;omega
 . intro i bk hi
   by_cases he:i=id
   . subst he
     rw [aa.a6] at hi
     simp only [Option.some.injEq] at hi
     subst hi
     refine ⟨w.heap.size,N,vs.toArray,ty,Env.iO _ _ _ _ _,heap_alloc_new w _,by simpa using hl,hN,hm,h.new _ (Nat.le_refl _),by simp,fun _ hb => ?_,hk, ?_⟩
     . exact absurd (h.okb _ hb) (by omega)
     . intro j c hj
       obtain ⟨v,l0,oG⟩:=hv j c hj
       refine ⟨v, ?_,aD.keep hs c v oG⟩
       rw [cell_of_row _ _ _ _ _ _ (heap_alloc_new w (.cells vs.toArray ty))]
       simpa using l0
   . rw [aa.bb _ _ _ he] at hi
     obtain ⟨g,N',cur,JK,hB⟩:=h.blk i bk hi
     have hg:=cV hB.heap
     exact ⟨g,N',cur,JK,hB.keep hs (pL w _ hg) (fun hf=>hB.no hf)⟩
 . intro i j x y hi hj hne hx hy
   by_cases cI:i=id
   . subst cI
     have u7:j≠i:=fun e=>hne e.symm
     rw [aa.bb _ _ _ u7] at hj
     rw [Env.iO] at hx
     rw [Env.iv _ _ _ _ _ u7] at hy
     cases hb : σ j with
     | none=>exact absurd hb hj
     | some bk =>
       obtain ⟨g,N',cur,JK,hB⟩:=h.blk j bk hb
       have hg:=cV hB.heap
       rw [hB.μ] at hy
       simp only [Option.some.injEq] at hx hy
       rw [<- hx, <- hy];simp only [];omega
   . rw [aa.bb _ _ _ cI] at hi
     rw [Env.iv _ _ _ _ _ cI] at hx
     by_cases u7:j=id
     . subst u7
       rw [Env.iO] at hy
       cases hb : σ i with
       | none=>exact absurd hb hi
       | some bk =>
         obtain ⟨g,N',cur,JK,hB⟩:=h.blk i bk hb
         have hg:=cV hB.heap
         rw [hB.μ] at hx
         simp only [Option.some.injEq] at hx hy
         rw [<- hx, <- hy];simp only [];omega
     . rw [aa.bb _ _ _ u7] at hj
       rw [Env.iv _ _ _ _ _ u7] at hy
       exact h.inj i j x y hi hj hne hx hy
 . intro g cs hg
   obtain ⟨h1,h2⟩:=h.glob g cs hg
   exact ⟨h1,aX.keep hs.bare (hs.same g h1) cs 0 h2⟩
 . intro k hk;rw [size_alloc] at hk;exact h.new k (by omega)
def AV.upd (c:AV) (o:Nat) (new:List AV):AV :=
 match c with
 | .agg cs => .agg (cs.take o++new++cs.drop (o+new.length))
 | c=>new.headD c
theorem AV.DI {c:AV} {o:Nat} {new:List AV} (h:o+new.length<=c.size) (h1:∀ x∈new,x.one=true):(c.upd o new).cells=c.cells.take o++new++c.cells.drop (o+new.length):=by
 have single:∀ c:AV,c.cells=[c]->c.upd o new=new.headD c->o+new.length<=c.size->(c.upd o new).cells=c.cells.take o++new++c.cells.drop (o+new.length):=by
   intro c hc hu hle
   rw [hu,hc]
   simp only [AV.size,hc,List.length_singleton] at hle
   match new,h1,hle with
   | [],_,hle =>
     have:o=0∨o=1:=by simp at hle;omega
     rcases this with rfl | rfl<;>simp [hc]
   | [x],h1,hle =>
     have ho:o=0:=by simp at hle;omega
     subst ho
     have hx:=h1 x (by simp)
     cases x<;>simp [AV.one] at hx<;>simp [AV.cells]
   | _::_::_,_,hle=>simp at hle;omega
 cases c<;>first | exact single _ rfl rfl h | rfl
theorem AV.PM {c:AV} {o:Nat} {new:List AV} (h:o+new.length<=c.size) (h1:∀ x∈new,x.one=true):(c.upd o new).size=c.size:=by
 unfold AV.size at *
 rw [AV.DI h h1]
 simp only [List.length_append,List.length_take,List.length_drop]
 omega
theorem Be {k:Nat}:∀ {es:List AV} {i:Nat} {e e':AV},(∀ x∈es,x.size=k)->es[i]? = some e->e'.size=k ->
   flat (es.set i e')=(flat es).take (i*k)++e'.cells++(flat es).drop (i*k+k)
 | [],_,_,_,_,h,_=>by simp at h
 | x::es,0,e,e',h,he,hk=>by
   have hx:x.cells.length=k:=h x (by simp)
   have hf:flat (x::es)=x.cells++flat es:=by simp [flat]
   have TQ:flat ((x::es).set 0 e')=e'.cells++flat es:=by simp [flat]
   rw [hf,TQ]
   simp [<- hx]
 | x::es,i+1,e,e',h,he,hk=>by
   have hx:x.cells.length=k:=h x (by simp)
   have ih:=Be (es:=es) (i:=i) (fun y hy=>h y (by simp [hy])) (by simpa using he) hk
   have hf:flat (x::es)=x.cells++flat es:=by simp [flat]
   have TQ:flat ((x::es).set (i+1) e')=x.cells++flat (es.set i e'):=by simp [flat]
   rw [hf,TQ,ih]
   have e1:(i+1)*k=x.cells.length+i*k:=by rw [hx,Nat.add_mul];omega
   rw [e1,List.take_append,show x.cells.length+i*k+k=x.cells.length+(i*k+k) from by omega,List.drop_append]
   simp [List.take_of_length_le,List.append_assoc]
theorem PN {G:Nat->Option (List AV)} {own:Nat->Prop} {E:Env} {w:World} {σ : aa} (h:Inv G own E w σ) {id:Id} {bk:a8} (hσ : σ id=some bk) (Bf:bk.fr=false)
   {g N:Nat} {cur:Array Value} {ty:TypeId} (hB:o6 E own w id bk g N cur ty)
   {e:Nat} {el:AV} (he:bk.els[e]? = some el) {o:Nat} {new:List AV} {vs:List Value} (hle:o+new.length<=el.size) (h1:∀ x∈new,x.one=true) (hv:aF E w new vs) :
   e*bk.k+o+vs.length<=cur.size /\
   Adv own E E w (w.setRow g (cur.toList.take (e*bk.k+o)++vs++cur.toList.drop (e*bk.k+o+vs.length)).toArray) /\
   Inv G own E (w.setRow g (cur.toList.take (e*bk.k+o)++vs++cur.toList.drop (e*bk.k+o+vs.length)).toArray) (σ.put id (some { bk with els:=bk.els.set e (el.upd o new) })):=by
 obtain ⟨o7,hvp⟩:=bj.1 hv
 have DJ:el.size=bk.k:=hB.k el (List.mem_of_getElem? he)
 have hlt:e<bk.els.length:=(List.getElem?_eq_some_iff.1 he).1
 have hbound:e*bk.k+o+vs.length<=cur.size:=by
   rw [hB.size,o7]
   have h2:(e+1)*bk.k<=N*bk.k:=Nat.mul_le_mul_right _ (by have:=hB.len;omega)
   rw [Nat.add_mul] at h2
   omega
 refine ⟨hbound, ?_⟩
 generalize TR:(cur.toList.take (e*bk.k+o)++vs++cur.toList.drop (e*bk.k+o+vs.length)).toArray=nv
 have hg:=cV hB.heap
 have qv:(w.setRow g nv).heap[g]? = some (.cells nv ty (0,0)):=setRow_heap w g cur nv ty _ hB.heap
 have hs:Step E E w (w.setRow g nv):=⟨fun _ _ h=>h,fun _ h=>h,fun b hb=>setRow_other w g b nv (fun e=>hB.no Bf (e▸hb))⟩
 have dS:Adv own E E w (w.setRow g nv) :=
   ⟨hs,rfl,rfl,rfl,by simp,fun k _ hk=>setRow_other w g k nv (fun e=>hk (e▸hB.own)),fun _ h => .inl h⟩
 refine ⟨dS, ?_, ?_, ?_, ?_, ?_⟩
 . intro b hb;simpa using h.okb b hb
 . intro i Ar hi
   by_cases cI:i=id
   . subst cI
     rw [aa.a6] at hi
     simp only [Option.some.injEq] at hi
     subst hi
     have hu:=AV.PM hle h1
     refine ⟨g,N,nv,ty,hB.μ,qv, ?_,by simpa using hB.len,hB.most,hB.own,by simp [Bf],hB.no, ?_, ?_⟩
     . rw [<- TR]
       simp only [List.size_toArray,List.length_append,List.length_take,List.length_drop,Array.length_toList]
       rw [<- hB.size];omega
     . intro x hx
       rcases List.mem_or_eq_of_mem_set hx with hx | rfl
       . exact hB.k x hx
       . rw [hu];exact DJ
     . have Bg : flat (bk.els.set e (el.upd o new))=(flat bk.els).take (e*bk.k+o)++new++(flat bk.els).drop (e*bk.k+o+new.length):=by
         rw [Be hB.k he (hu.trans DJ),AV.DI hle h1]
         have pM:∀ j,j<bk.k->(flat bk.els)[e*bk.k+j]? = el.cells[j]? := fun j hj=>flat_get hB.k he hj
         have hlen:(flat bk.els).length=bk.els.length*bk.k:=cB hB.k
         have o8:el.cells.length=bk.k:=DJ
         have hmul:(e+1)*bk.k<=bk.els.length*bk.k:=Nat.mul_le_mul_right _ hlt
         rw [Nat.add_mul] at hmul
         have hon:o+new.length<=bk.k:=by have:=hle;unfold AV.size at this;omega
         have Fo:flat bk.els=(flat bk.els).take (e*bk.k)++el.cells++(flat bk.els).drop (e*bk.k+bk.k):=by
           apply List.ext_getElem?
           intro j
           by_cases h1:j<e*bk.k
           . rw [List.append_assoc,List.getElem?_append_left (by simp;omega),List.getElem?_take_of_lt h1]
           . rw [List.append_assoc,List.getElem?_append_right (by simp;omega)]
             simp only [List.length_take,Nat.min_eq_left (show e*bk.k<=(flat bk.els).length by omega)]
             by_cases h2:j-e*bk.k<bk.k
             . rw [List.getElem?_append_left (by omega), <- pM _ h2]
               congr 1;omega
             . rw [List.getElem?_append_right (by omega),List.getElem?_drop]
               congr 1;omega
         generalize (flat bk.els).take (e*bk.k)=A at Fo ⊢
         generalize hC:(flat bk.els).drop (e*bk.k+bk.k)=C at Fo ⊢
         have hA:A.length=e*bk.k:=by
           have h3:=congrArg List.length Fo
           simp only [List.length_append] at h3
           have h4:C.length=(flat bk.els).length-(e*bk.k+bk.k):=by rw [<- hC,List.length_drop]
           omega
         rw [Fo]
         rw [<- hA]
         simp only [List.append_assoc]
         rw [List.take_length_add_append,show A.length+o+new.length=A.length+(o+new.length) from by omega,List.drop_length_add_append,
           List.take_append_of_le_length (by omega),List.drop_append_of_le_length (by omega)]
         simp only [List.append_assoc]
       show eh E (w.setRow g nv) g 0 (flat (bk.els.set e (el.upd o new)))
       rw [Bg]
       have hlen:(flat bk.els).length=bk.els.length*bk.k:=cB hB.k
       have hmul:(e+1)*bk.k<=bk.els.length*bk.k:=Nat.mul_le_mul_right _ hlt
       rw [Nat.add_mul] at hmul
       have hon:o+new.length<=bk.k:=by omega
       have hcz:bk.els.length*bk.k<=cur.size:=by rw [hB.size];exact Nat.mul_le_mul_right _ hB.len
       intro j c hj
       have hcell:(w.setRow g nv).cell? ⟨g,0+j,none⟩=nv[j]? := by rw [Nat.zero_add];exact cell_of_row _ _ _ _ _ _ qv
       rw [hcell]
       suffices Xi:∃ v,nv[j]? = some v/\aD E w c v by
         obtain ⟨v,l0,oG⟩:=Xi;exact ⟨v,l0,aD.keep hs c v oG⟩
       rw [<- TR]
       have hold:∀ (j:Nat) (c:AV),(flat bk.els)[j]? = some c->∃ v:Value,cur[j]? = some v/\aD E w c v:=by
         intro j c hj
         obtain ⟨v,l0,oG⟩:=hB.row j c hj
         rw [Nat.zero_add,cell_of_row _ _ _ _ _ _ hB.heap] at l0
         exact ⟨v,l0,oG⟩
       simp only [List.getElem?_toArray]
       have ha:(cur.toList.take (e*bk.k+o)).length=e*bk.k+o:=by simp;omega
       have hb:((flat bk.els).take (e*bk.k+o)).length=e*bk.k+o:=by simp;omega
       rw [List.append_assoc] at hj ⊢
       by_cases c1:j<e*bk.k+o
       . rw [List.getElem?_append_left (by omega),List.getElem?_take_of_lt c1] at hj
         rw [List.getElem?_append_left (by omega),List.getElem?_take_of_lt c1]
         obtain ⟨v,l0,oG⟩:=hold j c hj
         exact ⟨v,by simpa using l0,oG⟩
       . rw [List.getElem?_append_right (by omega),hb] at hj
         rw [List.getElem?_append_right (by omega),ha]
         by_cases c2:j-(e*bk.k+o)<new.length
         . rw [List.getElem?_append_left c2] at hj
           rw [List.getElem?_append_left (by omega)]
           obtain ⟨v,l0,oG⟩:=hvp _ c hj
           exact ⟨v,l0,oG⟩
         . rw [List.getElem?_append_right (by omega),List.getElem?_drop] at hj
           rw [List.getElem?_append_right (by omega),List.getElem?_drop,o7]
           obtain ⟨v,l0,oG⟩:=hold _ c hj
           exact ⟨v,by simpa using l0,oG⟩
   . rw [aa.bb _ _ _ cI] at hi
     obtain ⟨g',N',vK,JK,Db⟩:=h.blk i Ar hi
     have hne:g'≠g:=h.inj i id _ _ (by simp [hi]) (by simp [hσ]) cI Db.μ hB.μ
     exact ⟨g',N',vK,JK,Db.keep hs (setRow_other w g g' nv hne) Db.no⟩
 . intro i j x y hi hj hne hx hy
   refine h.inj i j x y ?_ ?_ hne hx hy
   . intro hn;by_cases cI:i=id
     . subst cI;simp [hσ] at hn
     . rw [aa.bb _ _ _ cI] at hi;exact hi hn
   . intro hn;by_cases cI:j=id
     . subst cI;simp [hσ] at hn
     . rw [aa.bb _ _ _ cI] at hj;exact hj hn
 . intro g' cs GR
   obtain ⟨h1',Tx⟩:=h.glob g' cs GR
   exact ⟨h1',aX.keep hs.bare (hs.same g' h1') cs 0 Tx⟩
 . intro k hk;simp at hk;exact h.new k hk
inductive aO where
 | t (n:Nat)
 | c (a:AV)
 | g (n:Nat)
 | f (n:Nat)
def aO.ev (G:Nat->Option (List AV)) (t:List AV):aO->AV
 | .t n=>t.getD n (.tup [])
 | .c a=>a
 | .g n=>match G n with | some cs => .ep cs 0 | none => .top
 | .f n => .fn (.func n) [] []
inductive Sh where
 | int | str | bool | ptr | slice | func
 deriving DecidableEq
inductive gj (α : Type) where
 | mv (x : α)
 | pick (c a b : α)
 | box (x : α)
 | build (zero:List AV) (parts:List (Nat × Nat × α))
 | buildSl (k len:Nat) (zero:AV) (parts:List (Nat × α))
 | load (agg:Bool) (n:Nat) (x : α)
 | store (n:Nat) (x v : α)
 | nilck (x : α)
 | bin (op:BinOp) (sh:Sh) (x y : α)
 | un (op:UnOp) (x : α)
 | toInt (k:IntKind) (x : α)
 | idStr (x : α)
 | bytesStr (x : α)
 | idx (x c : α)
 | ovl (x y : α)
 | mkfn (fn:Fn) (first cap:List α)
 | mksl (k bytes:Nat) (zero:AV) (len cap : α)
 | slice (k:Nat) (x : α) (lo hi mx:Option α)
 | sliceS (x : α) (lo hi:Option α)
 | sliceA (n:Nat) (x : α) (lo hi:Option α)
 | faddr (off:Nat) (x : α)
 | field (agg:Bool) (off n:Nat) (x : α)
 | iaddrS (k:Nat) (x i : α)
 | iaddrA (n k:Nat) (x i : α)
 | indexS (x i : α)
 | indexA (agg:Bool) (n k:Nat) (x i : α)
 | extract (x : α) (i:Nat)
 | len (str:Bool) (x : α)
 | lenN (n:Nat) (x : α)
 | append (k bytes:Nat) (s x : α)
 | min (x y : α)
 | max (x y : α)
 | cap (x : α)
 | clear (k:Nat) (zero:AV) (x : α)
 | copy (k:Nat) (d x : α)
 | appz (k bytes:Nat) (zero:AV) (s n : α)
 | bad
 | call (f : α) (args:List α)
def gj.map {α β : Type} (g : α -> β):gj α -> gj β
 | .mv x => .mv (g x)
 | .pick c a b => .pick (g c) (g a) (g b)
 | .box x => .box (g x)
 | .build z ps => .build z (ps.map fun p=>(p.1,p.2.1,g p.2.2))
 | .buildSl k n z ps => .buildSl k n z (ps.map fun p=>(p.1,g p.2))
 | .load a n x => .load a n (g x)
 | .store n x v => .store n (g x) (g v)
 | .nilck x => .nilck (g x)
 | .bin op sh x y => .bin op sh (g x) (g y)
 | .un op x => .un op (g x)
 | .toInt k x => .toInt k (g x)
 | .idStr x => .idStr (g x)
 | .bytesStr x => .bytesStr (g x)
 | .idx x c => .idx (g x) (g c)
 | .ovl x y => .ovl (g x) (g y)
 | .mkfn fn a c => .mkfn fn (a.map g) (c.map g)
 | .mksl k b z l c => .mksl k b z (g l) (g c)
 | .slice k x lo hi mx => .slice k (g x) (lo.map g) (hi.map g) (mx.map g)
 | .sliceS x lo hi => .sliceS (g x) (lo.map g) (hi.map g)
 | .sliceA n x lo hi => .sliceA n (g x) (lo.map g) (hi.map g)
 | .faddr o x => .faddr o (g x)
 | .field a o n x => .field a o n (g x)
 | .iaddrS k x i => .iaddrS k (g x) (g i)
 | .iaddrA n k x i => .iaddrA n k (g x) (g i)
 | .indexS x i => .indexS (g x) (g i)
 | .indexA a n k x i => .indexA a n k (g x) (g i)
 | .extract x i => .extract (g x) i
 | .len b x => .len b (g x)
 | .lenN n x => .lenN n (g x)
 | .append k b s x => .append k b (g s) (g x)
 | .min x y => .min (g x) (g y)
 | .max x y => .max (g x) (g y)
 | .cap x => .cap (g x)
 | .clear k z x => .clear k z (g x)
 | .copy k d x => .copy k (g d) (g x)
 | .appz k b z s n => .appz k b z (g s) (g n)
 | .bad => .bad
 | .call f as => .call (g f) (as.map g)
structure eB where
 val:AV
 rd:List Id:=[]
 up:List (Id × Option a8):=[]
def aa.app (σ : aa):List (Id × Option a8)->aa
 | [] => σ
 | (i,b)::r=>(σ.put i b).app r
def bitsOf (op:BinOp) (k:IntKind) (x y:Int):Option Int :=
 let a:=BitVec.ofInt k.bits x
 let b:=BitVec.ofInt k.bits y
 match op with
 | .and=>some (k.wrap (a &&& b).toNat)
 | .or=>some (k.wrap (a ||| b).toNat)
 | .xor=>some (k.wrap (a ^^^ b).toNat)
 | .andNot=>some (k.wrap (a &&& ~~~b).toNat)
 | _=>none
def qw (op:BinOp) (k:IntKind) (a b:Int):Option AV :=
 match op with
 | .add=>some (.int k (k.wrap (a+b)))
 | .sub=>some (.int k (k.wrap (a-b)))
 | .mul=>some (.int k (k.wrap (a*b)))
 | .quo=>if b=0 then none else some (.int k (k.wrap (a.tdiv b)))
 | .rem=>if b=0 then none else some (.int k (a.tmod b))
 | .and | .or | .xor | .andNot=>(bitsOf op k a b).map (.int k)
 | .eql=>some (.bool (a==b))
 | .neq=>some (.bool (a != b))
 | .lss=>some (.bool (a<b))
 | .leq=>some (.bool (a<=b))
 | .gtr=>some (.bool (a>b))
 | .geq=>some (.bool (a≥b))
 | .shl=>if b<0 then none else some (.int k (k.wrap (a*2 ^ (min b.toNat k.bits))))
 | .shr=>if b<0 then none else some (.int k (a.fdiv (2 ^ (min b.toNat k.bits))))
def PO (op:BinOp) (x y:List UInt8):Option AV :=
 match op with
 | .add=>if x.length+y.length<=maxLen then some (.str (x++y)) else none
 | .eql=>some (.bool (x==y))
 | .neq=>some (.bool !(x==y))
 | .lss=>some (.bool (Op.bytesLess x y))
 | .leq=>some (.bool (Op.bytesLess x y||x==y))
 | .gtr=>some (.bool !(Op.bytesLess x y||x==y))
 | .geq=>some (.bool !(Op.bytesLess x y))
 | _=>none
def j3 (op:BinOp) (sh:Sh) (x y:AV):Option AV :=
 match sh,x,y with
 | .int, .int k a, .int k' b=>if op = .shl∨op = .shr∨k=k' then qw op k a b else none
 | .str, .str a, .str b=>PO op a b
 | .bool, .bool a, .bool b=>match op with
   | .eql=>some (.bool (a==b))
   | .neq=>some (.bool !(a==b))
   | _=>none
 | .ptr, .nilp, .nilp=>match op with | .eql=>some (.bool true) | .neq=>some (.bool false) | _=>none
 | .ptr, .ref _ _ _, .nilp | .ptr, .nilp, .ref _ _ _ | .ptr, .ep _ _, .nilp | .ptr, .nilp, .ep _ _ =>
   match op with | .eql=>some (.bool false) | .neq=>some (.bool true) | _=>none
 | .slice, .nils, .nils=>match op with | .eql=>some (.bool true) | .neq=>some (.bool false) | _=>none
 | .slice, .osl _ _ _ _ _, .nils | .slice, .nils, .osl _ _ _ _ _ =>
   match op with | .eql=>some (.bool false) | .neq=>some (.bool true) | _=>none
 | .slice, .sl _ (_::_), .nils | .slice, .tsl _ (_::_), .nils =>
   match op with | .eql=>some (.bool false) | .neq=>some (.bool true) | _=>none
 | .func, .nilf, .nilf=>match op with | .eql=>some (.bool true) | .neq=>some (.bool false) | _=>none
 | .func, .fn _ _ _, .nilf | .func, .nilf, .fn _ _ _=>match op with | .eql=>some (.bool false) | .neq=>some (.bool true) | _=>none
 | _,_,_=>none
def Lu (op:BinOp) (sh:Sh) (x y:AV):Option AV :=
 match sh,x,y with
 | .slice, .sl _ [], .nils | .slice, .tsl _ [], .nils=>match op with | .eql | .neq=>some .anyb | _=>none
 | .int, .int .i64 a, .ige n=>match op with | .gtr=>if a<=n then some (.bool false) else none | _=>none
 | _,_,_=>none
def bn (op:BinOp) (sh:Sh) (x y:AV):Option AV :=
 match j3 op sh x y with
 | some c=>some c
 | none=>Lu op sh x y
def ZB (op:UnOp) (x:AV):Option AV :=
 match op,x with
 | .neg, .int k n=>some (.int k (k.wrap (0-n)))
 | .xor, .int k n=>(bitsOf .xor k (if k.signed then -1 else k.max) n).map (.int k)
 | .not, .bool b=>some (.bool !b)
 | _,_=>none
def part (agg:Bool) (cs:List AV) (o n:Nat):Option AV :=
 if o+n<=cs.length then
   if agg then some (.agg ((cs.drop o).take n)) else if n=1 then cs[o]? else none
 else none
def fX (σ : aa) (agg:Bool) (n:Nat):AV->Option eB
 | .ref id e o=>match σ id with
   | some bk=>match bk.els[e]? with
     | some el=>(part agg el.cells o n).map fun v=>{ val:=v,rd:=[id] }
     | none=>none
   | none=>none
 | .ep cs o=>(part agg cs o n).map fun v=>{ val:=v }
 | _=>none
def eO (σ : aa) (n:Nat) (x v:AV):Option eB :=
 match x with
 | .ref id e o=>match σ id with
   | some bk=>match bk.els[e]? with
     | some el =>
       if bk.fr=false/\v.cells.length=n/\o+n<=el.size/\v.cells.all AV.one=true then
         some { val := .tup [],rd:=[id],up:=[(id,some { bk with els:=bk.els.set e (el.upd o v.cells) })] }
       else none
     | none=>none
   | none=>none
 | _=>none
def sA (cs:List AV):List (Nat × Nat × AV)->Option (List AV)
 | []=>some cs
 | (o,n,x)::r=>if x.cells.length=n/\o+n<=cs.length/\x.cells.all AV.one=true then sA (cs.take o++x.cells++cs.drop (o+n)) r else none
def jD (k:Nat) (es:List AV):List (Nat × AV)->Option (List AV)
 | []=>some es
 | (i,x)::r=>if x.size=k/\i<es.length/\x.cells.all AV.one=true then jD k (es.set i x) r else none
def dB (σ : aa) (k:Nat):AV->Option (List AV × List Id)
 | .nils=>some ([],[])
 | .sl k' es | .tsl k' es=>if k'=k then some (es,[]) else none
 | .osl id k' off len _=>match σ id with
   | some bk=>if k'=k/\bk.k=k/\off+len<=bk.els.length then some ((bk.els.drop off).take len,[id]) else none
   | none=>none
 | _=>none
def bQ (σ : aa) (p:Id) (k bytes:Nat) (s x:AV):Option eB :=
 match dB σ k x with
 | none=>none
 | some (ys, rd) =>
   if ys.isEmpty then
     match s with
     | .nils | .tsl _ _ | .osl _ _ _ _ _=>some { val:=s,rd }
     | _=>none
   else match s with
     | .nils=>if ys.length*bytes<=140737488355328/\ys.length<=maxLen/\(ys.all fun e=>e.cells.all AV.one)=true then
         some { val := .osl p k 0 ys.length false,rd,up:=[(p,some ⟨ys,k,false⟩)] } else none
     | .tsl k' es=>if k'=k/\(es.length+ys.length)*bytes<=140737488355328/\es.length+ys.length<=maxLen/\((es++ys).all fun e=>e.cells.all AV.one)=true then
         some { val := .osl p k 0 (es.length+ys.length) false,rd,up:=[(p,some ⟨es++ys,k,false⟩)] } else none
     | .osl id k' off len tight=>match σ id with
       | some bk =>
         if k' = k/\bk.k=k/\off=0/\len<=bk.els.length/\(len+ys.length)*bytes<=140737488355328/\len+ys.length<=maxLen/\(ys.all fun e=>e.cells.all AV.one)=true then
           if tight then
             if (bk.els.all fun e=>e.cells.all AV.one)=true then
               some { val := .osl p k 0 (len+ys.length) false,rd:=id::rd,up:=[(p,some ⟨bk.els.take len++ys,k,false⟩)] }
             else none
           else if len=bk.els.length/\bk.fr=false/\(bk.els.all fun e=>e.cells.all AV.one)=true then
             some { val := .osl p k 0 (len+ys.length) false,rd:=id::rd,up:=[(id,none),(p,some ⟨bk.els++ys,k,false⟩)] }
           else if len+ys.length<=bk.els.length/\bk.fr=false then
             some { val := .osl id k 0 (len+ys.length) false,rd:=id::rd,up:=[(id,some { bk with els:=bk.els.take len++ys++bk.els.drop (len+ys.length) })] }
           else none
         else none
       | none=>none
     | _=>none
def dT (d most:Nat):Option AV->Option Nat
 | none=>some d
 | some (.int _ i)=>if 0<=i/\i<=most then some i.toNat else none
 | some _=>none
def cm (len:Nat) (lo hi:Option AV):Option (Nat × Nat) :=
 match dT len len hi with
 | none=>none
 | some h=>match dT 0 h lo with
   | none=>none
   | some l=>some (l,h)
def rq (mx:Option AV) (h:Nat):Bool:=match mx with
 | some (.int _ m)=>m==(h:Int)
 | _=>false
def bR (k:Nat) (x:AV) (lo hi mx:Option AV):Option AV :=
 match x with
 | .nils=>match cm 0 lo hi with
   | some _=>if mx.isNone=true∨rq mx 0=true then some .nils else none
   | none=>none
 | .sl k' es=>match cm es.length lo hi with
   | some (l,h)=>if k'=k then
       if mx.isNone then some (.sl k ((es.take h).drop l)) else if rq mx h then some (.tsl k ((es.take h).drop l)) else none
     else none
   | none=>none
 | .tsl k' es=>match cm es.length lo hi with
   | some (l,h)=>if k'=k/\(mx.isNone=true∨rq mx h=true) then
       if mx.isSome=true∨h=es.length then some (.tsl k ((es.take h).drop l)) else some (.sl k ((es.take h).drop l))
     else none
   | none=>none
 | .osl id k' off len t=>match cm len lo hi with
   | some (l,h) =>
     if k' = k then
       if mx.isNone then
         if t=false∨h=len then
           if l=0 then some (.osl id k off h t) else if l=h then some (.sl k []) else some (.osl id k (off+l) (h-l) t)
         else none
       else if rq mx h=true/\l=0 then some (.osl id k off h true) else none
     else none
   | none=>none
 | _=>none
def o9 (x:AV) (lo hi:Option AV):Option AV :=
 match x with
 | .str s=>match cm s.length lo hi with
   | some (l,h)=>some (.str ((s.take h).drop l))
   | none=>none
 | _=>none
def AO (σ : aa) (n:Nat) (x:AV) (lo hi:Option AV):Option eB :=
 match x with
 | .ref id e 0=>match σ id with
   | some bk=>match bk.els[e]? with
     | some el=>match cm n lo hi with
       | some (l,h)=>if el.cells.length=n/\el.cells.all AV.one=true then some { val := .sl 1 ((el.cells.take h).drop l),rd:=[id],up:=[(id,some { bk with fr:=true })] } else none
       | none=>none
     | none=>none
   | none=>none
 | _=>none
def aV (k:Nat) (x i:AV):Option AV :=
 match i with
 | .int _ i=>match x with
   | .sl k' es | .tsl k' es=>if k'=k/\0<=i then (es[i.toNat]?).map fun e => .ep e.cells 0 else none
   | .osl id k' off len _=>if k'=k/\0<=i/\i<len then some (.ref id (off+i.toNat) 0) else none
   | _=>none
 | _=>none
def AP (n k:Nat) (x i:AV):Option AV :=
 match i with
 | .int _ i=>if 0<=i/\i<n then
     match x with
     | .ref id e o=>some (.ref id e (o+i.toNat*k))
     | .ep cs o=>some (.ep cs (o+i.toNat*k))
     | _=>none
   else none
 | _=>none
def j4 (p:Id) (k bytes:Nat) (zero len cap:AV):Option eB :=
 match len,cap with
 | .int _ l, .int _ c =>
   if 0<=l/\l<=c/\c*bytes<=140737488355328/\c<=maxLen/\zero.size=k/\zero.cells.all AV.one=true then
     some { val := .osl p k 0 l.toNat false,up:=[(p,some ⟨List.replicate l.toNat zero,k,false⟩)] }
   else none
 | _,_=>none
def ky:Bool->AV->Option AV
 | true, .str s=>some (.int .i64 s.length)
 | false, .nils=>some (.int .i64 0)
 | false, .sl _ es=>some (.int .i64 es.length)
 | false, .tsl _ es=>some (.int .i64 es.length)
 | false, .osl _ _ _ len _=>some (.int .i64 len)
 | _,_=>none
def NB:AV->Option AV
 | .nils=>some (.int .i64 0)
 | .tsl _ es=>some (.int .i64 es.length)
 | .osl _ _ _ len true=>some (.int .i64 len)
 | _=>none
def sC (σ : aa) (id:Id) (off:Nat) (k:Nat) (news:List AV) (v:AV) (rd:List Id):Option eB :=
 match σ id with
 | some bk=>if bk.k=k/\off+news.length<=bk.els.length/\bk.fr=false/\(news.all fun e=>e.cells.all AV.one)=true then
     some { val:=v,rd:=id::rd,up:=[(id,some { bk with els:=bk.els.take off++news++bk.els.drop (off+news.length) })] } else none
 | none=>none
def vL (σ : aa) (k:Nat) (zero:AV) (x:AV):Option eB :=
 match x with
 | .nils=>some { val := .tup [] }
 | .osl id k' off len _=>if len=0 then some { val := .tup [] } else if k'=k/\zero.size=k then sC σ id off k (List.replicate len zero) (.tup []) [] else none
 | _=>none
def wQ (σ : aa) (k:Nat) (d x:AV):Option eB :=
 match dB σ k x with
 | none=>none
 | some (ys,rd)=>match d with
   | .nils=>some { val := .int .i64 0,rd }
   | .osl id k' off len _ =>
     if (ys.take len).isEmpty then some { val := .int .i64 0,rd }
     else if k'=k then sC σ id off k (ys.take len) (.int .i64 (ys.take len).length) rd else none
   | _=>none
def Lv (p:Id) (k bytes:Nat) (zero s n:AV):Option eB :=
 match s,n with
 | .nils, .int _ n=>if 0<n/\n*bytes<=140737488355328/\n<=maxLen/\zero.size=k/\zero.cells.all AV.one=true then
     some { val := .osl p k 0 n.toNat false,up:=[(p,some ⟨List.replicate n.toNat zero,k,false⟩)] } else none
 | _,_=>none
def bytesOf:List AV->Option (List UInt8)
 | []=>some []
 | .int .u8 n::r=>(bytesOf r).map (UInt8.ofNat n.toNat :: ·)
 | _::_=>none
def lq (σ : aa) (x:AV):Option eB :=
 match dB σ 1 x with
 | some (ys,rd)=>(bytesOf ys).map fun l=>{ val := .str l,rd }
 | none=>none
def bo (v:Option AV):Option eB:=v.map fun v=>{ val:=v }
def pa:List UInt8->UInt8->Int
 | [],_ => -1
 | b::l,c=>if b==c then 0 else if pa l c == -1 then -1 else pa l c+1
def PQ:AV->AV->Option AV
 | .str s, .int .u8 c=>some (.int .i64 (pa s c.toNat.toUInt8))
 | _,_=>none
def PR (k:Nat):AV->Option Nat
 | .nils=>some 0
 | .sl k' es | .tsl k' es=>if k'=k then some es.length else none
 | .osl _ k' _ len _=>if k'=k then some len else none
 | _=>none
def jW (σ : aa) (k:Nat) (x:AV) (lo hi mx:Option AV):Option AV->Option eB
 | some v=>bo (some v)
 | none=>match x,hi,mx with
   | .osl id k' off _ false,some h,none=>match σ id with
     | some bk=>if off<=bk.els.length/\bk.k=k then (bR k (.osl id k' off (bk.els.length-off) false) lo (some h) none).map fun v=>{ val:=v,rd:=[id] } else none
     | none=>none
   | x,some h,some (.int _ m)=>match PR k x with
     | some n=>match cm n lo (some h) with
       | some (_,r)=>if (r:Int)<=m/\m<=n then some { val := .top } else none
       | none=>none
     | none=>none
   | _,_,_=>none
def wR (σ : aa) (x:AV):Option AV->Option eB
 | some v=>bo (some v)
 | none=>match x with
   | .osl id _ off _ false=>match σ id with
     | some bk=>if off<=bk.els.length then some { val := .ige (bk.els.length-off),rd:=[id] } else none
     | none=>none
   | _=>none
def GU (σ : aa) (x y:AV):Option eB :=
 match x,y with
 | .osl i _ _ _ _, .osl j _ _ _ _=>if i=j then none else match σ i, σ j with
   | some _,some b=>if 0<b.k/\0<b.els.length then some { val := .bool false,rd:=[i,j] } else none
   | _,_=>none
 | _,_=>none
def bu (σ : aa) (p:Id):gj AV->Option eB
 | .mv x=>bo (some x)
 | .pick c a b=>match c with | .bool c=>bo (some (if c then a else b)) | _=>none
 | .box x=>if x.cells.all AV.one=true then some { val := .ref p 0 0,up:=[(p,some ⟨[x],x.size,false⟩)] } else none
 | .build z ps=>bo ((sA z ps).map .agg)
 | .buildSl k n z ps=>match jD k (List.replicate n z) ps with
   | some es=>if z.size=k/\z.cells.all AV.one=true then (if n=0 then some { val := .tsl k [] } else some { val := .osl p k 0 n false,up:=[(p,some ⟨es,k,false⟩)] }) else none
   | none=>none
 | .load a n x=>fX σ a n x
 | .store n x v=>eO σ n x v
 | .nilck x=>match x with | .ref _ _ _ | .ep _ _=>bo (some x) | .fn (.func _) _ _=>bo (some x) | _=>none
 | .bin op sh x y=>bo (bn op sh x y)
 | .un op x=>bo (ZB op x)
 | .toInt k x=>match x with | .int _ n=>bo (some (.int k (k.wrap n))) | _=>none
 | .idStr x=>match x with | .str _=>bo (some x) | .int _ n=>if 0<=n/\n<128 then bo (some (.str [UInt8.ofNat n.toNat])) else none | _=>none
 | .bytesStr x=>lq σ x
 | .idx x c=>bo (PQ x c)
 | .ovl x y=>GU σ x y
 | .mkfn fn a c=>bo (some (.fn fn a c))
 | .mksl k b z l c=>j4 p k b z l c
 | .slice k x lo hi mx=>jW σ k x lo hi mx (bR k x lo hi mx)
 | .sliceS x lo hi=>bo (o9 x lo hi)
 | .sliceA n x lo hi=>AO σ n x lo hi
 | .faddr o x=>match x with
   | .ref id e q=>bo (some (.ref id e (q+o)))
   | .ep cs q=>bo (some (.ep cs (q+o)))
   | _=>none
 | .field a o n x=>match x with | .agg cs=>bo (part a cs o n) | _=>none
 | .iaddrS k x i=>bo (aV k x i)
 | .iaddrA n k x i=>bo (AP n k x i)
 | .indexS x i=>match x,i with
   | .str s, .int _ i=>if 0<=i then bo ((s[i.toNat]?).map fun b => .int .u8 b.toNat) else none
   | _,_=>none
 | .indexA a n k x i=>match x,i with
   | .agg cs, .int _ i=>if 0<=i/\i<n then bo (part a cs (i.toNat*k) k) else none
   | _,_=>none
 | .extract x i=>match x with | .tup vs=>bo vs[i]? | _=>none
 | .len b x=>bo (ky b x)
 | .lenN n _=>bo (some (.int .i64 n))
 | .append k b s x=>bQ σ p k b s x
 | .min x y=>match x,y with | .int k a, .int _ b=>bo (some (.int k (if b<a then b else a))) | _,_=>none
 | .max x y=>match x,y with | .int k a, .int _ b=>bo (some (.int k (if b>a then b else a))) | _,_=>none
 | .cap x=>wR σ x (NB x)
 | .clear k z x=>vL σ k z x
 | .copy k d x=>wQ σ k d x
 | .appz k b z s n=>Lv p k b z s n
 | .bad=>none
 | .call _ _=>none
def jX:Nat->Value->Option AV
 | 0,_=>none
 | n+1,v=>match v with
   | .bool b=>some (.bool b)
   | .int k i=>some (.int k i)
   | .string s=>some (.str s.data.toList)
   | .pointer none=>some .nilp
   | .nilFunc=>some .nilf
   | .slice none 0 0=>some .nils
   | .agg cs=>(cs.toList.mapM (jX n)).map .agg
   | .tuple cs=>(cs.toList.mapM (jX n)).map .tup
   | _=>none
def cC:Operand->Option aO
 | .tmp t=>some (.t t)
 | .const v=>(jX 3 v).map .c
 | .global g=>some (.g g)
 | .func f=>some (.f f)
def Bh (xs:Array Operand):Option (List aO):=xs.toList.mapM cC
def ti:Option Operand->Option (Option aO)
 | none=>some none
 | some x=>(cC x).map some
def mc (P:Program) (t:TypeId):Option Bool :=
 match P.underlying t with
 | some (.struct _) | some (.array _ _)=>some true
 | some _=>some false
 | none=>none
def NC (P:Program) (t:TypeId):Option Sh :=
 match P.underlying t with
 | some (.int _)=>some .int
 | some .string=>some .str
 | some .bool=>some .bool
 | some (.pointer _)=>some .ptr
 | some (.slice _)=>some .slice
 | some (.func _ _ _)=>some .func
 | _=>none
def kG (P:Program) (t:TypeId):Option AV :=
 match P.info? t with
 | some i=>match i.zero with
   | some z=>match jX 3 z with
     | some a=>if a.size=i.size/\a.cells.all AV.one=true then some a else none
     | none=>none
   | none=>none
 | none=>none
def yF:Option TypeDesc->Bool
 | some (.slice _)=>true
 | _=>false
def wS (P:Program) (b:Builtin) (args:Array Operand) (ts:Array TypeId):Option (gj aO) :=
 match b,args.toList,ts.toList with
 | .len,[x],[t]=>match P.underlying t with
   | some .string=>(cC x).map (.len true)
   | some (.slice _)=>(cC x).map (.len false)
   | some (.array n _)=>(cC x).map (.lenN n)
   | _=>none
 | .append,[s,x],[t,t']=>match P.underlying t with
   | some (.slice e)=>match P.info? e with
     | some i=>if yF (P.underlying t')=true/\0<i.size/\0<i.bytes/\(kG P e).isSome then
         match cC s,cC x with
         | some s,some x=>some (.append i.size i.bytes s x)
         | _,_=>none
       else match P.underlying t',kG P e,cC s,cC x with
         | some (.int _),some z,some s,some x=>if 0<i.size then some (.appz i.size i.bytes z s x) else none
         | _,_,_,_=>none
     | none=>none
   | _=>none
 | .cap,[x],[t]=>match P.underlying t with
   | some (.slice _)=>(cC x).map .cap
   | _=>none
 | .clear,[x],[t]=>match P.underlying t with
   | some (.slice e)=>match kG P e,cC x with
     | some z,some x=>if 0<z.size then some (.clear z.size z x) else none
     | _,_=>none
   | _=>none
 | .copy,[d,x],[t,_]=>match P.underlying t with
   | some (.slice e)=>match P.info? e with
     | some i=>if 0<i.size then
         match cC d,cC x with
         | some d,some x=>some (.copy i.size d x)
         | _,_=>none
       else none
     | none=>none
   | _=>none
 | .min,[x,y],_=>match cC x,cC y with | some x,some y=>some (.min x y) | _,_=>none
 | .max,[x,y],_=>match cC x,cC y with | some x,some y=>some (.max x y) | _,_=>none
 | _,_,_=>none
inductive TT where
 | idx | ovl
def tj (n:String):Bool:=(Extern.allGenericRows.lookup n).isNone&&(Extern.allTypedRows.lookup n).isNone&&(Extern.allRows.lookup n).isNone&&(Extern.allNextRows.lookup n).isNone && !(n == "runtime.NumGoroutine")
def PS (P:Program):Operand->Option TT
 | .func f => match P.funcs[f]? with
   | some fn=>if fn.body.isNone=true then
       if fn.name == "internal/bytealg.IndexByteString" && fn.origin == "" then some .idx
       else if fn.origin == "slices.overlaps" && tj fn.name then
         match fn.params[0]? with
         | some t=>match P.underlying t with
           | some (.slice e)=>if (P.info? e).isSome then some .ovl else none
           | _=>none
         | none=>none
       else none
     else none
   | none=>none
 | _=>none
def TU (k:TT):List Operand->Option (gj aO)
 | [x,y]=>match cC x,cC y with
   | some x,some y=>some (match k with | .idx => .idx x y | .ovl => .ovl x y)
   | _,_=>none
 | _=>none
def lB (P:Program):Op->Option (gj aO)
 | .move x | .assign x=>(cC x).map .mv
 | .pick c a b=>match cC c,cC a,cC b with | some c,some a,some b=>some (.pick c a b) | _,_,_=>none
 | .alloc t=>(kG P t).map fun z => .box (.c z)
 | .box _ x=>(cC x).map .box
 | .build t ps=>match P.underlying t,kG P t,ps.toList.mapM fun p=>(cC p.2).map (p.1, ·) with
   | some (.struct fs),some z,some ps=>match fs.toList.mapM (fun f=>(P.info? f.type).map fun i=>(f.offset,i.size)) with
     | some places=>(ps.mapM fun (p:Nat × aO)=>(places[p.1]?).map fun q=>(q.1,q.2,p.2)).map (.build z.cells)
     | none=>none
   | some (.array _ e),some z,some ps=>match P.info? e with
     | some i=>some (.build z.cells (ps.map fun p=>(p.1*i.size,i.size,p.2)))
     | none=>none
   | _,_,_=>none
 | .buildSlice t n ps=>match P.underlying t,ps.toList.mapM fun p=>(cC p.2).map (p.1, ·) with
   | some (.slice e),some ps=>match P.info? e,kG P e with
     | some i,some z=>if n*i.size<=16777216/\0<i.size/\n<=maxLen then some (.buildSl i.size n z ps) else none
     | _,_=>none
   | _,_=>none
 | .load t x=>match mc P t,P.info? t,cC x with
   | some a,some i,some x=>if a=true∨i.size=1 then some (.load a i.size x) else none
   | _,_,_=>none
 | .store t x v=>match P.info? t,cC x,cC v with
   | some i,some x,some v=>some (.store i.size x v)
   | _,_,_=>none
 | .nilCheck x=>(cC x).map .nilck
 | .binOp op t x y _=>match NC P t,cC x,cC y with
   | some sh,some x,some y=>some (.bin op sh x y)
   | _,_,_=>none
 | .unOp op _ x=>(cC x).map (.un op)
 | .convert s d x=>match P.underlying s,P.underlying d with
   | some (.int _),some (.int k)=>(cC x).map (.toInt k)
   | some .string,some .string=>(cC x).map .idStr
   | some (.int _),some .string=>(cC x).map .idStr
   | some (.slice e),some .string=>match P.underlying e with | some (.int .u8)=>(cC x).map .bytesStr | _=>none
   | _,_=>none
 | .makeFunc fn a c=>match Bh a,Bh c with | some a,some c=>some (.mkfn fn a c) | _,_=>none
 | .makeSlice t l c=>match P.underlying t with
   | some (.slice e)=>match P.info? e,kG P e,cC l,cC c with
     | some i,some z,some l,some c=>if 0<i.size/\0<i.bytes then some (.mksl i.size i.bytes z l c) else none
     | _,_,_,_=>none
   | _=>none
 | .slice t x lo hi mx=>match P.underlying t with
   | some (.slice e)=>match P.info? e,cC x,ti lo,ti hi,ti mx with
     | some i,some x,some lo,some hi,some mx=>if mx.isSome->hi.isSome then some (.slice i.size x lo hi mx) else none
     | _,_,_,_,_=>none
   | some .string=>match cC x,ti lo,ti hi,mx with
     | some x,some lo,some hi,none=>some (.sliceS x lo hi)
     | _,_,_,_=>none
   | some (.array n e)=>match P.info? e,cC x,ti lo,ti hi,mx with
     | some i,some x,some lo,some hi,none=>if i.size=1/\n<=maxLen then some (.sliceA n x lo hi) else none
     | _,_,_,_,_=>none
   | _=>none
 | .fieldAddr s x f=>match P.underlying s with
   | some (.struct fs)=>match fs[f]? with
     | some fd=>match P.info? fd.type,cC x with
       | some i,some x=>if i.size=0 then none else some (.faddr fd.offset x)
       | _,_=>none
     | none=>none
   | _=>none
 | .field s x f=>match P.underlying s with
   | some (.struct fs)=>match fs[f]? with
     | some fd=>match mc P fd.type,P.info? fd.type,cC x with
       | some a,some i,some x=>some (.field a fd.offset i.size x)
       | _,_,_=>none
     | none=>none
   | _=>none
 | .indexAddr t x ix=>match P.underlying t with
   | some (.slice e)=>match P.info? e,cC x,cC ix with
     | some i,some x,some ix=>some (.iaddrS i.size x ix)
     | _,_,_=>none
   | some (.array n e)=>match P.info? e,cC x,cC ix with
     | some i,some x,some ix=>some (.iaddrA n i.size x ix)
     | _,_,_=>none
   | _=>none
 | .index t x ix=>match P.underlying t with
   | some .string=>match cC x,cC ix with | some x,some ix=>some (.indexS x ix) | _,_=>none
   | some (.array n e)=>match mc P e,P.info? e,cC x,cC ix with
     | some a,some i,some x,some ix=>some (.indexA a n i.size x ix)
     | _,_,_,_=>none
   | _=>none
 | .extract x i=>(cC x).map (.extract · i)
 | .call c=>match c.callee with
   | .value f=>match PS P f with
     | none=>match cC f,Bh c.args with | some f,some as=>some (.call f as) | _,_=>none
     | some k=>TU k c.args.toList
   | .builtin b=>wS P b c.args c.argTypes
   | .invoke _ _=>none
 | _=>none
def VX (P:Program) (o:Op):Option (gj aO) :=
 match lB P o with
 | some v=>some v
 | none=>some .bad
structure bg where
 dst:Option Nat
 op:gj aO
 guard:Option (Nat × Bool):=none
inductive bA where
 | skip
 | reg (agv:Option (List (Nat × Nat))) (ops:List bg)
 | seq (a b:bA)
 | cond (c:aO) (a b:bA)
 | block (id:Nat) (c:bA)
 | loop (c:bA)
 | exit (id:Nat)
 | ret
inductive pO where
 | tmp (t:Nat)
 | cell (x:Nat) (agg:Bool) (n:Nat)
structure aL where
 nt:Nat
 results:List pO
 body:bA
def gj.args {α : Type}:gj α -> List α
 | .mv x=>[x]
 | .pick c a b=>[c,a,b]
 | .box x=>[x]
 | .build _ ps=>ps.map fun p=>p.2.2
 | .buildSl _ _ _ ps=>ps.map fun p=>p.2
 | .load _ _ x=>[x]
 | .store _ x v=>[x,v]
 | .nilck x=>[x]
 | .bin _ _ x y=>[x,y]
 | .un _ x=>[x]
 | .toInt _ x=>[x]
 | .idStr x=>[x]
 | .bytesStr x=>[x]
 | .idx x c=>[x,c]
 | .ovl x y=>[x,y]
 | .mkfn _ a c=>a++c
 | .mksl _ _ _ l c=>[l,c]
 | .slice _ x lo hi mx=>x::(lo.toList++hi.toList++mx.toList)
 | .sliceS x lo hi=>x::(lo.toList++hi.toList)
 | .sliceA _ x lo hi=>x::(lo.toList++hi.toList)
 | .faddr _ x=>[x]
 | .field _ _ _ x=>[x]
 | .iaddrS _ x i=>[x,i]
 | .iaddrA _ _ x i=>[x,i]
 | .indexS x i=>[x,i]
 | .indexA _ _ _ x i=>[x,i]
 | .extract x _=>[x]
 | .len _ x=>[x]
 | .lenN _ x=>[x]
 | .append _ _ s x=>[s,x]
 | .min x y=>[x,y]
 | .max x y=>[x,y]
 | .cap x=>[x]
 | .clear _ _ x=>[x]
 | .copy _ d x=>[d,x]
 | .appz _ _ _ s n=>[s,n]
 | .bad=>[]
 | .call f as=>f::as
def gj.pure {α : Type}:gj α -> Bool
 | .box _ | .buildSl .. | .load .. | .store .. | .mksl .. | .append .. | .appz .. | .clear .. | .copy .. | .bytesStr .. | .ovl .. | .slice .. | .sliceA .. | .cap .. | .call .. => false
 | _=>true
def gj.pP {α : Type}:gj α -> Bool
 | .load .. | .bytesStr .. | .ovl .. | .slice .. | .cap .. => true
 | _=>false
def aO.Z6:aO->Option Nat
 | .t n=>some n
 | _=>none
def bg.names (o:bg):List Nat:=o.op.args.filterMap aO.Z6++(o.guard.map (·.1)).toList
def jc:List (List Nat)->List Nat->List Nat
 | [],acc=>acc
 | l::r,acc=>jc r (acc++[l.foldl (fun s i=>s ||| 2 ^ i ||| acc.getD i 0) 0])
def wU (n:Nat):List (Nat × Nat):=(List.range n).flatMap fun j=>(List.range j).map fun i=>(i,j)
def zJ (a b:bg):Bool :=
 (match a.dst with | some d=>b.names.contains d||b.dst==some d | none=>false)||(match b.dst with | some d=>a.names.contains d | none=>false)
def AQ (ops:List bg) (nw:List (List Nat)):Bool :=
 let ms:=jc nw []
 nw.length==ops.length &&
 ((List.range ops.length).all fun j=>(nw.getD j []).all fun i=>i<j) &&
 (wU ops.length).all fun p=>match ops[p.1]?,ops[p.2]? with
   | some a,some b => !zJ a b||(ms.getD p.2 0).testBit p.1
   | _,_=>true
def uv (ops:List bg) (nw:List (List Nat)):List (Nat × Nat) :=
 let ms:=jc nw []
 (wU ops.length).filter fun p=>match ops[p.1]?,ops[p.2]? with
   | some a,some b => !a.op.pure && !b.op.pure && !(a.op.pP&&b.op.pP) && !(ms.getD p.2 0).testBit p.1
   | _,_=>false
def u9 (P:Program) (ops:Array Oper) (o:Oper):Option bg :=
 match VX P o.op,o.guard with
 | some op,none=>some { dst:=o.dst,op }
 | some op,some (j,want)=>match (ops[j]?).bind (·.dst) with
   | some d=>some { dst:=o.dst,op,guard:=some (d,want) }
   | none=>none
 | none,_=>none
def ve (o:Oper):List Nat:=(o.after.toList.filter (Region.binds .any)).map (·.on)
def kZ (P:Program) (ops:Array Oper) (draw:Bool):Option bA :=
 match ops.toList.mapM (u9 P ops) with
 | none=>none
 | some vs =>
   if draw then
     let nw:=ops.toList.map ve
     if AQ vs nw&&P.follows .mixedOrders then some (.reg (some (uv vs nw)) vs) else none
   else some (.reg none vs)
def eL (P:Program):Code->Option bA
 | .skip=>some .skip
 | .region _ ops draw=>kZ P ops draw
 | .seq a b=>match eL P a,eL P b with | some a,some b=>some (.seq a b) | _,_=>none
 | .cond c a b=>match cC c,eL P a,eL P b with | some c,some a,some b=>some (.cond c a b) | _,_,_=>none
 | .block id c=>(eL P c).map (.block id)
 | .loop c=>(eL P c).map .loop
 | .exit id=>some (.exit id)
 | .ret=>some .ret
 | _=>none
def PT (P:Program):ResultVar->Option pO
 | .tmp t=>some (.tmp t)
 | .cell a t=>match mc P t,P.info? t with
   | some g,some i=>if g=true∨i.size=1 then some (.cell a g i.size) else none
   | _,_=>none
def Bi (P:Program) (fn:Func):Option aL :=
 if fn.name == "runtime.NumGoroutine" then none else
 match fn.body,fn.results.toList.mapM (PT P) with
 | some c,some rs=>(eL P c).map fun b=>{ nt:=fn.ntmps,results:=rs,body:=b }
 | _,_=>none
structure j5 (G:Nat->Option (List AV)) (own:Nat->Prop) (E:Env) (w:World) (σ : aa) (p:Id) (r:eB) (v:Value) (E':Env) (w':World):Prop where
 yG:Adv own E E' w w'
 inv:Inv G own E' w' (σ.app r.up)
 rep:aD E' w' r.val v
 ids:∀ i:Id, ¬ p <:+ i->E'.μ i=E.μ i
def Sound (P:Program) (G:Nat->Option (List AV)) (own:Nat->Prop) (E:Env) (w:World) (σ : aa) (p:Id) (s:Sem Value) (r:eB):Prop :=
 ∃ v w' E',s.run P w = .ok v w'/\j5 G own E w σ p r v E' w'
section
variable {P:Program} {G:Nat->Option (List AV)} {own:Nat->Prop} {E:Env} {w:World} {σ : aa} {p:Id}
theorem Sound.same {s:Sem Value} {c:AV} {v:Value} {rd:List Id} (h:Inv G own E w σ) (hr:s.run P w = .ok v w) (hv:aD E w c v):Sound P G own E w σ p s { val:=c,rd:=rd } :=
 ⟨v,w,E,hr,Adv.refl own E w,h,hv,fun _ _=>rfl⟩
theorem Sound.fD {s:Sem Value} {oc:Option AV} {r:eB} (h:bo oc=some r) (k:∀ c,oc=some c->Sound P G own E w σ p s { val:=c }):Sound P G own E w σ p s r:=by
 cases oc with
 | none=>simp [bo] at h
 | some c=>simp only [bo,Option.map_some,Option.some.injEq] at h;subst h;exact k c rfl
theorem gK {α β : Type} {f : α -> Option β}:∀ {l:List α} {r:List β},l.mapM f=some r->r.length=l.length
 | [],r,h=>by simp at h;simp [<- h]
 | a::l,r,h=>by
   simp only [List.mapM_cons,Option.pure_def,Option.bind_eq_bind,Option.bind_eq_some_iff] at h
   obtain ⟨b,_,r',h2,h3⟩:=h
   simp only [Option.some.injEq] at h3
   subst h3
   simp [gK h2]
theorem mapM_some_get {α β : Type} {f : α -> Option β}:∀ {l:List α} {r:List β},l.mapM f=some r->∀ (i:Nat) (b : β),r[i]? = some b->∃ a,l[i]? = some a/\f a=some b
 | [],r,h,i,b,hb=>by simp at h;subst h;simp at hb
 | a::l,r,h,i,b,hb=>by
   simp only [List.mapM_cons,Option.pure_def,Option.bind_eq_bind,Option.bind_eq_some_iff] at h
   obtain ⟨c,h1,r',h2,h3⟩:=h
   simp only [Option.some.injEq] at h3
   subst h3
   cases i with
   | zero=>simp at hb;subst hb;exact ⟨a,rfl,h1⟩
   | succ i=>simpa using mapM_some_get h2 i b (by simpa using hb)
theorem ND {β : Type} {f : β -> Option AV} {val : β -> Value} (h:∀ x c,f x=some c->aD E w c (val x)) {l:List β} {r:List AV} (hm:l.mapM f=some r):aF E w r (l.map val):=by
 refine bj.2 ⟨by simp [gK hm],fun j c hj => ?_⟩
 obtain ⟨a,h1,h2⟩:=mapM_some_get hm j c hj
 exact ⟨val a,by simp [h1],h a c h2⟩
theorem ia:∀ {n:Nat} {v:Value} {c:AV},jX n v=some c->aD E w c v
 | 0,_,_,h=>by simp [jX] at h
 | n + 1,v,c,h=>by
   have ih:∀ x c,jX n x=some c->aD E w c x:=fun x c h=>ia h
   have hl:∀ {cs:List Value} {r:List AV},cs.mapM (jX n)=some r->aF E w r cs:=by
     intro cs r hm
     simpa using ND (val:=id) ih hm
   unfold jX at h
   split at h
   . simp only [Option.some.injEq] at h;subst h;simp [aD]
   . simp only [Option.some.injEq] at h;subst h;simp [aD]
   . simp only [Option.some.injEq] at h;subst h;simp [aD]
   . simp only [Option.some.injEq] at h;subst h;simp [aD]
   . simp only [Option.some.injEq] at h;subst h;simp [aD]
   . simp only [Option.some.injEq] at h;subst h;simp [aD]
   . rename_i cs
     cases hm:cs.toList.mapM (jX n) with
     | none=>simp [hm] at h
     | some r=>simp only [hm,Option.map_some,Option.some.injEq] at h;subst h;simp only [aD];exact ⟨cs,rfl,hl hm⟩
   . rename_i cs
     cases hm:cs.toList.mapM (jX n) with
     | none=>simp [hm] at h
     | some r=>simp only [hm,Option.map_some,Option.some.injEq] at h;subst h;simp only [aD];exact ⟨cs,rfl,hl hm⟩
   . simp at h
def b9 (E:Env) (w:World) (t:List AV) (a:Act):Prop:=aF E w t a.tmps.toList
theorem b9.get {t:List AV} {a:Act} (h:b9 E w t a) (n:Nat):aD E w (t.getD n (.tup [])) (a.tmps.getD n undef):=by
 obtain ⟨hl,hp⟩:=bj.1 h
 by_cases hn:n<t.length
 . obtain ⟨v,hv,hr⟩:=hp n t[n] (by simp [hn])
   have:a.tmps.getD n undef=v:=by
     rw [Array.getD_eq_getD_getElem?];simp at hv;simp [hv]
   rw [this]
   simpa [List.getD,hn] using hr
 . have h1:t.getD n (.tup []) = .tup []:=by simp [List.getD,Nat.le_of_not_lt hn]
   have h2:a.tmps.getD n undef=undef:=by
     rw [Array.getD_eq_getD_getElem?]
     have:a.tmps.size<=n:=by have:=hl;simp at this;omega
     simp [this]
   rw [h1,h2]
   simp only [aD,undef]
   exact ⟨#[],rfl,by simp [aF]⟩
theorem aP {t:List AV} {a:Act} (hf:b9 E w t a) (hi:Inv G own E w σ) {x:Operand} {va:aO} (h:cC x=some va):aD E w (va.ev G t) (a.eval x):=by
 cases x with
 | tmp n=>simp only [cC,Option.some.injEq] at h;subst h;exact hf.get n
 | const v =>
   simp only [cC] at h
   cases hc:jX 3 v with
   | none=>simp [hc] at h
   | some c=>simp only [hc,Option.map_some,Option.some.injEq] at h;subst h;exact ia hc
 | global g =>
   simp only [cC,Option.some.injEq] at h;subst h
   simp only [aO.ev,Act.eval]
   cases hg:G g with
   | none=>simp [aD]
   | some cs =>
     obtain ⟨h1,h2⟩:=hi.glob g cs hg
     simp only [aD]
     exact ⟨g,0,rfl,h1,aX.keep (Step.Xh E w) rfl cs 0 h2⟩
 | func f =>
   simp only [cC,Option.some.injEq] at h;subst h
   simp only [aO.ev,Act.eval,aD]
   exact ⟨#[], #[],rfl,by simp [aF],by simp [aF]⟩
theorem yH {t:List AV} {a:Act} (hf:b9 E w t a) (hi:Inv G own E w σ) {xs:Array Operand} {vs:List aO} (h:Bh xs=some vs) :
   aF E w (vs.map (aO.ev G t)) (xs.map a.eval).toList:=by
 unfold Bh at h
 refine bj.2 ⟨by simp [gK h],fun j c hj => ?_⟩
 simp only [List.getElem?_map,Option.map_eq_some_iff] at hj
 obtain ⟨va,wJ,rfl⟩:=hj
 obtain ⟨x,h1,h2⟩:=mapM_some_get h j va wJ
 refine ⟨a.eval x, ?_,aP hf hi h2⟩
 simp at h1
 simp [h1]
theorem ru {t:TypeId} {b:Bool} (h:mc P t=some b) (w:World):(isAgg t).run P w = .ok b w:=by
 unfold mc at h
 cases hu:P.underlying t with
 | none=>simp [hu] at h
 | some d=>cases d<;>simp [hu] at h<;>subst h<;>simp [isAgg,run_underlying hu]
theorem eE {t:TypeId} {i:TypeInfo} (h:P.info? t=some i) (w:World):(sizeOf t).run P w = .ok i.size w:=by simp [sizeOf,typeInfo,h]
theorem j6 {t:TypeId} {z:AV} (h:kG P t=some z):∃ i v,P.info? t=some i/\i.zero=some v/\jX 3 v=some z/\z.size=i.size/\z.cells.all AV.one=true:=by
 unfold kG at h
 cases hi:P.info? t with
 | none=>simp [hi] at h
 | some i =>
   simp only [hi] at h
   cases hz:i.zero with
   | none=>simp [hz] at h
   | some v =>
     simp only [hz] at h
     cases hc:jX 3 v with
     | none=>simp [hc] at h
     | some a =>
       simp only [hc] at h
       split at h
       . rename_i hh
         simp only [Option.some.injEq] at h;subst h
         exact ⟨i,v,rfl,hz,hc,hh.1,hh.2⟩
       . simp at h
theorem vg {t:TypeId} {i:TypeInfo} {v:Value} (h:P.info? t=some i) (hz:i.zero=some v) (w:World):(zeroValue t).run P w = .ok v w:=by
 simp [zeroValue,typeInfo,h,hz]
theorem jd {c:AV} (h:c.cells.all AV.one=true):c.one=true∨∃ cs,c = .agg cs:=by
 cases c<;>simp [AV.cells,AV.one] at h ⊢
theorem PV {agg:Bool} {cs:List AV} {o n:Nat} {c:AV} (h:part agg cs o n=some c) {xs:Array Value} (hr:aF E w cs xs.toList) :
   aD E w c (if agg then .agg (xs.extract o (o+n)) else xs.getD o undef)/\o+n<=xs.size/\(agg=false->n=1):=by
 obtain ⟨hl,hp⟩:=bj.1 hr
 unfold part at h
 split at h
 . rename_i hle
   refine ⟨?_,by simp at hl;omega, ?_⟩
   . cases agg with
     | true =>
       simp only [if_true,Option.some.injEq] at h ⊢
       subst h
       simp only [aD]
       refine ⟨_,rfl,bj.2 ⟨by simp at hl ⊢;omega,fun j d hj => ?_⟩⟩
       rw [List.getElem?_take] at hj
       split at hj
       . rename_i JZ
         rw [List.getElem?_drop] at hj
         obtain ⟨v,hv,hvr⟩:=hp _ _ hj
         refine ⟨v, ?_,hvr⟩
         simp at hv
         have:o+j<xs.size:=(Array.getElem?_eq_some_iff.1 hv).1
         simp only [Array.toList_extract,List.extract_eq_take_drop,Nat.add_sub_cancel_left]
         rw [List.getElem?_take_of_lt JZ,List.getElem?_drop]
         simpa using hv
       . simp at hj
     | false =>
       simp only [Bool.false_eq_true,if_false] at h ⊢
       split at h
       . obtain ⟨v,hv,hvr⟩:=hp _ _ h
         rw [Array.getD_eq_getD_getElem?]
         simp at hv
         simpa [hv] using hvr
       . simp at h
   . intro ha;subst ha
     simp only [Bool.false_eq_true,if_false] at h
     split at h
     . assumption
     . simp at h
 . simp at h
def iP:AV->Value
 | .bool b => .bool b
 | .int k n => .int k n
 | .str l => .string ⟨l.toArray⟩
 | _=>undef
def AV.plain:AV->Bool
 | .bool _ | .int _ _ | .str _=>true
 | _=>false
theorem DK {c:AV} (h:c.plain=true):aD E w c (iP c):=by cases c<;>simp [AV.plain] at h<;>simp [aD,iP]
theorem GV {op:BinOp} {k k':IntKind} {a b:Int} {t:TypeId} {c:AV} (hk:op = .shl∨op = .shr∨k=k') (h:qw op k a b=some c) (w:World) :
   (binOp op t (.int k a) (.int k' b)).run P w = .ok (iP c) w/\c.plain=true:=by
 cases op<;>simp only [qw] at h
 case shl=>split at h<;>simp only [Option.some.injEq,reduceCtorEq] at h;subst h;rename_i hb;exact ⟨by simp only [binOp_shl,Op.shift,hb,if_false];rfl,rfl⟩
 case shr=>split at h<;>simp only [Option.some.injEq,reduceCtorEq] at h;subst h;rename_i hb;exact ⟨by simp only [binOp_shr,Op.shift,hb,if_false];rfl,rfl⟩
 all_goals obtain rfl:=(by simpa using hk:k=k')
 case quo=>split at h<;>simp only [Option.some.injEq,reduceCtorEq] at h;subst h;rename_i hb;exact ⟨by simp [binOp_quo,Op.intDiv,hb,iP],rfl⟩
 case rem=>split at h<;>simp only [Option.some.injEq,reduceCtorEq] at h;subst h;rename_i hb;exact ⟨by simp [binOp_rem,Op.intDiv,hb,iP],rfl⟩
 case and=>simp only [bitsOf,Option.map_some,Option.some.injEq] at h;subst h;exact ⟨by simp [binOp_and,Op.intBits,iP],rfl⟩
 case or=>simp only [bitsOf,Option.map_some,Option.some.injEq] at h;subst h;exact ⟨by simp [binOp_or,Op.intBits,iP],rfl⟩
 case xor=>simp only [bitsOf,Option.map_some,Option.some.injEq] at h;subst h;exact ⟨by simp [binOp_xor,Op.intBits,iP],rfl⟩
 case andNot=>simp only [bitsOf,Option.map_some,Option.some.injEq] at h;subst h;exact ⟨by simp [binOp_andNot,Op.intBits,iP],rfl⟩
 all_goals (simp only [Option.some.injEq] at h;subst h;refine ⟨?_,rfl⟩)
 all_goals simp [binOp,Op.intArith,Op.intCmp,iP]
theorem PW {op:BinOp} {a b:List UInt8} {t:TypeId} {c:AV} (h:PO op a b=some c) (w:World) :
   (binOp op t (.string ⟨a.toArray⟩) (.string ⟨b.toArray⟩)).run P w = .ok (iP c) w/\c.plain=true:=by
 cases op<;>simp only [PO,reduceCtorEq] at h
 case add =>
   split at h
   . rename_i hle
     simp only [Option.some.injEq] at h;subst h
     refine ⟨?_,rfl⟩
     have h1 : ¬ (((ByteArray.mk a.toArray).size+(ByteArray.mk b.toArray).size:Nat):Int)>IntKind.i64.max:=by
       simp only [IntKind.max_i64,ByteArray.size,List.size_toArray]
       unfold maxLen at hle;omega
     simp only [binOp,Op.stringOp,h1,if_false,iP,Sem.run_pure]
     congr 2
   . simp at h
 all_goals (simp only [Option.some.injEq] at h;subst h;refine ⟨?_,rfl⟩;simp [binOp,Op.stringOp,iP])
end
section
variable {P:Program} {G:Nat->Option (List AV)} {own:Nat->Prop} {E:Env} {w:World} {σ : aa} {p:Id}
theorem qx {t:TypeId} {sh:Sh} (h:NC P t=some sh) :
   match sh with
   | .int=>∃ k,P.underlying t=some (.int k)
   | .str=>P.underlying t=some .string
   | .bool=>P.underlying t=some .bool
   | .ptr=>∃ e,P.underlying t=some (.pointer e)
   | .slice=>∃ e,P.underlying t=some (.slice e)
   | .func=>∃ a b c,P.underlying t=some (.func a b c):=by
 unfold NC at h
 split at h<;>simp only [Option.some.injEq,reduceCtorEq] at h<;>subst h<;>simp_all
theorem wV (op:BinOp) (t:TypeId) (x y:Operand) (a b:Value) (ha:a ≠ .nilIface) (hb:∀ cs,a ≠ .agg cs) (w:World):(eqGuard op t x y a b).run P w = .ok () w:=by
 unfold eqGuard
 cases op<;>cases a<;>first | rfl | exact absurd rfl ha | exact absurd rfl (hb _)
section
variable {t:TypeId} (d:Nat)
theorem NF (hu:P.underlying t=some .bool) (a b:Bool):(Op.equalIn (d+1) t (.bool a) (.bool b)).run P w = .ok (a==b) w:=by simp [Op.equalIn,run_underlying hu]
theorem NG {e:TypeId} (hu:P.underlying t=some (.pointer e)):(Op.equalIn (d+1) t (.pointer none) (.pointer none)).run P w = .ok true w:=by simp [Op.equalIn,run_underlying hu]
theorem DL {e:TypeId} (hu:P.underlying t=some (.pointer e)) (a:Addr):(Op.equalIn (d+1) t (.pointer none) (.pointer (some a))).run P w = .ok false w:=by simp [Op.equalIn,run_underlying hu]
theorem DM {e:TypeId} (hu:P.underlying t=some (.pointer e)) (a:Addr):(Op.equalIn (d+1) t (.pointer (some a)) (.pointer none)).run P w = .ok false w:=by simp [Op.equalIn,run_underlying hu]
theorem PX {e:TypeId} (hu:P.underlying t=some (.slice e)):(Op.equalIn (d+1) t (.slice none 0 0) (.slice none 0 0)).run P w = .ok true w:=by simp [Op.equalIn,run_underlying hu]
theorem PY {e:TypeId} (hu:P.underlying t=some (.slice e)) (a:Addr) (n m:Nat):(Op.equalIn (d+1) t (.slice none 0 0) (.slice (some a) n m)).run P w = .ok false w:=by simp [Op.equalIn,run_underlying hu]
theorem Bj {e:TypeId} (hu:P.underlying t=some (.slice e)) (a:Addr) (n m:Nat):(Op.equalIn (d+1) t (.slice (some a) n m) (.slice none 0 0)).run P w = .ok false w:=by simp [Op.equalIn,run_underlying hu]
theorem PZ {e f:Array TypeId} {g:Bool} (hu:P.underlying t=some (.func e f g)):(Op.equalIn (d+1) t .nilFunc .nilFunc).run P w = .ok true w:=by simp [Op.equalIn,run_underlying hu]
theorem P0 {e f:Array TypeId} {g:Bool} (hu:P.underlying t=some (.func e f g)) (x:Fn) (y z:Array Value):(Op.equalIn (d+1) t .nilFunc (.func x y z)).run P w = .ok false w:=by simp [Op.equalIn,run_underlying hu]
theorem P1 {e f:Array TypeId} {g:Bool} (hu:P.underlying t=some (.func e f g)) (x:Fn) (y z:Array Value):(Op.equalIn (d+1) t (.func x y z) .nilFunc).run P w = .ok false w:=by simp [Op.equalIn,run_underlying hu]
end
theorem ld {op:BinOp} {t:TypeId} {a b:Value} {r:Bool} {c:AV} (hn:∀ (k:IntKind) n,a ≠ .int k n) (hs:∀ s,a ≠ .string s) (hf:∀ k n,a ≠ .float k n) (Lw:∀ k n m,a ≠ .complex k n m)
   (VY:(Op.equalIn (9999+1) t a b).run P w = .ok r w)
   (hc:(match op with | .eql=>some (AV.bool r) | .neq=>some (AV.bool !r) | _=>none)=some c):(binOp op t a b).run P w = .ok (iP c) w/\c.plain=true:=by
 have he:(Op.equal t a b).run P w = .ok r w:=VY
 clear VY
 cases op<;>simp only [reduceCtorEq] at hc
 all_goals
   simp only [Option.some.injEq] at hc;subst hc;refine ⟨?_,rfl⟩
   cases a<;>first
     | exact absurd rfl (hn _ _)
     | exact absurd rfl (hs _)
     | exact absurd rfl (hf _ _)
     | exact absurd rfl (Lw _ _ _)
     | simp [binOp,he,iP]
theorem P2 {op:BinOp} {t:TypeId} {sh:Sh} (Au:NC P t=some sh) {x y c:AV} {a b:Value} (h:j3 op sh x y=some c) (hx:aD E w x a) (hy:aD E w y b) :
   (binOp op t a b).run P w = .ok (iP c) w/\c.plain=true/\a ≠ .nilIface/\(∀ cs,a ≠ .agg cs):=by
 have hu:=qx Au
 unfold j3 at h
 split at h
 . simp only [aD] at hx hy;subst hx;subst hy
   split at h
   . rename_i hk
     obtain ⟨h1,h2⟩:=GV (t:=t) (P:=P) (by simpa using hk) h w
     exact ⟨h1,h2,by simp,by simp⟩
   . simp at h
 . simp only [aD] at hx hy;subst hx;subst hy
   obtain ⟨h1,h2⟩:=PW (t:=t) (P:=P) h w
   exact ⟨h1,h2,by simp,by simp⟩
 . simp only [aD] at hx hy;subst hx;subst hy
   rename_i a b
   refine and_assoc.1 ⟨?_,by simp,by simp⟩
   exact ld (r:=a==b) (by simp) (by simp) (by simp) (by simp) (NF _ hu _ _) h
 . obtain ⟨e,hu⟩:=hu
   simp only [aD] at hx hy;subst hx;subst hy
   refine and_assoc.1 ⟨?_,by simp,by simp⟩
   exact ld (r:=true) (by simp) (by simp) (by simp) (by simp) (NG _ hu) h
 . obtain ⟨e,hu⟩:=hu
   simp only [aD] at hx hy;subst hy;obtain ⟨_,_,_,_,rfl⟩:=hx
   refine and_assoc.1 ⟨?_,by simp,by simp⟩
   exact ld (r:=false) (by simp) (by simp) (by simp) (by simp) (DM _ hu _) h
 . obtain ⟨e,hu⟩:=hu
   simp only [aD] at hx hy;subst hx;obtain ⟨_,_,_,_,rfl⟩:=hy
   refine and_assoc.1 ⟨?_,by simp,by simp⟩
   exact ld (r:=false) (by simp) (by simp) (by simp) (by simp) (DL _ hu _) h
 . obtain ⟨e,hu⟩:=hu
   simp only [aD] at hx hy;subst hy;obtain ⟨_,_,rfl,_⟩:=hx
   refine and_assoc.1 ⟨?_,by simp,by simp⟩
   exact ld (r:=false) (by simp) (by simp) (by simp) (by simp) (DM _ hu _) h
 . obtain ⟨e,hu⟩:=hu
   simp only [aD] at hx hy;subst hx;obtain ⟨_,_,rfl,_⟩:=hy
   refine and_assoc.1 ⟨?_,by simp,by simp⟩
   exact ld (r:=false) (by simp) (by simp) (by simp) (by simp) (DL _ hu _) h
 . obtain ⟨e,hu⟩:=hu
   simp only [aD] at hx hy;subst hx;subst hy
   refine and_assoc.1 ⟨?_,by simp,by simp⟩
   exact ld (r:=true) (by simp) (by simp) (by simp) (by simp) (PX _ hu) h
 . obtain ⟨e,hu⟩:=hu
   simp only [aD] at hx hy;subst hy;obtain ⟨_,_,_,_,rfl,_⟩:=hx
   refine and_assoc.1 ⟨?_,by simp,by simp⟩
   exact ld (r:=false) (by simp) (by simp) (by simp) (by simp) (Bj _ hu _ _ _) h
 . obtain ⟨e,hu⟩:=hu
   simp only [aD] at hx hy;subst hx;obtain ⟨_,_,_,_,rfl,_⟩:=hy
   refine and_assoc.1 ⟨?_,by simp,by simp⟩
   exact ld (r:=false) (by simp) (by simp) (by simp) (by simp) (PY _ hu _ _ _) h
 . obtain ⟨e,hu⟩:=hu
   simp only [aD] at hx hy;subst hy;obtain ⟨a,cap,rfl,_,_,_,hx⟩:=hx
   simp only [reduceCtorEq,false_or] at hx
   obtain ⟨b,o,rfl,_⟩:=hx
   refine and_assoc.1 ⟨?_,by simp,by simp⟩
   exact ld (r:=false) (by simp) (by simp) (by simp) (by simp) (Bj _ hu _ _ _) h
 . obtain ⟨e,hu⟩:=hu
   simp only [aD] at hx hy;subst hy;obtain ⟨a,rfl,_,_,hx⟩:=hx
   simp only [reduceCtorEq,false_or] at hx
   obtain ⟨b,o,rfl,_⟩:=hx
   refine and_assoc.1 ⟨?_,by simp,by simp⟩
   exact ld (r:=false) (by simp) (by simp) (by simp) (by simp) (Bj _ hu _ _ _) h
 . obtain ⟨e,f,g,hu⟩:=hu
   simp only [aD] at hx hy;subst hx;subst hy
   refine and_assoc.1 ⟨?_,by simp,by simp⟩
   exact ld (r:=true) (by simp) (by simp) (by simp) (by simp) (PZ _ hu) h
 . obtain ⟨e,f,g,hu⟩:=hu
   simp only [aD] at hx hy;subst hy;obtain ⟨_,_,rfl,_⟩:=hx
   refine and_assoc.1 ⟨?_,by simp,by simp⟩
   exact ld (r:=false) (by simp) (by simp) (by simp) (by simp) (P1 _ hu _ _ _) h
 . obtain ⟨e,f,g,hu⟩:=hu
   simp only [aD] at hx hy;subst hx;obtain ⟨_,_,rfl,_⟩:=hy
   refine and_assoc.1 ⟨?_,by simp,by simp⟩
   exact ld (r:=false) (by simp) (by simp) (by simp) (by simp) (P0 _ hu _ _ _) h
 . simp at h
theorem P3 {P:Program} {w:World} {t e:TypeId} {d:Nat} (hu:P.underlying t=some (.slice e)) (a:Option Addr) (n m:Nat):(Op.equalIn (d+1) t (.slice a n m) (.slice none 0 0)).run P w = .ok a.isNone w:=by cases a<;>simp [Op.equalIn,run_underlying hu]
theorem NI {op:BinOp} {t:TypeId} {sh:Sh} (Au:NC P t=some sh) {x y c:AV} {a b:Value} (h:Lu op sh x y=some c) (hx:aD E w x a) (hy:aD E w y b) :
   (∃ r,aD E w c (.bool r)/\(binOp op t a b).run P w = .ok (.bool r) w)/\a ≠ .nilIface/\(∀ cs,a ≠ .agg cs):=by
 have hu:=qx Au
 have key:∀ (a:Option Addr) (n m:Nat) (op:BinOp) (c:AV) (e:TypeId),P.underlying t=some (.slice e)->(match op with | .eql | .neq=>some AV.anyb | _=>none)=some c ->
     ∃ r,aD E w c (.bool r)/\(binOp op t (.slice a n m) (.slice none 0 0)).run P w = .ok (.bool r) w:=by
   intro a n m op c e hu h
   have hq:=fun r=>ld (P:=P) (w:=w) (op:=op) (t:=t) (a := .slice a n m) (b := .slice none 0 0) (r:=a.isNone) (c:=r) (by simp) (by simp) (by simp) (by simp) (P3 hu a n m)
   cases op<;>simp only [reduceCtorEq,Option.some.injEq] at h
   . subst h;exact ⟨_,by simp [aD],(hq (.bool a.isNone) rfl).1⟩
   . subst h;exact ⟨_,by simp [aD],(hq (.bool !a.isNone) rfl).1⟩
 unfold Lu at h
 split at h
 . obtain ⟨e,hu⟩:=hu
   simp only [aD] at hx hy;subst hy;obtain ⟨a,cap,rfl,_⟩:=hx
   exact ⟨key a _ cap op c e hu h,by simp,by simp⟩
 . obtain ⟨e,hu⟩:=hu
   simp only [aD] at hx hy;subst hy;obtain ⟨a,rfl,_⟩:=hx
   exact ⟨key a _ _ op c e hu h,by simp,by simp⟩
 . rename_i a0 n
   simp only [aD] at hx hy
   obtain ⟨m,yI,rfl⟩:=hy
   subst hx
   refine ⟨?_,by simp,by simp⟩
   split at h
   . split at h
     . rename_i hle
       simp only [Option.some.injEq] at h;subst h
       have hv:qw .gtr .i64 a0 (m:Int)=some (.bool (decide (a0>(m:Int)))):=by simp [qw]
       obtain ⟨h1,_⟩:=GV (P:=P) (t:=t) (k := .i64) (k' := .i64) (op := .gtr) (by simp) hv w
       have hd:decide (a0>(m:Int))=false:=by simp;omega
       rw [hd] at h1
       exact ⟨false,by simp [aD],h1⟩
     . simp at h
   . simp at h
 . simp at h
theorem TV {op:UnOp} {x c:AV} {a:Value} (h:ZB op x=some c) (hx:aD E w x a):(Op.unary op a).run P w = .ok (iP c) w/\c.plain=true:=by
 unfold ZB at h
 split at h
 . simp only [aD] at hx;subst hx
   simp only [Option.some.injEq] at h;subst h
   exact ⟨by simp [Op.unary,Op.intArith,iP],rfl⟩
 . simp only [aD] at hx;subst hx
   simp only [bitsOf,Option.map_some,Option.some.injEq] at h;subst h
   exact ⟨by simp [Op.unary,Op.intBits,iP],rfl⟩
 . simp only [aD] at hx;subst hx
   simp only [Option.some.injEq] at h;subst h
   exact ⟨by simp [Op.unary,iP],rfl⟩
 . simp at h
theorem DN (hi:Inv G own E w σ) {t:TypeId} {agg:Bool} {i:TypeInfo} (ha:mc P t=some agg) (Av:P.info? t=some i) {x:AV} {a:Value} (hx:aD E w x a) {r:eB}
   (h:fX σ agg i.size x=some r):(∃ v,(Instr.loadAt t a).run P w = .ok v w/\aD E w r.val v)/\r.up=[]/\∃ ad,a = .pointer (some ad):=by
 have key:∀ (b q o:Nat) (cs:List AV) (c:AV),eh E w b q cs->part agg cs o i.size=some c->(∃ v,(Instr.loadAt t (.pointer (some ⟨b,q+o,none⟩))).run P w = .ok v w/\aD E w c v):=by
   intro b q o cs c hr hp
   unfold part at hp
   split at hp
   . rename_i hle
     cases agg with
     | true =>
       simp only [if_true,Option.some.injEq] at hp;subst hp
       have nT:∀ j,j<i.size->∃ v,w.cell? ⟨b,q+o+j,none⟩=some v/\∃ d,((cs.drop o).take i.size)[j]? = some d/\aD E w d v:=by
         intro j hj
         have hlt:o+j<cs.length:=by omega
         obtain ⟨v,hv,uO⟩:=hr (o+j) cs[o+j] (by simp [hlt])
         refine ⟨v,by rw [<- hv];congr 2;omega,cs[o+j], ?_,uO⟩
         rw [List.getElem?_take_of_lt hj,List.getElem?_drop];simp [hlt]
       let f:Nat->Value:=fun j=>(w.cell? ⟨b,q+o+j,none⟩).getD undef
       have hf:∀ j,j<i.size->w.cell? ((⟨b,q+o,none⟩:Addr).add j)=some (f j):=by
         intro j hj
         obtain ⟨v,hv,_⟩:=nT j hj
         rw [Addr.add_lit];simp [f,hv]
       have hl:=run_loadCells (P:=P) w ⟨b,q+o,none⟩ i.size f hf
       refine ⟨.agg ((List.range i.size).map f).toArray, ?_, ?_⟩
       . simp [Instr.loadAt,Instr.sureAddr,loadVar,ru ha,eE Av,hl]
       . simp only [aD]
         refine ⟨_,rfl,bj.2 ⟨by simp;omega,fun j d hj => ?_⟩⟩
         have l9:j<i.size:=by
           have:=(List.getElem?_eq_some_iff.1 hj).1
           simp at this;omega
         obtain ⟨v,hv,d',PC,J0⟩:=nT j l9
         have:d=d':=by rw [hj] at PC;simpa using PC
         subst this
         refine ⟨v, ?_,J0⟩
         simp [l9,f,hv]
     | false =>
       simp only [Bool.false_eq_true,if_false] at hp
       split at hp
       . rename_i h1
         obtain ⟨v,hv,uO⟩:=hr o c hp
         refine ⟨v, ?_,uO⟩
         simp [Instr.loadAt,Instr.sureAddr,loadVar,ru ha,hv]
       . simp at hp
   . simp at hp
 unfold fX at h
 split at h
 . rename_i id e o
   split at h
   . rename_i bk hσ
     split at h
     . rename_i el pM
       cases hp:part agg el.cells o i.size with
       | none=>simp [hp] at h
       | some c =>
         simp only [hp,Option.map_some,Option.some.injEq] at h;subst h
         obtain ⟨g,N,cur,ty,hB⟩:=hi.blk id bk hσ
         simp only [aD] at hx
         obtain ⟨g',k',N',hm,rfl⟩:=hx
         rw [hB.μ] at hm
         simp only [Option.some.injEq,Prod.mk.injEq] at hm
         obtain ⟨rfl,rfl,rfl⟩:=hm
         have:=Bd hB.k hB.row pM
         rw [Nat.zero_add] at this
         exact ⟨key _ _ _ _ _ this hp,rfl,_,rfl⟩
     . simp at h
   . simp at h
 . rename_i cs o
   cases hp:part agg cs o i.size with
   | none=>simp [hp] at h
   | some c =>
     simp only [hp,Option.map_some,Option.some.injEq] at h;subst h
     simp only [aD] at hx
     obtain ⟨b,q,rfl,_,hr⟩:=hx
     exact ⟨key _ _ _ _ _ (dP.1 hr) hp,rfl,_,rfl⟩
 . simp at h
theorem GX (hi:Inv G own E w σ) {t:TypeId} {agg:Bool} {i:TypeInfo} (ha:mc P t=some agg) (Av:P.info? t=some i) {x:AV} {a:Value} (hx:aD E w x a) {r:eB}
   (h:fX σ agg i.size x=some r):Sound P G own E w σ p (Instr.loadAt t a) r:=by
 obtain ⟨⟨v,h1,h2⟩,h3,_⟩:=DN hi ha Av hx h
 exact ⟨v,w,E,h1,Adv.refl own E w,by rw [h3];exact hi,h2,fun _ _=>rfl⟩
theorem Dc {c:AV} (h:c.cells.all AV.one=true):∀ x∈c.cells,x.one=true:=by simpa using h
theorem Fp (hi:Inv G own E w σ) {t:TypeId} {i:TypeInfo} (Av:P.info? t=some i) {x y:AV} {a b:Value} (hx:aD E w x a) (hy:aD E w y b) {r:eB}
   (h:eO σ i.size x y=some r):∃ w',(Instr.storeAt t a b).run P w = .ok () w'/\j5 G own E w σ p r undef E w':=by
 unfold eO at h
 split at h
 . rename_i id e o
   split at h
   . rename_i bk hσ
     split at h
     . rename_i el pM
       split at h
       . rename_i hh
         obtain ⟨Bf,hlen,hle,tk⟩:=hh
         simp only [Option.some.injEq] at h;subst h
         obtain ⟨g,N,cur,ty,hB⟩:=hi.blk id bk hσ
         simp only [aD] at hx
         obtain ⟨g',k',N',hm,rfl⟩:=hx
         rw [hB.μ] at hm
         simp only [Option.some.injEq,Prod.mk.injEq] at hm
         obtain ⟨rfl,rfl,rfl⟩:=hm
         have VZ:=Dc tk
         have TW:=aD.cells hy (jd tk)
         have o7:b.cells.size=i.size:=by have:=aF.len TW;simp at this;omega
         obtain ⟨hb,dS,hinv⟩:=PN hi hσ Bf hB pM (o:=o) (new:=y.cells) (vs:=b.cells.toList) (by omega) VZ TW
         refine ⟨_, ?_,dS,hinv, ?_,fun _ _=>rfl⟩
         . have h1:∀ v∈b.cells.toList,v.oneCell'=true:=by
             intro v hv
             obtain ⟨j,hj⟩:=List.mem_iff_getElem?.1 hv
             obtain ⟨sD,Z7⟩:=bj.1 TW
             have l9:j<y.cells.length:=by have:=(List.getElem?_eq_some_iff.1 hj).1;omega
             obtain ⟨u,hu,hru⟩:=Z7 j y.cells[j] (by simp [l9])
             have:u=v:=by rw [hj] at hu;simpa using hu.symm
             subst this
             exact aD.one hru (VZ _ (by simp))
           have hst:=run_storeCells_at P g (e*bk.k+o) ty b.cells.toList 0 cur w hB.heap (by simpa using hb) h1
           simp only [Nat.add_zero] at hst
           simp [Instr.storeAt,Instr.sureAddr,storeVar,eE Av,o7,hst]
         . simp only [aD,undef];exact ⟨#[],rfl,by simp [aF]⟩
       . simp at h
     . simp at h
   . simp at h
 . simp at h
theorem Inv.sub {G:Nat->Option (List AV)} {own:Nat->Prop} {E:Env} {w:World} {σ σ':aa} (h:Inv G own E w σ) (hs:∀ id, σ' id=none ∨ σ' id = σ id):Inv G own E w σ' where
 okb:=h.okb
 blk:=fun id bk hb=>by
   rcases hs id with h1 | h1
   . simp [h1] at hb
   . exact h.blk id bk (h1▸hb)
 inj := fun i j x y hi hj hne h1 h2=>by
   refine h.inj i j x y ?_ ?_ hne h1 h2
   . rcases hs i with h | h
     . exact absurd h hi
     . rw [<- h];exact hi
   . rcases hs j with h | h
     . exact absurd h hj
     . rw [<- h];exact hj
 glob:=h.glob
 new:=h.new
theorem uw (hi:Inv G own E w σ) (hμ : E.μ p=none) (hσ : σ p=none) {els:List AV} {k N:Nat} {vs:List Value} (ty:TypeId)
   (hk:∀ e∈els,e.size=k) (hv:Da E w (flat els) vs) (hl:vs.length=N*k) (hN:els.length<=N) (hm:N<=maxLen) {c:AV} {v:Value}
   (hc:aD (E.bind p w.heap.size k N) (w.alloc (.cells vs.toArray ty)) c v) {rd:List Id} :
   j5 G own E w σ p { val:=c,rd:=rd,up:=[(p,some ⟨els,k,false⟩)] } v (E.bind p w.heap.size k N) (w.alloc (.cells vs.toArray ty)):=by
 obtain ⟨h1,h2⟩:=PL hi hμ hσ ty hk hv hl hN hm
 exact ⟨h1,h2,hc,fun i hne=>Env.iv _ _ _ _ _ (fun e=>hne (by rw [e];exact List.suffix_refl _))⟩
theorem DO (hi:Inv G own E w σ) (hμ : E.μ p=none) (hσ : σ p=none) {x:AV} {a:Value} (hx:aD E w x a) (tk:x.cells.all AV.one=true) (t:TypeId) :
   Sound P G own E w σ p (do pure (.pointer (some (<- newVar t a)))) { val := .ref p 0 0,up:=[(p,some ⟨[x],x.size,false⟩)] }:=by
 have TW:=aD.cells hx (jd tk)
 obtain ⟨hl,hp⟩:=bj.1 TW
 refine ⟨.pointer (some ⟨w.heap.size,0,none⟩),w.alloc (.cells a.cells t),E.bind p w.heap.size x.size 1,by simp [newVar,newRow], ?_⟩
 have:=uw (p:=p) (rd:=[]) hi hμ hσ (els:=[x]) (k:=x.size) (N:=1) (vs:=a.cells.toList) t (by simp) (by simpa [flat] using hp) (by simpa [AV.size] using hl) (by simp) (by unfold maxLen;omega)
   (c := .ref p 0 0) (v := .pointer (some ⟨w.heap.size,0,none⟩)) (by simp only [aD];exact ⟨w.heap.size,x.size,1,Env.iO _ _ _ _ _,by simp⟩)
 simpa using this
end
section
variable {P:Program} {G:Nat->Option (List AV)} {own:Nat->Prop} {E:Env} {w:World} {σ : aa} {p:Id}
theorem zK (off:Nat):∀ (l:List Value) (s:Nat) (cs:Array Value),off+s+l.length<=cs.size ->
   ((l.zipIdx s).foldl (fun cs x=>cs.setIfInBounds (off+x.2) x.1) cs).toList=cs.toList.take (off+s)++l++cs.toList.drop (off+s+l.length)
 | [],s,cs,_=>by simp
 | v::l,s,cs,h=>by
   simp only [List.length_cons] at h
   simp only [List.zipIdx_cons,List.foldl_cons]
   rw [zK off l (s+1) _ (by simp;omega)]
   simp only [Array.toList_setIfInBounds,List.length_cons]
   have h1:off+s<cs.toList.length:=by simp;omega
   rw [show off+(s+1)=off+s+1 from by omega]
   rw [List.take_succ_eq_append_getElem (by simpa using h1)]
   simp only [List.getElem_set_self,List.append_assoc,List.singleton_append]
   rw [List.take_set_of_le (by omega),List.drop_set_of_lt (by omega)]
   rw [show off+s+1+l.length=off+s+(l.length+1) from by omega]
theorem P4 {cells:Array Value} {off:Nat} {v:Value} (h:off+v.cells.size<=cells.size) :
   (v.cells.zipIdx.foldl (fun cs (c,j)=>cs.setIfInBounds (off+j) c) cells).toList=cells.toList.take off++v.cells.toList++cells.toList.drop (off+v.cells.size):=by
 rw [<- Array.foldl_toList,Array.toList_zipIdx]
 have:=zK off v.cells.toList 0 cells (by simpa using h)
 simpa using this
theorem aF.append {xs ys:List AV} {us vs:List Value} (h1:aF E w xs us) (h2:aF E w ys vs):aF E w (xs++ys) (us++vs):=by
 obtain ⟨a,b⟩:=bj.1 h1
 obtain ⟨c,d⟩:=bj.1 h2
 exact bj.2 ⟨by simp [a,c],Da.append b a d⟩
theorem aF.take {xs:List AV} {us:List Value} (h:aF E w xs us) (n:Nat):aF E w (xs.take n) (us.take n):=by
 obtain ⟨a,b⟩:=bj.1 h
 refine bj.2 ⟨by simp [a],fun j c hj => ?_⟩
 rw [List.getElem?_take] at hj
 split at hj
 . rename_i hlt;rw [List.getElem?_take_of_lt hlt];exact b j c hj
 . simp at hj
theorem aF.drop {xs:List AV} {us:List Value} (h:aF E w xs us) (n:Nat):aF E w (xs.drop n) (us.drop n):=by
 obtain ⟨a,b⟩:=bj.1 h
 refine bj.2 ⟨by simp [a],fun j c hj => ?_⟩
 rw [List.getElem?_drop] at hj ⊢
 exact b _ c hj
def mJ (E:Env) (w:World) (place:Nat->Option (Nat × Nat)):List (Nat × Nat × AV)->List (Nat × Value)->Prop
 | [],ps=>ps=[]
 | (o,n,x)::r,ps=>∃ i v rest,ps=(i,v)::rest/\place i=some (o,n)/\aD E w x v/\mJ E w place r rest
theorem yJ {place:Nat->Option (Nat × Nat)}:∀ {vps:List (Nat × Nat × AV)} {ps:List (Nat × Value)} {cs fA:List AV} {cells:Array Value},mJ E w place vps ps->aF E w cs cells.toList ->
   sA cs vps=some fA->∃ Fq:Array Value,Instr.fill place cells ps=some Fq/\aF E w fA Fq.toList
 | [],ps,cs,fA,cells,hp,hc,h=>by
   simp only [mJ] at hp;subst hp
   simp only [sA,Option.some.injEq] at h;subst h
   exact ⟨cells,rfl,hc⟩
 | (o, n,x)::r,ps,cs,fA,cells,hp,hc,h=>by
   simp only [mJ] at hp
   obtain ⟨i,v,rest,rfl,Lx,hx,hr⟩:=hp
   simp only [sA] at h
   split at h
   . rename_i hh
     obtain ⟨h1,h2,h3⟩:=hh
     have hxc:=aD.cells hx (jd h3)
     have o7:v.cells.size=n:=by have:=aF.len hxc;simp at this;omega
     have o8:cells.size=cs.length:=by have:=aF.len hc;simpa using this
     have J1:o+v.cells.size<=cells.size:=by omega
     have qv:aF E w (cs.take o++x.cells++cs.drop (o+n)) (v.cells.zipIdx.foldl (fun cs (c,j)=>cs.setIfInBounds (o+j) c) cells).toList:=by
       rw [P4 J1,o7]
       exact aF.append (aF.append (aF.take hc o) hxc) (aF.drop hc (o+n))
     obtain ⟨Fq,hf,yK⟩:=yJ hr qv h
     refine ⟨Fq, ?_,yK⟩
     simp only [Instr.fill,Lx]
     rw [if_neg (by simp [o7];omega)]
     exact hf
   . simp at h
theorem mB {t:List AV} {a:Act} (hf:b9 E w t a) (hi:Inv G own E w σ) {place:Nat->Option (Nat × Nat)} {f:Nat × aO->Option (Nat × Nat × aO)}
   (hfp:∀ q r,f q=some r->r.2.2=q.2/\place q.1=some (r.1,r.2.1)) :
   ∀ {ps:List (Nat × Operand)} {qs:List (Nat × aO)} {rs:List (Nat × Nat × aO)},ps.mapM (fun p=>(cC p.2).map (p.1, ·))=some qs->qs.mapM f=some rs ->
   mJ E w place (rs.map fun p=>(p.1,p.2.1,p.2.2.ev G t)) (ps.map fun p=>(p.1,a.eval p.2))
 | [],qs,rs,h1,h2=>by
   simp at h1;subst h1;simp at h2;subst h2;simp [mJ]
 | (i,x)::ps,qs,rs,h1,h2=>by
   simp only [List.mapM_cons,Option.pure_def,Option.bind_eq_bind,Option.bind_eq_some_iff] at h1
   obtain ⟨q,hq,qs',hqs,he⟩:=h1
   simp only [Option.some.injEq] at he;subst he
   simp only [List.mapM_cons,Option.pure_def,Option.bind_eq_bind,Option.bind_eq_some_iff] at h2
   obtain ⟨r,hr,rs',J2,he⟩:=h2
   simp only [Option.some.injEq] at he;subst he
   cases hx:cC x with
   | none=>simp [hx] at hq
   | some va =>
     simp only [hx,Option.map_some,Option.some.injEq] at hq;subst hq
     obtain ⟨e1,e2⟩:=hfp _ _ hr
     simp only [List.map_cons,mJ]
     refine ⟨i,a.eval x,_,rfl,e2, ?_,mB hf hi hfp hqs J2⟩
     rw [e1];exact aP hf hi hx
theorem GY (hi:Inv G own E w σ) {t:List AV} {a:Act} (hf:b9 E w t a) {ty:TypeId} {ps:Array (Nat × Operand)} {vo:gj aO} (hc:lB P (.build ty ps)=some vo) {r:eB}
   (h:bu σ p (vo.map (aO.ev G t))=some r):Sound P G own E w σ p (Instr.build ty (ps.map fun (i,x)=>(i,a.eval x))) r:=by
 simp only [lB] at hc
 cases hu:P.underlying ty with
 | none=>simp [hu] at hc
 | some d =>
 cases hz:kG P ty with
 | none=>cases d<;>simp [hu,hz] at hc
 | some z =>
 cases JL:ps.toList.mapM (fun p=>(cC p.2).map (p.1, ·)) with
 | none=>cases d<;>simp [hu,hz,JL] at hc
 | some qs =>
 obtain ⟨it,zv,hit,JM,NJ,Ly,Lz⟩:=j6 hz
 have Z8:aD E w z zv:=ia NJ
 have V0:=aD.cells Z8 (jd Lz)
 have fin:∀ {place:Nat->Option (Nat × Nat)} {vps:List (Nat × Nat × AV)} {cs:List AV},mJ E w place vps (ps.map fun (i,x)=>(i,a.eval x)).toList->sA z.cells vps=some cs ->
     (∀ cells,Instr.fill place zv.cells (ps.map fun (i,x)=>(i,a.eval x)).toList=some cells->P.built ty (ps.map fun (i,x)=>(i,a.eval x)).toList=some cells) ->
     Sound P G own E w σ p (Instr.build ty (ps.map fun (i,x)=>(i,a.eval x))) { val := .agg cs }:=by
   intro place vps cs hp hv hb
   obtain ⟨cells,Bg,hr⟩:=yJ hp V0 hv
   refine Sound.same hi (run_build w ty _ cells (hb cells Bg)) ?_
   simp only [aD];exact ⟨cells,rfl,hr⟩
 cases d with
 | struct fs =>
   simp only [hu,hz,JL] at hc
   cases Lx:fs.toList.mapM (fun f=>(P.info? f.type).map fun i=>(f.offset,i.size)) with
   | none=>simp [Lx] at hc
   | some places =>
     simp only [Lx,Option.map_eq_some_iff] at hc
     obtain ⟨rs,J2,rfl⟩:=hc
     simp only [gj.map,bu] at h
     refine Sound.fD h fun c hcs => ?_
     simp only [Option.map_eq_some_iff] at hcs
     obtain ⟨cs,hv,rfl⟩:=hcs
     refine fin (place:=(places.toArray[·]?)) (vps:=rs.map fun p=>(p.1,p.2.1,p.2.2.ev G t)) ?_ hv ?_
     . have:=mB (place:=(places.toArray[·]?)) hf hi (f:=fun (p:Nat × aO)=>(places[p.1]?).map fun q=>(q.1,q.2,p.2)) (by
         intro q r GZ
         simp only [Option.map_eq_some_iff] at GZ
         obtain ⟨b,hb,rfl⟩:=GZ
         exact ⟨rfl,by simpa using hb⟩) JL J2
       simpa using this
     . intro cells Bg
       simp only [Program.built,hit,hu,JM,Lx]
       exact Bg
 | array n e =>
   simp only [hu,hz,JL] at hc
   cases cI:P.info? e with
   | none=>simp [cI] at hc
   | some ie =>
     simp only [cI,Option.some.injEq] at hc
     subst hc
     simp only [gj.map,bu,List.map_map] at h
     refine Sound.fD h fun c hcs => ?_
     simp only [Option.map_eq_some_iff] at hcs
     obtain ⟨cs,hv,rfl⟩:=hcs
     have J2:qs.mapM (fun (q:Nat × aO)=>some (q.1*ie.size,ie.size,q.2))=some (qs.map fun q=>(q.1*ie.size,ie.size,q.2)):=by
       clear hv h JL
       induction qs with
       | nil=>rfl
       | cons q qs ih=>simp [List.mapM_cons,ih]
     have:=mB (place:=fun i=>some (i*ie.size,ie.size)) hf hi (f:=fun (q:Nat × aO)=>some (q.1*ie.size,ie.size,q.2)) (by
         intro q r GZ
         simp only [Option.some.injEq] at GZ
         subst GZ;exact ⟨rfl,rfl⟩) JL J2
     refine fin (place:=fun i=>some (i*ie.size,ie.size)) (vps:=_) (by simpa using this) (by simpa [Function.comp_def] using hv) ?_
     intro cells Bg
     simp only [Program.built,hit,hu,JM,cI]
     exact Bg
 | _=>simp [hu,hz,JL] at hc
theorem vk {z:AV} {zv:Value} {k:Nat} (hz:aF E w z.cells zv.cells.toList) (hk:z.size=k) (J3:0<k) (n N:Nat) (hn:n<=N) :
   Da E w (flat (List.replicate n z)) ((Array.range (N*k)).map (zv.cells[· % zv.cells.size]!)).toList:=by
 obtain ⟨hl,hp⟩:=bj.1 hz
 have Ly:zv.cells.size=k:=by simp at hl;unfold AV.size at hk;omega
 have hsz:∀ e∈List.replicate n z,e.size=k:=by intro e he;rw [List.eq_of_mem_replicate he];exact hk
 intro j c hj
 have hlen:=cB hsz
 have l9:j<n*k:=by have:=(List.getElem?_eq_some_iff.1 hj).1;rw [hlen] at this;simpa using this
 have hi:j/k<n:=(Nat.div_lt_iff_lt_mul J3).2 l9
 have hg:=flat_get (i:=j/k) (e:=z) (j:=j%k) hsz (by simp [hi]) (Nat.mod_lt _ J3)
 rw [Nat.div_add_mod' j k] at hg
 rw [hg] at hj
 obtain ⟨v,hv,hr⟩:=hp _ c hj
 have hjN:j<N*k:=Nat.lt_of_lt_of_le l9 (Nat.mul_le_mul_right _ hn)
 refine ⟨v, ?_,hr⟩
 simp at hv
 simp only [Array.toList_map,Array.toList_range,List.getElem?_map,hjN,List.getElem?_range,Option.map_some,Option.some.injEq,Ly]
 rw [getElem!_def,hv]
theorem vn {k:Nat}:∀ {ps:List (Nat × AV)} {es es':List AV},(∀ e∈es,e.size=k)->jD k es ps=some es' ->
   (∀ e∈es',e.size=k)/\es'.length=es.length/\sA (flat es) (ps.map fun q=>(q.1*k,k,q.2))=some (flat es')
 | [],es,es',hk,h=>by
   simp only [jD,Option.some.injEq] at h;subst h
   exact ⟨hk,rfl,by simp [sA]⟩
 | (i, x)::ps,es,es',hk,h=>by
   simp only [jD] at h
   split at h
   . rename_i hh
     obtain ⟨h1,h2,h3⟩:=hh
     have TX:∀ e∈es.set i x,e.size=k:=by
       intro e he
       rcases List.mem_or_eq_of_mem_set he with he | rfl
       . exact hk e he
       . exact h1
     obtain ⟨r1,r2,r3⟩:=vn TX h
     refine ⟨r1,by simpa using r2, ?_⟩
     have Bg:=Be hk (show es[i]? = some es[i] by simp [h2]) h1
     have hlen:=cB hk
     have hle:(i+1)*k<=es.length*k:=Nat.mul_le_mul_right _ h2
     rw [Nat.add_mul] at hle
     simp only [List.map_cons,sA]
     rw [if_pos ⟨h1,by omega,h3⟩, <- Bg]
     exact r3
   . simp at h
theorem Dd (hi : Inv G own E w σ) (hμ : E.μ p=none) (hσ : σ p=none) {t:List AV} {a:Act} (hf:b9 E w t a) {ty:TypeId} {n:Nat} {ps:Array (Nat × Operand)} {vo:gj aO}
   (hc:lB P (.buildSlice ty n ps)=some vo) {r:eB} (h:bu σ p (vo.map (aO.ev G t))=some r):Sound P G own E w σ p (Instr.buildSlice ty n (ps.map fun (i,x)=>(i,a.eval x))) r:=by
 simp only [lB] at hc
 cases hu:P.underlying ty with
 | none=>simp [hu] at hc
 | some d =>
 cases JL:ps.toList.mapM (fun p=>(cC p.2).map (p.1, ·)) with
 | none=>cases d<;>simp [hu,JL] at hc
 | some qs =>
 cases d with
 | slice e =>
   simp only [hu,JL] at hc
   cases cI:P.info? e with
   | none=>simp [cI] at hc
   | some ie =>
   cases hz:kG P e with
   | none=>simp [cI,hz] at hc
   | some z =>
     simp only [cI,hz] at hc
     split at hc
     . rename_i hh
       obtain ⟨hsm,J3,yI⟩:=hh
       simp only [Option.some.injEq] at hc;subst hc
       obtain ⟨it,zv,hit,JM,NJ,Ly,Lz⟩:=j6 hz
       rw [cI] at hit
       simp only [Option.some.injEq] at hit;subst hit
       simp only [gj.map,bu] at h
       cases DR:jD ie.size (List.replicate n z) (qs.map fun p=>(p.1,p.2.ev G t)) with
       | none=>simp [DR] at h
       | some es =>
         simp only [DR] at h
         split at h
         . have zL:∀ e∈List.replicate n z,e.size=ie.size:=by intro e he;rw [List.eq_of_mem_replicate he];exact Ly
           obtain ⟨r1,r2,r3⟩:=vn zL DR
           have V0:aF E w z.cells zv.cells.toList:=aD.cells (ia NJ) (jd Lz)
           have hlen:=cB zL
           -- the zero cells
           generalize nT:(Array.range (n*ie.size)).map (zv.cells[· % zv.cells.size]!)=Fs at *
           have P5:aF E w (flat (List.replicate n z)) Fs.toList:=by
             refine bj.2 ⟨?_, ?_⟩
             . rw [hlen, <- nT];simp
             . rw [<- nT];exact vk V0 Ly J3 n n (Nat.le_refl _)
           have J2:qs.mapM (fun (q:Nat × aO)=>some (q.1*ie.size,ie.size,q.2))=some (qs.map fun q=>(q.1*ie.size,ie.size,q.2)):=by
             clear DR r3 JL
             induction qs with
             | nil=>rfl
             | cons q qs ih=>simp [List.mapM_cons,ih]
           have ZC:=mB (place:=fun i=>some (i*ie.size,ie.size)) hf hi (f:=fun (q:Nat × aO)=>some (q.1*ie.size,ie.size,q.2)) (by
             intro q r GZ
             simp only [Option.some.injEq] at GZ
             subst GZ;exact ⟨rfl,rfl⟩) JL J2
           simp only [List.map_map,Function.comp_def] at ZC r3
           obtain ⟨cells,Bg,hr⟩:=yJ (cells:=Fs) ZC P5 r3
           obtain ⟨lF,hp1⟩:=bj.1 hr
           have V1:=cB r1
           refine ⟨.slice (some ⟨w.heap.size,0,none⟩) n n,w.alloc (.cells cells e),E.bind p w.heap.size ie.size n, ?_, ?_⟩
           . have Xj:Instr.fill (fun i=>some (i*ie.size,ie.size)) Fs (ps.map fun (i,x)=>(i,a.eval x)).toList=some cells:=by simpa using Bg
             by_cases h0:n*ie.size=0
             . have hce:Fs = #[]:=by rw [<- nT,h0];simp
               rw [hce] at Xj
               have ahN : ¬ (n*ie.size>2 ^ 24):=by omega
               have ry:n=0:=by
                 rcases Nat.mul_eq_zero.1 h0 with h | h
                 . exact h
                 . omega
               subst ry
               have NK:∀ w,(newRow e cells).run P w = .ok ⟨w.heap.size,0,none⟩ (w.alloc (.cells cells e)):=fun _=>rfl
               have adT:Instr.fill (fun i=>some (i*ie.size,ie.size)) ((Array.range 0).map (fun _:Nat=>(default:Value))) (List.map (fun x=>(x.fst,a.eval x.snd)) ps.toList)=some cells:=by
                 have:(Array.range 0).map (fun _:Nat=>(default:Value)) = #[]:=by apply Array.eq_empty_of_size_eq_zero;simp
                 rw [this];simpa using Xj
               simp [Instr.buildSlice,run_underlying hu,eE cI,adT,NK]
             . exact run_buildSlice w ty e n _ cells ie zv hu cI JM (by omega) h0 (by rw [nT];exact Xj)
           . have:=uw (p:=p) (rd:=[]) hi hμ hσ (els:=es) (k:=ie.size) (N:=n) (vs:=cells.toList) e r1 hp1 (by rw [lF,V1,r2];simp) (by rw [r2];simp) yI
               (c := .osl p ie.size 0 n false) (v := .slice (some ⟨w.heap.size,0,none⟩) n n)
               (by simp only [aD];exact ⟨w.heap.size,n,n,Env.iO _ _ _ _ _,by simp,Nat.le_refl _,by omega,yI,by simp⟩)
             split at h
             . rename_i ry
               subst ry
               simp only [Option.some.injEq] at h;subst h
               obtain ⟨h1,h2,h3,h4⟩:=this
               refine ⟨h1,h2.sub fun i => ?_,by simp only [aD];exact ⟨_,rfl,Nat.zero_le _,by simp, .inl trivial⟩,h4⟩
               by_cases e:i=p
               . subst e;left;exact hσ
               . right;simp [aa.app,aa.put,e]
             . simp only [Option.some.injEq] at h;subst h
               simpa using this
         . simp at h
     . simp at hc
 | _=>simp [hu,JL] at hc
end
section
variable {P:Program} {G:Nat->Option (List AV)} {own:Nat->Prop} {E:Env} {w:World} {σ : aa} {p:Id}
theorem J4 (hi:Inv G own E w σ) (hμ : E.μ p=none) (hσ : σ p=none) {t e:TypeId} {i:TypeInfo} {z:AV} (hu:P.underlying t=some (.slice e)) (cI:P.info? e=some i) (hz:kG P e=some z)
   (J3:0<i.size) {l c:AV} {vl vc:Value} (hl:aD E w l vl) (hc:aD E w c vc) {r:eB} (h:j4 p i.size i.bytes z l c=some r):Sound P G own E w σ p (Instr.makeSlice t vl vc) r:=by
 obtain ⟨it,zv,hit,JM,NJ,Ly,Lz⟩:=j6 hz
 rw [cI] at hit
 simp only [Option.some.injEq] at hit;subst hit
 unfold j4 at h
 split at h
 . rename_i kl l kc c
   simp only [aD] at hl hc;subst hl;subst hc
   split at h
   . rename_i hh
     obtain ⟨h0,Ft,hb,hm,hzk,ZD⟩:=hh
     simp only [Option.some.injEq] at h;subst h
     have V0:aF E w z.cells zv.cells.toList:=aD.cells (ia NJ) (jd Lz)
     have LA:c.toNat<=maxLen:=by omega
     have Ty:l.toNat<=c.toNat:=by omega
     have hr:=run_make (P:=P) w t e i zv hu cI JM kl kc l c h0 Ft (by rw [Int.mul_comm];omega) (by unfold maxLen at hm;omega)
     have zL:∀ e∈List.replicate l.toNat z,e.size=i.size:=by intro e he;rw [List.eq_of_mem_replicate he];exact Ly
     refine ⟨_,_,E.bind p w.heap.size i.size c.toNat,hr, ?_⟩
     have hp:=vk V0 Ly J3 l.toNat c.toNat Ty
     have:=uw (p:=p) (rd:=[]) hi hμ hσ (els:=List.replicate l.toNat z) (k:=i.size) (N:=c.toNat) (vs:=(madeCells zv.cells (c.toNat*i.size)).toList) e zL hp (by simp [madeCells]) (by simpa using Ty) LA
       (c := .osl p i.size 0 l.toNat false) (v := .slice (some ⟨w.heap.size,0,none⟩) l.toNat c.toNat)
       (by simp only [aD];exact ⟨w.heap.size,c.toNat,c.toNat,Env.iO _ _ _ _ _,by simp,Ty,by omega,LA,by simp⟩)
     simpa using this
   . simp at h
 . simp at h
theorem gP {d most:Nat} {x:Option AV} {v:Option Value} {n:Nat} (hx:match x,v with | none,none=>True | some a,some b=>aD E w a b | _,_=>False) (h:dT d most x=some n) (y:Nat) (hy:most<=y) (code:BoundsCode) :
   (x=none/\v=none/\n=d)∨(∃ u,v=some u/\x≠none/\n<=most/\(Instr.sliceBound u y code).run P w = .ok n w):=by
 unfold dT at h
 split at h
 . simp only [Option.some.injEq] at h;subst h
   cases v with
   | none=>exact .inl ⟨rfl,rfl,rfl⟩
   | some u=>exact hx.elim
 . rename_i k i
   cases v with
   | none=>exact hx.elim
   | some u =>
     simp only [aD] at hx;subst hx
     split at h
     . rename_i hh
       simp only [Option.some.injEq] at h;subst h
       refine .inr ⟨_,rfl,by simp,by omega, ?_⟩
       have:0<=i/\i<=(y:Int):=by omega
       simp [Instr.sliceBound,asIntOf,this]
     . simp at h
 . simp at h
def kH (E:Env) (w:World) (x:Option AV) (v:Option Value):Prop:=match x,v with | none,none=>True | some a,some b=>aD E w a b | _,_=>False
theorem gQ {isSlice:Bool} {len cap l h m:Nat} {lo hi mx:Option AV} {JN G0 vmx:Option Value} (rz:kH E w lo JN) (wW:kH E w hi G0) (hmx:kH E w mx vmx) (Ft:len<=cap)
   (wK:dT len len hi=some h) (tp:dT 0 h lo=some l) (hm:(mx=none/\m=cap)∨(∃ k,mx=some (.int k (m:Int))/\hi≠none/\h<=m/\m<=cap)) :
   (Instr.sliceBounds isSlice len cap JN G0 vmx).run P w = .ok (l,h,m) w/\l<=h/\h<=len:=by
 have hh:h<=len:=by
   rcases gP (P:=P) wW wK len (Nat.le_refl _) .index with ⟨_,_,e⟩ | ⟨_,_,_,e,_⟩<;>omega
 have hl:l<=h:=by
   rcases gP (P:=P) rz tp h (Nat.le_refl _) .index with ⟨_,_,e⟩ | ⟨_,_,_,e,_⟩<;>omega
 refine ⟨?_,hl,hh⟩
 unfold Instr.sliceBounds
 rcases hm with ⟨rfl,rfl⟩ | ⟨k,rfl,hne,hhm,hmc⟩
 . cases vmx with
   | some _=>exact (hmx:False).elim
   | none =>
     rcases gP (P:=P) wW wK m (Nat.le_trans (Nat.le_refl _) Ft) (if isSlice then .sliceAcap else .sliceAlen) with ⟨_,rfl,rfl⟩ | ⟨u,rfl,_,_,hr⟩
     . rcases gP (P:=P) rz tp h (Nat.le_refl _) .sliceB with ⟨_,rfl,rfl⟩ | ⟨u,rfl,_,_,hr⟩
       . simp
       . simp [hr]
     . rcases gP (P:=P) rz tp h (Nat.le_refl _) .sliceB with ⟨_,rfl,rfl⟩ | ⟨u',rfl,_,_,yK⟩
       . simp [hr]
       . simp [hr,yK]
 . cases vmx with
   | none=>exact (hmx:False).elim
   | some vm =>
     have Z9:vm = .int k (m:Int):=by simpa [kH,aD] using hmx
     subst Z9
     have hbm:∀ code,(Instr.sliceBound (.int k (m:Int)) cap code).run P w = .ok m w:=by
       intro code
       have:(0:Int)<=m/\(m:Int)<=cap:=by omega
       simp [Instr.sliceBound,asIntOf,this]
     rcases gP (P:=P) wW wK len (Nat.le_refl _) .slice3B with ⟨e,_,_⟩ | ⟨u,rfl,_,_,_⟩
     . exact absurd e hne
     . have hr : ∀ code,(Instr.sliceBound u m code).run P w = .ok h w:=by
         intro code
         cases hi with
         | none=>exact (wW:False).elim
         | some x =>
           unfold dT at wK
           split at wK
           . simp_all
           . rename_i k' i heq
             simp only [Option.some.injEq] at heq;subst heq
             have:u = .int k' i:=by simpa [kH,aD] using wW
             subst this
             split at wK
             . simp only [Option.some.injEq] at wK
               have:(0:Int)<=i/\i<=m:=by omega
               simp [Instr.sliceBound,asIntOf,this,wK]
             . simp at wK
           . simp at wK
       rcases gP (P:=P) rz tp h (Nat.le_refl _) .slice3C with ⟨_,rfl,rfl⟩ | ⟨u',rfl,_,_,yK⟩
       . simp [hr,hbm]
       . simp [hr,yK,hbm]
theorem Bk {k:Nat} {es:List AV} (hk:∀ e∈es,e.size=k) {l h:Nat} (hlh:l<=h) (hh:h<=es.length):flat ((es.take h).drop l)=((flat es).drop (l*k)).take ((h-l)*k):=by
 have e1:es=es.take l++((es.take h).drop l++es.drop h):=by
   rw [<- List.drop_append_of_le_length (by simp;omega),List.take_append_drop,List.take_append_drop]
 have h1:(flat (es.take l)).length=l*k:=by rw [cB (fun e he=>hk e (List.mem_of_mem_take he))];simp;rw [Nat.min_eq_left (by omega)]
 have h2:(flat ((es.take h).drop l)).length=(h-l)*k:=by
   rw [cB (fun e he=>hk e (List.mem_of_mem_take (List.mem_of_mem_drop he)))];simp;rw [Nat.min_eq_left (by omega)]
 conv=>rhs;rw [e1]
 rw [ln,ln, <- h1,List.drop_left, <- h2,List.take_left]
theorem nN {b o k:Nat} {es:List AV} (hk:∀ e∈es,e.size=k) (h:eh E w b o (flat es)) {l r:Nat} (hlh:l<=r) (hh:r<=es.length):eh E w b (o+l*k) (flat ((es.take r).drop l)):=by
 rw [Bk hk hlh hh]
 intro j c hj
 rw [List.getElem?_take] at hj
 split at hj
 . rw [List.getElem?_drop] at hj
   have:=h _ c hj
   rwa [<- Nat.add_assoc] at this
 . simp at hj
theorem wX (hi:Inv G own E w σ) {t e:TypeId} {i:TypeInfo} (hu:P.underlying t=some (.slice e)) (cI:P.info? e=some i) {x:AV} {v:Value} (hx:aD E w x v)
   {lo fK mx:Option AV} {JN G0 vmx:Option Value} (rz:kH E w lo JN) (wW:kH E w fK G0) (hmx:kH E w mx vmx) (hmh:mx.isSome->fK.isSome) {c:AV}
   (h:bR i.size x lo fK mx=some c):Sound P G own E w σ p (Instr.sliceAt t v JN G0 vmx) { val:=c }:=by
 have hrun:∀ (a:Option Addr) (len cap l h m:Nat),(Instr.sliceBounds true len cap JN G0 vmx).run P w = .ok (l,h,m) w ->
     (Instr.sliceAt t (.slice a len cap) JN G0 vmx).run P w = .ok (.slice (if m=l then a else a.map (·.add (l*i.size))) (h-l) (m-l)) w:=by
   intro a len cap l h m hb
   simp [Instr.sliceAt,Instr.slice,run_underlying hu,hb,eE cI]
 -- what the bounds are
 have TY:∀ (h:Nat),rq mx h=true->∃ k,mx=some (.int k (h:Int)):=by
   intro h hh
   unfold rq at hh
   split at hh
   . rename_i k m';simp only [beq_iff_eq] at hh;subst hh;exact ⟨k,rfl⟩
   . simp at hh
 have vM:∀ {len l r:Nat},cm len lo fK=some (l,r)->dT len len fK=some r/\dT 0 r lo=some l:=by
   intro len l r hb
   unfold cm at hb
   split at hb
   . simp at hb
   . rename_i h1 e1
     split at hb
     . simp at hb
     . rename_i l1 e2
       simp only [Option.some.injEq,Prod.mk.injEq] at hb
       obtain ⟨rfl,rfl⟩:=hb
       exact ⟨e1,e2⟩
 have hne:∀ k n,mx=some (AV.int k n)->fK≠none:=by
   intro k n e en
   have:=hmh (by simp [e])
   simp [en] at this
 unfold bR at h
 split at h
 . -- nil
   simp only [aD] at hx;subst hx
   split at h
   . rename_i b hb
     split at h
     . rename_i hcnd
       simp only [Option.some.injEq] at h;subst h
       obtain ⟨l,hh⟩:=b
       obtain ⟨wK,tp⟩:=vM hb
       have h00:hh=0:=by
         rcases gP (P:=P) wW wK 0 (Nat.le_refl _) .index with ⟨_,_,e⟩ | ⟨_,_,_,e,_⟩<;>omega
       subst h00
       obtain ⟨sE,Fu,Fv⟩:=gQ (P:=P) (isSlice:=true) (len:=0) (cap:=0) (m:=0) rz wW hmx (Nat.le_refl _) wK tp (by
         rcases hcnd with hn | ht
         . exact .inl ⟨by simpa using hn,rfl⟩
         . obtain ⟨k,hk⟩:=TY 0 ht
           exact .inr ⟨k,hk,hne _ _ hk,Nat.le_refl _,Nat.le_refl _⟩)
       have De:l=0:=by omega
       subst De
       exact Sound.same hi (hrun none 0 0 0 0 0 sE) (by simp [aD])
     . simp at h
   . simp at h
 . -- sl
   rename_i k' es
   simp only [aD] at hx
   obtain ⟨a,cap,rfl,hlen,LA,hk,pQ⟩:=hx
   split at h
   . rename_i l' hh hb
     obtain ⟨wK,tp⟩:=vM hb
     . -- the case
       . -- its ways
         split at h
         . rename_i Fw
           subst Fw
           have yL:∀ m,l'<=hh->hh<=es.length->hh<=m ->
               ((es.take hh).drop l'=[]∨∃ b o,(if m=l' then a else a.map (·.add (l'*i.size)))=some ⟨b,o,none⟩/\E.ok b/\bd E w b o ((es.take hh).drop l')):=by
             intro m h1 h2 h3
             by_cases he:l'=hh
             . left;subst he;simp
             . rcases pQ with rfl | ⟨b,o,rfl,hb,hr⟩
               . left;simp
               . right
                 refine ⟨b,o+l'*i.size,by rw [if_neg (by omega)];simp [Addr.add_lit],hb, ?_⟩
                 rw [eN] at hr ⊢
                 exact nN hk hr h1 h2
           have DJ:∀ e∈(es.take hh).drop l',e.size=i.size:=fun e he=>hk e (List.mem_of_mem_take (List.mem_of_mem_drop he))
           split at h
           . rename_i hn
             simp only [Option.some.injEq] at h;subst h
             obtain ⟨sE,Fu,Fv⟩:=gQ (P:=P) (isSlice:=true) (m:=cap) rz wW hmx hlen wK tp (.inl ⟨by simpa using hn,rfl⟩)
             refine Sound.same hi (hrun a es.length cap l' hh cap sE) ?_
             simp only [aD]
             exact ⟨_,cap-l',by simp;omega,by simp;omega,by omega,DJ,yL cap Fu Fv (by omega)⟩
           . split at h
             . rename_i ht
               simp only [Option.some.injEq] at h;subst h
               obtain ⟨kk,Fw⟩:=TY hh ht
               have hhl:hh<=es.length:=by
                 rcases gP (P:=P) wW wK es.length (Nat.le_refl _) .index with ⟨_,_,e⟩ | ⟨_,_,_,e,_⟩<;>omega
               obtain ⟨sE,Fu,Fv⟩:=gQ (P:=P) (isSlice:=true) (m:=hh) rz wW hmx hlen wK tp (.inr ⟨kk,Fw,hne _ _ Fw,Nat.le_refl _,by omega⟩)
               refine Sound.same hi (hrun a es.length cap l' hh hh sE) ?_
               simp only [aD]
               exact ⟨_,by simp;omega,by simp;omega,DJ,yL hh Fu Fv (Nat.le_refl _)⟩
             . simp at h
         . simp at h
   . simp at h
 . -- tsl
   rename_i k' es
   simp only [aD] at hx
   obtain ⟨a,rfl,LA,hk,pQ⟩:=hx
   split at h
   . rename_i l' hh hb
     obtain ⟨wK,tp⟩:=vM hb
     . -- the case
       . -- its ways
         split at h
         . rename_i Fw
           obtain ⟨rfl,hmt⟩:=Fw
           have yL:∀ m,l'<=hh->hh<=es.length->hh<=m ->
               ((es.take hh).drop l'=[]∨∃ b o,(if m=l' then a else a.map (·.add (l'*i.size)))=some ⟨b,o,none⟩/\E.ok b/\bd E w b o ((es.take hh).drop l')):=by
             intro m h1 h2 h3
             by_cases he:l'=hh
             . left;subst he;simp
             . rcases pQ with rfl | ⟨b,o,rfl,hb,hr⟩
               . left;simp
               . right
                 refine ⟨b,o+l'*i.size,by rw [if_neg (by omega)];simp [Addr.add_lit],hb, ?_⟩
                 rw [eN] at hr ⊢
                 exact nN hk hr h1 h2
           have DJ:∀ e∈(es.take hh).drop l',e.size=i.size:=fun e he=>hk e (List.mem_of_mem_take (List.mem_of_mem_drop he))
           have hhl:hh<=es.length:=by
             rcases gP (P:=P) wW wK es.length (Nat.le_refl _) .index with ⟨_,_,e⟩ | ⟨_,_,_,e,_⟩<;>omega
           split at h
           . rename_i Tz
             simp only [Option.some.injEq] at h;subst h
             rcases hmt with hn | ht
             . have hhe:hh=es.length:=by
                 rcases Tz with h1 | h1
                 . cases mx<;>simp at hn h1
                 . exact h1
               obtain ⟨sE,Fu,Fv⟩:=gQ (P:=P) (isSlice:=true) (m:=es.length) rz wW hmx (Nat.le_refl _) wK tp (.inl ⟨by simpa using hn,rfl⟩)
               refine Sound.same hi (hrun a es.length es.length l' hh es.length sE) ?_
               simp only [aD]
               exact ⟨_,by simp;omega,by simp;omega,DJ,yL es.length Fu Fv Fv⟩
             . obtain ⟨kk,Fw⟩:=TY hh ht
               obtain ⟨sE,Fu,Fv⟩:=gQ (P:=P) (isSlice:=true) (m:=hh) rz wW hmx (Nat.le_refl _) wK tp (.inr ⟨kk,Fw,hne _ _ Fw,Nat.le_refl _,hhl⟩)
               refine Sound.same hi (hrun a es.length es.length l' hh hh sE) ?_
               simp only [aD]
               exact ⟨_,by simp;omega,by simp;omega,DJ,yL hh Fu Fv (Nat.le_refl _)⟩
           . rename_i Tz
             simp only [Option.some.injEq] at h;subst h
             have hn:mx=none:=by
               cases mx with
               | none=>rfl
               | some _=>simp at Tz
             obtain ⟨sE,Fu,Fv⟩:=gQ (P:=P) (isSlice:=true) (m:=es.length) rz wW hmx (Nat.le_refl _) wK tp (.inl ⟨hn,rfl⟩)
             refine Sound.same hi (hrun a es.length es.length l' hh es.length sE) ?_
             simp only [aD]
             exact ⟨_,es.length-l',by simp;omega,by simp;omega,by omega,DJ,yL es.length Fu Fv Fv⟩
         . simp at h
   . simp at h
 . -- a slice of a block of the store
   rename_i id k' off len tt
   simp only [aD] at hx
   obtain ⟨g,N,cap,hm,rfl,Ft,P6,ZE,J5⟩:=hx
   split at h
   . rename_i l' hh hb
     obtain ⟨wK,tp⟩:=vM hb
     . -- the case
       . -- its ways
         split at h
         . rename_i Fw
           subst Fw
           split at h
           . rename_i hn
             obtain ⟨sE,Fu,Fv⟩:=gQ (P:=P) (isSlice:=true) (m:=cap) rz wW hmx Ft wK tp (.inl ⟨by simpa using hn,rfl⟩)
             have hr:=hrun (some ⟨g,off*i.size,none⟩) len cap l' hh cap sE
             split at h
             . rename_i hth
               split at h
               . rename_i De
                 subst De
                 simp only [Option.some.injEq] at h;subst h
                 refine Sound.same hi hr ?_
                 simp only [aD]
                 refine ⟨g,N,cap,hm, ?_,by omega,P6,ZE, ?_⟩
                 . by_cases P5:cap=0<;>simp [P5,Addr.add_lit]
                 . cases tt with
                   | true =>
                     simp at hth J5 ⊢
                     omega
                   | false=>simpa using J5
               . rename_i De
                 split at h
                 . rename_i hlh
                   subst hlh
                   simp only [Option.some.injEq] at h;subst h
                   refine Sound.same hi hr ?_
                   simp only [aD]
                   refine ⟨_,cap-l',by simp;rfl,by simp,by omega,by simp, .inl trivial⟩
                 . simp only [Option.some.injEq] at h;subst h
                   refine Sound.same hi hr ?_
                   simp only [aD]
                   refine ⟨g,N,cap-l',hm, ?_,by omega,by omega,ZE, ?_⟩
                   . rw [if_neg (by omega)];simp [Addr.add_lit,Nat.add_mul]
                   . cases tt with
                     | true=>simp at hth J5 ⊢;omega
                     | false=>simp at J5 ⊢;omega
             . simp at h
           . split at h
             . rename_i ht
               obtain ⟨ht1,De⟩:=ht
               subst De
               simp only [Option.some.injEq] at h;subst h
               obtain ⟨kk,Fw⟩:=TY hh ht1
               have hhl:hh<=len:=by
                 rcases gP (P:=P) wW wK len (Nat.le_refl _) .index with ⟨_,_,e⟩ | ⟨_,_,_,e,_⟩<;>omega
               obtain ⟨sE,Fu,Fv⟩:=gQ (P:=P) (isSlice:=true) (m:=hh) rz wW hmx Ft wK tp (.inr ⟨kk,Fw,hne _ _ Fw,Nat.le_refl _,by omega⟩)
               have hr:=hrun (some ⟨g,off*i.size,none⟩) len cap 0 hh hh sE
               refine Sound.same hi hr ?_
               simp only [aD]
               refine ⟨g,N,hh,hm, ?_,Nat.le_refl _,by omega,ZE,by simp⟩
               by_cases P5:hh=0<;>simp [P5,Addr.add_lit]
             . simp at h
         . simp at h
   . simp at h
 . simp at h
end
end Go.VL
