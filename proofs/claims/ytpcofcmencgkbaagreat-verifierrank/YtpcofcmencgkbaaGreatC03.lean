/- For the claim of VerifierRank: parts VL17, VL18, VL19, VL20, VL22, VL24, VL25, VL26, VLA, VL27, VL28, VL29, VL38, VL39, VL40, GI, GR, GU, ZHas, CLex, CB, WN, CI1, CI2, CI3, CI4, CI5, CI6, CI7, CI8, CI9, CI10. -/
import Derived.Test.YtpcofcmencgkbaaGreatC02
import Derived.LoopN
import Derived.KernelRfl
import Derived.Test.YtpcofcmencgkbaaGreatProg
import Derived.Laws.Bits64
set_option linter.defProp false
set_option linter.unusedSimpArgs false
set_option linter.unusedVariables false
set_option maxRecDepth 100000
open Array renaming replicate->vE,toList_append->YT,toList_replicate->YU
open BitVec renaming ofInt->jb,ofInt_natCast->x5,toNat_ofNat->Jv,toNat_or->Y2
open Bool renaming and_eq_true->hJ
open Go.Ending renaming returned->OZ
open Go.IntKind renaming i64->cF,u32->gD,u64->de,wrap_i64->cM,wrap_u64->iu
open Go.Proofs.Tryz renaming prog->ab
open Go.aF.aa renaming one->oe
open Go.aF.gN renaming refl->O0
open Go.aF.av renaming keep->ux
open Go.aF.eE renaming keep->Bg
open Go.aF.aL renaming app->l6,put->wa,nj->vZ,vn->Bf
open Int renaming fdiv_eq_ediv_of_nonneg->x4,natCast_mul->uf,natCast_pow->Ef,toNat_natCast->ue
open List renaming all_eq_true->eO,cons_append->sC,drop_eq_getElem_cons->YY,drop_take->ES,flatMap_cons->YX,getD_eq_getElem?_getD->dJ,getElem?_eq_getElem->du,getElem?_eq_some_iff->eu,getElem?_map->iI,getElem?_of_mem->YZ,getElem?_replicate->YV,getLast?_cons_cons->Y0,length->uc,length_cons->e6,length_eq_zero_iff->O1,length_take->cZ,lookup_cons->kc,lookup_eq_none_iff->YW,mapM_cons->uk,map_cons->hQ,map_take->Ed,mem_append_left->nB,mem_append_right->qY,mem_cons->cr,mem_cons_of_mem->c5,mem_cons_self->cS,mem_map->bn,mem_of_getElem?->qW,mem_singleton->bJ,nodup_cons->iF,replicate->bG,size_toArray->qZ
open List.cons renaming injEq->O2
open Nat renaming add_mul_div_left->mR,add_mul_mod_self_left->sD,beq->qX,div_eq_of_lt->iX,div_lt_iff_lt_mul->l1,div_lt_self->Ju,le_add_right->ud,le_of_ble_eq_true->Ee,le_refl->a4,le_trans->bs,lt_of_le_of_lt->gB,lt_of_lt_of_le->fv,mod_add_div->pd,mod_eq_of_lt->dG,mod_lt->bC,mul_add->dC,mul_assoc->eZ,mul_comm->dF,mul_le_mul->lH,mul_le_mul_left->fw,or_lt_two_pow->Y1,pos_of_ne_zero->kX,pow_add->gC,pow_succ->ej,strongRecOn->xY,two_pow_add_eq_or_of_lt->AK,two_pow_pos->pe,zero_add->c4
open Option renaming bind_eq_some_iff->yf,map_eq_some_iff->ew,map_some->e5,ne_none_iff_exists'->Jt,pure_def->ye
open Option.some renaming injEq->a7
open Prod.mk renaming injEq->cY
open Go.aF Go.Proofs
namespace Go.aF
section
variable {P:Program} {G:Nat->Option (List aa)} {own:Nat->Prop} {E:Env} {w:World} {σ : aL}
def b8 (c:aa):Prop:=∀ E w v,av E w c v->av E.bare w c v
def b8.bool (b:Bool):b8 (.bool b) := λ _ _ _ h=>by simpa [av] using h
def b8.int (k:IntKind) (n:Int):b8 (.int k n) := λ _ _ _ h=>by simpa [av] using h
def b8.str (l:List UInt8):b8 (.str l) := λ _ _ _ h=>by simpa [av] using h
def b8.jj:b8 .jj := λ _ _ _ h=>by simpa [av] using h
def b8.j2:b8 .j2 := λ _ _ _ h=>by simpa [av] using h
def b8.aq:b8 .aq := λ _ _ _ h=>by simpa [av] using h
def b8.nk {cs:List aa} (h:∀ c∈cs,b8 c):∀ {vs:List Value},bl E w cs vs->bl E.bare w cs vs:=by
 induction cs with
 | nil=>intro vs a;simpa [bl] using a
 | cons c cs b =>
   intro vs a
   simp only [bl] at a ⊢
   have ⟨v,rest,e,h1,f⟩:=a
   exact ⟨v,rest,e,h c (by simp) _ _ _ h1,b (λ x d=>h x (by simp [d])) f⟩
def b8.z0 {cs:List aa} (h:∀ c∈cs,b8 c) {b o:Nat} (f:ey E w b o cs):ey E.bare w b o cs :=
 λ j c d=>let ⟨v,e,a⟩:=f j c d;⟨v,e,h c (qW d) _ _ _ a⟩
def b8.agg {cs:List aa} (h:∀ c∈cs,b8 c):b8 (.agg cs) := λ E w v a=>by
 simp only [av] at a ⊢;have ⟨xs,e,a⟩:=a;exact ⟨xs,e,b8.nk h a⟩
def b8.aS {cs:List aa} (h:∀ c∈cs,b8 c):b8 (.aS cs) := λ E w v a=>by
 simp only [av] at a ⊢;have ⟨xs,e,a⟩:=a;exact ⟨xs,e,b8.nk h a⟩
def b8.fn {f:Fn} {a c:List aa} (h:∀ x∈a,b8 x) (g:∀ x∈c,b8 x):b8 (.fn f a c) := λ E w v b=>by
 simp only [av] at b ⊢;have ⟨xs,ys,e,h1,d⟩:=b;exact ⟨xs,ys,e,b8.nk h h1,b8.nk g d⟩
def b8.sl {k:Nat} {es:List aa} (h:∀ c∈flat es,b8 c):b8 (.sl k es) := λ E w v d=>by
 simp only [av] at d ⊢
 have ⟨a,cap,e,h1,f,i,g⟩:=d
 exact ⟨a,cap,e,h1,f,i,g.imp id λ ⟨b,o,j,hb,d⟩=>⟨b,o,j,hb,n9.2 (b8.z0 h (n9.1 d))⟩⟩
def b8.dQ {k:Nat} {es:List aa} (h:∀ c∈flat es,b8 c):b8 (.dQ k es) := λ E w v d=>by
 simp only [av] at d ⊢
 have ⟨a,e,f,i,g⟩:=d
 exact ⟨a,e,f,i,g.imp id λ ⟨b,o,j,hb,d⟩=>⟨b,o,j,hb,n9.2 (b8.z0 h (n9.1 d))⟩⟩
def b8.c2 {cs:List aa} {o:Nat} (h:∀ c∈cs,b8 c):b8 (.c2 cs o) := λ E w v a=>by
 simp only [av] at a ⊢
 have ⟨b,q,e,hb,a⟩:=a
 exact ⟨b,q,e,hb,qI.2 (b8.z0 h (qI.1 a))⟩
def sS (c:aa):Prop:=∀ E w E' w' v,av E w c v->av E' w' c v
def sS.int (k:IntKind) (n:Int):sS (.int k n) := λ _ _ _ _ _ h=>by simpa [av] using h
def sS.str (l:List UInt8):sS (.str l) := λ _ _ _ _ _ h=>by simpa [av] using h
def Env.jf (E:Env) (σ : aL):Env:=⟨λ _=>none, λ b=>E.ok b \/ ∃ id au k N, σ id=some au/\E.μ id=some (b,k,N)⟩
def View (σ : aL) (c d:aa):Prop:=∀ G own E w v,Inv G own E w σ -> av E w c v->av (E.jf σ) w d v
def c9 (σ : aL) (cs ds:List aa):Prop:=cs.length=ds.length/\∀ (j:Nat) (c d:aa),cs[j]? = some c->ds[j]? = some d->View σ c d
def e7.jf (E:Env) (σ : aL) (w:World):e7 E.bare (E.jf σ) w w:=⟨λ _ _ h=>by simp [Env.bare] at h, λ _ h => .inl h, λ _ _=>rfl⟩
def View.pure {c:aa} (h:b8 c):View σ c c := λ _ _ E w v _ a=>ux (e7.jf E σ w) c v (h E w v a)
def c9.pure {cs:List aa} (h:∀ c∈cs,b8 c):c9 σ cs cs :=
 ⟨rfl, λ j c d a hd=>by rw [a] at hd;cases hd;exact View.pure (h c (qW a))⟩
def c9.nil:c9 σ [] []:=⟨rfl,by simp⟩
def c9.cons {c d:aa} {cs ds:List aa} (h:View σ c d) (e:c9 σ cs ds):c9 σ (c::cs) (d::ds) :=
 ⟨by simp [e.1], λ j x y a b=>by
   cases j with
   | zero=>simp at a b;subst a;subst b;exact h
   | succ j=>exact e.2 j x y (by simpa using a) (by simpa using b)⟩
def c9.nk {cs ds:List aa} (h:c9 σ cs ds) (f:Inv G own E w σ) {vs:List Value} (i:bl E w cs vs):bl (E.jf σ) w ds vs:=by
 have ⟨g,c⟩:=fe.1 i
 refine fe.2 ⟨by rw [g,h.1], λ j d hd => ?_⟩
 have b:j<cs.length:=by rw [h.1];exact (eu.1 hd).1
 have ⟨v,e,a⟩:=c j cs[j] (by simp [b])
 exact ⟨v,e,h.2 j _ d (by simp [b]) hd G own E w v f a⟩
def c9.z0 {cs ds:List aa} (h:c9 σ cs ds) (g:Inv G own E w σ) {b o:Nat} (e:ey E w b o cs):ey (E.jf σ) w b o ds:=by
 intro j d hd
 have c:j<cs.length:=by rw [h.1];exact (eu.1 hd).1
 have ⟨v,f,a⟩:=e j cs[j] (by simp [c])
 exact ⟨v,f,h.2 j _ d (by simp [c]) hd G own E w v g a⟩
def View.agg {cs ds:List aa} (h:c9 σ cs ds):View σ (.agg cs) (.agg ds) := λ G own E w v b a=>by
 simp only [av] at a ⊢;have ⟨xs,e,a⟩:=a;exact ⟨xs,e,h.nk b a⟩
def View.aS {cs ds:List aa} (h:c9 σ cs ds):View σ (.aS cs) (.aS ds) := λ G own E w v b a=>by
 simp only [av] at a ⊢;have ⟨xs,e,a⟩:=a;exact ⟨xs,e,h.nk b a⟩
def View.aq (k:Nat):View σ .aq (.sl k []) := λ G own E w v b a=>by
 simp only [av] at a ⊢;exact ⟨none,0,a,a4 _,Nat.zero_le _,by simp, .inl trivial⟩
def View.DD (k:Nat):View σ (.dQ k []) (.sl k []) := λ G own E w v c b=>by
 simp only [av] at b ⊢
 have ⟨a,e,_⟩:=b
 exact ⟨a,0,e,a4 _,Nat.zero_le _,by simp, .inl trivial⟩
def View.ai {id:Id} {au:aN} {k off len:Nat} {t:Bool} {ds:List aa} (m : σ id=some au) (q:au.k=k) (c:off+len<=au.els.length)
   (h:c9 σ (flat ((au.els.drop off).take len)) (flat ds)) (n:ds.length=len) (b:∀ d∈ds,d.size=k):View σ (.ai id k off len t) (.sl k ds) := λ G own E w v j i=>by
 have ⟨g,N,o,ty,a⟩:=j.blk id au m
 simp only [av] at i ⊢
 have ⟨x,s,cap,f,e,h1,y,u,_⟩:=i
 rw [a.μ] at f
 simp only [a7,cY] at f
 have ⟨rfl,_,rfl⟩:=f
 refine ⟨_,cap,by rw [n];exact e,by rw [n];exact h1,by omega,b, .inr ⟨g,off*k,rfl, .inr ⟨id,au,au.k,N,m,a.μ⟩, ?_⟩⟩
 refine n9.2 (h.z0 j ?_)
 have:=z1 (l:=off) (r:=off+len) a.k a.row (by omega) c
 rw [c4,q] at this
 have p:(au.els.take (off+len)).drop off=(au.els.drop off).take len:=by rw [ES];congr 1;omega
 rwa [p] at this
def ag (P:Program) (G:Nat->Option (List aa)) (f:FuncId) (args:List aa) (r:aa):Prop :=
 (∃ fn,P.funcs[f]? = some fn/\(fn.name == "runtime.NumGoroutine")=false/\fn.body.isSome=true) /\
 ∀ w vs ok,Inv G (λ k=>w.heap.size<=k) ⟨λ _=>none,ok⟩ w (λ _=>none)->bl ⟨λ _=>none,ok⟩ w args vs ->
   Calls P f vs.toArray w λ e w'=>∃ v a,e = .returned v/\Adv (λ k=>w.heap.size<=k) ⟨λ _=>none,ok⟩ ⟨λ _=>none,a⟩ w w'/\(∀ b,a b->b<w'.heap.size)/\av ⟨λ _=>none,a⟩ w' r v
def cu.UB {f:FuncId} {args:List aa} {r:aa} (h:ag P G f args r) (u:∀ c∈args,b8 c) (p:Id):cu P G f args p [] { val:=r }:=by
 refine ⟨h.1, λ own E w σ vs _ m A K => ?_⟩
 have s:Inv G (λ k=>w.heap.size<=k) ⟨λ _=>none,E.ok⟩ w (λ _=>none):=⟨m.hh, λ id au h=>by simp at h, λ i j x y h=>absurd rfl h,m.jH, λ k q=>q⟩
 refine (h.2 w vs E.ok s (b8.nk u A)).mono λ e w' C => ?_
 obtain ⟨v,d,rfl,a,n,H⟩:=C
 have l:Adv own E ⟨E.μ,d⟩ w w' :=
   ⟨⟨λ _ _ h=>h,a.step.ok,a.step.same⟩,a.os,a.tape,a.output,a.size, λ k q _=>a.block k q (by omega), λ b hb=>(a.qG b hb).imp id λ h=>m.new b h⟩
 refine ⟨v,⟨E.μ,d⟩,rfl,l, ?_, ?_, λ _ _=>rfl⟩
 refine m.keep l rfl n λ id au g N F t => ?_
 have ⟨J,I,D,ty,o⟩:=m.blk id au F
 rw [o.μ] at t
 simp only [a7,cY] at t
 have ⟨rfl,_,rfl⟩:=t
 have z:=lN o.heap
 exact ⟨a.block _ z (by omega), λ B hb=>(a.qG _ hb).elim (o.no B) (λ h=>by omega)⟩
 exact ux (⟨λ _ _ h=>by simp at h, λ _ h=>h, λ _ _=>rfl⟩:e7 ⟨λ _=>none,d⟩ ⟨E.μ,d⟩ w' w') r v H
def pR (s:dt):oA->Option aa
 | .tmp t=>some (s.t.getD t (.aS []))
 | .cell x a n=>(kV s.σ a n (s.t.getD x (.aS []))).map (·.val)
def r3 (a:List oA) (s:dt):Option aa :=
 match a.mapM (pR s) with
 | some [v]=>some v
 | some vs=>some (.aS vs)
 | none=>none
def T2 {α β : Type} {f : α -> Sem β}:∀ (l:List α) (vs:List β),vs.length=l.length->(∀ (i:Nat) (a : α) (v : β),l[i]? = some a->vs[i]? = some v->(f a).run P w = .ok v w)->(l.mapM f).run P w = .ok vs w
 | [],vs,b,_=>by
   have:vs=[]:=List.eq_nil_of_length_eq_zero b
   subst this;rfl
 | a::l,[],b,_=>by simp at b
 | a::l,v::vs,b,h=>by
   have c:=h 0 a v rfl rfl
   have d:=T2 l vs (by simpa using b) (λ i x y e g=>h (i+1) x y (by simpa using e) (by simpa using g))
   simp [uk,c,d]
def alS {π : Id} {s:dt} {a:Act} (j:py G π own E w s a) {k:ResultVar} {n:oA} (b:BA P k=some n) {c:aa} (h:pR s n=some c) :
   ∃ v,(match k with | .tmp t=>(pure (a.tmps.getD t undef):Sem Value) | .cell x t=>do loadVar t (<- asAddr (a.tmps.getD x undef))).run P w = .ok v w/\av E w c v:=by
 cases k with
 | tmp t =>
   simp only [BA,a7] at b;subst b
   simp only [pR,a7] at h;subst h
   exact ⟨_,rfl,j.frame.get t⟩
 | cell x t =>
   simp only [BA] at b
   cases f:oR P t with
   | none=>simp [f] at b
   | some g =>
   cases e:P.info? t with
   | none=>simp [f,e] at b
   | some i =>
     simp only [f,e] at b
     split at b
     cases b
     simp only [pR,ew] at h
     obtain ⟨r,p,rfl⟩:=h
     obtain ⟨⟨v,h1,o⟩,_,u,l⟩:=X0 j.inv f e (j.frame.get x) p
     refine ⟨v, ?_,o⟩
     simp only []
     rw [l] at h1 ⊢
     simpa [Instr.loadAt,Instr.sureAddr,asAddr] using h1
     simp at b
def VO {π : Id} {s:dt} {a:Act} (M:py G π own E w s a) {fn:Func} {H:List oA} (A:fn.results.toList.mapM (BA P)=some H) {c:aa} (h:r3 H s=some c) :
   ∃ v,(results fn a.tmps).run P w = .ok v w/\av E w c v:=by
 unfold r3 at h
 cases o:H.mapM (pR s) with
 | none=>simp [o] at h
 | some cs =>
   have r:cs.length=fn.results.toList.length:=by rw [vh o,vh A]
   let F:ResultVar->Sem Value := λ m=>match m with | .tmp t=>(pure (a.tmps.getD t undef):Sem Value) | .cell x t=>do loadVar t (<- asAddr (a.tmps.getD x undef))
   have u:∀ j,j<cs.length->∃ v,(∀ m,fn.results.toList[j]? = some m->(F m).run P w = .ok v w)/\∀ c,cs[j]? = some c->av E w c v:=by
     intro j l
     have ⟨L,h1,S⟩:=mapM_some_get o j cs[j] (by simp [l])
     have ⟨m,N,Q⟩:=mapM_some_get A j L h1
     have ⟨v,K,J⟩:=alS M Q S
     refine ⟨v, λ O k => ?_, λ c A => ?_⟩
     rw [N] at k;cases k;exact K
     simp only [l,du,a7] at A;subst A;exact J
   let val:Nat->Value := λ j=>if l:j<cs.length then Classical.choose (u j l) else undef
   have p:∀ j (l:j<cs.length),(∀ m,fn.results.toList[j]? = some m->(F m).run P w = .ok (val j) w)/\∀ c,cs[j]? = some c->av E w c (val j):=by
     intro j l
     simp only [val,l,dif_pos]
     exact Classical.choose_spec (u j l)
   let vs:List Value:=(List.range cs.length).map val
   have n:vs.length=cs.length:=by simp [vs]
   have y:(fn.results.toList.mapM F).run P w = .ok vs w:=by
     refine T2 _ vs (by rw [n,r]) λ i m v k C => ?_
     have I:i<cs.length:=by have:=(eu.1 C).1;omega
     have:v=val i:=by simp [vs,I] at C;exact C.symm
     subst this
     exact (p i I).1 m k
   have f:bl E w cs vs:=fe.2 ⟨n, λ j c l=>by
     have B:=(eu.1 l).1
     exact ⟨val j,by simp [vs,B],(p j B).2 c l⟩⟩
   have z:(results fn a.tmps).run P w=(pure (if h:vs.toArray.size=1 then vs.toArray[0] else .tuple vs.toArray):Sem Value).run P w:=by
     unfold results
     rw [Array.mapM_eq_mapM_toList]
     simp only [Sem.run_bind,Sem.run_map]
     exact congrArg (λ x:Result (List Value)=>(x.andThen λ b w'=>Result.ok b.toArray w').andThen λ b w'=>Sem.run P (pure (if h:b.size=1 then b[0] else Value.tuple b)) w') y
   rw [z]
   refine ⟨_,rfl, ?_⟩
   simp only [o] at h
   split at h
   rename_i U g
   simp only [a7] at g h
   subst h
   have q:vs.toArray.size=1:=by simp [n,g]
   rw [dif_pos q]
   rw [g] at f
   simp only [bl] at f
   obtain ⟨v,rest,C,h1,rfl⟩:=f
   simpa [C] using h1
   rename_i R D g
   simp only [a7] at g h
   subst h;subst g
   have q : ¬ vs.toArray.size=1:=by
     intro e
     simp [n] at e
     have ⟨x,T⟩:=List.length_eq_one_iff.1 e
     exact D x (by rw [T])
   rw [dif_neg q]
   simp only [av]
   exact ⟨_,rfl,by simpa using f⟩
   simp at *
def ag.MT {f:FuncId} {fn:Func} {aH:dS} (J:P.funcs[f]? = some fn) (l:wE P fn=some aH) {args:List aa} {r:aa}
   (h:bu P G [] aH.body (λ e s'=>(e = .normal \/ e = .ret)/\∃ eA,r3 aH.results s'=some eA/\View s'.σ eA r) ⟨args++bG (aH.aK-args.length) (.aS []), λ _=>none,0⟩):ag P G f args r:=by
 unfold wE at l
 split at l
 simp at l
 rename_i o
 split at l
 rename_i c R hb F
 simp only [ew] at l
 obtain ⟨p2,B,rfl⟩:=l
 refine ⟨⟨fn,J,by simpa using o,by simp [hb]⟩, λ w vs ok M I => ?_⟩
 refine calls_of_wp J hb ?_
 have A:vs.length=args.length:=bl.len I
 have K:py G [] (λ k=>w.heap.size<=k) ⟨λ _=>none,ok⟩ w ⟨args++bG (fn.ntmps-args.length) (.aS []), λ _=>none,0⟩
     { tmps:=vs.toArray++vE (fn.ntmps-vs.toArray.size) undef,defers:=[] }:=by
   refine ⟨?_,M, λ _ _ _=>rfl,rfl⟩
   show bl _ w _ _
   simp only [YT,YU,qZ,A]
   refine bl.append I (fe.2 ⟨by simp, λ j c z => ?_⟩)
   have C:j<fn.ntmps-args.length:=by have:=(eu.1 z).1;simpa using this
   simp only [YV,C,if_true,a7] at z ⊢
   subst z
   exact ⟨undef,rfl,by simp only [av,undef];exact ⟨#[],rfl,by simp [bl]⟩⟩
 refine h c B _ _ w _ _ K ?_
 intro e s' E' w' a' Q a i
 obtain ⟨O,eA,u,n⟩:=Q
 obtain ⟨v,y,x⟩:=VO i F u
 have q:∃ v,(results fn a'.tmps).run P w' = .ok v w'/\∃ v' m,OZ v = .returned v'/\Adv (λ k=>w.heap.size<=k) ⟨λ _=>none,ok⟩ ⟨λ _=>none,m⟩ w w'/\(∀ b,m b->b<w'.heap.size)/\av ⟨λ _=>none,m⟩ w' r v':=by
   refine ⟨v,y,v,(E'.jf s'.σ).ok,rfl, ?_, ?_, ?_⟩
   refine ⟨⟨λ _ _ h=>by simp at h, λ b hb => .inl (a.step.ok b hb),a.step.same⟩,a.os,a.tape,a.output,a.size,a.block, ?_⟩
   rintro b (hb | ⟨id,au,k,N,D,d⟩)
   exact a.qG b hb
   obtain ⟨g,L,t,ty,p⟩:=i.inv.blk id au D
   rw [p.μ] at d
   simp only [a7,cY] at d
   right;rw [<- d.1];exact p.own
   rintro b (hb | ⟨id,au,k,N,D,d⟩)
   exact i.inv.hh b hb
   obtain ⟨g,L,t,ty,p⟩:=i.inv.blk id au D
   rw [p.μ] at d
   simp only [a7,cY] at d
   rw [<- d.1];exact lN p.heap
   exact n G _ E' w' v i.inv x
 rcases O with rfl | rfl
 exact ⟨i.defers,q⟩
 exact ⟨i.defers,q⟩
 simp at l
end
section
variable {P:Program} {G:Nat->Option (List aa)} {π : Id} {Q:cw->dt->Prop} {s:dt}
def gF:List aa->List aa->Prop
 | [],[]=>True
 | c::cs,d::ds=>(d = .top \/ d=c)/\gF cs ds
 | _,_=>False
def gF.rep {E:Env} {w:World}:∀ {cs ds:List aa} {vs:List Value},gF cs ds->bl E w cs vs->bl E w ds vs
 | [],[],_,_,h=>h
 | c::cs,d::ds,vs,a,h=>by
   simp only [gF] at a
   simp only [bl] at h ⊢
   have ⟨v,rest,e,h1,b⟩:=h
   refine ⟨v,rest,e, ?_,gF.rep a.2 b⟩
   rcases a.1 with rfl | rfl
   simp [av]
   exact h1
 | [],_::_,_,h,_=>by simp [gF] at h
 | _::_,[],_,h,_=>by simp [gF] at h
def bz.forget {t c:List aa} {σ b:aL} {n d:Nat} (f:gF t c) (e:∀ id,b id=none \/ b id = σ id) (g:n<=d):bz G π ⟨t, σ,n⟩ ⟨c,b,d⟩ :=
 λ own E w _ a=>⟨E,O0 own π E w,f.rep a.frame,a.inv.sub e,a.free.mono g,a.defers⟩
def bz.slots {t b:List aa} {σ : aL} {n a:Nat} (c:gF t b) (d:n<=a):bz G π ⟨t, σ,n⟩ ⟨b, σ,a⟩:=bz.forget c (λ _ => .inr rfl) d
def Fc (P:Program) (G:Nat->Option (List aa)) (π : Id) (x:cB) (Q:cw->dt->Prop):Nat->dt->Prop
 | 0,_=>False
 | n+1,s=>bu P G π x (Then (Fc P G π x Q n) Q) s
def bu.rounds {x:cB} (n:Nat) (h:Fc P G π x Q n s):bu P G π (.loop x) Q s:=by
 intro c g own E w a R q t
 cases c<;>simp only [gv,a7,reduceCtorEq] at g
 case loop o =>
   cases h1:gv P o with
   | none=>simp [h1] at g
   | some p2 =>
     simp only [h1,e5,a7,cB.loop.injEq] at g
     subst g
     refine wp_loop_rounds n ?_
     have key:∀ n s j f i,Fc P G π p2 Q n s->gN own π E j w f->py G π own j f s i->Code.rounds P o R n i f:=by
       intro n
       induction n with
       | zero=>intro s j f i h _ _;exact h.elim
       | succ n y =>
         intro s j f i h p q
         refine h o h1 own j f i _ q ?_
         intro e s' E' w' a' m b d
         cases e with
         | normal=>exact y s' E' w' a' m (p.trans b) d
         | exit id=>exact t (.exit id) s' E' w' a' m (p.trans b) d
         | ret=>exact t .ret s' E' w' a' m (p.trans b) d
     exact key n s E w a h (O0 own π E w) q
 case region=>exfalso;revert g;unfold pD;(repeat' split)<;>simp
 all_goals (exfalso;revert g;(repeat' split)<;>simp)
def dK.GV {α : Type}:dK α -> Bool
 | .call _ _=>true
 | _=>false
def aro (G:Nat->Option (List aa)) (σ : aL) (p:Id) (d:Option Nat) (op:dK dD) (g:Option (Nat × Bool)) (t:List aa):Option (List aa × bM × aL) :=
 match od t g with
 | none=>none
 | some false=>some (h6 t d (.aS []),{ val := .aS [] }, σ)
 | some true=>match bS σ p (op.map (dD.ev G t)) with
   | some r=>some (h6 t d r.val,r, σ.app r.up)
   | none=>none
end
section
variable (P:Program) (G:Nat->Option (List aa)) (π : Id)
def vs (a:Nat) (Q:cw->dt->Prop) (n:Nat) (os:List c8) (i:Nat) (t:List aa) (σ : aL):Prop :=
 qS P G π a (λ t σ => Q .normal ⟨t, σ,n⟩) os i t σ
def DN (a:Nat) (Q:cw->dt->Prop) (n:Nat) (d:List (Nat × Nat)) (os:List c8) (i:Nat) (b:List bM) (t:List aa) (σ : aL):Prop :=
 p5 P G π a (λ c t σ => Bt c d/\Q .normal ⟨t, σ,n⟩) os i b t σ
variable {P} {G} {π}
variable {base:Nat} {Q:cw->dt->Prop} {n:Nat} {ps:List (Nat × Nat)} {d:Option Nat} {g:Option (Nat × Bool)} {os:List c8} {i:Nat} {acc:List bM} {t:List aa} {σ : aL}
def Jb {σ : aL} {p:Id} {op:dK aa} {K:bM->Prop} (h:op.GV=false):tX P G σ p op K=(match bS σ p op with | some r=>K r | none=>False):=by
 cases op<;>first | rfl | simp [dK.GV] at h
def P3 (a:List oA) (r:aa) (e:cw) (s:dt):Prop:=(e = .normal \/ e = .ret)/\∃ eA,r3 a s=some eA/\View s.σ eA r
def PX {α : Type} (G:Nat->Option (List aa)) (π : Id) (st : α -> dt) (b : α -> Prop) (m : α -> Nat) (a : α) (Q:cw->dt->Prop):cw->dt->Prop
 | .normal,s'=>∃ a',b a'/\m a'<m a/\bz G π s' (st a')
 | .exit i,s'=>Q (.exit i) s'
 | .ret,s'=>Q .ret s'
def ag.of {f:FuncId} {fn:Func} {aH:dS} (b:P.funcs[f]? = some fn) (a:wE P fn=some aH) {args:List aa} {r:aa}
   (h:qT P G [] aH.body (P3 aH.results r) ⟨args++bG (aH.aK-args.length) (.aS []), λ _=>none,0⟩):ag P G f args r :=
 ag.MT b a (bu.of h)
def aL.of (S:List (Id × aN)):aL := λ i=>S.lookup i
def qy {S:List (Id × aN)} {i:Id} {b:aN}:S.lookup i=some b->(i,b)∈S:=by
 induction S with
 | nil=>intro h;simp at h
 | cons x S a =>
   intro h
   have ⟨j,c⟩:=x
   simp only [kc] at h
   split at h
   rename_i d
   have:i=j:=by simpa using d
   subst this
   cases h;simp
   exact c5 _ (a h)
def aL.xi {S:List (Id × aN)} {σ : aL} (h:∀ x∈S, σ x.1=some x.2) (i:Id):aL.of S i=none \/ aL.of S i = σ i:=by
 cases a:S.lookup i with
 | none=>exact .inl a
 | some b=>right;show S.lookup i = σ i;rw [a];exact (h _ (qy a)).symm
def aL.aaE (up:List (Id × Option aN)) (σ c:aL) (i:Id) (h:(∃ x∈up,x.1=i) \/ σ i=c i) : σ.app up i=c.app up i:=by
 induction up generalizing σ c with
 | nil =>
   rcases h with ⟨x,f,_⟩ | h
   simp at f
   exact h
 | cons x up g =>
   have ⟨j,b⟩:=x
   simp only [l6]
   apply g
   by_cases d:i=j
   right;subst d;simp [wa]
   rcases h with ⟨y,a,e⟩ | h
   simp only [cr] at a
   rcases a with rfl | a
   exact absurd e.symm d
   exact .inl ⟨y,a,e⟩
   right;simp [wa,d,h]
def aL.Fq (up:List (Id × Option aN)) (σ : aL) (i:Id) (h:∀ x∈up,x.1≠i) : σ.app up i = σ i:=by
 induction up generalizing σ with
 | nil=>rfl
 | cons x up a =>
   have ⟨j,b⟩:=x
   simp only [l6]
   rw [a _ λ y c=>h y (c5 _ c),vZ]
   exact λ e=>h (j,b) (by simp) e.symm
end
section
variable {P:Program} {G:Nat->Option (List aa)}
def Fin (G:Nat->Option (List aa)) (p:Id) (S:List (Id × aN)) (a:aL) (eA:aa) (r:bM):Prop :=
 ∀ own E w v,Inv G own E w a->av E w eA v->E.μ p=none->∃ E',gN own p E E' w w/\Inv G own E' w ((aL.of S).app r.up)/\av E' w r.val v
def aai (G:Nat->Option (List aa)) (p:Id) (S:List (Id × aN)) (a:List oA) (r:bM) (e:cw) (s:dt):Prop :=
 (e = .normal \/ e = .ret)/\∃ eA,r3 a s=some eA/\Fin G p S s.σ eA r
def cu.ai9 {f:FuncId} {fn:Func} {aH:dS} (hf:P.funcs[f]? = some fn) (Q:wE P fn=some aH) {args:List aa} {p:Id} {S:List (Id × aN)} {r:bM}
   (h:bu P G p aH.body (aai G p S aH.results r) ⟨args++bG (aH.aK-args.length) (.aS []),aL.of S,0⟩):cu P G f args p S r:=by
 unfold wE at Q
 split at Q
 simp at Q
 rename_i T
 split at Q
 rename_i c rs hb afG
 simp only [ew] at Q
 obtain ⟨p2,afO,rfl⟩:=Q
 refine ⟨⟨fn,hf,by simpa using T,by simp [hb]⟩, λ own E w σ vs hS H hr kn => ?_⟩
 refine calls_of_wp hf hb ?_
 have aeL:vs.length=args.length:=bl.len hr
 let m:Nat->Prop := λ g=>(∃ x∈S,∃ y,E.μ x.1=some y/\y.1=g) \/ w.heap.size<=g
 have O:∀ i,aL.of S i=none \/ aL.of S i = σ i:=aL.xi hS
 have D:∀ g,m g->own g:=by
   rintro g (⟨x,o,y,J,rfl⟩ | hg)
   have ⟨g,N,l,ty,a⟩:=H.blk _ _ (hS x o)
   have:=a.μ.symm.trans J
   cases this
   exact a.own
   exact H.new g hg
 have GC:Inv G m E w (aL.of S):=by
   refine ⟨H.hh, λ id au q => ?_,(H.sub O).inj,H.jH, λ k hk => .inr hk⟩
   have hm:=qy q
   have ⟨g,N,l,ty,a⟩:=H.blk _ _ (hS _ hm)
   exact ⟨g,N,l,ty,a.μ,a.heap,a.size,a.len,a.most, .inl ⟨_,hm,_,a.μ,rfl⟩,a.ok,a.no,a.k,a.row⟩
 have hm:py G p m E w ⟨args++bG (fn.ntmps-args.length) (.aS []),aL.of S,0⟩
     { tmps:=vs.toArray++vE (fn.ntmps-vs.toArray.size) undef,defers:=[] }:=by
   refine ⟨?_,GC, λ j hj _=>kn j hj,rfl⟩
   show bl _ w _ _
   simp only [YT,YU,qZ,aeL]
   refine bl.append hr (fe.2 ⟨by simp, λ j c hj => ?_⟩)
   have qv:j<fn.ntmps-args.length:=by have:=(eu.1 hj).1;simpa using this
   simp only [YV,qv,if_true,a7] at hj ⊢
   subst hj
   exact ⟨undef,rfl,by simp only [av,undef];exact ⟨#[],rfl,by simp [bl]⟩⟩
 refine h c afO m E w _ _ hm ?_
 intro e s' E' w' a' hq had A
 have ⟨I,eA,dc,Z⟩:=hq
 have ⟨v,j1,afM⟩:=VO A afG dc
 have ⟨L,W,z,afN⟩:=Z m E' w' v A.inv afM A.free.self
 have d:gN m p E L w w':=had.trans W
 have U:Adv own E L w w' :=
   ⟨d.step,d.os,d.tape,d.output,d.size, λ k hk ho=>d.block k hk λ h=>ho (D k h), λ b hb=>(d.qG b hb).imp id (D b)⟩
 have key:∀ i au, σ i=some au->aL.of S i=none->∀ g N l ty,px E own w i au g N l ty -> ¬ m g:=by
   intro i au q t g N l ty a
   rintro (⟨x,o,y,J,I⟩ | hg)
   refine H.inj x.1 i y (g,au.k,N) (by simp [hS x o]) (by simp [q]) ?_ J a.μ I
   intro e
   have:=hS x o
   have h1:(aL.of S) x.1≠none:=by
     show S.lookup x.1≠none
     intro hl
     rw [YW] at hl
     have:=hl x o
     simp at this
   rw [e] at h1
   exact h1 t
   have:=lN a.heap;omega
 have fin:∃ R,OZ v = .returned R/\lJ G own E w σ p r R L w':=by
   refine ⟨v,rfl,U, ?_,afN,d.ids⟩
   have n:∀ i,(σ.app r.up i=(aL.of S).app r.up i) \/ (σ.app r.up i = σ i/\(aL.of S i=none)):=by
     intro i
     by_cases h:(∃ x∈r.up,x.1=i) \/ σ i=aL.of S i
     exact .inl (aL.aaE r.up σ (aL.of S) i h)
     right
     have h1:∀ x∈r.up,x.1≠i := λ x o e=>h (.inl ⟨x,o,e⟩)
     refine ⟨aL.Fq r.up σ i h1, ?_⟩
     rcases O i with F | F
     exact F
     exact absurd (.inr F.symm) h
   have u:∀ i au, σ i=some au->aL.of S i=none->∃ g N l ty,px E own w i au g N l ty/\px L own w' i au g N l ty /\ ¬ m g:=by
     intro i au q t
     have ⟨g,N,l,ty,a⟩:=H.blk i au q
     have s:=key i au q t g N l ty a
     refine ⟨g,N,l,ty,a,a.keep d.step (d.block g (lN a.heap) s) (λ hf na => ?_),s⟩
     exact (d.qG g na).elim (a.no hf) s
   refine ⟨z.hh, λ i au q => ?_, λ i j x y C B Y o J => ?_,z.jH, λ k hk=>H.new k (bs d.size hk)⟩
   rcases n i with h1 | ⟨h1,F⟩
   rw [h1] at q
   have ⟨g,N,l,ty,a⟩:=z.blk i au q
   exact ⟨g,N,l,ty,a.μ,a.heap,a.size,a.len,a.most,D g a.own,a.ok,a.no,a.k,a.row⟩
   rw [h1] at q
   have ⟨g,N,l,ty,_,a,_⟩:=u i au q F
   exact ⟨g,N,l,ty,a⟩
   have new:∀ i x, σ.app r.up i≠none -> σ.app r.up i=(aL.of S).app r.up i->L.μ i=some x->m x.1:=by
     intro i x t I o
     rw [I] at t
     cases hb:(aL.of S).app r.up i with
     | none=>exact absurd hb t
     | some au =>
       have ⟨g,N,l,ty,a⟩:=z.blk i au hb
       have:=a.μ.symm.trans o
       cases this
       exact a.own
   have X:∀ i x, σ.app r.up i≠none -> σ.app r.up i = σ i->aL.of S i=none->L.μ i=some x -> ¬ m x.1:=by
     intro i x t I q o
     rw [I] at t
     cases hb : σ i with
     | none=>exact absurd hb t
     | some au =>
       have ⟨g,N,l,ty,_,a,s⟩:=u i au hb q
       have:=a.μ.symm.trans o
       cases this
       exact s
   rcases n i with h1 | ⟨h1,F⟩<;>rcases n j with V | ⟨V,h4⟩
   exact z.inj i j x y (h1▸C) (V▸B) Y o J
   intro e;exact X j y B V h4 J (e▸new i x C h1 o)
   intro e;exact X i x C h1 F o (e▸new j y B V J)
   have K:∀ i x, σ.app r.up i≠none -> σ.app r.up i = σ i->aL.of S i=none->L.μ i=some x->E.μ i=some x:=by
     intro i x t I q o
     rw [I] at t
     cases hb : σ i with
     | none=>exact absurd hb t
     | some au =>
       have ⟨g,N,l,ty,a,aen,s⟩:=u i au hb q
       rw [a.μ, <- aen.μ,o]
   exact H.inj i j x y (h1▸C) (V▸B) Y (K i x C h1 F o) (K j y B V h4 J)
 have M:∃ v0,(results fn a'.tmps).run P w' = .ok v0 w'/\∃ R E',OZ v0 = .returned R/\lJ G own E w σ p r R E' w':=by
   have ⟨R,h1,F⟩:=fin
   exact ⟨v,j1,R,L,h1,F⟩
 rcases I with rfl | rfl
 exact ⟨A.defers,M⟩
 exact ⟨A.defers,M⟩
 simp at Q
def Fin.same {p:Id} {S:List (Id × aN)} {a:aL} {eA:aa} {r:bM} (d:r.val=eA) (c:∀ i,(aL.of S).app r.up i=none \/ (aL.of S).app r.up i=a i):Fin G p S a eA r :=
 λ own E w _ e b _=>⟨E,O0 own p E w,e.sub c,d▸b⟩
end
section
open Go.RowKit
def cu.aja {P:Program} {G:Nat->Option (List aa)} {f:FuncId} {fn:Func} (o:P.funcs[f]? = some fn) (i:(fn.name == "runtime.NumGoroutine")=false) (hb:fn.body.isSome=true) {args:List aa} {p:Id} {S:List (Id × aN)} {val:aa} {rd:List Id}
   (h:∀ own E w σ vs,(∀ x∈S, σ x.1=some x.2)->Inv G own E w σ -> bl E w args vs->Calls P f vs.toArray w λ e w'=>∃ v,e = .returned v/\Below w.heap.size w w'/\PR val v) :
   cu P G f args p S { val,rd }:=by
 refine ⟨⟨fn,o,i,hb⟩, λ own E w σ vs r j q _=>(h own E w σ vs r j q).mono λ e w' s => ?_⟩
 obtain ⟨v,rfl,a,m⟩:=s
 have c:Adv own E E w w':=⟨⟨λ _ _ h=>h, λ _ h=>h, λ b hb=>a.block b (j.hh b hb)⟩,a.os,a.tape,a.output,a.size, λ k t _=>a.block k t, λ _ h => .inl h⟩
 refine ⟨v,E,rfl,c, ?_,m E w', λ _ _=>rfl⟩
 refine j.keep c rfl (λ b hb=>fv (j.hh b hb) a.size) λ id au g N n l => ?_
 have ⟨z,y,u,ty,d⟩:=j.blk id au n
 rw [d.μ] at l
 simp only [a7,cY] at l
 have ⟨rfl,_,rfl⟩:=l
 exact ⟨a.block _ (lN d.heap),d.no⟩
def agk {G:Nat->Option (List aa)} {own:Nat->Prop} {E:Env} {w:World} {σ : aL} (q:Inv G own E w σ) {x:aa} {v:Value} (p:av E w x v) {k:IntKind} {zs:List Int} {rd:List Id} (h:je σ 1 x=some (zs.map (aa.int k),rd)) :
   ∃ a cap,v = .slice a zs.length cap/\zs.length<=cap/\(zs=[] \/ ∃ b o,a=some ⟨b,o,none⟩/\b<w.heap.size/\∀ j,j<zs.length->w.cell? ⟨b,o+j,none⟩=some (.int k (zs[j]?.getD 0))):=by
 obtain ⟨_,a,cap,rfl,d,c⟩:=FU q p h
 refine ⟨a,cap,by simp,by simpa using d, ?_⟩
 rcases c with c | ⟨b,o,rfl,c⟩
 left;simpa using c
 cases zs with
 | nil=>exact .inl rfl
 | cons z zs =>
   right
   have e:flat ((z::zs).map (aa.int k))=(z::zs).map (aa.int k):=by
     generalize z::zs=l
     induction l with
     | nil=>rfl
     | cons y l n=>simp only [hQ,flat,YX,aa.cells] at n ⊢;rw [n];rfl
   rw [e] at c
   have m:∀ j,j<(z::zs).length->w.cell? ⟨b,o+j,none⟩=some (.int k ((z::zs)[j]?.getD 0)):=by
     intro j i
     have ⟨v,h1,f⟩:=c j (.int k (z::zs)[j]) (by rw [iI,du i];rfl)
     simp only [av] at f
     subst f
     rw [h1,du i];rfl
   refine ⟨b,o,rfl, ?_,m⟩
   have:=m 0 (by simp)
   cases g:w.heap[b]? with
   | none=>simp [World.cell?,g] at this
   | some r=>exact (Array.getElem?_eq_some_iff.1 g).1
end
def aN.jV (b:aN):aN:={ b with fr:=true }
def mh (S:List (Id × aN)):List (Id × Option aN):=S.map λ x=>(x.1,some x.2.jV)
open Classical in
theorem Qf {σ : aL} (i:Id):∀ (S:List (Id × aN)) (pw:aL),(∀ x∈S, σ x.1=some x.2)->pw.app (mh S) i=if ∃ x∈S,x.1=i then (σ i).map aN.jV else pw i
 | [],pw,_=>by simp [mh,l6]
 | x :: S,pw,h=>by
   show l6 (pw.put x.1 (some x.2.jV)) (mh S) i=_
   rw [Qf i S _ fun y hy=>h y (c5 _ hy)]
   by_cases h1:∃ y∈S,y.1=i
   . rw [if_pos h1,if_pos]
     obtain ⟨y,hy,e⟩:=h1
     exact ⟨y,c5 _ hy,e⟩
   . rw [if_neg h1]
     by_cases h2:i=x.1
     . subst h2
       rw [if_pos ⟨x,by simp,rfl⟩,h x (by simp),Bf];rfl
     . rw [if_neg,vZ _ _ _ h2]
       rintro ⟨y,hy,e⟩
       rcases cr.1 hy with rfl | hy
       . exact h2 e.symm
       . exact h1 ⟨y,hy,e⟩
def UC {S:List (Id × aN)} {σ : aL} (c:∀ x∈S, σ x.1=some x.2) {x:Id × aN} (d:x∈S):aL.of S x.1=some x.2:=by
 cases a:S.lookup x.1 with
 | none =>
   rw [YW] at a
   have:=a x d
   simp at this
 | some b =>
   have:=c _ (qy a)
   rw [c x d] at this
   show S.lookup x.1=_
   rw [a];exact this.symm
section
variable {P:Program} {G:Nat->Option (List aa)}
def Inv.jf {own:Nat->Prop} {E:Env} {w:World} {σ : aL} {S:List (Id × aN)} (a:Inv G own E w σ) (n:∀ x∈S, σ x.1=some x.2) :
   Inv G (λ k=>w.heap.size<=k) (E.jf (aL.of S)) w (λ _=>none) where
 hh:=by
   rintro b (hb | ⟨id,au,k,N,l,c⟩)
   exact a.hh b hb
   obtain ⟨g,t,f,ty,e⟩:=a.blk id au (n _ (qy l))
   rw [e.μ] at c
   simp only [a7,cY] at c
   rw [<- c.1];exact lN e.heap
 blk := λ id au h=>by simp at h
 inj := λ i j x y h=>absurd rfl h
 jH := λ g cs q=>by
   obtain ⟨h1,s⟩:=a.jH g cs q
   exact ⟨.inl h1,Bg (⟨λ _ _ h=>h, λ _ h => .inl h, λ _ _=>rfl⟩:e7 E.bare (E.jf (aL.of S)).bare w w) rfl cs 0 s⟩
 new := λ k r=>r
def cu.ajc {f:FuncId} {args args':List aa} {r:aa} {p:Id} {S:List (Id × aN)} (h:ag P G f args' r) (Z:c9 (aL.of S) args args') :
   cu P G f args p S { val:=r,rd:=S.map (·.1),up:=mh S }:=by
 refine ⟨h.1, λ own E w σ vs q m hr kn => ?_⟩
 have I:=Z.nk (m.sub (aL.xi q)) hr
 refine (h.2 w vs _ (m.jf q) I).mono λ e w' Q => ?_
 obtain ⟨v,o,rfl,a,F,M⟩:=Q
 have c:Adv own E ⟨E.μ,o⟩ w w':=by
   refine ⟨⟨λ _ _ h=>h, λ b hb=>a.step.ok b (.inl hb), λ b hb=>a.step.same b (.inl hb)⟩,a.os,a.tape,a.output,a.size, λ k R _=>a.block k R (by omega), λ b hb => ?_⟩
   rcases a.qG b hb with (h1 | ⟨id,au,k,N,K,u⟩) | h1
   exact .inl h1
   have ⟨g,oz,n,ty,d⟩:=m.blk id au (q _ (qy K))
   rw [d.μ] at u
   simp only [a7,cY] at u
   rw [<- u.1];exact .inr d.own
   exact .inr (m.new b h1)
 refine ⟨v,⟨E.μ,o⟩,rfl,c, ?_,ux (⟨λ _ _ h=>by simp at h, λ _ h=>h, λ _ _=>rfl⟩:e7 ⟨λ _=>none,o⟩ ⟨E.μ,o⟩ w' w') r v M, λ _ _=>rfl⟩
 have s := λ i=>Qf (σ := σ) i S σ q
 refine ⟨F, λ id au K => ?_, λ i j x y D L J z X => ?_, λ g cs H => ?_, λ k R=>m.new k (bs a.size R)⟩
 have l : σ.app (mh S) id=some au:=K
 rw [s id] at l
 split at l
 rename_i O
 obtain ⟨x,z,rfl⟩:=O
 rw [q x z] at l
 simp only [e5,a7] at l
 subst l
 have ⟨g,N,n,ty,d⟩:=m.blk _ _ (q x z)
 have hb:=a.block g (lN d.heap) (by have:=lN d.heap;omega)
 exact ⟨g,N,n,ty,d.μ,hb.trans d.heap,d.size,d.len,d.most,d.own, λ _=>a.step.ok g (.inr ⟨x.1,x.2,x.2.k,N,UC q z,d.μ⟩), λ T=>by simp [aN.jV] at T,d.k,ey.keep c.step hb d.row⟩
 rename_i A
 have ⟨g,N,n,ty,d⟩:=m.blk _ _ l
 have H:=lN d.heap
 refine ⟨g,N,n,ty,d.keep c.step (a.block g H (by omega)) λ T hb => ?_⟩
 rcases a.qG g hb with (h1 | ⟨U,W,k2,E5,B,C⟩) | h1
 exact d.no T h1
 have u:=qy B
 refine m.inj id U _ _ (by simp [l]) (by simp [q _ u]) ?_ d.μ C rfl
 rintro rfl
 exact A ⟨_,u,rfl⟩
 omega
 have t:∀ i, σ.app (mh S) i≠none -> σ i≠none:=by
   intro i Y Q
   apply Y
   rw [s i,Q]
   split<;>rfl
 exact m.inj i j x y (t i D) (t j L) J z X
 have ⟨h1,V⟩:=m.jH g cs H
 exact ⟨c.step.ok g h1,Bg c.step.bare (c.step.same g h1) cs 0 V⟩
def cu.of_flat {f:FuncId} {args args':List aa} {r:aa} {p:Id} {S:List (Id × aN)} (h:ag P G f args' r) (o:c9 (aL.of S) args args') (t:sS r) :
   cu P G f args p S { val:=r,rd:=S.map (·.1) }:=by
 refine ⟨h.1, λ own E w σ vs n i x C => ?_⟩
 have m:=o.nk (i.sub (aL.xi n)) x
 refine (h.2 w vs _ (i.jf n) m).mono λ e w' u => ?_
 obtain ⟨v,z,rfl,a,s,j⟩:=u
 have c:Adv own E E w w':=⟨⟨λ _ _ h=>h, λ b hb=>hb, λ b hb=>a.step.same b (.inl hb)⟩,a.os,a.tape,a.output,a.size, λ k y _=>a.block k y (by omega), λ b hb => .inl hb⟩
 refine ⟨v,E,rfl,c, ?_,t _ _ _ _ _ j, λ _ _=>rfl⟩
 refine i.keep c rfl (λ b hb=>fv (i.hh b hb) a.size) λ id au g N q l => ?_
 have ⟨F,D,B,ty,d⟩:=i.blk id au q
 rw [d.μ] at l
 simp only [a7,cY] at l
 have ⟨rfl,_,rfl⟩:=l
 have A:=lN d.heap
 exact ⟨a.block _ A (by omega),d.no⟩
def ag.ajb {f:FuncId} {args:List aa} {r:bM} (h:cu P G f args [] [] r) (g:sS r.val):ag P G f args r.val:=by
 refine ⟨h.1, λ w vs ok c d => ?_⟩
 refine (h.2 _ _ w _ vs (by simp) c d (λ _ _=>rfl)).mono λ e w' i => ?_
 obtain ⟨v,E',rfl,a⟩:=i
 refine ⟨v,ok,rfl,⟨⟨λ _ _ h=>h, λ _ h=>h,a.jc.step.same⟩,a.jc.os,a.jc.tape,a.jc.output,a.jc.size,a.jc.block, λ _ h => .inl h⟩, λ b hb => ?_,g _ _ _ _ _ a.rep⟩
 exact fv (c.hh b hb) a.jc.size
def xR:aa->Bool->Option Bool
 | .bool b,want=>some (b==want)
 | .top,_=>none
 | .jP,_=>none
 | _,_=>some false
end
section
variable (P:Program) (G:Nat->Option (List aa)) (π : Id)
def XS (base:Nat) (Q:cw->dt->Prop) (n:Nat) (ps:List (Nat × Nat)) (o:c8) (os:List c8) (i:Nat) (acc:List bM) (t:List aa) (σ : aL):Option Bool->Prop
 | some true=>DN P G π base Q n ps (⟨o.dst,o.op,none⟩::os) i acc t σ
 | some false=>DN P G π base Q n ps os (i+1) ({ val := .aS [] }::acc) (h6 t o.dst (.aS [])) σ
 | none=>False
variable {P} {G} {π}
variable {base:Nat} {Q:cw->dt->Prop} {n:Nat} {ps:List (Nat × Nat)} {d:Option Nat} {os:List c8} {i:Nat} {acc:List bM} {t:List aa} {σ : aL}
theorem aoQ {j:Nat} {want:Bool}:od t (some (j,want))=xR (t.getD j (.aS [])) want:=by
 rw [dJ]
 show (match t[j]? with | some (.bool b)=>some (b==want) | some .top | some .jP=>none | _=>some false)=_
 cases t[j]? with
 | none=>rfl
 | some c=>cases c<;>rfl
theorem dg {op:dK dD} {j:Nat} {want:Bool}:DN P G π base Q n ps (⟨d,op,some (j,want)⟩::os) i acc t σ = XS P G π base Q n ps ⟨d,op,none⟩ os i acc t σ (xR (t.getD j (.aS [])) want):=by
 rw [<- aoQ]
 unfold DN XS
 simp only [p5]
 cases od t (some (j,want)) with
 | none=>rfl
 | some b=>cases b<;>rfl
end
section
variable {σ : aL} {p:Id}
theorem Qo {k:IntKind} {a b:Int} (h:b≠0):eH .quo .int (.int k a) (.int k b)=some (.int k (k.wrap (a.tdiv b))):=by simp only [eH];rw [show lW .quo .int (.int k a) (.int k b)=some (.int k (k.wrap (a.tdiv b))) from by simp [lW,p4,h]]
theorem abi {k:IntKind} {a b:Int} (h:b≠0):eH .rem .int (.int k a) (.int k b)=some (.int k (a.tmod b)):=by simp only [eH];rw [show lW .rem .int (.int k a) (.int k b)=some (.int k (a.tmod b)) from by simp [lW,p4,h]]
theorem Kr {k k':IntKind} {a b:Int} (h:0<=b):eH .shl .int (.int k a) (.int k' b)=some (.int k (k.wrap (a*2 ^ (min b.toNat k.bits)))):=by simp only [eH];rw [show lW .shl .int (.int k a) (.int k' b)=some (.int k (k.wrap (a*2 ^ (min b.toNat k.bits)))) from by simp [lW,p4,Int.not_lt.2 h]]
theorem Bv {k k':IntKind} {a b:Int} (h:0<=b):eH .shr .int (.int k a) (.int k' b)=some (.int k (a.fdiv (2 ^ (min b.toNat k.bits)))):=by simp only [eH];rw [show lW .shr .int (.int k a) (.int k' b)=some (.int k (a.fdiv (2 ^ (min b.toNat k.bits)))) from by simp [lW,p4,Int.not_lt.2 h]]
abbrev bE (d x:Nat):c8:=⟨some d, .mv (.t x),none⟩
abbrev xf (d:Nat) (z:Int):c8:=⟨some d, .mv (.c (.int .i64 z)),none⟩
abbrev Ux (d:Nat) (b:Bool):c8:=⟨some d, .mv (.c (.bool b)),none⟩
abbrev Hx (d:Nat):c8:=⟨some d, .mv (.c .aq),none⟩
abbrev kR (d n x:Nat):c8:=⟨some d, .load false n (.t x),none⟩
abbrev MQ (d n x:Nat):c8:=⟨some d, .load true n (.t x),none⟩
abbrev vm (d o x:Nat):c8:=⟨some d, .uZ o (.t x),none⟩
abbrev kq (d n x y:Nat):c8:=⟨some d, .u9 n (.t x) (.t y),none⟩
abbrev oY (d x:Nat):c8:=⟨some d, .len false (.t x),none⟩
abbrev oS (n x y:Nat):c8:=⟨none, .store n (.t x) (.t y),none⟩
abbrev Uz (d x:Nat):c8:=⟨some d, .box (.t x),none⟩
abbrev oE (d x j:Nat):c8:=⟨some d, .extract (.t x) j,none⟩
abbrev CV (d x y:Nat):c8:=⟨some d, .pick (.t x) (.t y) (.c (.bool false)),none⟩
abbrev rW (d f x:Nat):c8:=⟨some d, .call (.f f) [.t x],none⟩
abbrev xe (d f x y:Nat):c8:=⟨some d, .call (.f f) [.t x, .t y],none⟩
abbrev rX (d:Nat) (k:IntKind) (x:Nat):c8:=⟨some d, .toInt k (.t x),none⟩
abbrev aiZ (d k b x y:Nat):c8:=⟨some d, .append k b (.t x) (.t y),none⟩
abbrev jk (d:Nat) (o:BinOp) (x y:Nat):c8:=⟨some d, .bin o .int (.t x) (.t y),none⟩
abbrev fT (d:Nat) (o:BinOp) (x:Nat) (z:Int):c8:=⟨some d, .bin o .int (.t x) (.c (.int .i64 z)),none⟩
abbrev Gh (d x g:Nat) (b:Bool):c8:=⟨some d, .mv (.t x),some (g,b)⟩
abbrev lj (d n x g:Nat) (b:Bool):c8:=⟨some d, .load false n (.t x),some (g,b)⟩
abbrev Gg (d n x g:Nat) (b:Bool):c8:=⟨some d, .load true n (.t x),some (g,b)⟩
abbrev Gf (d o x g:Nat) (b:Bool):c8:=⟨some d, .uZ o (.t x),some (g,b)⟩
abbrev Sd (d x g:Nat) (b:Bool):c8:=⟨some d, .len false (.t x),some (g,b)⟩
abbrev eR (l:List c8) (c:cB):cB := .seq (.iB none l) c
abbrev m2 (l:List c8):cB := .iB none l
def gX (P:Program) (f:FuncId) (aH:dS):Prop:=∃ fn,P.funcs[f]? = some fn/\wE P fn=some aH
end
section
variable {P:Program} {G:Nat->Option (List aa)}
def ag.has {f:FuncId} {aH:dS} (h:gX P f aH) {args:List aa} {r:aa} (k:qT P G [] aH.body (P3 aH.results r) ⟨args++bG (aH.aK-args.length) (.aS []), λ _=>none,0⟩):ag P G f args r:=by
 have ⟨fn,h1,a⟩:=h
 exact ag.of h1 a k
def aoE {σ : aL} {a:Bool} {n e o:Nat} {id:Id} {au:aN} {el:aa} (h : σ id=some au) (b:au.els[e]? = some el):kV σ a n (.ref id e o)=(part a el.cells o n).map λ v=>{ val:=v,rd:=[id] }:=by
 simp [kV,h,b]
end
section
variable {P:Program} {G:Nat->Option (List aa)} {own:Nat->Prop} {E:Env} {w:World} {σ : aL}
def View.fn {σ : aL} {f:Fn} {a c a' c':List aa} (i:c9 σ a a') (h:c9 σ c c'):View σ (.fn f a c) (.fn f a' c') := λ G own E w v d b=>by
 simp only [av] at b ⊢
 have ⟨xs,ys,e,h1,g⟩:=b
 exact ⟨xs,ys,e,i.nk d h1,h.nk d g⟩
def View.ref {σ : aL} {id:Id} {au:aN} {e o:Nat} {el:aa} {cs:List aa} (m : σ id=some au) (i:au.els[e]? = some el) (h:c9 σ el.cells cs):View σ (.ref id e o) (.c2 cs o) := λ G own E w v j f=>by
 have ⟨g,N,p,ty,a⟩:=j.blk id au m
 simp only [av] at f ⊢
 obtain ⟨s,k',q,c,rfl⟩:=f
 rw [a.μ] at c
 simp only [a7,cY] at c
 have ⟨rfl,rfl,rfl⟩:=c
 refine ⟨g,e*au.k,rfl, .inr ⟨id,au,au.k,N,m,a.μ⟩, ?_⟩
 refine qI.2 (h.z0 j ?_)
 have b:=(eu.1 i).1
 have:=z1 (l:=e) (r:=e+1) a.k a.row (by omega) (by omega)
 rw [c4] at this
 have n:(au.els.take (e+1)).drop e=[el]:=by
   rw [ES,show e+1-e=1 from by omega,YY b]
   have ⟨_,d⟩:=eu.1 i
   simp [d]
 rw [n] at this
 simpa [flat] using this
def hX (F:List (Id × aN)) (c d:aa):Prop:=∀ G own E w v,Inv G own E w (aL.of F)->av E w c v->av ⟨E.μ,(E.jf (aL.of F)).ok⟩ w d v
def eU (F:List (Id × aN)):List aa->List aa->Prop
 | [],[]=>True
 | c::cs,d::ds=>hX F c d/\eU F cs ds
 | _,_=>False
def hX.same (F:List (Id × aN)) (c:aa):hX F c c := λ _ _ E w v _ a =>
 ux (⟨λ _ _ h=>h, λ _ h => .inl h, λ _ _=>rfl⟩:e7 E ⟨E.μ,(E.jf (aL.of F)).ok⟩ w w) _ v a
def hX.view {F:List (Id × aN)} {c d:aa} (h:View (aL.of F) c d):hX F c d := λ _ _ E w v a b =>
 ux (⟨λ _ _ h=>by simp [Env.jf] at h, λ _ h=>h, λ _ _=>rfl⟩:e7 (E.jf (aL.of F)) ⟨E.μ,(E.jf (aL.of F)).ok⟩ w w) _ v (h _ _ _ _ _ a b)
def eU.same (F:List (Id × aN)):∀ cs:List aa,eU F cs cs
 | []=>trivial
 | c::cs=>⟨hX.same F c,eU.same F cs⟩
def eU.nk {F:List (Id × aN)} (b:Inv G own E w (aL.of F)):∀ {cs ds:List aa} {vs:List Value},eU F cs ds->bl E w cs vs->bl ⟨E.μ,(E.jf (aL.of F)).ok⟩ w ds vs
 | [],[],_,_,h=>by simpa [bl] using h
 | c::cs,d::ds,vs,a,h=>by
   simp only [eU] at a
   simp only [bl] at h ⊢
   have ⟨v,rest,e,h1,f⟩:=h
   exact ⟨v,rest,e,a.1 _ _ _ _ _ b h1,eU.nk b a.2 f⟩
 | [],_::_,_,h,_=>by simp [eU] at h
 | _::_,[],_,h,_=>by simp [eU] at h
def eU.get {F:List (Id × aN)}:∀ {cs ds:List aa},eU F cs ds->∀ (j:Nat) (d:aa),ds[j]? = some d->∃ c,cs[j]? = some c/\hX F c d
 | [],[],_,j,d,h=>by simp at h
 | c::cs,d::ds,a,0,b,h=>by simp at h;subst h;exact ⟨c,rfl,a.1⟩
 | c::cs,d::ds,a,j+1,b,h=>by simpa using eU.get a.2 j b (by simpa using h)
 | [],_::_,h,_,_,_=>by simp [eU] at h
 | _::_,[],h,_,_,_=>by simp [eU] at h
structure yp (F:List (Id × aN)) (i:Id) (au s7:aN):Prop where
 k:s7.k=au.k
 fr:s7.fr=au.fr \/ (s7.fr=true/\(i,au)∈F)
 no:s7.fr=false->∀ x∈F,x.1≠i
 len:s7.els.length=au.els.length
 NP:∀ e∈s7.els,e.size=au.k
 els:eU F (flat au.els) (flat s7.els)
def adP {p:Id} {σ B:aL} (F:List (Id × aN)) (s:∀ x∈F, σ x.1=some x.2) (A:∀ i,B i=none \/ ∃ au q, σ i=some au/\B i=some q/\yp F i au q) (o:Inv G own E w σ) :
   gN own p E ⟨E.μ,(E.jf (aL.of F)).ok⟩ w w/\Inv G own ⟨E.μ,(E.jf (aL.of F)).ok⟩ w B:=by
 have C:Inv G own E w (aL.of F):=o.sub (aL.xi s)
 have n:Adv own E ⟨E.μ,(E.jf (aL.of F)).ok⟩ w w:=by
   refine ⟨⟨λ _ _ h=>h, λ b hb => .inl hb, λ b hb=>rfl⟩,rfl,rfl,rfl,a4 _, λ k hk _=>rfl, λ b hb => ?_⟩
   rcases hb with h1 | ⟨id,au,k,N,A,r⟩
   exact .inl h1
   have ⟨g,oz,z,ty,a⟩:=o.blk id au (s _ (qy A))
   rw [a.μ] at r
   simp only [a7,cY] at r
   rw [<- r.1];exact .inr a.own
 refine ⟨⟨n, λ _ _=>rfl⟩,(o.jf s).hh, λ id q f => ?_, λ i j x y J Q L W Y => ?_, λ g cs V => ?_,o.new⟩
 rcases A id with h | ⟨au,t,h1,R,l⟩
 rw [h] at f;simp at f
 rw [R] at f
 cases f
 have ⟨g,N,z,ty,a⟩:=o.blk id au h1
 refine ⟨g,N,z,ty,by rw [l.k];exact a.μ,a.heap,by rw [l.k];exact a.size,by rw [l.len];exact a.len,a.most,a.own, λ u => ?_, λ u D => ?_,by rw [l.k];exact l.NP, ?_⟩
 rcases l.fr with h | ⟨_,h⟩
 exact .inl (a.ok (h▸u))
 exact .inr ⟨id,au,au.k,N,UC s h,a.μ⟩
 have O:au.fr=false:=by
   rcases l.fr with h | ⟨h,_⟩
   rw [<- h];exact u
   rw [u] at h;simp at h
 rcases D with h | ⟨K,t,k2,E5,S,M⟩
 exact a.no O h
 have r:=qy S
 exact o.inj id K _ _ (by simp [h1]) (by simp [s _ r]) (λ e=>l.no u _ r e.symm) a.μ M rfl
 intro j d hd
 have ⟨c,U,Z⟩:=l.els.get j d hd
 have ⟨v,I,H⟩:=a.row j c U
 exact ⟨v,I,Z _ _ _ _ _ C H⟩
 have m:∀ i,B i≠none -> σ i≠none:=by
   intro i X T
   rcases A i with h | ⟨au,t,h1,_⟩
   exact X h
   rw [T] at h1;simp at h1
 exact o.inj i j x y (m i J) (m j Q) L W Y
 have ⟨h1,R⟩:=o.jH g cs V
 exact ⟨.inl h1,Bg n.step.bare rfl cs 0 R⟩
def bz.mh {π : Id} {t e:List aa} {σ d:aL} {n f:Nat} (F:List (Id × aN)) (g:∀ x∈F, σ x.1=some x.2) (j:eU F t e)
   (k:∀ i,d i=none \/ ∃ au b, σ i=some au/\d i=some b/\yp F i au b) (h:n<=f):bz G π ⟨t, σ,n⟩ ⟨e,d,f⟩ := λ own E w a c=>by
 have ⟨h1,l⟩:=adP (p := π) F g k c.inv
 exact ⟨_,h1,j.nk (c.inv.sub (aL.xi g)) c.frame,l,c.free.mono h,c.defers⟩
def adg {σ : aL} {k:Nat} {es:List aa}:je σ k (.sl k es)=some (es,[]):=by simp [je]
def FT {σ : aL} {k:Nat} {id:Id} {off len:Nat} {t:Bool} {au:aN} (h : σ id=some au) (b:au.k=k) (a:off+len<=au.els.length):je σ k (.ai id k off len t)=some ((au.els.drop off).take len,[id]):=by
 simp [je,h,b,a]
def DJ {σ : aL} {p id:Id} {k bytes len:Nat} {x:aa} {els ys:List aa} {rd:List Id} (d:je σ k x=some (ys,rd)) (f:ys≠[]) (h : σ id=some ⟨els,k,false⟩) (a:len=els.length)
   (hb:(len+ys.length)*bytes<=140737488355328) (c:len+ys.length<=maxLen) (h1:(ys.all λ e=>e.cells.all oe)=true) (g:(els.all λ e=>e.cells.all oe)=true) :
   sy σ p k bytes (.ai id k 0 len false) x=some { val := .ai p k 0 (len+ys.length) false,rd:=id::rd,up:=[(id,none),(p,some ⟨els++ys,k,false⟩)] }:=by
 have b:ys.isEmpty=false:=by cases ys<;>simp at f ⊢
 unfold sy
 rw [d]
 simp only [b,h,h1,g,a,Bool.false_eq_true,if_false]
 rw [if_pos ⟨trivial,trivial,trivial,a4 _,by rw [<- a];exact hb,by rw [<- a];exact c,trivial⟩]
 simp
def tz {n:Nat} (h:n<=140737488355328):n<=maxLen:=bs h (by decide)
def aoM {σ : aL} {id:Id} {els:List aa} {k n e o:Nat} {el v:aa} (h : σ id=some ⟨els,k,false⟩) (a:els[e]? = some el) (b:v.cells.length=n) (c:o+n<=el.size) (h1:v.cells.all oe=true) :
   tY σ n (.ref id e o) v=some { val := .aS [],rd:=[id],up:=[(id,some ⟨els.set e (el.upd o v.cells),k,false⟩)] }:=by
 simp only [tY,h,a]
 rw [if_pos ⟨trivial,b,c,h1⟩]
mutual
def aa.aX (ρ : Id->Id):aa->aa
 | .fn f a c => .fn f (bx ρ a) (bx ρ c)
 | .agg cs => .agg (bx ρ cs)
 | .aS cs => .aS (bx ρ cs)
 | .sl k es => .sl k (bx ρ es)
 | .dQ k es => .dQ k (bx ρ es)
 | .ai i k o l t => .ai (ρ i) k o l t
 | .ref i e o => .ref (ρ i) e o
 | .c2 cs o => .c2 (bx ρ cs) o
 | .bool b => .bool b
 | .int k n => .int k n
 | .str l => .str l
 | .jj => .jj
 | .j2 => .j2
 | .aq => .aq
 | .top => .top
 | .jP => .jP
 | .nc n => .nc n
def bx (ρ : Id->Id):List aa->List aa
 | []=>[]
 | c::cs=>c.aX ρ :: bx ρ cs
end
def aN.aX (ρ : Id->Id) (b:aN):aN:=⟨bx ρ b.els,b.k,b.fr⟩
end
section
variable {ρ : Id->Id}
def jl:∀ {cs:List aa},bx ρ cs=cs.map (aa.aX ρ)
 | []=>rfl
 | c::cs=>by simp only [bx,hQ,jl (cs:=cs)]
def mA {cs:List aa}:(bx ρ cs).length=cs.length:=by rw [jl,List.length_map]
def Ng (c:aa):(c.aX ρ).cells=bx ρ c.cells:=by cases c<;>rfl
def VM (c:aa):(c.aX ρ).size=c.size:=by unfold aa.size;rw [Ng,mA]
def r9 {xs ys:List aa}:bx ρ (xs++ys)=bx ρ xs++bx ρ ys:=by simp only [jl,List.map_append]
def H8:∀ {es:List aa},flat (bx ρ es)=bx ρ (flat es)
 | []=>rfl
 | e::es=>by
   have h1:flat (e::es)=e.cells++flat es:=by simp [flat]
   have a:flat (bx ρ (e::es))=(e.aX ρ).cells++flat (bx ρ es):=by simp [flat,bx]
   rw [h1,a,Ng,r9,H8 (es:=es)]
def Ia {k:Nat} {es:List aa} (h:∀ e∈es,e.size=k):∀ e∈bx ρ es,e.size=k:=by
 intro e a;rw [jl] at a;obtain ⟨x,b,rfl⟩:=bn.1 a;rw [VM];exact h x b
def Ni {k:Nat} {es:List aa} (h:∀ e∈bx ρ es,e.size=k):∀ e∈es,e.size=k:=by
 intro e a;rw [<- VM (ρ := ρ)];exact h _ (by rw [jl];exact bn.2 ⟨e,a,rfl⟩)
mutual
def av.aX {E E':Env} {w:World} (j:∀ i x,E.μ i=some x->E'.μ (ρ i)=some x) (d:∀ b,E.ok b->E'.ok b):∀ (c:aa) (v:Value),av E w c v->av E' w (c.aX ρ) v
 | .bool _,_,r=>by simpa [av,aa.aX] using r
 | .int _ _,_,r=>by simpa [av,aa.aX] using r
 | .str _,_,r=>by simpa [av,aa.aX] using r
 | .jj,_,r=>by simpa [av,aa.aX] using r
 | .j2,_,r=>by simpa [av,aa.aX] using r
 | .aq,_,r=>by simpa [av,aa.aX] using r
 | .top,_,_=>by simp [av,aa.aX]
 | .jP,_,r=>by simpa [av,aa.aX] using r
 | .nc _,_,r=>by simpa [av,aa.aX] using r
 | .fn f a c,v,r=>by
   simp only [av,aa.aX] at r ⊢
   have ⟨xs,ys,e,n,B⟩:=r
   exact ⟨xs,ys,e,bl.aX j d a _ n,bl.aX j d c _ B⟩
 | .agg cs,v,r=>by
   simp only [av,aa.aX] at r ⊢
   have ⟨xs,e,n⟩:=r
   exact ⟨xs,e,bl.aX j d cs _ n⟩
 | .aS cs,v,r=>by
   simp only [av,aa.aX] at r ⊢
   have ⟨xs,e,n⟩:=r
   exact ⟨xs,e,bl.aX j d cs _ n⟩
 | .sl k es,v,r=>by
   simp only [av,aa.aX] at r ⊢
   have ⟨a,cap,e,h1,q,u,A⟩:=r
   refine ⟨a,cap,by rw [mA];exact e,by rw [mA];exact h1,q,Ia u,A.imp (λ h=>by rw [h];rfl) ?_⟩
   rintro ⟨b,o,y,hb,l⟩
   exact ⟨b,o,y,d b hb,cH.aX j d es o l⟩
 | .dQ k es,v,r=>by
   simp only [av,aa.aX] at r ⊢
   have ⟨a,e,q,u,A⟩:=r
   refine ⟨a,by rw [mA];exact e,by rw [mA];exact q,Ia u,A.imp (λ h=>by rw [h];rfl) ?_⟩
   rintro ⟨b,o,y,hb,l⟩
   exact ⟨b,o,y,d b hb,cH.aX j d es o l⟩
 | .ai id k off len t,v,r=>by
   simp only [av,aa.aX] at r ⊢
   have ⟨g,N,cap,s,rest⟩:=r
   exact ⟨g,N,cap,j _ _ s,rest⟩
 | .ref id e o,v,r=>by
   simp only [av,aa.aX] at r ⊢
   have ⟨g,k,N,s,rest⟩:=r
   exact ⟨g,k,N,j _ _ s,rest⟩
 | .c2 cs o,v,r=>by
   simp only [av,aa.aX] at r ⊢
   have ⟨b,p,e,hb,l⟩:=r
   exact ⟨b,p,e,d b hb,eE.aX j d cs p l⟩
def bl.aX {E E':Env} {w:World} (j:∀ i x,E.μ i=some x->E'.μ (ρ i)=some x) (d:∀ b,E.ok b->E'.ok b):∀ (cs:List aa) (vs:List Value),bl E w cs vs->bl E' w (bx ρ cs) vs
 | [],_,r=>by simpa [bl,bx] using r
 | c::cs,vs,r=>by
   simp only [bl,bx] at r ⊢
   have ⟨v,rest,e,C,m⟩:=r
   exact ⟨v,rest,e,av.aX j d c v C,bl.aX j d cs rest m⟩
def cH.aX {E E':Env} {w:World} (j:∀ i x,E.μ i=some x->E'.μ (ρ i)=some x) (d:∀ b,E.ok b->E'.ok b) {b:Nat}:∀ (es:List aa) (o:Nat),cH E w b o es->cH E' w b o (bx ρ es)
 | [],_,_=>by simp [cH,bx]
 | .agg cs::es,o,r=>by
   simp only [cH,bx,aa.aX,mA] at r ⊢
   exact ⟨eE.aX j d cs o r.1,cH.aX j d es _ r.2⟩
 | .bool _::es,o,r | .int _ _::es,o,r | .str _::es,o,r | .jj::es,o,r | .j2::es,o,r | .aq::es,o,r | .top::es,o,r | .jP::es,o,r | .nc _::es,o,r | .fn _ _ _::es,o,r
 | .aS _::es,o,r | .sl _ _::es,o,r | .dQ _ _::es,o,r | .ai _ _ _ _ _::es,o,r | .ref _ _ _::es,o,r | .c2 _ _::es,o,r=>by
   simp only [cH,bx,aa.aX] at r ⊢
   have ⟨⟨v,z,l⟩,m⟩:=r
   have:=av.aX j d _ v l
   simp only [aa.aX] at this
   exact ⟨⟨v,z,this⟩,cH.aX j d es _ m⟩
def eE.aX {E E':Env} {w:World} (j:∀ i x,E.μ i=some x->E'.μ (ρ i)=some x) (d:∀ b,E.ok b->E'.ok b) {b:Nat}:∀ (cs:List aa) (o:Nat),eE E w b o cs->eE E' w b o (bx ρ cs)
 | [],_,_=>by simp [eE,bx]
 | c::cs,o,r=>by
   simp only [eE,bx] at r ⊢
   have ⟨⟨v,z,l⟩,m⟩:=r
   exact ⟨⟨v,z,av.aX j d c v l⟩,eE.aX j d cs _ m⟩
end
mutual
def av.dE {E E':Env} {w:World} (j:∀ i x,E'.μ (ρ i)=some x->E.μ i=some x) (d:∀ b,E'.ok b->E.ok b):∀ (c:aa) (v:Value),av E' w (c.aX ρ) v->av E w c v
 | .bool _,_,r=>by simpa [av,aa.aX] using r
 | .int _ _,_,r=>by simpa [av,aa.aX] using r
 | .str _,_,r=>by simpa [av,aa.aX] using r
 | .jj,_,r=>by simpa [av,aa.aX] using r
 | .j2,_,r=>by simpa [av,aa.aX] using r
 | .aq,_,r=>by simpa [av,aa.aX] using r
 | .top,_,_=>by simp [av]
 | .jP,_,r=>by simpa [av,aa.aX] using r
 | .nc _,_,r=>by simpa [av,aa.aX] using r
 | .fn f a c,v,r=>by
   simp only [av,aa.aX] at r ⊢
   have ⟨xs,ys,e,y,F⟩:=r
   exact ⟨xs,ys,e,bl.dE j d a _ y,bl.dE j d c _ F⟩
 | .agg cs,v,r=>by
   simp only [av,aa.aX] at r ⊢
   have ⟨xs,e,y⟩:=r
   exact ⟨xs,e,bl.dE j d cs _ y⟩
 | .aS cs,v,r=>by
   simp only [av,aa.aX] at r ⊢
   have ⟨xs,e,y⟩:=r
   exact ⟨xs,e,bl.dE j d cs _ y⟩
 | .sl k es,v,r=>by
   simp only [av,aa.aX,mA] at r ⊢
   have ⟨a,cap,e,h1,D,B,C⟩:=r
   refine ⟨a,cap,e,h1,D,Ni B,C.imp (λ h=>by have:=congrArg uc h;rw [mA] at this;exact O1.1 this) ?_⟩
   rintro ⟨b,o,A,hb,l⟩
   exact ⟨b,o,A,d b hb,cH.dE j d es o l⟩
 | .dQ k es,v,r=>by
   simp only [av,aa.aX,mA] at r ⊢
   have ⟨a,e,D,B,C⟩:=r
   refine ⟨a,e,D,Ni B,C.imp (λ h=>by have:=congrArg uc h;rw [mA] at this;exact O1.1 this) ?_⟩
   rintro ⟨b,o,A,hb,l⟩
   exact ⟨b,o,A,d b hb,cH.dE j d es o l⟩
 | .ai id k off len t,v,r=>by
   simp only [av,aa.aX] at r ⊢
   have ⟨g,N,cap,z,rest⟩:=r
   exact ⟨g,N,cap,j _ _ z,rest⟩
 | .ref id e o,v,r=>by
   simp only [av,aa.aX] at r ⊢
   have ⟨g,k,N,z,rest⟩:=r
   exact ⟨g,k,N,j _ _ z,rest⟩
 | .c2 cs o,v,r=>by
   simp only [av,aa.aX] at r ⊢
   have ⟨b,p,e,hb,l⟩:=r
   exact ⟨b,p,e,d b hb,eE.dE j d cs p l⟩
def bl.dE {E E':Env} {w:World} (j:∀ i x,E'.μ (ρ i)=some x->E.μ i=some x) (d:∀ b,E'.ok b->E.ok b):∀ (cs:List aa) (vs:List Value),bl E' w (bx ρ cs) vs->bl E w cs vs
 | [],_,r=>by simpa [bl,bx] using r
 | c::cs,vs,r=>by
   simp only [bl,bx] at r ⊢
   have ⟨v,rest,e,H,m⟩:=r
   exact ⟨v,rest,e,av.dE j d c v H,bl.dE j d cs rest m⟩
def cH.dE {E E':Env} {w:World} (j:∀ i x,E'.μ (ρ i)=some x->E.μ i=some x) (d:∀ b,E'.ok b->E.ok b) {b:Nat}:∀ (es:List aa) (o:Nat),cH E' w b o (bx ρ es)->cH E w b o es
 | [],_,_=>by simp [cH]
 | .agg cs::es,o,r=>by
   simp only [cH,bx,aa.aX,mA] at r ⊢
   exact ⟨eE.dE j d cs o r.1,cH.dE j d es _ r.2⟩
 | .bool b1::es,o,r=>by simp only [cH,bx,aa.aX] at r ⊢;have ⟨⟨v,n,l⟩,m⟩:=r;exact ⟨⟨v,n,av.dE j d (.bool b1) v l⟩,cH.dE j d es _ m⟩
 | .int q s::es,o,r=>by simp only [cH,bx,aa.aX] at r ⊢;have ⟨⟨v,n,l⟩,m⟩:=r;exact ⟨⟨v,n,av.dE j d (.int q s) v l⟩,cH.dE j d es _ m⟩
 | .str q::es,o,r=>by simp only [cH,bx,aa.aX] at r ⊢;have ⟨⟨v,n,l⟩,m⟩:=r;exact ⟨⟨v,n,av.dE j d (.str q) v l⟩,cH.dE j d es _ m⟩
 | .jj::es,o,r=>by simp only [cH,bx,aa.aX] at r ⊢;have ⟨⟨v,n,l⟩,m⟩:=r;exact ⟨⟨v,n,av.dE j d .jj v l⟩,cH.dE j d es _ m⟩
 | .j2::es,o,r=>by simp only [cH,bx,aa.aX] at r ⊢;have ⟨⟨v,n,l⟩,m⟩:=r;exact ⟨⟨v,n,av.dE j d .j2 v l⟩,cH.dE j d es _ m⟩
 | .aq::es,o,r=>by simp only [cH,bx,aa.aX] at r ⊢;have ⟨⟨v,n,l⟩,m⟩:=r;exact ⟨⟨v,n,av.dE j d .aq v l⟩,cH.dE j d es _ m⟩
 | .top::es,o,r=>by simp only [cH,bx,aa.aX] at r ⊢;have ⟨⟨v,n,l⟩,m⟩:=r;exact ⟨⟨v,n,av.dE j d .top v l⟩,cH.dE j d es _ m⟩
 | .jP::es,o,r=>by simp only [cH,bx,aa.aX] at r ⊢;have ⟨⟨v,n,l⟩,m⟩:=r;exact ⟨⟨v,n,av.dE j d .jP v l⟩,cH.dE j d es _ m⟩
 | .nc q::es,o,r=>by simp only [cH,bx,aa.aX] at r ⊢;have ⟨⟨v,n,l⟩,m⟩:=r;exact ⟨⟨v,n,av.dE j d (.nc q) v l⟩,cH.dE j d es _ m⟩
 | .fn q s u::es,o,r=>by simp only [cH,bx,aa.aX] at r ⊢;have ⟨⟨v,n,l⟩,m⟩:=r;exact ⟨⟨v,n,av.dE j d (.fn q s u) v (by simpa only [aa.aX] using l)⟩,cH.dE j d es _ m⟩
 | .aS q::es,o,r=>by simp only [cH,bx,aa.aX] at r ⊢;have ⟨⟨v,n,l⟩,m⟩:=r;exact ⟨⟨v,n,av.dE j d (.aS q) v (by simpa only [aa.aX] using l)⟩,cH.dE j d es _ m⟩
 | .sl q s::es,o,r=>by simp only [cH,bx,aa.aX] at r ⊢;have ⟨⟨v,n,l⟩,m⟩:=r;exact ⟨⟨v,n,av.dE j d (.sl q s) v (by simpa only [aa.aX] using l)⟩,cH.dE j d es _ m⟩
 | .dQ q s::es,o,r=>by simp only [cH,bx,aa.aX] at r ⊢;have ⟨⟨v,n,l⟩,m⟩:=r;exact ⟨⟨v,n,av.dE j d (.dQ q s) v (by simpa only [aa.aX] using l)⟩,cH.dE j d es _ m⟩
 | .ai q s u I G::es,o,r=>by simp only [cH,bx,aa.aX] at r ⊢;have ⟨⟨v,n,l⟩,m⟩:=r;exact ⟨⟨v,n,av.dE j d (.ai q s u I G) v (by simpa only [aa.aX] using l)⟩,cH.dE j d es _ m⟩
 | .ref q s u::es,o,r=>by simp only [cH,bx,aa.aX] at r ⊢;have ⟨⟨v,n,l⟩,m⟩:=r;exact ⟨⟨v,n,av.dE j d (.ref q s u) v (by simpa only [aa.aX] using l)⟩,cH.dE j d es _ m⟩
 | .c2 q s::es,o,r=>by simp only [cH,bx,aa.aX] at r ⊢;have ⟨⟨v,n,l⟩,m⟩:=r;exact ⟨⟨v,n,av.dE j d (.c2 q s) v (by simpa only [aa.aX] using l)⟩,cH.dE j d es _ m⟩
def eE.dE {E E':Env} {w:World} (j:∀ i x,E'.μ (ρ i)=some x->E.μ i=some x) (d:∀ b,E'.ok b->E.ok b) {b:Nat}:∀ (cs:List aa) (o:Nat),eE E' w b o (bx ρ cs)->eE E w b o cs
 | [],_,_=>by simp [eE]
 | c::cs,o,r=>by
   simp only [eE,bx] at r ⊢
   have ⟨⟨v,n,l⟩,m⟩:=r
   exact ⟨⟨v,n,av.dE j d c v l⟩,eE.dE j d cs _ m⟩
end
def ey.aX {E E':Env} {w:World} (c:∀ i x,E.μ i=some x->E'.μ (ρ i)=some x) (a:∀ b,E.ok b->E'.ok b) {b o:Nat} {cs:List aa} (h:ey E w b o cs):ey E' w b o (bx ρ cs) :=
 qI.1 (eE.aX c a cs o (qI.2 h))
def ey.dE {E E':Env} {w:World} (c:∀ i x,E'.μ (ρ i)=some x->E.μ i=some x) (a:∀ b,E'.ok b->E.ok b) {b o:Nat} {cs:List aa} (h:ey E' w b o (bx ρ cs)):ey E w b o cs :=
 qI.1 (eE.dE c a cs o (qI.2 h))
def bN (n:Nat) (π : Id) (κ : Nat->Id):Id->Id
 | []=>[]
 | a :: c=>match c with
   | []=>match a with | 0 => π | k+1 => κ (k+1)
   | b::d=>match b,d with
     | 0,[]=>(n+a) :: π
     | _,_=>a::bN n π κ c
def jm {n:Nat} {π : Id} {κ : Nat->Id} {q:Nat}:∀ l:Id,bN n π κ (l++[q,0])=l++((n+q) :: π)
 | []=>rfl
 | [a]=>by simp [bN]
 | a::b::l=>by
   have:=jm (n:=n) (π := π) (κ := κ) (q:=q) (b::l)
   simp only [sC] at this ⊢
   rw [<- this]
   cases h:l++[q,0] with
   | nil=>simp at h
   | cons c cs=>cases b<;>simp [bN]
def IQ {i:Id} (h:[0] <:+ i):i=[0] \/ ∃ l q,i=l++[q,0]:=by
 obtain ⟨t,rfl⟩:=h
 rcases List.eq_nil_or_concat t with rfl | ⟨l,q,rfl⟩
 exact .inl rfl
 exact .inr ⟨l,q,by simp⟩
def alY {n:Nat} {π : Id} {κ : Nat->Id} {i j:Id} (c:[0] <:+ i) (b:[0] <:+ j) (h:bN n π κ i=bN n π κ j):i=j:=by
 rcases IQ c with rfl | ⟨l,q,rfl⟩<;>rcases IQ b with rfl | ⟨l',q',rfl⟩
 rfl
 rw [jm] at h;have:=congrArg uc h;simp [bN] at this;omega
 rw [jm] at h;have:=congrArg uc h;simp [bN] at this;omega
 rw [jm,jm] at h
 have d:l.length=l'.length:=by have:=congrArg uc h;simp at this;omega
 have ⟨h1,a⟩:=List.append_inj h d
 simp only [O2,and_true] at a
 have:q=q':=by omega
 rw [h1,this]
end
section
variable {P:Program} {G:Nat->Option (List aa)}
open Classical in
noncomputable def BO (n:Nat) (π : Id) (κ : Nat->Id) (E jF:Env):Env:=⟨fun j=>if h:∃ i,[0] <:+ i/\bN n π κ i=j then jF.μ h.choose else E.μ j,jF.ok⟩
def RF {n:Nat} {π : Id} {κ : Nat->Id} {E jF:Env} {i:Id} (b:[0] <:+ i):(BO n π κ E jF).μ (bN n π κ i)=jF.μ i:=by
 have a:∃ c,[0] <:+ c/\bN n π κ c=bN n π κ i:=⟨i,b,rfl⟩
 simp only [BO]
 rw [dif_pos a]
 exact congrArg jF.μ (alY a.choose_spec.1 b a.choose_spec.2)
def FV {n:Nat} {π : Id} {κ : Nat->Id} {E jF:Env} {j:Id} (h:∀ i,[0] <:+ i->bN n π κ i≠j):(BO n π κ E jF).μ j=E.μ j:=by
 simp only [BO]
 rw [dif_neg];rintro ⟨i,a,e⟩;exact h i a e
def Lf {n:Nat} {π : Id} {κ : Nat->Id} {E:Env} (a:l8 E π n) {i:Id} (b:[0] <:+ i):E.μ (bN n π κ i)=none:=by
 rcases IQ b with rfl | ⟨l,q,rfl⟩
 exact a.self
 rw [jm];exact a.at (q:=n+q) (ud _ _) ⟨l,rfl⟩
def yt (ρ : Id->Id) (a σ : aL):Prop:=(∀ i b,a i=some b -> σ (ρ i)=some (b.aX ρ))/\∀ j, σ j=none \/ ∃ i b,a i=some b /\ ρ i=j /\ σ j=some (b.aX ρ)
def bu.aX {eB:cB} {PZ:cw->dt->Prop} {t0:List aa} {pw σ : aL} {n:Nat} {π : Id} {κ : Nat->Id} (h:bu P G [0] eB PZ ⟨t0,pw,0⟩)
   (fJ:∀ i b,pw i=some b -> σ (bN n π κ i)=some (b.aX (bN n π κ))) (afa:∀ i j,pw i≠none->pw j≠none->i≠j->bN n π κ i≠bN n π κ j) :
   bu P G π eB (λ e s=>∃ s0,PZ e s0/\s.t=bx (bN n π κ) s0.t/\s.n=n+s0.n/\yt (bN n π κ) s0.σ s.σ) ⟨bx (bN n π κ) t0, σ,n⟩:=by
 intro c hc own E w a R hm db
 have ⟨B9,D,o,ae0⟩:=hm
 let jF:Env:=⟨λ i=>E.μ (bN n π κ i),E.ok⟩
 have afl:py G [0] own jF w ⟨t0,pw,0⟩ a:=by
   refine ⟨bl.dE (E:=jF) (E':=E) (λ i x r=>r) (λ b hb=>hb) _ _ B9, ?_, λ j K _=>Lf o K,ae0⟩
   refine ⟨D.hh, λ id au F => ?_, λ i j x y d C Q r hy => ?_,D.jH,D.new⟩
   have ⟨g,N,m,ty,f⟩:=D.blk _ _ (fJ id au F)
   refine ⟨g,N,m,ty,f.μ,f.heap,f.size, ?_,f.most,f.own,f.ok,f.no,Ni f.k, ?_⟩
   have:=f.len;rwa [show (au.aX (bN n π κ)).els.length=au.els.length from mA] at this
   have:=f.row
   rw [show (au.aX (bN n π κ)).els=bx (bN n π κ) au.els from rfl,H8] at this
   exact ey.dE (E:=jF) (E':=E) (λ i x r=>r) (λ b hb=>hb) this
   have ⟨b,hb⟩:=Jt.1 d
   have ⟨b',B7⟩:=Jt.1 C
   exact D.inj _ _ x y (by show σ _≠none;rw [fJ i b hb];simp) (by show σ _≠none;rw [fJ j b' B7];simp) (afa i j d C Q) r hy
 refine h c hc own jF w a R afl ?_
 intro e s0 M w' a' hq p afk
 have ⟨X,d,A,O⟩:=afk
 let E':=BO n π κ E M
 have I:∀ i x,M.μ i=some x->E'.μ (bN n π κ i)=some x:=by
   intro i x r
   by_cases h0:[0] <:+ i
   exact (RF h0).trans r
   have h1:E.μ (bN n π κ i)=some x:=by have:=p.ids i h0;rw [r] at this;exact this.symm
   exact (FV λ B d e=>by have:=Lf (κ := κ) o d;rw [e,h1] at this;cases this).trans h1
 have U:∀ j x,E.μ j=some x->E'.μ j=some x := λ j x r=>(FV λ B d e=>by have:=Lf (κ := κ) o d;rw [e,r] at this;cases this).trans r
 have hS:∀ j b,(∃ i u,s0.σ i=some u/\bN n π κ i=j/\b=u.aX (bN n π κ))->∃ i g N m ty u,s0.σ i=some u/\bN n π κ i=j/\px M own w' i u g N m ty/\px E' own w' j b g N m ty:=by
   rintro j b ⟨i,u,h1,rfl,rfl⟩
   have ⟨g,N,m,ty,f⟩:=d.blk i u h1
   refine ⟨i,g,N,m,ty,u,h1,rfl,f,I _ _ f.μ,f.heap,f.size, ?_,f.most,f.own,f.ok,f.no,Ia f.k, ?_⟩
   rw [show (u.aX (bN n π κ)).els.length=u.els.length from mA];exact f.len
   rw [show (u.aX (bN n π κ)).els=bx (bN n π κ) u.els from rfl,H8]
   exact ey.aX I (λ b hb=>hb) f.row
 classical
 let wb:aL := λ j=>if h:∃ i b,s0.σ i=some b/\bN n π κ i=j then some (h.choose_spec.choose.aX (bN n π κ)) else none
 have z:∀ j,wb j=none \/ ∃ i b,s0.σ i=some b/\bN n π κ i=j/\wb j=some (b.aX (bN n π κ)) := λ j=>by
   by_cases h:∃ i b,s0.σ i=some b/\bN n π κ i=j
   right;exact ⟨h.choose,h.choose_spec.choose,h.choose_spec.choose_spec.1,h.choose_spec.choose_spec.2,dif_pos h⟩
   left;exact dif_neg h
 have V:Inv G own E' w' wb:=by
   refine ⟨d.hh, λ j au F => ?_, λ j j' x y K C Q r hy => ?_,d.jH,d.new⟩
   rcases z j with h1 | ⟨i,b,h1,T,H⟩
   rw [h1] at F;cases F
   rw [H] at F
   simp only [a7] at F
   have ⟨B,g,N,m,ty,u,_,_,_,f⟩:=hS j au ⟨i,b,h1,T,F.symm⟩
   exact ⟨g,N,m,ty,f⟩
   rcases z j with h1 | ⟨i,b,h1,T,H⟩
   exact absurd h1 K
   rcases z j' with S | ⟨B,b',S,jX,Gk⟩
   exact absurd S C
   have ⟨g,N,m,ty,f⟩:=d.blk i b h1
   have ⟨g',oz,Z,IM,v⟩:=d.blk B b' S
   have e1:=I _ _ f.μ
   have J:=I _ _ v.μ
   rw [T,r] at e1
   rw [jX,hy] at J
   simp only [a7] at e1 J
   rw [e1,J]
   exact d.inj i B _ _ (by rw [h1];simp) (by rw [S];simp) (λ e=>Q (by rw [<- T, <- jX,e])) f.μ v.μ
 have L:∀ i b,s0.σ i=some b->wb (bN n π κ i)=some (b.aX (bN n π κ)) := λ i b h1=>by
   rcases z (bN n π κ i) with T | ⟨B,b',H,S,jX⟩
   exact absurd ((dif_pos ⟨i,b,h1,rfl⟩).symm.trans T) (by simp)
   have ⟨g,N,m,ty,f⟩:=d.blk i b h1
   have ⟨g',oz,Z,IM,v⟩:=d.blk B b' H
   by_cases e:B=i
   subst e;rw [h1] at H;cases H;exact jX
   have e1:=I _ _ f.μ
   have J:=I _ _ v.μ
   rw [S,e1] at J
   simp only [a7,cY] at J
   exact absurd J.1.symm (d.inj B i _ _ (by rw [H];simp) (by rw [h1];simp) e v.μ f.μ)
 refine db e ⟨bx (bN n π κ) s0.t,wb,n+s0.n⟩ E' w' a' ⟨s0,hq,rfl,rfl,L,z⟩ ⟨⟨⟨U,p.step.ok,p.step.same⟩,p.os,p.tape,p.output,p.size,p.block,p.qG⟩, λ j K=>FV λ i D e=>K ?_⟩ ⟨bl.aX I (λ b hb=>hb) _ _ X,V, λ j K Y => ?_,O⟩
 rcases IQ D with rfl | ⟨l,q,rfl⟩
 rw [<- e];exact List.suffix_refl _
 rw [jm] at e;rw [<- e];exact ⟨l++[n+q],by simp⟩
 by_cases W:∃ i,[0] <:+ i/\bN n π κ i=j
 obtain ⟨i,GC,rfl⟩:=W
 refine (RF GC).trans (A i GC λ q LI F=>Y (n+q) (by show n+q<n+s0.n;omega) ?_)
 obtain ⟨t,rfl⟩:=F
 rw [jm];exact ⟨t,rfl⟩
 refine (FV λ i D e=>W ⟨i,D,e⟩).trans (o j K λ q LI=>Y q (fv LI (ud _ _)))
def U1 {ρ : Id->Id} {a:Bool} {cs:List aa} {o n:Nat} {v:aa} (h:part a cs o n=some v):part a (bx ρ cs) o n=some (v.aX ρ):=by
 unfold part at h ⊢
 rw [mA]
 split at h
 rename_i h1
 rw [if_pos h1]
 split at h
 rename_i b
 rw [if_pos b]
 cases h
 simp only [aa.aX,jl,Ed,List.map_drop]
 rename_i b
 rw [if_neg b]
 split at h
 rename_i c;rw [if_pos c,jl,iI,h];rfl
 cases h
 cases h
def aoF {ρ : Id->Id} {d σ : aL} (j:yt ρ d σ) {a:Bool} {n:Nat} {x:aa} {r:bM} (h:kV d a n x=some r):∃ f,kV σ a n (x.aX ρ)=some f/\f.val=r.val.aX ρ := by
 cases x<;>simp only [kV,reduceCtorEq] at h
 case ref id e o =>
   cases hb:d id with
   | none=>rw [hb] at h;cases h
   | some au =>
     rw [hb] at h
     simp only [] at h
     cases b:au.els[e]? with
     | none=>rw [b] at h;cases h
     | some el =>
       rw [b] at h
       simp only [ew] at h
       obtain ⟨v,c,rfl⟩:=h
       refine ⟨{ val:=v.aX ρ,rd:=[ρ id] }, ?_,rfl⟩
       have i:(au.aX ρ).els[e]? = some (el.aX ρ):=by
         show (bx ρ au.els)[e]? = _
         rw [jl,iI,b];rfl
       simp only [aa.aX,kV,j.1 id au hb,i,Ng,U1 c,e5]
 case c2 cs o =>
   simp only [ew] at h
   obtain ⟨v,c,rfl⟩:=h
   refine ⟨{ val:=v.aX ρ }, ?_,rfl⟩
   simp only [aa.aX,kV,U1 c,e5]
def Sg {ρ : Id->Id} {t:List aa} {k:Nat}:(bx ρ t).getD k (.aS [])=(t.getD k (.aS [])).aX ρ := by
 rw [dJ,dJ,jl,iI]
 cases t[k]? <;> rfl
def alR {ρ : Id->Id} {s0 s:dt} (b:s.t=bx ρ s0.t) (f:yt ρ s0.σ s.σ) {x:oA} {v:aa} (h:pR s0 x=some v):pR s x=some (v.aX ρ):=by
 cases x with
 | tmp k=>simp only [pR,a7] at h ⊢;rw [b,Sg,h]
 | cell k c n =>
   simp only [pR,ew] at h ⊢
   obtain ⟨r,d,rfl⟩:=h
   have ⟨e,h1,g⟩:=aoF f d
   exact ⟨e,by rw [b,Sg];exact h1,g⟩
def T1 {ρ : Id->Id} {s0 s:dt} (c:s.t=bx ρ s0.t) (d:yt ρ s0.σ s.σ):∀ {a:List oA} {vs:List aa},a.mapM (pR s0)=some vs->a.mapM (pR s)=some (bx ρ vs)
 | [],vs,h=>by simp only [List.mapM_nil,ye,a7] at h ⊢;subst h;rfl
 | x::a,vs,h=>by
   simp only [uk,Option.bind_eq_bind,yf,ye,a7] at h ⊢
   obtain ⟨v,e,f,b,rfl⟩:=h
   exact ⟨_,alR c d e,_,T1 c d b,rfl⟩
def ajI {ρ : Id->Id} {s0 s:dt} (c:s.t=bx ρ s0.t) (d:yt ρ s0.σ s.σ) {a:List oA} {v:aa} (h:r3 a s0=some v):r3 a s=some (v.aX ρ):=by
 unfold r3 at h ⊢
 cases b:a.mapM (pR s0) with
 | none=>rw [b] at h;cases h
 | some vs =>
   rw [b] at h
   rw [T1 c d b]
   match vs,h with
   | [],h=>cases h;rfl
   | [v],h=>cases h;rfl
   | v::e::vs,h=>cases h;rfl
abbrev eK:=List (Id × Option aN)
def nb:Id->Id->Bool
 | [],[]=>true
 | a::c,b::d=>qX a b&&nb c d
 | _,_=>false
def tu:∀ {a b:Id},nb a b=true↔a=b
 | [],[]=>by simp [nb]
 | a::c,b::d=>by simp only [nb,hJ,Nat.beq_eq,tu (a:=c),O2]
 | [],_::_=>by simp [nb]
 | _::_,[]=>by simp [nb]
def eK.find:eK->Id->Option aN
 | [],_=>none
 | (j,b)::S,i=>match nb i j with
   | true=>b
   | false=>eK.find S i
def eK.to (S:eK):aL := λ i=>S.find i
def eK.app (S:eK):List (Id × Option aN)->eK
 | []=>S
 | x::up=>eK.app (x::S) up
def eK.anD (i:Id) (b:Option aN) (S:eK):eK.to ((i,b)::S)=S.to.put i b:=by
 funext j
 show eK.find _ j=_
 simp only [eK.find,wa]
 cases h:nb j i with
 | true=>rw [if_pos (tu.1 h)]
 | false=>rw [if_neg (λ e=>by rw [tu.2 e] at h;cases h)];rfl
def eK.N5:∀ (up:List (Id × Option aN)) (S:eK),(S.app up).to=S.to.app up
 | [],_=>rfl
 | (i,b)::up,S=>by simp only [eK.app,l6,eK.N5 up,eK.anD]
inductive aZ (P:Program) (G:Nat->Option (List aa)) where
 | ev (k:Nat) (o:Option bM) (r:bM) (h:o=some r)
 | eq (k:Nat) (a b:aa) (h:a=b)
 | rA (k:Nat) (x b:Bool) (h:x=b)
 | st (k:Nat) (S:List (Id × aN)) (op:dK aa) (r:Id->bM) (h:∀ σ p,(∀ x∈S, σ x.1=some x.2)->bS σ p op=some (r p))
 | fN (f:FuncId) (args:List aa) (r:aa) (h:ag P G f args r) (hp:∀ c∈args,b8 c)
 | rel (f:FuncId) (args:List aa) (S:List (Id × aN)) (r:Id->bM) (h:∀ p,(∀ x∈S, ¬ p <:+ x.1)->cu P G f args p S (r p)) (hr:∀ p,∀ x∈S,x.1∈(r p).rd)
 | iA (π : Id) (c:cB) (t0:List aa) (Bq:List (Id × aN)) (n0:Nat) (e:cw) (t1:List aa) (sW:eK) (n1:Nat) (h:bu P G π (.loop c) (fun e' s'=>e'=e/\bz G π s' ⟨t1,sW.to,n1⟩) ⟨t0,aL.of Bq,n0⟩)
inductive l7 where
 | ev (o:Option bM)
 | val (a:aa)
 | op (o:dK aa) (S:List (Option aN))
 | call (f:FuncId) (args:List aa) (S:List (Option aN))
 | iA (π : Id) (c:cB) (t:List aa) (S:List (Option aN))
def Dr:Id->Id->Bool
 | p,[]=>nb p []
 | p,a::b=>nb p (a::b)||Dr p b
def V5 {p:Id}:∀ {i:Id},Dr p i=false -> ¬ p <:+ i
 | [],h=>by
   simp only [Dr] at h
   intro b
   have:p=[]:=List.suffix_nil.1 b
   rw [tu.2 this] at h;cases h
 | a::c,h=>by
   simp only [Dr,Bool.or_eq_false_iff] at h
   intro b
   rcases List.suffix_cons_iff.1 b with e | e
   rw [tu.2 e] at h;cases h.1
   exact V5 h.2 e
structure uG where
 t:List aa
 S:eK
 n:Nat
def uG.to (s:uG):dt:=⟨s.t,s.S.to,s.n⟩
def vi:List aa->List aa->List aa
 | c::cs,d::ds=>(match d with | .top => .top | _=>c)::vi cs ds
 | cs,_=>cs
def Mq:∀ {cs ds:List aa},vi cs ds=ds->gF cs ds
 | [],[],_=>trivial
 | c::cs,d::ds,h=>by
   simp only [vi,O2] at h
   refine ⟨?_,Mq h.2⟩
   cases d<;>simp_all
 | [],_::_,h=>by simp [vi] at h
 | _::_,[],h=>by simp [vi] at h
def keyOf (o:c8):Nat:=match o.dst with
 | some d=>d
 | none=>match o.op with
   | .store _ (.t x) _=>x+100000
   | _=>0
def CU (a b:List Id):Bool:=a.all λ i => !b.any λ j=>nb i j
def Qe (a b:bM):Bool:=CU (a.up.map (·.1)) b.rd&&CU (a.up.map (·.1)) (b.up.map (·.1))&&CU (b.up.map (·.1)) a.rd
def Fk (c:List bM) (d:List (Nat × Nat)):Bool:=d.all λ q=>match c[q.1]?,c[q.2]? with
 | some a,some b=>Qe a b
 | _,_=>true
def MK {a b:List Id} (h:CU a b=true) {i:Id} (c:i∈a):i ∉ b:=by
 simp only [CU,eO,Bool.not_eq_true',List.any_eq_false] at h
 exact λ d=>h i c i d (tu.2 rfl)
def aaA {d:List bM} {e:List (Nat × Nat)} (h:Fk d e=true):Bt d e:=by
 intro q g a b i hb
 simp only [Fk,eO] at h
 have:=h q g
 rw [i,hb] at this
 simp only [Qe,hJ] at this
 have ⟨⟨h1,j⟩,f⟩:=this
 exact ⟨λ x c=>⟨MK h1 (bn.2 ⟨x,c,rfl⟩),MK j (bn.2 ⟨x,c,rfl⟩)⟩, λ x c=>MK f (bn.2 ⟨x,c,rfl⟩)⟩
abbrev mY:=List (l7 × l7)
def si (S:eK) (p:Id) (op:dK aa) (a:List (aZ P G)):Option (mY × List (aZ P G) × bM):=match bS S.to p op with
 | some r=>some ([],a,r)
 | none=>none
def NZ (S:eK) (p:Id) (k:Nat) (op:dK aa) (d:List (aZ P G)):Option (mY × List (aZ P G) × bM) :=
 match op with
 | .call f j=>match f with
   | .fn (.func g) first cap=>match d with
     | .fN h args' r _ _::c=>some ([(.call g (first++j++cap) [], .call h args' [])],c,{ val:=r })
     | .rel h args' e r _ _::c=>match e.all λ x => !Dr p x.1 with
       | true=>some ([(.call g (first++j++cap) (e.map λ x=>S.find x.1), .call h args' (e.map λ x=>some x.2))],c,r p)
       | false=>none
     | _=>none
   | _=>none
 | op=>match d with
   | .ev k' o r _::c=>match qX k' k with
     | true=>some ([(.ev (bS S.to p op), .ev o)],c,r)
     | false=>si S p op d
   | .eq k' a b _::c=>match qX k' k with
     | true=>match bS S.to p op with
       | some r=>some ([(.val r.val, .val a)],c,{ r with val:=b })
       | none=>none
     | false=>si S p op d
   | .st k' e i r _::c=>match qX k' k with
     | true=>some ([(.op op (e.map λ x=>S.find x.1), .op i (e.map λ x=>some x.2))],c,r p)
     | false=>si S p op d
   | _=>si S p op d
def sj (π : Id) (a:Nat):List c8->Nat->List bM->List aa->eK->List (aZ P G)->Option (mY × List (aZ P G) × List bM × List aa × eK)
 | [],_,b,t,S,d=>some ([],d,b,t,S)
 | o :: os,i,b,t,S,d=>match od t o.guard with
   | none=>none
   | some false=>sj π a os (i+1) ({ val := .aS [] }::b) (h6 t o.dst (.aS [])) S d
   | some true=>match NZ S ((a+i) :: π) (keyOf o) (o.op.map (dD.ev G t)) d with
     | none=>none
     | some (c,e,r)=>match sj π a os (i+1) (r::b) (h6 t o.dst r.val) (S.app r.up) e with
       | none=>none
       | some (cs,x)=>some (c++cs,x)
def Qq:dD->Nat
 | .t k=>k
 | _=>0
def bX : Bool->Nat->cB->Id->List (aZ P G)->uG->Option (mY × List (aZ P G) × cw × uG)
 | _,0,_,_,_,_=>none
 | z,m+1,c, π,f,⟨t,S,n⟩=>match c with
   | .skip=>some ([],f, .normal,⟨t,S,n⟩)
   | .ret=>some ([],f, .ret,⟨t,S,n⟩)
   | .exit i=>some ([],f, .exit i,⟨t,S,n⟩)
   | .seq a b=>match bX true m a π f ⟨t,S,n⟩ with
     | some (cs,d, .normal,s')=>match bX true m b π d s' with
       | some (g,x)=>some (cs++g,x)
       | none=>none
     | r=>r
   | .cond c a b=>match f with
     | .rA k x v _::d=>match qX k (Qq c) with
       | true=>match bX true m (match v with | true=>a | false=>b) π d ⟨t,S,n⟩ with
         | some (cs,y)=>some ((.val (c.ev G t), .val (.bool x))::cs,y)
         | none=>none
       | false=>match c.ev G t with
         | .bool true=>bX true m a π f ⟨t,S,n⟩
         | .bool false=>bX true m b π f ⟨t,S,n⟩
         | _=>none
     | _=>match c.ev G t with
       | .bool true=>bX true m a π f ⟨t,S,n⟩
       | .bool false=>bX true m b π f ⟨t,S,n⟩
       | _=>none
   | .block i c=>match bX true m c π f ⟨t,S,n⟩ with
     | some (cs,d, .exit j,s')=>match qX j i with
       | true=>some (cs,d, .normal,s')
       | false=>some (cs,d, .exit j,s')
     | r=>r
   | .loop c=>match z,f with
     | true, .iA u c' l o C e s w B _::d=>match Nat.ble n C with
       | true=>some ([(.iA π c (vi t l) (o.map λ x=>S.find x.1), .iA u c' l (o.map λ x=>some x.2))],d,e,⟨s,w,B⟩)
       | false=>none
     | _,_=>match bX true m c π f ⟨t,S,n⟩ with
       | some (cs,d, .normal,s')=>match bX false m (.loop c) π d s' with
         | some (g,x)=>some (cs++g,x)
         | none=>none
       | r=>r
   | .iB h os=>match sj π n os 0 [] t S f with
     | none=>none
     | some (cs,d,A,q,p)=>match h with
       | none=>some (cs,d, .normal,⟨q,p,n+os.length⟩)
       | some h=>match Fk A.reverse h with
         | true=>some (cs,d, .normal,⟨q,p,n+os.length⟩)
         | false=>none
def qM (z:Bool) (m:Nat) (c:cB) (π : Id) (f:List (aZ P G)) (s:uG):bX z (m+1) c π f s=match c with
     | .skip=>some ([],f, .normal,s)
     | .ret=>some ([],f, .ret,s)
     | .exit i=>some ([],f, .exit i,s)
     | .seq a b=>match bX true m a π f s with
       | some (cs,d, .normal,s')=>match bX true m b π d s' with
         | some (g,x)=>some (cs++g,x)
         | none=>none
       | r=>r
     | .cond c a b=>match f with
       | .rA k x v _::d=>match qX k (Qq c) with
         | true=>match bX true m (match v with | true=>a | false=>b) π d s with
           | some (cs,y)=>some ((.val (c.ev G s.t), .val (.bool x))::cs,y)
           | none=>none
         | false=>match c.ev G s.t with
           | .bool true=>bX true m a π f s
           | .bool false=>bX true m b π f s
           | _=>none
       | _=>match c.ev G s.t with
         | .bool true=>bX true m a π f s
         | .bool false=>bX true m b π f s
         | _=>none
     | .block i c=>match bX true m c π f s with
       | some (cs,d, .exit j,s')=>match qX j i with
         | true=>some (cs,d, .normal,s')
         | false=>some (cs,d, .exit j,s')
       | r=>r
     | .loop c=>match z,f with
       | true, .iA q c' l o B e p u A _::d=>match Nat.ble s.n B with
         | true=>some ([(.iA π c (vi s.t l) (o.map λ x=>s.S.find x.1), .iA q c' l (o.map λ x=>some x.2))],d,e,⟨p,u,A⟩)
         | false=>none
       | _,_=>match bX true m c π f s with
         | some (cs,d, .normal,s')=>match bX false m (.loop c) π d s' with
           | some (g,x)=>some (cs++g,x)
           | none=>none
         | r=>r
     | .iB h os=>match sj π s.n os 0 [] s.t s.S f with
       | none=>none
       | some (cs,d,w,t,S)=>match h with
         | none=>some (cs,d, .normal,⟨t,S,s.n+os.length⟩)
         | some h=>match Fk w.reverse h with
           | true=>some (cs,d, .normal,⟨t,S,s.n+os.length⟩)
           | false=>none:=by
 have ⟨t,S,n⟩:=s
 rw [bX.eq_def]
def jD (cs:mY):Prop:=∀ x∈cs,x.1=x.2
def jD.of_map {cs:mY} (h:cs.map (·.1)=cs.map (·.2)):jD cs:=by
 intro x b
 have ⟨i,a⟩:=YZ b
 have:=congrArg (·[i]?) h
 simpa [iI,a] using this
def jD.left {a b:mY} (h:jD (a++b)):jD a := λ x c=>h x (nB _ c)
def jD.right {a b:mY} (h:jD (a++b)):jD b := λ x c=>h x (qY _ c)
def yR {S:eK} {a:List (Id × aN)} (h:(a.map λ x=>S.find x.1)=a.map λ x=>some x.2):∀ x∈a,S.to x.1=some x.2:=by
 intro x c
 have ⟨i,b⟩:=YZ c
 have:=congrArg (·[i]?) h
 have e:S.find x.1=some x.2:=by simpa [iI,b] using this
 exact e
def W9 {S:eK} {p:Id} {k:Nat} {op:dK aa} {i c:List (aZ P G)} {cs:mY} {r:bM} (h:NZ S p k op i=some (cs,c,r)) (l:jD cs) {K:bM->Prop} (m:K r):tX P G S.to p op K:=by
 have g:∀ {cs c},si S p op i=some (cs,c,r)->op.GV=false->tX P G S.to p op K:=by
   intro cs c h d
   unfold si at h
   rw [Jb d]
   split at h
   rename_i n s;simp only [a7,cY] at h;obtain ⟨_,_,rfl⟩:=h;(try rw [s]);exact m
   cases h
 have j:∀ {cs c},op.GV=false->jD cs->(match i with
   | .ev k' o r _::c=>match qX k' k with
     | true=>some ([((l7.ev (bS S.to p op)), .ev o)],c,r)
     | false=>si S p op i
   | .eq k' a b _::c=>match qX k' k with
     | true=>match bS S.to p op with
       | some r=>some ([(.val r.val, .val a)],c,{ r with val:=b })
       | none=>none
     | false=>si S p op i
   | .st k' t q r _::c=>match qX k' k with
     | true=>some ([(.op op (t.map λ x=>S.find x.1), .op q (t.map λ x=>some x.2))],c,r p)
     | false=>si S p op i
   | _=>si S p op i)=some (cs,c,r)->tX P G S.to p op K:=by
   intro cs c d l h
   cases i with
   | nil=>exact g h d
   | cons x w =>
     cases x with
     | ev k' o n u =>
       simp only [] at h
       split at h
       simp only [a7,cY] at h
       obtain ⟨rfl,_,rfl⟩:=h
       have:=l _ (bJ.2 rfl)
       simp only [l7.ev.injEq] at this
       rw [Jb d,this,u];exact m
       exact g h d
     | eq k' a b v =>
       simp only [] at h
       split at h
       split at h
       rename_i n s
       simp only [a7,cY] at h
       obtain ⟨rfl,_,rfl⟩:=h
       have:=l _ (bJ.2 rfl)
       simp only [l7.val.injEq] at this
       rw [Jb d,s]
       have e:{ n with val:=b }=n:=by rw [<- v, <- this]
       rw [e] at m;exact m
       cases h
       exact g h d
     | st k' t q n u =>
       simp only [] at h
       split at h
       simp only [a7,cY] at h
       obtain ⟨rfl,_,rfl⟩:=h
       have:=l _ (bJ.2 rfl)
       simp only [l7.op.injEq] at this
       rw [Jb d,this.1,u _ _ (yR this.2)];exact m
       exact g h d
     | _=>exact g h d
 cases op with
 | call f H =>
   simp only [NZ] at h
   simp only [tX]
   split at h
   cases i with
   | nil=>cases h
   | cons x w =>
     cases x with
     | fN E args' n y D =>
       simp only [a7,cY] at h
       obtain ⟨rfl,_,rfl⟩:=h
       have:=l _ (bJ.2 rfl)
       simp only [l7.call.injEq,and_true] at this
       obtain ⟨rfl,e⟩:=this
       exact ⟨[],_,e▸cu.UB y D p,by simp,by simp,m⟩
     | rel E args' t n y s =>
       simp only [] at h
       split at h
       rename_i z
       simp only [a7,cY] at h
       obtain ⟨rfl,_,rfl⟩:=h
       have:=l _ (bJ.2 rfl)
       simp only [l7.call.injEq] at this
       obtain ⟨rfl,e,B⟩:=this
       refine ⟨t,_,e▸y p λ x F=>V5 ?_,yR B,s p,m⟩
       have:=eO.1 z x F
       simpa using this
       cases h
     | _=>cases h
   cases h
 | _=>exact j rfl l h
def NT {π : Id} {b:Nat} {k:List bM} {m:List aa} {l:eK} {e:List (aZ P G)} {K:List bM->List aa->aL->Prop} (j:K k.reverse m l.to) :
   ∀ (os:List c8) (i:Nat) (a:List bM) (t:List aa) (S:eK) (g:List (aZ P G)) (cs:mY),sj π b os i a t S g=some (cs,e,k,m,l)->jD cs->p5 P G π b K os i a t S.to
 | [],i,a,t,S,g,cs,h,_=>by
   simp only [sj,a7,cY] at h
   have ⟨_,_,rfl,rfl,rfl⟩:=h
   exact j
 | o::os,i,a,t,S,g,cs,h,f=>by
   simp only [sj] at h
   simp only [p5]
   split at h
   cases h
   rename_i d;rw [d];exact NT j os _ _ _ _ _ _ h f
   rename_i d
   rw [d]
   split at h
   cases h
   rename_i c q r n
   split at h
   cases h
   rename_i p x s
   simp only [a7,cY] at h
   obtain ⟨rfl,rfl⟩:=h
   have:=NT j os _ _ _ _ _ _ s f.right
   rw [eK.N5] at this
   exact W9 n f.left this
def NU {π : Id} {a:Nat} {m:List bM} {k:List aa} {l:eK} {e:List (aZ P G)} {K:List aa->aL->Prop} (j:K k l.to) :
   ∀ (os:List c8) (i:Nat) (b:List bM) (t:List aa) (S:eK) (f:List (aZ P G)) (cs:mY),sj π a os i b t S f=some (cs,e,m,k,l)->jD cs->qS P G π a K os i t S.to
 | [],i,b,t,S,f,cs,h,_=>by
   simp only [sj,a7,cY] at h
   have ⟨_,_,rfl,rfl,rfl⟩:=h
   exact j
 | o::os,i,b,t,S,f,cs,h,g=>by
   simp only [sj] at h
   simp only [qS]
   split at h
   cases h
   rename_i d;rw [d];exact NU j os _ _ _ _ _ _ h g
   rename_i d
   rw [d]
   split at h
   cases h
   rename_i c s r q
   split at h
   cases h
   rename_i n x p
   simp only [a7,cY] at h
   obtain ⟨rfl,rfl⟩:=h
   have:=NU j os _ _ _ _ _ _ p g.right
   rw [eK.N5] at this
   exact W9 q g.left this
def W7 {c:cB} {π : Id}:∀ (m:Nat),(∀ k<m,∀ (b a:List (aZ P G)) cs s s' e,bX true k c π b s=some (cs,a,e,s')->jD cs->bu P G π c (λ d f=>d=e/\f=s'.to) s.to) ->
   ∀ (b a:List (aZ P G)) cs s s' e,bX false m (.loop c) π b s=some (cs,a,e,s')->jD cs->∃ n,Fc P G π c (λ d f=>d=e/\f=s'.to) n s.to
 | 0,_,_,_,_,_,_,_,h,_=>by simp [bX] at h
 | m+1,hb,b,a,cs,s,s',e,h,l=>by
   simp only [qM] at h
   split at h
   rename_i u g p h1
   split at h
   rename_i w x v
   simp only [a7,cY] at h
   obtain ⟨rfl,rfl⟩:=h
   obtain ⟨n,r⟩:=W7 m (λ k y=>hb k (by omega)) g a w p s' e v l.right
   refine ⟨n+1,(hb m (by omega) b g u s p _ h1 l.left).mono λ d f o => ?_⟩
   obtain ⟨rfl,rfl⟩:=o
   exact r
   cases h
   rename_i h1
   refine ⟨1,(hb m (by omega) b a cs s s' e h l).mono λ d f o => ?_⟩
   obtain ⟨rfl,rfl⟩:=o
   cases d with
   | normal=>exact absurd h (h1 _ _ _)
   | exit i=>exact ⟨rfl,rfl⟩
   | ret=>exact ⟨rfl,rfl⟩
def bu.post {eB:cB} {π : Id} {Q:cw->dt->Prop} {s:dt} (h:bu P G π eB (λ e s'=>∃ b,Q e b/\bz G π s' b) s):bu P G π eB Q s:=by
 intro c j own E w a R g m
 refine h c j own E w a R g λ e s' E' w' a' o f d => ?_
 have ⟨b,h1,l⟩:=o
 have ⟨i,n,k⟩:=l own E' w' a' d
 exact m e b i w' a' h1 (f.trans n) k
def mJ : ∀ (m:Nat) (c:cB) (π : Id) (u d:List (aZ P G)) (cs:mY) (s s':uG) (e:cw),bX true m c π u s=some (cs,d,e,s')->jD cs->bu P G π c (λ g q=>g=e/\q=s'.to) s.to
 | 0,_,_,_,_,_,_,_,_,h,_=>by simp [bX] at h
 | m + 1,c, π,u,d,cs,s,s',e,h,f=>by
   have C:∀ {u d:List (aZ P G)} {cs:mY} {a b:cB} {x:dD},(match x.ev G s.t with
       | .bool true=>bX true m a π u s
       | .bool false=>bX true m b π u s
       | _=>none)=some (cs,d,e,s')->jD cs->bu P G π (.cond x a b) (λ g q=>g=e/\q=s'.to) s.to:=by
     intro u d cs a b x h f
     split at h
     rename_i hb;exact bu.cond hb (by simpa using mJ m a π _ _ _ s s' e h f)
     rename_i hb;exact bu.cond hb (by simpa using mJ m b π _ _ _ s s' e h f)
     cases h
   cases c with
   | skip=>simp only [qM,a7,cY] at h;obtain ⟨_,_,rfl,rfl⟩:=h;exact bu.skip ⟨rfl,rfl⟩
   | ret=>simp only [qM,a7,cY] at h;obtain ⟨_,_,rfl,rfl⟩:=h;exact bu.ret ⟨rfl,rfl⟩
   | exit i=>simp only [qM,a7,cY] at h;obtain ⟨_,_,rfl,rfl⟩:=h;exact bu.exit ⟨rfl,rfl⟩
   | seq a b =>
     simp only [qM] at h
     refine bu.seq ?_
     split at h
     rename_i c1 o E h1
     split at h
     rename_i pC x B
     simp only [a7,cY] at h
     obtain ⟨rfl,rfl⟩:=h
     refine (mJ m a π _ _ _ s E _ h1 f.left).mono λ g q l => ?_
     obtain ⟨rfl,rfl⟩:=l
     exact mJ m b π _ _ _ E s' e B f.right
     cases h
     rename_i h1
     refine (mJ m a π _ _ _ s s' e h f).mono λ g q l => ?_
     obtain ⟨rfl,rfl⟩:=l
     cases g with
     | normal=>exact absurd h (h1 _ _ _)
     | exit i=>exact ⟨rfl,rfl⟩
     | ret=>exact ⟨rfl,rfl⟩
   | cond x a b =>
     simp only [qM] at h
     cases u with
     | nil=>exact C h f
     | cons y o =>
       cases y with
       | rA k y v hv =>
         simp only [] at h
         split at h
         split at h
         rename_i c1 vD h1
         simp only [a7,cY] at h
         obtain ⟨rfl,rfl⟩:=h
         have B:=f _ (cS ..)
         simp only [l7.val.injEq] at B
         have hc':jD c1 := λ z hz=>f z (c5 _ hz)
         refine bu.cond (b:=v) (by rw [<- hv];exact B) ?_
         cases v with
         | true=>simpa using mJ m a π _ _ _ s s' e h1 hc'
         | false=>simpa using mJ m b π _ _ _ s s' e h1 hc'
         cases h
         exact C h f
       | _=>exact C h f
   | block i c =>
     simp only [qM] at h
     refine bu.block ?_
     split at h
     rename_i c1 o j E h1
     split at h
     rename_i hj
     simp only [a7,cY] at h
     obtain ⟨rfl,rfl,rfl,rfl⟩:=h
     refine (mJ m c π _ _ _ s _ _ h1 f).mono λ g q l => ?_
     obtain ⟨rfl,rfl⟩:=l
     simp [Nat.beq_eq▸hj]
     rename_i hj
     simp only [a7,cY] at h
     obtain ⟨rfl,rfl,rfl,rfl⟩:=h
     refine (mJ m c π _ _ _ s _ _ h1 f).mono λ g q l => ?_
     obtain ⟨rfl,rfl⟩:=l
     have : ¬ j=i := λ e=>by rw [e,Nat.beq_refl] at hj;cases hj
     simp [this]
     rename_i h1
     refine (mJ m c π _ _ _ s s' e h f).mono λ g q l => ?_
     obtain ⟨rfl,rfl⟩:=l
     cases g with
     | normal=>exact ⟨rfl,rfl⟩
     | exit i=>exact absurd h (h1 _ _ _ _)
     | ret=>exact ⟨rfl,rfl⟩
   | loop c =>
     have w:∀ {mi:(match bX true m c π u s with
       | some (cs,d, .normal,s')=>match bX false m (.loop c) π d s' with
         | some (acG,x)=>some (cs++acG,x)
         | none=>none
       | r=>r)=some (cs,d,e,s')},bu P G π (.loop c) (λ g q=>g=e/\q=s'.to) s.to:=by
       intro h
       split at h
       rename_i c1 o E h1
       split at h
       rename_i pC x B
       simp only [a7,cY] at h
       obtain ⟨rfl,rfl⟩:=h
       obtain ⟨n,hn⟩:=W7 m (λ m' hm u d cs s s' e hr f=>mJ m' c π u d cs s s' e hr f) o d pC E s' e B f.right
       refine bu.rounds (n+1) ((mJ m c π u o c1 s E _ h1 f.left).mono λ g q l => ?_)
       obtain ⟨rfl,rfl⟩:=l
       exact hn
       cases h
       rename_i h1
       refine bu.rounds 1 ((mJ m c π u d cs s s' e h f).mono λ g q l => ?_)
       obtain ⟨rfl,rfl⟩:=l
       cases g with
       | normal=>exact absurd h (h1 _ _ _)
       | exit i=>exact ⟨rfl,rfl⟩
       | ret=>exact ⟨rfl,rfl⟩
     cases u with
     | nil=>simp only [qM] at h;exact w (mi:=h)
     | cons y o =>
     cases y with
     | iA arz c' t0 Bq n0 e1 t1 sW n1 hv =>
       simp only [qM] at h
       split at h
       rename_i hn
       simp only [a7,cY] at h
       obtain ⟨rfl,_,rfl,rfl⟩:=h
       have B:=f _ (bJ.2 rfl)
       simp only [l7.iA.injEq] at B
       obtain ⟨rfl,rfl,h3,h4⟩:=B
       exact bu.gV (bz.forget (Mq h3) (λ i=>aL.xi (yR h4) i) (Ee hn)) (bu.post (hv.mono λ g q l=>⟨_,⟨l.1,rfl⟩,l.2⟩))
       cases h
     | _=>simp only [qM] at h;exact w (mi:=h)
   | iB ps os =>
     simp only [qM] at h
     split at h
     cases h
     rename_i c1 o rs t S h1
     cases ps with
     | none =>
       simp only [a7,cY] at h
       obtain ⟨rfl,rfl,rfl,rfl⟩:=h
       exact bu.V4 (NU ⟨rfl,rfl⟩ os _ _ _ _ _ _ h1 f)
     | some ps =>
       simp only [] at h
       split at h
       rename_i Lr
       simp only [a7,cY] at h
       obtain ⟨rfl,rfl,rfl,rfl⟩:=h
       exact bu.U0 (NT ⟨aaA Lr,rfl,rfl⟩ os _ _ _ _ _ _ h1 f)
       cases h
 termination_by m=>m
class bg (c:aa):Prop where
 pure:b8 c
 fix:∀ ρ,c.aX ρ = c
class br (l:List aa):Prop where
 pure:∀ c∈l,b8 c
 fix:∀ ρ,bx ρ l=l
instance:br []:=⟨by simp, λ _=>rfl⟩
instance {c:aa} {l:List aa} [h:bg c] [k:br l]:br (c::l):=⟨by intro d hd;rcases cr.1 hd with rfl | hd;exact h.pure;exact k.pure d hd, λ ρ => by simp only [bx,h.fix,k.fix]⟩
instance {b:Bool}:bg (.bool b):=⟨b8.bool b, λ _=>rfl⟩
instance {k:IntKind} {n:Int}:bg (.int k n):=⟨b8.int k n, λ _=>rfl⟩
instance {l:List UInt8}:bg (.str l):=⟨b8.str l, λ _=>rfl⟩
instance:bg .aq:=⟨b8.aq, λ _=>rfl⟩
instance:bg .jj:=⟨b8.jj, λ _=>rfl⟩
instance:bg .j2:=⟨b8.j2, λ _=>rfl⟩
instance {l:List aa} [h:br l]:bg (.agg l):=⟨b8.agg h.pure, λ ρ => by simp only [aa.aX,h.fix]⟩
instance {l:List aa} [h:br l]:bg (.aS l):=⟨b8.aS h.pure, λ ρ => by simp only [aa.aX,h.fix]⟩
instance {l:List aa} {o:Nat} [h:br l]:bg (.c2 l o):=⟨b8.c2 h.pure, λ ρ => by simp only [aa.aX,h.fix]⟩
instance {f:Fn} {a c:List aa} [h:br a] [k:br c]:bg (.fn f a c):=⟨b8.fn h.pure k.pure, λ ρ => by simp only [aa.aX,h.fix,k.fix]⟩
theorem bg.slice {k:Nat} {l:List aa} (h:∀ c∈flat l,b8 c) (b:∀ c∈l,∀ ρ,c.aX ρ = c):bg (.sl k l):=⟨b8.sl h, λ ρ => by
 have e:bx ρ l=l:=by rw [jl];exact (List.map_congr_left λ c a=>b c a ρ).trans (List.map_id l)
 simp only [aa.aX,e]⟩
instance {k:Nat}:bg (.sl k []):=bg.slice (by simp [flat]) (by simp)
def hc {f:FuncId} {args:List aa} {r:aa} (h:ag P G f args r) [p:br args]:aZ P G := .fN f args r h p.pure
def hb (k:Nat) {x b:Bool} (h:x=b):aZ P G := .eq k (.bool x) (.bool b) (by rw [h])
def hw (k:Nat) {x y:Int} (h:x=y) (i:IntKind := .i64):aZ P G := .eq k (.int i x) (.int i y) (by rw [h])
def hv (k:Nat) {a b:aa} (h:a=b):aZ P G := .eq k a b h
def ho (k:Nat) {o:Option aa} {v:aa} (h:o=some v):aZ P G := .ev k (dB o) { val:=v } (by rw [h];rfl)
def u5 (k:Nat) {x b:Bool} (h:x=b):aZ P G := .rA k x b h
abbrev uE (P:Program) (G:Nat->Option (List aa)):=Option (mY × List (aZ P G) × cw × uG)
def GX:cw->Bool
 | .normal=>true
 | .ret=>true
 | _=>false
def Il (a:List oA):uE P G->Option (List l7 × Bool × Option aa)
 | some (cs,_,e,s)=>some (cs.map (·.1),GX e,r3 a s.to)
 | none=>none
def Ij (r:aa):uE P G->Option (List l7 × Bool × Option aa)
 | some (cs,_,_,_)=>some (cs.map (·.2),true,some r)
 | none=>some ([],true,none)
def LW {e:cw} (h:GX e=true):e = .normal \/ e = .ret:=by cases e<;>simp [GX] at h ⊢
abbrev vq (aH:dS) (args:List aa) (a:List (aZ P G)):uE P G:=bX true 1000 aH.body [] a ⟨args++bG (aH.aK-args.length) (.aS []),[],0⟩
def ag.j7 {f:FuncId} {aH:dS} (h:gX P f aH) (c:List (aZ P G)) {args:List aa} {r:aa} [d:bg r] (a:Il aH.results (vq aH args c)=Ij r (vq aH args c):=by kernel_rfl):ag P G f args r:=by
 have ⟨fn,j,hc⟩:=h
 refine ag.MT j hc ?_
 cases b:vq aH args c with
 | none=>rw [b] at a;simp [Il,Ij] at a
 | some y =>
   have ⟨cs,g,e,s⟩:=y
   rw [b] at a
   simp only [Il,Ij,a7,cY] at a
   refine (mJ 1000 _ _ _ _ _ _ _ _ b (jD.of_map a.1)).mono λ l k i => ?_
   obtain ⟨rfl,rfl⟩:=i
   exact ⟨LW a.2.1,r,a.2.2,View.pure d.pure⟩
def mE (a:List oA) (K:List (Id × aN)):uE P G->Option (List l7 × Bool × Option aa × List (Option aN))
 | some (cs,_,e,s)=>some (cs.map (·.1),GX e,r3 a s.to,K.map λ x=>s.S.find x.1)
 | none=>none
def mD (r:aa) (K:List (Id × aN)):uE P G->Option (List l7 × Bool × Option aa × List (Option aN))
 | some (cs,_,_,_)=>some (cs.map (·.2),true,some r,K.map λ x=>some x.2)
 | none=>some ([],true,none,[])
def ag.xM {f:FuncId} {aH:dS} (h:gX P f aH) (c:List (aZ P G)) (K:List (Id × aN)) (eA:aa) {args:List aa} {r:aa} (a:mE aH.results K (vq aH args c)=mD eA K (vq aH args c))
   (hv:∀ σ : aL,(∀ x∈K, σ x.1=some x.2)->View σ eA r):ag P G f args r:=by
 have ⟨fn,g,hc⟩:=h
 refine ag.MT g hc ?_
 cases b:vq aH args c with
 | none=>rw [b] at a;simp [mE,mD] at a
 | some y =>
   have ⟨cs,i,e,s⟩:=y
   rw [b] at a
   simp only [mE,mD,a7,cY] at a
   refine (mJ 1000 _ _ _ _ _ _ _ _ b (jD.of_map a.1)).mono λ j k d => ?_
   obtain ⟨rfl,rfl⟩:=d
   exact ⟨LW a.2.1,eA,a.2.2.1,hv _ (yR a.2.2.2)⟩
def dX (ρ : Id->Id) (K:List (Id × aN)):List (Id × aN):=K.map λ x=>(ρ x.1,x.2.aX ρ)
def cf (K:List (Id × aN)):eK:=K.map λ x=>(x.1,some x.2)
def Cm:∀ {K:List (Id × aN)} {i:Id} {b:aN},(cf K).to i=some b->(i,b)∈K
 | [],_,_,h=>by cases h
 | (j,c)::K,i,b,h=>by
   have a:eK.find ((j,some c)::cf K) i=some b:=h
   simp only [eK.find] at a
   split at a
   rename_i d;cases a;rw [tu.1 d];simp
   exact c5 _ (Cm a)
def xd:∀ {S:List (Id × aN)} {x:Id × aN},(S.map (·.1)).Nodup->x∈S->aL.of S x.1=some x.2
 | [],x,_,b=>by simp at b
 | (j,c)::S,x,a,b=>by
   simp only [hQ,iF] at a
   rcases cr.1 b with rfl | b
   simp [aL.of]
   have d:x.1≠j := λ e=>a.1 (bn.2 ⟨x,b,e⟩)
   show List.lookup _ _=_
   rw [kc]
   have:(x.1==j)=false:=by simpa using d
   rw [this]
   exact xd a.2 b
def VL {ρ : Id->Id}:∀ {K:List (Id × aN)},((dX ρ K).map (·.1)).Nodup->∀ x∈K,∀ y∈K,x.1≠y.1 -> ρ x.1 ≠ ρ y.1
 | [],_,x,f,_,_,_=>by simp at f
 | z::K,h,x,f,y,i,c=>by
   have d:((ρ z.1,z.2.aX ρ)::dX ρ K).map (·.1) |>.Nodup:=h
   simp only [hQ,iF] at d
   have g:∀ w∈K, ρ w.1∈(dX ρ K).map (·.1) := λ w hw=>bn.2 ⟨(ρ w.1,w.2.aX ρ),bn.2 ⟨w,hw,rfl⟩,rfl⟩
   rcases cr.1 f with a | a<;>rcases cr.1 i with b | b
   exact absurd (by rw [a,b]) c
   subst a;exact λ e=>d.1 (e▸g y b)
   subst b;exact λ e=>d.1 (e▸g x a)
   exact VL d.2 x a y b c
def bu.Xs {eB:cB} {π : Id} {n:Nat} {κ : Nat->Id} {m f:List (aZ P G)} {cs:mY} {g:List aa} {d:List (Id × aN)} {e:cw} {s:uG} (o:bX true 1000 eB [0] m ⟨g,cf d,0⟩=some (cs,f,e,s)) (hc:jD cs) (hd:((dX (bN n π κ) d).map (·.1)).Nodup) :
   bu P G π eB (λ h s'=>h=e/\s'.t=bx (bN n π κ) s.t/\s'.n=n+s.n/\yt (bN n π κ) s.S.to s'.σ) ⟨bx (bN n π κ) g,aL.of (dX (bN n π κ) d),n⟩:=by
 refine (bu.aX (κ := κ) (n:=n) (mJ 1000 _ _ _ _ _ _ _ _ o hc) (λ i b hb => ?_) λ i j p l a => ?_).mono λ h s' k => ?_
 exact xd hd (bn.2 ⟨(i,b),Cm hb,rfl⟩)
 have ⟨b,hb⟩:=Jt.1 p
 have ⟨c,hc⟩:=Jt.1 l
 exact VL hd _ (Cm hb) _ (Cm hc) a
 obtain ⟨s0,⟨rfl,rfl⟩,h1,r,q⟩:=k
 exact ⟨rfl,h1,r,q⟩
def rest (a b:List (Id × aN)):List (Id × aN):=b.filter λ x => !a.any λ y=>nb y.1 x.1
def cu.j7 {f:FuncId} {aH:dS} (h:gX P f aH) (κ : Nat->Id) {p:Id} (A:List (aZ P G)) {args:List aa} {S up:List (Id × aN)} {val:aa} (a:List aa) (d:List (Id × aN)) (g:aa) (c:List (Id × aN))
   (l:mE aH.results (c++rest c d) (bX true 1000 aH.body [0] A ⟨a++bG (aH.aK-a.length) (.aS []),cf d,0⟩)=mD g (c++rest c d) (bX true 1000 aH.body [0] A ⟨a++bG (aH.aK-a.length) (.aS []),cf d,0⟩))
   (M:bx (bN 0 p κ) a=args) (O:dX (bN 0 p κ) d=S) (hv:g.aX (bN 0 p κ)=val) (hu:dX (bN 0 p κ) c=up) (hd:(S.map (·.1)).Nodup) (tk:(up.map (·.1)).Nodup) :
   cu P G f args p S { val,rd:=S.map (·.1),up:=up.map λ x=>(x.1,some x.2) }:=by
 subst M;subst O;subst hv;subst hu
 have ⟨fn,R,E⟩:=h
 cases i:bX true 1000 aH.body [0] A ⟨a++bG (aH.aK-a.length) (.aS []),cf d,0⟩ with
 | none=>rw [i] at l;simp [mE,mD] at l
 | some y =>
   have ⟨cs,Q,e,s⟩:=y
   rw [i] at l
   simp only [mE,mD,a7,cY] at l
   have ⟨T,V,ho,J⟩:=l
   have k:=yR J
   refine cu.ai9 R E ?_
   have W:bx (bN 0 p κ) a++bG (aH.aK-(bx (bN 0 p κ) a).length) (.aS [])=bx (bN 0 p κ) (a++bG (aH.aK-a.length) (.aS [])):=by
     rw [r9,mA]
     congr 1
     rw [jl,List.map_replicate];rfl
   rw [W]
   refine (bu.Xs (κ := κ) (n:=0) (π := p) i (jD.of_map T) hd).mono λ Y s' L => ?_
   have ⟨rfl,h1,X,t⟩:=L
   refine ⟨LW V,_,ajI (s0:=s.to) h1 t ho,Fin.same rfl λ j => ?_⟩
   by_cases B:∃ x∈(dX (bN 0 p κ) c).map (λ x=>(x.1,some x.2)),x.1=j
   right
   obtain ⟨x,F,rfl⟩:=B
   obtain ⟨y,r,rfl⟩:=bn.1 F
   obtain ⟨z,m,rfl⟩:=bn.1 r
   have K:s'.σ (bN 0 p κ z.1)=some (z.2.aX (bN 0 p κ)):=t.1 _ _ (k z (nB _ m))
   have I:∀ (U:List (Id × aN)) (σ : aL),(U.map (·.1)).Nodup->∀ w∈U, σ.app (U.map λ x=>(x.1,some x.2)) w.1=some w.2:=by
     intro U
     induction U with
     | nil=>intro σ _ w hw;simp at hw
     | cons u U N =>
       intro σ D w hw
       simp only [hQ,iF] at D
       simp only [hQ,l6]
       rcases cr.1 hw with rfl | hw
       rw [aL.Fq,Bf]
       rintro x i e
       obtain ⟨v,hv,rfl⟩:=bn.1 i
       exact D.1 (bn.2 ⟨v,hv,e⟩)
       exact N _ D.2 w hw
   rw [K]
   exact I _ _ tk _ (bn.2 ⟨z,m,rfl⟩)
   rw [aL.Fq _ _ _ λ x i e=>B ⟨x,i,e⟩]
   cases q:(dX (bN 0 p κ) d).lookup j with
   | none=>exact .inl q
   | some b =>
     right
     show List.lookup _ _=_
     rw [q]
     have ⟨z,m,H⟩:=bn.1 (qy q)
     simp only [cY] at H
     have ⟨rfl,rfl⟩:=H
     have C:z∈rest c d:=by
       refine List.mem_filter.2 ⟨m, ?_⟩
       cases hb:c.any λ y=>nb y.1 z.1 with
       | false=>rfl
       | true =>
         have ⟨y,r,o⟩:=List.any_eq_true.1 hb
         exact absurd ⟨(bN 0 p κ y.1,some (y.2.aX (bN 0 p κ))),bn.2 ⟨_,bn.2 ⟨y,r,rfl⟩,rfl⟩,by rw [tu.1 o]⟩ B
     exact (t.1 _ _ (k z (qY _ C))).symm
def cu.Oa {f:FuncId} {aH:dS} (h:gX P f aH) (κ : Nat->Id) {p:Id} (d:List (aZ P G)) {args:List aa} {S:List (Id × aN)} {val:aa} (a:List aa) (c:List (Id × aN)) (b:aa)
   (i:mE aH.results c (bX true 1000 aH.body [0] d ⟨a++bG (aH.aK-a.length) (.aS []),cf c,0⟩)=mD b c (bX true 1000 aH.body [0] d ⟨a++bG (aH.aK-a.length) (.aS []),cf c,0⟩))
   (g:bx (bN 0 p κ) a=args) (j:dX (bN 0 p κ) c=S) (hv:b.aX (bN 0 p κ)=val) (hd:(S.map (·.1)).Nodup) :
   cu P G f args p S { val,rd:=S.map (·.1) }:=by
 have e:([]:List (Id × aN))++rest [] c=c:=by
   unfold rest
   rw [List.nil_append,List.filter_eq_self]
   intro x _;rfl
 exact cu.j7 (up:=[]) h κ d a c b [] (by rw [e];exact i) g j hv rfl hd List.nodup_nil
def h8 (K:List (Id × aN)) (a:List aa) (b:Nat):uE P G->Option (List l7 × cw × Bool × List aa × List (Option aN))
 | some (cs,_,e,⟨t,S,n⟩)=>some (cs.map (·.1),e,Nat.ble n b,vi t a,K.map λ x=>S.find x.1)
 | none=>none
def h7 (a:cw) (K:List (Id × aN)) (b:List aa):uE P G->Option (List l7 × cw × Bool × List aa × List (Option aN))
 | some (cs,_,_,_)=>some (cs.map (·.2),a,true,b,K.map λ x=>some x.2)
 | none=>some ([],a,true,[],[])
def RT {ρ : Id->Id}:∀ {cs ds:List aa},gF cs ds->gF (bx ρ cs) (bx ρ ds)
 | [],[],_=>trivial
 | c::cs,d::ds,h=>by
   simp only [gF] at h
   refine ⟨?_,RT h.2⟩
   rcases h.1 with rfl | rfl
   exact .inl rfl
   exact .inr rfl
 | [],_::_,h=>by simp [gF] at h
 | _::_,[],h=>by simp [gF] at h
def bu.j7 {eB:cB} {π : Id} {n:Nat} (κ : Nat->Id) (g:List (aZ P G)) {t m:List aa} {S K:List (Id × aN)} {Q:cw->dt->Prop} (d:List aa) (c:List (Id × aN)) (p:cw) (f:List aa) (l:List (Id × aN)) (o:Nat)
   (a:h8 l f o (bX true 1000 eB [0] g ⟨d,cf c,0⟩)=h7 p l f (bX true 1000 eB [0] g ⟨d,cf c,0⟩))
   (B:bx (bN n π κ) d=t) (E:dX (bN n π κ) c=S) (h:bx (bN n π κ) f=m) (i:dX (bN n π κ) l=K) (hd:(S.map (·.1)).Nodup) (u:∀ s,bz G π s ⟨m,aL.of K,n+o⟩->Q p s) :
   bu P G π eB Q ⟨t,aL.of S,n⟩:=by
 subst B;subst E;subst h;subst i
 cases b:bX true 1000 eB [0] g ⟨d,cf c,0⟩ with
 | none=>rw [b] at a;simp only [h8,h7] at a;cases a
 | some y =>
   have ⟨cs,w,e,s⟩:=y
   rw [b] at a
   simp only [h8,h7,a7,cY] at a
   have ⟨C,rfl,D,A,i⟩:=a
   refine (bu.Xs (κ := κ) (n:=n) (π := π) b (jD.of_map C) hd).mono λ F s' k => ?_
   have ⟨rfl,h1,r,q⟩:=k
   refine u s' ?_
   have ⟨t2,H,I⟩:=s'
   simp only [] at h1 r q
   subst h1;subst r
   refine bz.forget (RT (Mq A)) (λ j=>aL.xi (λ x b => ?_) j) (Nat.add_le_add_left (Ee D) _)
   obtain ⟨z,v,rfl⟩:=bn.1 b
   exact q.1 _ _ (yR i z v)
def OI (RS adA adz adB:Nat):dS:=⟨25,[(.tmp 2)],(eR [Uz 1 0,Ux 2 false] (eR [vm 3 0 1,MQ 4 2 3,rW 5 RS 4,bE 6 5,Gf 7 2 1 6 true,Gg 8 2 7 6 true,⟨some 9,.call (.f RS) [.t 8],some (6,true)⟩,CV 10 6 9,bE 11 10,Gf 12 2 1 11 true,Gg 13 2 12 11 true,⟨some 14,.call (.f adA) [.t 13],some (11,true)⟩,⟨some 15,.bin .gtr .int (.t 14) (.c (.int .i64 0)),some (11,true)⟩,CV 16 11 15,bE 17 16,Gf 18 0 1 17 true,Gg 19 2 18 17 true,Gf 20 2 1 17 true,Gg 21 2 20 17 true,⟨some 22,.call (.f adz) [(.t 19),(.t 21)],some (17,true)⟩,⟨some 23,.call (.f adB) [.t 22],some (17,true)⟩,CV 24 17 23,bE 2 24] .ret))⟩
def aoS:dS:=⟨8,[(.tmp 2)],(eR [Hx 2] (.seq (eR [bE 3 0,⟨some 4,.bin .eql .slice (.t 3) (.c .aq),none⟩] (.cond (.t 4) (eR [Hx 2] .ret) .skip)) (eR [⟨some 5,.uO 1 0 (.int .u32 0) [],none⟩,bE 6 0,aiZ 7 1 4 5 6,bE 2 7] .ret)))⟩
def DV:dS:=⟨21,[(.tmp 2)],(eR [Hx 2] (.seq (.block 0 (.loop (.seq (eR [bE 3 0,oY 4 3,fT 5 .gtr 4 0,bE 6 5,Gh 7 0 6 true,Gh 8 0 6 true,Sd 9 8 6 true,⟨some 10,.bin .sub .int (.t 9) (.c (.int .i64 1)),some (6,true)⟩,⟨some 11,.u9 1 (.t 7) (.t 10),some (6,true)⟩,lj 12 1 11 6 true,⟨some 13,.bin .eql .int (.t 12) (.c (.int .u32 0)),some (6,true)⟩,CV 14 6 13] (.cond (.t 14) .skip (.exit 0))) (.block 1 (m2 [bE 15 0,bE 16 0,oY 17 16,fT 18 .sub 17 1,⟨some 19,.slice 1 (.t 15) none (some (.t 18)) none,none⟩,bE 0 19]))))) (eR [bE 20 0,bE 2 20] .ret)))⟩
def Jd (adC:Nat):dS:=⟨67,[(.tmp 4)],(eR [Hx 4] (eR [bE 9 0,oY 10 9,bE 11 1,oY 12 11,jk 13 .add 10 12,⟨some 14,.oV 1 4 (.int .u32 0) (.t 13) (.t 13),none⟩,bE 5 14] (.seq (eR [xf 6 0] (.block 0 (.loop (.seq (eR [bE 15 6,bE 16 0,oY 17 16,jk 18 .lss 15 17] (.cond (.t 18) .skip (.exit 0))) (.seq (.block 1 (eR [⟨some 7,.mv (.c (.int .u64 0)),none⟩] (.seq (eR [xf 8 0] (.block 2 (.loop (.seq (eR [bE 21 8,bE 22 1,oY 23 22,jk 24 .lss 21 23] (.cond (.t 24) .skip (.exit 2))) (.seq (.block 3 (.seq (.iB (some []) [bE 27 7,bE 28 5,bE 29 6,bE 30 8,jk 31 .add 29 30,kq 32 1 28 31,kR 33 1 32,rX 34 .u64 33,jk 35 .add 27 34,bE 36 0,bE 37 6,kq 38 1 36 37,kR 39 1 38,rX 40 .u64 39,bE 41 1,bE 42 8,kq 43 1 41 42,kR 44 1 43,rX 45 .u64 44,jk 46 .mul 40 45,jk 47 .add 35 46,bE 7 47]) (eR [bE 48 5,bE 49 6,bE 50 8,jk 51 .add 49 50,bE 52 7,rX 53 .u32 52,kq 54 1 48 51,oS 1 54 53] (m2 [bE 55 7,⟨some 56,.bin .shr .int (.t 55) (.c (.int .u64 32)),none⟩,bE 7 56])))) (m2 [bE 25 8,fT 26 .add 25 1,bE 8 26])))))) (m2 [bE 57 5,bE 58 6,bE 59 1,oY 60 59,jk 61 .add 58 60,bE 62 7,rX 63 .u32 62,kq 64 1 57 61,oS 1 64 63])))) (m2 [bE 19 6,fT 20 .add 19 1,bE 6 20])))))) (eR [bE 65 5,rW 66 adC 65,bE 4 66] .ret))))⟩
def Ya (h g a e b d:Nat):dS:=⟨63,[(.cell 2 true 2),(.tmp 3)],(eR [Uz 1 0,⟨some 2,.box (.c (.agg [(.bool false),.aq])),none⟩,xf 3 0] (eR [MQ 7 2 1,rW 8 h 7,oS 2 1 8] (.seq (eR [vm 9 0 1,kR 10 1 9] (.cond (.t 10) (eR [⟨some 11,.build [(.bool false),.aq] [],none⟩,oS 2 2 11,xf 3 7] .ret) .skip)) (eR [MQ 12 2 1,rW 13 g 12,fT 14 .add 13 1,fT 15 .quo 14 2,bE 4 15] (eR [bE 16 4,fT 17 .quo 16 32,fT 18 .add 17 1,⟨some 19,.oV 1 4 (.int .u32 0) (.t 18) (.t 18),none⟩,bE 5 19] (.seq (eR [bE 20 4,fT 21 .sub 20 1,bE 6 21] (.block 0 (.loop (.seq (eR [bE 22 6,fT 23 .geq 22 0] (.cond (.t 23) .skip (.exit 0))) (.seq (.block 1 (.seq (.iB (some []) [bE 26 5,bE 27 6,fT 28 .quo 27 32,bE 29 5,bE 30 6,fT 31 .quo 30 32,kq 32 1 29 31,kR 33 1 32,bE 34 6,fT 35 .rem 34 32,⟨some 36,.bin .shl .int (.c (.int .u32 1)) (.t 35),none⟩,jk 37 .or 33 36,kq 38 1 26 28,oS 1 38 37]) (.seq (.iB (some [(1,6),(3,6),(4,6)]) [bE 39 5,rW 40 a 39,bE 41 5,rW 42 a 41,xe 43 e 40 42,vm 44 1 1,kR 45 1 44,xe 46 b 43 45,fT 47 .gtr 46 0]) (.cond (.t 47) (.iB (some []) [bE 48 5,bE 49 6,fT 50 .quo 49 32,bE 51 5,bE 52 6,fT 53 .quo 52 32,kq 54 1 51 53,kR 55 1 54,bE 56 6,fT 57 .rem 56 32,⟨some 58,.bin .shl .int (.c (.int .u32 1)) (.t 57),none⟩,jk 59 .andNot 55 58,kq 60 1 48 50,oS 1 60 59]) .skip)))) (m2 [bE 24 6,fT 25 .sub 24 1,bE 6 25])))))) (eR [bE 61 5,⟨some 62,.call (.f d) [(.c (.bool false)),(.t 61)],none⟩,oS 2 2 62,xf 3 0] .ret)))))))⟩
end
end Go.aF
namespace Go.Proofs.YtpcofcmencgkbaaGreat
noncomputable def iN (n:Nat):Option dS:=(ab.funcs[n]?).bind (wE ab)
noncomputable def ao (n:Nat):dS:=(iN n).getD ⟨0,[], .skip⟩
abbrev PS (n:Nat):Prop:=gX ab n (ao n)
def aY {n:Nat} (e:(iN n).isSome=true:=by kernel_rfl):PS n:=by
 have ⟨x,a⟩:=Option.isSome_iff_exists.1 e
 have h:=a
 rw [iN,yf] at h
 have ⟨fn,h1,b⟩:=h
 exact ⟨fn,h1,by rw [ao,a];exact b⟩
def aO {n:Nat} {G:Nat->Option (List aa)} (l:List (aZ ab G)) {args:List aa} {r:aa} [bg r] (b:Il (ao n).results (vq (ao n) args l)=Ij r (vq (ao n) args l):=by kernel_rfl) (e:(iN n).isSome=true:=by kernel_rfl):ag ab G n args r:=ag.j7 (aY e) l b
def aeO:gX ab 272 (OI 290 264 292 291):=⟨_,Tryz.func272,by kernel_rfl⟩
def aeR:gX ab 223 (DV):=⟨_,Tryz.func223,by kernel_rfl⟩
def aeQ:gX ab 225 (Jd 223):=⟨_,Tryz.func225,by kernel_rfl⟩
def aeS:PS 213:=aY
def aeP:gX ab 250 (Ya 219 282 223 225 221 179):=⟨_,Tryz.func250,by kernel_rfl⟩
end Go.Proofs.YtpcofcmencgkbaaGreat
namespace Go.aF
section
variable {P:Program} {G:Nat->Option (List aa)}
def DZ (k:Nat) (h:k<9223372036854775807):cF.wrap ((k:Int)+1)=((k+1:Nat):Int):=by rw [cM];omega
def tt {k kk:Nat} {es:List aa} {e:aa} {pI:IntKind} {i:Nat} (a:kk=k) (h:es[i]? = some e):fY k (.sl kk es) (.int pI (i:Int))=some (.c2 e.cells 0):=by
 subst a
 simp [fY,h]
def af:Nat:=4294967296
def Bj:1<af:=by decide
def ed:0<af:=by decide
def val:List Nat->Nat
 | []=>0
 | w::r=>w+af*val r
def fl (ws:List Nat):Prop:=∀ w∈ws,w<af
def digits (n:Nat):List Nat:=if a:n=0 then [] else n%af::digits (n/af)
termination_by n
decreasing_by exact Ju (kX a) Bj
def iO:digits 0=[]:=by rw [digits];simp
def td {n:Nat} (h:n≠0):digits n=n%af::digits (n/af):=by rw [digits];simp [h]
def nx (n:Nat):val (digits n)=n:=by
 induction n using xY with
 | _ n a =>
   by_cases h:n=0
   subst h;rw [iO];rfl
   rw [td h,val,a _ (Ju (kX h) Bj)]
   exact pd n af
def pF (n:Nat):fl (digits n):=by
 induction n using xY with
 | _ n b =>
   by_cases h:n=0
   subst h;rw [iO];intro w a;simp at a
   rw [td h]
   intro w a
   rcases cr.1 a with rfl | a
   exact bC _ (by decide)
   exact b _ (Ju (kX h) Bj) w a
def FK {n:Nat}:digits n=[]↔n=0:=by
 constructor
 intro h
 have:=nx n
 rw [h] at this
 exact this.symm
 rintro rfl;exact iO
def pZ (a b:List Nat):val (a++b)=val a+af ^ a.length*val b:=by
 induction a with
 | nil=>simp [val]
 | cons x a c =>
   simp only [sC,val,c,e6,ej]
   rw [dC, <- Nat.add_assoc]
   congr 1
   rw [<- eZ,dF (af ^ a.length) af]
def kU {ws:List Nat} (h:fl ws):val ws<af ^ ws.length:=by
 induction ws with
 | nil=>simp [val]
 | cons w ws a =>
   have h1:=a (λ x b=>h x (c5 _ b))
   have d:=h w (by simp)
   simp only [val,e6,ej]
   have c:af*(val ws+1)<=af*af ^ ws.length:=fw _ h1
   rw [dF (af ^ ws.length) af]
   rw [dC] at c
   omega
def Om {ws:List Nat} (h:∀ w∈ws,w=0):val ws=0:=by
 induction ws with
 | nil=>rfl
 | cons w ws a=>simp only [val];rw [a (λ x b=>h x (c5 _ b)),h w (by simp)];rfl
def BG {ws:List Nat} (h:fl ws) (c:ws=[] \/ ∃ w,ws.getLast? = some w/\w≠0):digits (val ws)=ws:=by
 induction ws with
 | nil=>simp [val,iO]
 | cons w ws j =>
   have f:=h w (by simp)
   have g:fl ws := λ x b=>h x (c5 _ b)
   cases ws with
   | nil =>
     rcases c with c | ⟨x,b,a⟩
     simp at c
     simp at b;subst b
     simp only [val,Nat.mul_zero,Nat.add_zero]
     rw [td a,dG f,iX f,iO]
   | cons y ws =>
     have k:∃ x,(y::ws).getLast? = some x/\x≠0:=by
       rcases c with c | ⟨x,b,a⟩
       simp at c
       exact ⟨x,by simpa [Y0] using b,a⟩
     have d:=j g (.inr k)
     have i:val (y::ws)≠0:=by
       intro e
       have:digits (val (y::ws))=[]:=by rw [e,iO]
       rw [d] at this;simp at this
     have a:val (w::y::ws)≠0:=by
       simp only [val] at i ⊢
       have:0<af*(y+af*val ws):=Nat.mul_pos (by decide) (kX i)
       omega
     rw [td a]
     have m:val (w::y::ws)%af=w:=by
       show (w+af*val (y::ws))%af=w
       rw [sD];exact dG f
     have l:val (w::y::ws)/af=val (y::ws):=by
       show (w+af*val (y::ws))/af=_
       rw [mR _ _ (by decide),iX f,c4]
     rw [m,l,d]
def KO {n:Nat}:digits n=[] \/ ∃ w,(digits n).getLast? = some w/\w≠0:=by
 induction n using xY with
 | _ n b =>
   by_cases h:n=0
   left;subst h;exact iO
   right
   rw [td h]
   rcases b _ (Ju (kX h) Bj) with h1 | ⟨w,h1,c⟩
   have hd:=FK.1 h1
   rw [h1]
   refine ⟨n%af,rfl, ?_⟩
   rw [dG]
   exact h
   rcases Nat.div_eq_zero_iff.1 hd with a | a
   exact absurd a (by decide)
   exact a
   cases hd:digits (n/af) with
   | nil=>rw [hd] at h1;simp at h1
   | cons x xs=>rw [hd] at h1;exact ⟨w,by simpa [Y0] using h1,c⟩
def I5 (ws:List Nat):val (ws++[0])=val ws:=by rw [pZ];simp [val]
def tZ {ws:List Nat} (h:fl ws) (k:Nat):fl (ws.take k) := λ w a=>h w (List.mem_of_mem_take a)
def ae (n:Nat):Nat:=(digits n).length
def rT (n:Nat):n<af ^ ae n:=by have:=kU (pF n);rwa [nx] at this
def iV {n k:Nat} (h:n<af ^ k):ae n<=k:=by
 induction k generalizing n with
 | zero=>simp at h;subst h;simp [ae,iO]
 | succ k b =>
   by_cases a:n=0
   subst a;simp [ae,iO]
   unfold ae
   rw [td a]
   have:n/af<af ^ k:=by rw [ej] at h;exact Nat.div_lt_of_lt_mul (by rwa [dF])
   have:=b this
   simp only [e6]
   unfold ae at this
   omega
def ff {m n:Nat} (h:m<=n):ae m<=ae n:=iV (gB h (rT n))
def Av (m n:Nat):ae (m*n)<=ae m+ae n:=by
 refine iV ?_
 rw [gC]
 exact Nat.mul_lt_mul'' (rT m) (rT n)
def us (ws:List Nat):List aa:=ws.map λ w:Nat => .int .u32 (w:Int)
def W (n:Nat):aa := .sl 1 (us (digits n))
def il (ws:List Nat):(us ws).length=ws.length:=by simp [us]
def ss {ws:List Nat} {i w:Nat} (h:ws[i]? = some w):(us ws)[i]? = some (.int .u32 (w:Int)):=by simp [us,h]
def Oe (ws:List Nat) (k:Nat):(us ws).take k=us (ws.take k):=by simp [us,Ed]
def anO (a b:List Nat):us (a++b)=us a++us b:=by simp [us]
def XH (ws:List Nat):flat (us ws)=us ws:=by
 induction ws with
 | nil=>rfl
 | cons w ws a=>simp only [us,hQ,flat,YX,aa.cells] at a ⊢;rw [a];rfl
def XJ (ws:List Nat):b8 (.sl 1 (us ws)):=b8.sl (by rw [XH];intro c a;simp only [us,bn] at a;obtain ⟨w,_,rfl⟩:=a;exact b8.int _ _)
def DF (ws:List Nat):∀ c∈flat (us ws),b8 c:=by rw [XH];intro c a;simp only [us,bn] at a;obtain ⟨w,_,rfl⟩:=a;exact b8.int _ _
def DG (ws:List Nat):∀ e∈us ws,e.size=1:=by intro e a;simp only [us,bn] at a;obtain ⟨w,_,rfl⟩:=a;rfl
def XI (ws:List Nat):((us ws).all λ e=>e.cells.all oe)=true:=by rw [eO];intro e a;simp only [us,bn] at a;obtain ⟨w,_,rfl⟩:=a;rfl
def uH (n:Nat):b8 (W n):=XJ _
def ao5 (k:Nat) (h:0<k) (a:k<=9223372036854775807):cF.wrap ((k:Int)-1)=((k-1:Nat):Int):=by rw [cM];omega
def eL {p:Prop} [Decidable p] (h:p):decide p=true:=decide_eq_true h
def dw {p:Prop} [Decidable p] (h : ¬ p):decide p=false:=decide_eq_false h
def amQ {k kk:Nat} {es:List aa} {h:Nat} (a:kk=k) (b:h<=es.length):iq k (.sl kk es) none (some (.int .i64 (h:Int))) none=some (.sl k (es.take h)):=by
 subst a
 simp [iq,iD,kz,b]
def eV (a b:Int):Int:=if a<b then -1 else if b<a then 1 else 0
def dI (m n:Nat):Int:=eV m n
def aP (z:Int):aa := .agg [.bool (decide (z<0)),W z.natAbs]
def ep (neg:Bool) (n:Nat):Int:=if neg then -(n:Int) else n
def aox {id:Id} {ws:List Nat} {b t:Bool} {n:Nat} (a:n=ws.length):View (aL.of [(id,⟨us ws,1,b⟩)]) (.ai id 1 0 n t) (.sl 1 (us ws)):=by
 subst a
 refine View.ai (au:=⟨us ws,1,b⟩) (by simp [aL.of]) rfl (by rw [il];omega) ?_ (by rw [il]) (DG ws)
 rw [List.drop_zero,List.take_of_length_le (by rw [il];exact a4 _)]
 exact c9.pure (DF ws)
def gZ (P:Program) (G:Nat->Option (List aa)) (f:FuncId):Prop:=∀ ws:List Nat,fl ws->ws.length<=9223372036854775807->ag P G f [.sl 1 (us ws)] (W (val ws))
def uT {a b:Int} (h:a<b):eV a b = -1:=by simp [eV,h]
def yI {a b:Int} (h:b<a):eV a b=1:=by simp [eV,h];omega
def QU {a b:Int} (h:a=b):eV a b=0:=by simp [eV,h]
def dV (m:Nat):jr false (W m)=some (.int .i64 (ae m)):=by simp [W,jr,il,ae]
def TM {m n:Nat} (h:ae m<ae n):m<n:=by
 rcases Nat.lt_or_ge m n with h1 | h1
 exact h1
 have:=ff h1;omega
def Ff {m i w:Nat} (h:(digits m)[i]? = some w):fY 1 (W m) (.int .i64 (i:Int))=some (.c2 (aa.int .u32 (w:Int)).cells 0):=tt rfl (ss h)
def acQ {o:List Nat} (h:fl o) (b:o=[] \/ af ^ (o.length-1)<=val o):digits (val o)=o:=by
 refine BG h ?_
 rcases b with a | b
 exact .inl a
 by_cases a:o=[]
 exact .inl a
 right
 refine ⟨o.getLast a,List.getLast?_eq_some_getLast a, λ f => ?_⟩
 have e:=List.dropLast_concat_getLast a
 rw [f] at e
 have g:val o=val o.dropLast:=by rw [<- e,I5,List.dropLast_concat]
 have c:=kU (ws:=o.dropLast) (λ w d=>h w ((List.dropLast_sublist _).subset d))
 rw [List.length_dropLast] at c
 omega
def Ol {a:List Nat} {i x:Nat} (h:a[i]? = some x):val (a.take (i+1))=val (a.take i)+af ^ i*x:=by
 have b:=(eu.1 h).1
 have e:a.take (i+1)=a.take i++[x]:=by rw [List.take_add_one,h];rfl
 rw [e,pZ]
 have:(a.take i).length=i:=by rw [cZ];omega
 rw [this];simp [val]
def j8 (s:Nat):gD.wrap (s:Int)=((s%af:Nat):Int):=by rw [IntKind.wrap_u32];unfold af;omega
def Jc (s:Nat) (h:s<18446744073709551616):de.wrap (s:Int)=(s:Int):=by rw [iu];omega
def np (s:Nat):eH .shr .int (.int .u64 (s:Int)) (.int .u64 32)=some (.int .u64 ((s/af:Nat):Int)):=by
 rw [Bv (by decide)]
 have:(s:Int).fdiv (2 ^ (min (32:Int).toNat de.bits))=((s/af:Nat):Int):=by
   show (s:Int).fdiv (2 ^ 32)=_
   rw [x4 _ (by decide)];unfold af;omega
 rw [this]
def fp (x:Nat) (h:x<af):de.wrap (x:Int)=(x:Int):=Jc x (by unfold af at h;omega)
def uJ (a b:Nat) (h:a+b<18446744073709551616):de.wrap ((a:Int)+(b:Int))=((a+b:Nat):Int):=by rw [iu];omega
def aid {p:Id} {c:Nat} (h:c*4<=140737488355328):DR p 1 4 (.int .u32 0) (.int .i64 0) (.int .i64 (c:Int))=some { val := .ai p 1 0 0 false,up:=[(p,some ⟨us [],1,false⟩)] }:=by
 have a:=tz (n:=c)
 show (if (0:Int)<=0/\(0:Int)<=(c:Int)/\(c:Int)*((4:Nat):Int)<=140737488355328/\(c:Int)<=((maxLen:Nat):Int)/\(aa.int gD 0).size=1/\(aa.int gD 0).cells.all oe=true then _ else none)=_
 rw [if_pos ⟨by omega,by omega,by omega,by omega,rfl,rfl⟩]
 rfl
def anP (c:Nat):bG c (aa.int .u32 0)=us (bG c 0):=by simp [us]
def anQ (o:List Nat) (i x:Nat):(us o).set i (.int .u32 (x:Int))=us (o.set i x):=by simp [us,List.map_set]
def Hl {p:Id} {c:Nat} (h:c*4<=140737488355328):DR p 1 4 (.int .u32 0) (.int .i64 (c:Int)) (.int .i64 (c:Int))=some { val := .ai p 1 0 c false,up:=[(p,some ⟨us (bG c 0),1,false⟩)] }:=by
 have a:=tz (n:=c)
 show (if (0:Int)<=(c:Int)/\(c:Int)<=(c:Int)/\(c:Int)*((4:Nat):Int)<=140737488355328/\(c:Int)<=((maxLen:Nat):Int)/\(aa.int gD 0).size=1/\(aa.int gD 0).cells.all oe=true then _ else none)=_
 rw [if_pos ⟨by omega,by omega,by omega,by omega,rfl,rfl⟩]
 simp only [ue,anP]
def va {q:Id} {len i:Nat} {t:Bool} (h:i<len):fY 1 (.ai q 1 0 len t) (.int .i64 (i:Int))=some (.ref q i 0):=by
 simp only [fY]
 rw [if_pos ⟨trivial,by omega,by omega⟩]
 simp
def NK {σ : aL} {q:Id} {o:List Nat} {i x:Nat} (h : σ q=some ⟨us o,1,false⟩) (a:i<o.length):tY σ 1 (.ref q i 0) (.int .u32 (x:Int))=some { val := .aS [],rd:=[q],up:=[(q,some ⟨us (o.set i x),1,false⟩)] }:=by
 have ⟨w,b⟩:∃ w,o[i]? = some w:=⟨_,du a⟩
 rw [aoM (n:=1) (v := .int .u32 (x:Int)) h (ss b) rfl (by simp [aa.size,aa.cells]) rfl, <- anQ]
 rfl
def TH {σ : aL} {q:Id} {o:List Nat} {i x:Nat} {b:Bool} (h : σ q=some ⟨us o,1,b⟩) (a:o[i]? = some x):kV σ false 1 (.ref q i 0)=some { val := .int .u32 (x:Int),rd:=[q] }:=by
 rw [aoE h (ss a)];rfl
def I4 {o:List Nat} {i x y:Nat} (h:o[i]? = some y):val (o.set i x)+af ^ i*y=val o+af ^ i*x:=by
 have a:=(eu.1 h).1
 have e:(o.take i).length=i:=by rw [cZ];omega
 have d:o=o.take i++y::o.drop (i+1):=by
   have:=List.take_append_drop i o
   rw [YY a] at this
   have ⟨_,f⟩:=eu.1 h
   rw [f] at this;exact this.symm
 have b:o.set i x=o.take i++x::o.drop (i+1):=by rw [List.set_eq_take_append_cons_drop,if_pos a]
 rw [b]
 have c:val o=val (o.take i++y::o.drop (i+1)):=congrArg val d
 rw [c,pZ,pZ,e]
 simp only [val,dC]
 omega
def OJ {o:List Nat} (h:fl o) {i x:Nat} (b:x<af):fl (o.set i x) := λ w a=>by
 rcases List.mem_or_eq_of_mem_set a with h1 | h1
 exact h w h1
 rw [h1];exact b
def Yb (k:Nat):fl (bG k 0) := λ w a=>by rw [List.eq_of_mem_replicate a];exact ed
def CM (a b:Nat) (c:a<af) (hb:b<af):de.wrap ((a:Int)*(b:Int))=((a*b:Nat):Int):=by
 have:a*b<=4294967295*4294967295:=lH (by unfold af at c;omega) (by unfold af at hb;omega)
 rw [<- uf,iu];omega
def Hm {a b:Nat} (c:a<af) (hb:b<af):a*b<=18446744065119617025:=by
 have:a*b<=4294967295*4294967295:=lH (by unfold af at c;omega) (by unfold af at hb;omega)
 omega
def Bs (a b:Nat) (h:a+b<=9223372036854775807):cF.wrap ((a:Int)+(b:Int))=((a+b:Nat):Int):=by rw [cM];omega
def aqv {o:List Nat} {k y:Nat} (h:val o<af ^ k) (b:o[k]? = some y):y=0:=by
 have:=I4 (x:=0) b
 rcases Nat.eq_zero_or_pos y with a | a
 exact a
 have:af ^ k*1<=af ^ k*y:=fw _ a
 omega
def akm {o a:List Nat} {i j c x y z s v:Nat} (b:a[i+j]? = some z) (k:val a+af ^ (i+j)*c=val o+af ^ i*(x*v)) (e:s=c+(x*y+z)) :
   val (a.set (i+j) (s%af))+af ^ (i+(j+1))*(s/af)=val o+af ^ i*(x*(v+af ^ j*y)):=by
 have h:=I4 (x:=s%af) b
 have g:af ^ (i+j)*(s%af)+af ^ (i+j)*(af*(s/af))=af ^ (i+j)*c+af ^ (i+j)*(x*y)+af ^ (i+j)*z:=by
   rw [<- dC,pd,e,dC,dC];omega
 have d:af ^ (i+(j+1))*(s/af)=af ^ (i+j)*(af*(s/af)):=by rw [<- Nat.add_assoc,ej,eZ]
 have f:af ^ i*(x*(v+af ^ j*y))=af ^ i*(x*v)+af ^ (i+j)*(x*y):=by
   rw [dC,dC,gC]
   congr 1
   rw [eZ,Nat.mul_left_comm x]
 rw [d,f]
 omega
def gL {n:Nat}:ae n=0↔n=0:=by
 constructor
 intro h;exact FK.1 (O1.1 h)
 intro h;rw [h,ae,iO];rfl
def Kq {k:IntKind} {a b:Int}:eH .or .int (.int k a) (.int k b)=some (.int k (k.wrap (jb k.bits a ||| jb k.bits b).toNat)):=by
 simp only [eH];rw [show lW .or .int (.int k a) (.int k b)=some (.int k (k.wrap (jb k.bits a ||| jb k.bits b).toNat)) from by simp [lW,p4,s6]]
def MV (a b:Nat) (e:a<18446744073709551616) (hb:b<18446744073709551616):eH .or .int (.int .u64 (a:Int)) (.int .u64 (b:Int))=some (.int .u64 ((a ||| b:Nat):Int)):=by
 have d:a ||| b<2 ^ 64:=Y1 (by omega) (by omega)
 have h1:(jb 64 (a:Int)).toNat=a:=by
   rw [x5,Jv];exact dG (by omega)
 have c:(jb 64 (b:Int)).toNat=b:=by
   rw [x5,Jv];exact dG (by omega)
 rw [Kq]
 show some (aa.int .u64 (de.wrap ((jb 64 (a:Int) ||| jb 64 (b:Int)).toNat:Int)))=_
 rw [Y2,h1,c,Jc _ (by omega)]
def HF (a b:Nat) (d:a<af) (hb:b<af):eH .or .int (.int .u32 (a:Int)) (.int .u32 (b:Int))=some (.int .u32 ((a ||| b:Nat):Int)):=by
 unfold af at d hb
 have e:a ||| b<2 ^ 32:=Y1 (by omega) (by omega)
 have h1:(jb 32 (a:Int)).toNat=a:=by
   rw [x5,Jv];exact dG (by omega)
 have c:(jb 32 (b:Int)).toNat=b:=by
   rw [x5,Jv];exact dG (by omega)
 rw [Kq]
 show some (aa.int .u32 (gD.wrap ((jb 32 (a:Int) ||| jb 32 (b:Int)).toNat:Int)))=_
 rw [Y2,h1,c,j8,dG (by unfold af;omega)]
def CZ (a b:Nat) (c:a<af) (hb:b<af):eH .or .int (.int .u64 ((af*a:Nat):Int)) (.int .u64 (b:Int))=some (.int .u64 ((af*a+b:Nat):Int)):=by
 rw [MV _ _ (by unfold af at *;omega) (by unfold af at *;omega)]
 have:=AK (i:=32) (b:=b) (by unfold af at hb;omega) a
 rw [show af=2 ^ 32 from rfl,this]
def z9 (a:Nat) (b:a<af):eH .shl .int (.int .u64 (a:Int)) (.int .u64 32)=some (.int .u64 ((af*a:Nat):Int)):=by
 rw [Kr (by decide)]
 have:de.wrap ((a:Int)*2 ^ (min (32:Int).toNat de.bits))=((af*a:Nat):Int):=by
   show de.wrap ((a:Int)*2 ^ 32)=_
   rw [iu];unfold af at *;omega
 rw [this]
def C8 (a b:Nat) (c:a<18446744073709551616) (hb:b≠0):eH .quo .int (.int .u64 (a:Int)) (.int .u64 (b:Int))=some (.int .u64 ((a/b:Nat):Int)):=by
 rw [Qo (by omega)]
 show some (aa.int .u64 (de.wrap ((a/b:Nat):Int)))=_
 rw [Jc _ (gB (Nat.div_le_self _ _) c)]
def Dd (a b:Nat) (hb:b≠0):eH .rem .int (.int .u64 (a:Int)) (.int .u64 (b:Int))=some (.int .u64 ((a%b:Nat):Int)):=by
 rw [abi (by omega)];rfl
def zs (k:Nat):List Nat:=bG k 0
def pad:Nat->Nat->List Nat
 | 0,_=>[]
 | k+1,n=>n%af::pad k (n/af)
def n7 (k n:Nat):(pad k n).length=k:=by
 induction k generalizing n with
 | zero=>rfl
 | succ k a=>simp [pad,a]
def zM (k n:Nat):fl (pad k n):=by
 induction k generalizing n with
 | zero=>intro w a;simp [pad] at a
 | succ k b =>
   intro w a
   rcases cr.1 a with rfl | a
   exact bC _ ed
   exact b _ w a
def xm {o:List Nat} (h:fl o):pad o.length (val o)=o:=by
 induction o with
 | nil=>rfl
 | cons w o b =>
   have a:=h w cS
   simp only [e6,pad,val]
   rw [sD,dG a,mR _ _ ed,iX a,c4,b λ z c=>h z (c5 _ c)]
def sw {k n:Nat} (h:n<af ^ k):val (pad k n)=n:=by
 induction k generalizing n with
 | zero=>simp at h;simp [pad,val,h]
 | succ k a =>
   simp only [pad,val]
   rw [a (by rw [l1 ed];rwa [ej] at h),pd]
def D9 (k:Nat):(zs k).length=k:=List.length_replicate ..
def IL {s:Nat} (a:s<=32):2 ^ (32-s)*2 ^ s=af:=by
 rw [<- gC,Nat.sub_add_cancel a];rfl
def amH {x c s:Nat} (f:s<=32) (d:c<2 ^ s) (g:x<af):c ||| ((x*2 ^ s)%af)=c+(x*2 ^ s)%af/\c+(x*2 ^ s)%af<af/\(x*2 ^ s)/af<2 ^ s:=by
 have b:=IL f
 have e:(x*2 ^ s)%af=2 ^ s*(x%2 ^ (32-s)):=by rw [<- b,Nat.mul_mod_mul_right,dF]
 have a:x%2 ^ (32-s)<2 ^ (32-s):=bC _ (pe _)
 have h1:2 ^ s*(x%2 ^ (32-s)+1)<=2 ^ s*2 ^ (32-s):=fw _ a
 rw [dC,dF (2 ^ s) (2 ^ (32-s)),b] at h1
 refine ⟨?_,by rw [e];omega, ?_⟩
 rw [e,Nat.or_comm, <- AK d,Nat.add_comm]
 rw [l1 ed,dF]
 exact Nat.mul_lt_mul_of_pos_left g (pe _)
def Nx (x s:Nat) (d:s<=32) (c:x<af):eH .shl .int (.int .u64 (x:Int)) (.int .i64 (s:Int))=some (.int .u64 ((x*2 ^ s:Nat):Int)):=by
 rw [Kr (by omega)]
 have h1:x*2 ^ s<18446744073709551616:=by
   have a:2 ^ s<=2 ^ 32:=Nat.pow_le_pow_right (by decide) d
   have b:x*2 ^ s<=x*2 ^ 32:=fw _ a
   unfold af at c;omega
 have a:min (s:Int).toNat de.bits=s:=by
   show min (s:Int).toNat 64=s
   rw [ue];omega
 have b:(x:Int)*2 ^ s=((x*2 ^ s:Nat):Int):=by rw [uf,Ef];rfl
 rw [a,b,Jc _ h1]
def amI {x y s:Nat} (f:s<=32) (c:x<af):(x/2 ^ s) ||| ((y*2 ^ (32-s))%af)=x/2 ^ s+2 ^ (32-s)*(y%2 ^ s)/\x/2 ^ s+2 ^ (32-s)*(y%2 ^ s)<af/\2 ^ s*(x/2 ^ s+2 ^ (32-s)*(y%2 ^ s))+x%2 ^ s=x+af*(y%2 ^ s):=by
 have a:=IL f
 have e:(y*2 ^ (32-s))%af=2 ^ (32-s)*(y%2 ^ s):=by rw [<- a,dF y,Nat.mul_mod_mul_left]
 have b:y%2 ^ s<2 ^ s:=bC _ (pe _)
 have hd:x/2 ^ s<2 ^ (32-s):=by rw [l1 (pe _),a];exact c
 have h1:2 ^ (32-s)*(y%2 ^ s+1)<=2 ^ (32-s)*2 ^ s:=fw _ b
 rw [dC,a] at h1
 refine ⟨?_,by omega, ?_⟩
 rw [e,Nat.or_comm, <- AK hd,Nat.add_comm]
 have g:=Nat.div_add_mod x (2 ^ s)
 have d:2 ^ s*(2 ^ (32-s)*(y%2 ^ s))=af*(y%2 ^ s):=by rw [<- eZ,dF (2 ^ s),a]
 rw [dC,d];omega
def Ny (x s:Nat) (d:s<=32):eH .shr .int (.int .u32 (x:Int)) (.int .i64 (s:Int))=some (.int .u32 ((x/2 ^ s:Nat):Int)):=by
 rw [Bv (by omega)]
 have a:min (s:Int).toNat gD.bits=s:=by
   show min (s:Int).toNat 32=s
   rw [ue];omega
 have b:(x:Int).fdiv (2 ^ s)=((x/2 ^ s:Nat):Int):=by
   have c:(2:Int) ^ s=((2 ^ s:Nat):Int):=by rw [Ef];rfl
   rw [c,x4 _ (Int.natCast_nonneg _)]
   exact (Int.natCast_ediv _ _).symm
 rw [a,b]
def af9 {q:Id} {off len i:Nat} {t:Bool} (h:i<len):fY 1 (.ai q 1 off len t) (.int .i64 (i:Int))=some (.ref q (off+i) 0):=by
 simp only [fY]
 rw [if_pos ⟨trivial,by omega,by omega⟩]
 simp
end
end Go.aF
