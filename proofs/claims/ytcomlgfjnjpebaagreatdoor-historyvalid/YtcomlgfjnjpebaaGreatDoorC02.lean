/- For the claim of HistoryValid: parts VL9, VL2S, VL10, VL11, VL12, VL13, VL14. -/
import Derived.Test.YtcomlgfjnjpebaaGreatDoorC01
import Derived.Lib.AppendZeros
import Derived.Laws.BytesArg
import Derived.Laws.Externs
import Derived.Lib.Bytealg
import Derived.Lib.Overlaps
import Derived.Orders
set_option linter.unusedSimpArgs false
set_option linter.unusedVariables false
section
namespace Go.VL
section
variable {P:Program} {G:Nat->Option (List AV)} {own:Nat->Prop} {E:Env} {w:World} {σ : aa} {p:Id}
theorem FO {len l r:Nat} {lo hi:Option AV} (hb:cJ len lo hi=some (l,r)):dV len len hi=some r/\dV 0 r lo=some l:=by
 unfold cJ at hb
 split at hb
 . simp at hb
 . rename_i h1 e1
   split at hb
   . simp at hb
   . rename_i l1 e2
     simp only [Option.some.injEq,Prod.mk.injEq] at hb
     obtain ⟨rfl,rfl⟩:=hb
     exact ⟨e1,e2⟩
theorem D2 (s:List UInt8) (l r:Nat):(ByteArray.mk s.toArray).extract l r=⟨((s.take r).drop l).toArray⟩:=by
 apply ByteArray.ext
 rw [ByteArray.data_extract]
 apply Array.ext'
 simp [List.extract_eq_take_drop,List.drop_take]
theorem D3 (hi:Inv G own E w σ) {t:TypeId} (hu:P.underlying t=some .string) {x:AV} {v:Value} (hx:aL E w x v)
   {lo jc:Option AV} {Nk Lp:Option Value} (uU:mQ E w lo Nk) (zY:mQ E w jc Lp) {c:AV} (h:qL x lo jc=some c):Sound P G own E w σ p (Instr.sliceAt t v Nk Lp none) { val:=c }:=by
 unfold qL at h
 split at h
 . rename_i s
   simp only [aL] at hx;subst hx
   split at h
   . rename_i l r hb
     obtain ⟨zN,wU⟩:=FO hb
     simp only [Option.some.injEq] at h;subst h
     obtain ⟨qA,GG,GH⟩:=iP (P:=P) (isSlice:=false) (mx:=none) (vmx:=none) (m:=s.length) uU zY trivial (Nat.le_refl _) zN wU (.inl ⟨rfl,rfl⟩)
     refine Sound.same (v := .string ⟨((s.take r).drop l).toArray⟩) hi ?_ (by simp [aL])
     have hsz:(ByteArray.mk s.toArray).size=s.length:=by simp [ByteArray.size]
     simp [Instr.sliceAt,Instr.slice,run_underlying hu,hsz,qA,D2]
   . simp at h
 . simp at h
theorem FP {b o k:Nat} {es:List AV} (hk:∀ e∈es,e.size=k) (h:iN E w b o es) {i:Nat} {e:AV} (he:es[i]? = some e):cm E w b (o+i*k) e.cells :=
 gA.2 (GQ hk (dG.1 h) he)
theorem FQ (hi:Inv G own E w σ) {t e:TypeId} {i:TypeInfo} (hu:P.underlying t=some (.slice e)) (dr:P.info? e=some i) {x j:AV} {v u:Value} (hx:aL E w x v) (hj:aL E w j u) {c:AV}
   (h:br i.size x j=some c):Sound P G own E w σ p (Instr.indexAt t v u) { val:=c }:=by
 have hrun:∀ (a:Addr) (len cap:Nat) (k:IntKind) (n:Int),0<=n->n<len->(Instr.indexAt t (.slice (some a) len cap) (.int k n)).run P w = .ok (.pointer (some (a.add (n.toNat*i.size)))) w:=by
   intro a len cap k n h0 h1
   simp [Instr.indexAt,run_underlying hu,asIntOf,h0,h1,eN dr]
 unfold br at h
 split at h
 . rename_i kk n
   simp only [aL] at hj;subst hj
   have row:∀ {es:List AV} {a:Option Addr} {cap:Nat},(∀ e∈es,e.size=i.size)->(es=[]∨∃ b o,a=some ⟨b,o,none⟩/\E.ok b/\iN E w b o es)->0<=n ->
       (es[n.toNat]?).map (fun e=>AV.ep e.cells 0)=some c->Sound P G own E w σ p (Instr.indexAt t (.slice a es.length cap) (.int kk n)) { val:=c }:=by
     intro es a cap hk rh h0 h
     simp only [Option.map_eq_some_iff] at h
     obtain ⟨el,vz,rfl⟩:=h
     have hlt:n.toNat<es.length:=(List.getElem?_eq_some_iff.1 vz).1
     rcases rh with rfl | ⟨b,o,rfl,hb,hr⟩
     . simp at hlt
     . refine Sound.same hi (hrun _ _ cap kk n h0 (by omega)) ?_
       rw [Addr.add_lit]
       simp only [aL]
       exact ⟨b,o+n.toNat*i.size,by simp,hb,FP hk hr vz⟩
   split at h
   . rename_i k' es
     simp only [aL] at hx
     obtain ⟨a,cap,rfl,_,_,hk,rh⟩:=hx
     split at h
     . rename_i hh
       obtain ⟨rfl,h0⟩:=hh
       exact row hk rh h0 h
     . simp at h
   . rename_i k' es
     simp only [aL] at hx
     obtain ⟨a,rfl,_,hk,rh⟩:=hx
     split at h
     . rename_i hh
       obtain ⟨rfl,h0⟩:=hh
       exact row hk rh h0 h
     . simp at h
   . rename_i id k' off len tt
     simp only [aL] at hx
     obtain ⟨g,N,cap,hm,rfl,_⟩:=hx
     split at h
     . rename_i hh
       obtain ⟨rfl,h0,h1⟩:=hh
       simp only [Option.some.injEq] at h;subst h
       refine Sound.same hi (hrun _ _ cap kk n h0 h1) ?_
       rw [Addr.add_lit]
       simp only [aL]
       exact ⟨g,i.size,N,hm,by simp [Nat.add_mul]⟩
     . simp at h
   . simp at h
 . simp at h
theorem FR (hi:Inv G own E w σ) {t e:TypeId} {n:Nat} {i:TypeInfo} (hu:P.underlying t=some (.array n e)) (dr:P.info? e=some i) {x j:AV} {v u:Value} (hx:aL E w x v) (hj:aL E w j u) {c:AV}
   (h:ig n i.size x j=some c):Sound P G own E w σ p (Instr.indexAt t v u) { val:=c }:=by
 unfold ig at h
 split at h
 . rename_i kk m
   simp only [aL] at hj;subst hj
   split at h
   . rename_i hh
     have hrun:∀ a:Addr,(Instr.indexAt t (.pointer (some a)) (.int kk m)).run P w = .ok (.pointer (some (a.add (m.toNat*i.size)))) w:=by
       intro a
       simp [Instr.indexAt,run_underlying hu,asIntOf,hh,eN dr,Instr.sureAddr]
     split at h
     . simp only [Option.some.injEq] at h;subst h
       simp only [aL] at hx
       obtain ⟨g,k,N,hm,rfl⟩:=hx
       refine Sound.same hi (hrun _) ?_
       rw [Addr.add_lit]
       simp only [aL]
       exact ⟨g,k,N,hm,by simp [Nat.add_assoc]⟩
     . simp only [Option.some.injEq] at h;subst h
       simp only [aL] at hx
       obtain ⟨b,q,rfl,hb,hr⟩:=hx
       refine Sound.same hi (hrun _) ?_
       rw [Addr.add_lit]
       simp only [aL]
       exact ⟨b,q,by simp [Nat.add_assoc],hb,hr⟩
     . simp at h
   . simp at h
 . simp at h
theorem G0 (hi:Inv G own E w σ) {s:TypeId} {fs:Array Field} {f:Nat} {fd:Field} {i:TypeInfo} (hu:P.underlying s=some (.struct fs)) (hf:fs[f]? = some fd) (dr:P.info? fd.type=some i) (h0:i.size≠0)
   {x:AV} {v:Value} (hx:aL E w x v) {r:dN} (h:b8 σ p (.faddr fd.offset x)=some r):Sound P G own E w σ p (Instr.fieldAt s v f) r:=by
 have hrun:∀ a:Addr,(Instr.fieldAt s (.pointer (some a)) f).run P w = .ok (.pointer (some (a.add fd.offset))) w:=by
   intro a
   simp [Instr.fieldAt,run_underlying hu,hf,Instr.sureAddr,fieldPlace,eN dr,h0]
 simp only [b8] at h
 split at h
 . simp only [bI,Option.map_some,Option.some.injEq] at h;subst h
   simp only [aL] at hx
   obtain ⟨g,k,N,hm,rfl⟩:=hx
   refine Sound.same hi (hrun _) ?_
   rw [Addr.add_lit]
   simp only [aL]
   exact ⟨g,k,N,hm,by simp [Nat.add_assoc]⟩
 . simp only [bI,Option.map_some,Option.some.injEq] at h;subst h
   simp only [aL] at hx
   obtain ⟨b,q,rfl,hb,hr⟩:=hx
   refine Sound.same hi (hrun _) ?_
   rw [Addr.add_lit]
   simp only [aL]
   exact ⟨b,q,by simp [Nat.add_assoc],hb,hr⟩
 . simp at h
theorem G1 {t:TypeId} {agg:Bool} {i:TypeInfo} (ha:nK P t=some agg) (dr:P.info? t=some i) {cs:List AV} {xs:Array Value} (hr:aM E w cs xs.toList) {o:Nat} {c:AV} (h:VL.part agg cs o i.size=some c) :
   ∃ v,(Go.part t xs o).run P w = .ok v w/\aL E w c v:=by
 obtain ⟨h1,h2,h3⟩:=Pl h hr
 refine ⟨_, ?_,h1⟩
 cases agg with
 | true=>simp [Go.part,tq ha,eN dr]
 | false =>
   have Lh:=h3 rfl
   have:o<xs.size:=by omega
   simp [Go.part,tq ha,this]
theorem wG (hi:Inv G own E w σ) {k:Nat} {x:AV} {v:Value} (hx:aL E w x v) {ys:List AV} {rd:List Id} (h:dA σ k x=some (ys,rd)) :
   (∀ e∈ys,e.size=k)/\∃ a cap,v = .slice a ys.length cap/\ys.length<=cap/\(ys=[]∨∃ b o,a=some ⟨b,o,none⟩/\gP E w b o (flat ys)):=by
 unfold dA at h
 split at h
 . simp only [Option.some.injEq,Prod.mk.injEq] at h
   obtain ⟨rfl,rfl⟩:=h
   simp only [aL] at hx;subst hx
   exact ⟨by simp,none,0,rfl,Nat.le_refl _, .inl rfl⟩
 . rename_i k' es
   split at h
   . rename_i hk
     simp only [Option.some.injEq,Prod.mk.injEq] at h
     obtain ⟨rfl,rfl⟩:=h
     subst hk
     simp only [aL] at hx
     obtain ⟨a,cap,rfl,hl,_,hk,rh⟩:=hx
     exact ⟨hk,a,cap,rfl,hl,rh.imp id fun ⟨b,o,e,_,r⟩=>⟨b,o,e,dG.1 r⟩⟩
   . simp at h
 . rename_i k' es
   split at h
   . rename_i hk
     simp only [Option.some.injEq,Prod.mk.injEq] at h
     obtain ⟨rfl,rfl⟩:=h
     subst hk
     simp only [aL] at hx
     obtain ⟨a,rfl,_,hk,rh⟩:=hx
     exact ⟨hk,a,_,rfl,Nat.le_refl _,rh.imp id fun ⟨b,o,e,_,r⟩=>⟨b,o,e,dG.1 r⟩⟩
   . simp at h
 . rename_i id k' off len tt
   split at h
   . rename_i bk hσ
     split at h
     . rename_i hh
       obtain ⟨rfl,J2,hle⟩:=hh
       simp only [Option.some.injEq,Prod.mk.injEq] at h
       obtain ⟨rfl,rfl⟩:=h
       obtain ⟨g,N,cur,ty,hB⟩:=hi.blk id bk hσ
       simp only [aL] at hx
       obtain ⟨g',N',cap,hm,rfl,FM,_⟩:=hx
       rw [hB.μ] at hm
       simp only [Option.some.injEq,Prod.mk.injEq] at hm
       obtain ⟨rfl,_,rfl⟩:=hm
       have FN:∀ e∈(bk.els.drop off).take len,e.size=k':=fun e he=>by rw [<- J2];exact hB.k e (List.mem_of_mem_drop (List.mem_of_mem_take he))
       have hlen:((bk.els.drop off).take len).length=len:=by simp;omega
       refine ⟨FN,some ⟨g,off*k',none⟩,cap,by rw [hlen],by omega, .inr ⟨g,off*k',rfl, ?_⟩⟩
       have:=pH (l:=off) (r:=off+len) hB.k hB.row (by omega) hle
       rw [Nat.zero_add,J2] at this
       have e:(bk.els.take (off+len)).drop off=(bk.els.drop off).take len:=by rw [List.drop_take];congr 1;omega
       rwa [e] at this
     . simp at h
   . simp at h
 . simp at h
theorem FT {b o:Nat} {cs:List AV} (h:gP E w b o cs):∃ vs:List Value,aM E w cs vs/\∀ j v,vs[j]? = some v->w.cell? ((⟨b,o,none⟩:Addr).add j)=some v:=by
 refine ⟨(List.range cs.length).map fun j=>(w.cell? ⟨b,o+j,none⟩).getD undef,bz.2 ⟨by simp,fun j c hj => ?_⟩,fun j v hj => ?_⟩
 . obtain ⟨v,hv,hr⟩:=h j c hj
   have hlt:j<cs.length:=(List.getElem?_eq_some_iff.1 hj).1
   exact ⟨v,by simp [hlt,hv],hr⟩
 . have hlt:j<cs.length:=by have:=(List.getElem?_eq_some_iff.1 hj).1;simpa using this
   obtain ⟨v',hv',_⟩:=h j cs[j] (by simp [hlt])
   simp only [List.getElem?_map,hlt,List.getElem?_range,Option.map_some,Option.some.injEq] at hj
   rw [Addr.add_lit,hv', <- hj,hv']
   rfl
theorem Ck {cs:List AV} {vs:List Value} (h:aM E w cs vs) (h1:∀ c∈cs,c.one=true):∀ v∈vs,v.oneCell'=true:=by
 intro v hv
 obtain ⟨j,hj⟩:=List.mem_iff_getElem?.1 hv
 obtain ⟨hl,hp⟩:=bz.1 h
 have nH:j<cs.length:=by have:=(List.getElem?_eq_some_iff.1 hj).1;omega
 obtain ⟨u,hu,hru⟩:=hp j cs[j] (by simp [nH])
 have:u=v:=by rw [hj] at hu;simpa using hu.symm
 subst this
 exact aL.one hru (h1 _ (by simp))
theorem yq (hi:Inv G own E w σ) (hμ : E.μ p=none) (hσ : σ p=none) {k n N:Nat} {els:List AV} (hk:∀ e∈els,e.size=k) (hn:els.length=n) {vs:List Value} (hv:aM E w (flat els) vs)
   {rest:Array Value} (hr:rest.size=(N-n)*k) (hnN:n<=N) (hN:N<=maxLen) (ty:TypeId) {rd:List Id} :
   kU G own E w σ p { val := .osl p k 0 n false,rd:=rd,up:=[(p,some ⟨els,k,false⟩)] } (.slice (some ⟨w.heap.size,0,none⟩) n N) (E.bind p w.heap.size k N) (w.drew.alloc (.cells (vs.toArray++rest) ty)):=by
 have hd:=hi.drew
 obtain ⟨hl,hp⟩:=bz.1 hv
 have Cf:=cC hk
 have hstep:Step E E w w.drew:=(Adv.drew (own:=own) E w).step
 have hlen:(vs++rest.toList).length=N*k:=by
   simp only [List.length_append,Array.length_toList,hl,Cf,hn,hr, <- Nat.add_mul]
   congr 1;omega
 have:=wF (p:=p) (rd:=rd) hd hμ hσ (els:=els) (k:=k) (N:=N) (vs:=vs++rest.toList) ty hk
   (fun j c hj=>by
     obtain ⟨v,pj,tk⟩:=hp j c hj
     exact ⟨v,by rw [List.getElem?_append_left (List.getElem?_eq_some_iff.1 pj).1];exact pj,aL.keep hstep c v tk⟩) hlen (by omega) hN
   (c := .osl p k 0 n false) (v := .slice (some ⟨w.heap.size,0,none⟩) n N)
   (by simp only [aL];exact ⟨w.heap.size,N,N,Env.ji _ _ _ _ _,by simp,hnN,by omega,hN,by simp⟩)
 have he:(vs++rest.toList).toArray=vs.toArray++rest:=by apply Array.ext';simp
 rw [he] at this
 exact ⟨(Adv.drew E w).trans this.Ch,this.inv,this.rep,this.ids⟩
theorem Tu (hi:Inv G own E w σ) (id:Id):Inv G own E w (σ.put id none) where
 okb:=hi.okb
 blk:=fun i bk h=>by
   by_cases e:i=id
   . subst e;simp [aa.put] at h
   . rw [aa.bd _ _ _ e] at h;exact hi.blk i bk h
 inj:=fun i j x y hx hy hne h1 h2=>by
   have ei:i≠id:=by rintro rfl;simp [aa.put] at hx
   have ej:j≠id:=by rintro rfl;simp [aa.put] at hy
   rw [aa.bd _ _ _ ei] at hx
   rw [aa.bd _ _ _ ej] at hy
   exact hi.inj i j x y hx hy hne h1 h2
 glob:=hi.glob
 new:=hi.new
end
end Go.VL
end

section
namespace Go.VL
theorem z6 {k:Nat}:∀ {es:List AV} {n:Nat},(∀ x∈es,x.size=k)->flat (es.take n)=(flat es).take (n*k)
 | [],n,_=>by simp [flat]
 | x::es,0,_=>by simp [flat]
 | x::es,n+1,h=>by
   have hx:x.cells.length=k:=h x (by simp)
   have ih:=z6 (es:=es) (n:=n) (fun y hy=>h y (by simp [hy]))
   have hf:flat (x::es)=x.cells++flat es:=by simp [flat]
   have Tn:flat ((x::es).take (n+1))=x.cells++flat (es.take n):=by simp [flat]
   rw [hf,Tn,ih,show (n+1)*k=x.cells.length+n*k from by rw [hx,Nat.add_mul];omega,List.take_length_add_append]
theorem Ev {k:Nat}:∀ {es:List AV} {n:Nat},(∀ x∈es,x.size=k)->flat (es.drop n)=(flat es).drop (n*k)
 | [],n,_=>by simp [flat]
 | x::es,0,_=>by simp
 | x::es,n+1,h=>by
   have hx:x.cells.length=k:=h x (by simp)
   have ih:=Ev (es:=es) (n:=n) (fun y hy=>h y (by simp [hy]))
   have hf:flat (x::es)=x.cells++flat es:=by simp [flat]
   rw [List.drop_succ_cons,ih,hf,show (n+1)*k=x.cells.length+n*k from by rw [hx,Nat.add_mul];omega,List.drop_length_add_append]
theorem A5 {G:Nat->Option (List AV)} {own:Nat->Prop} {E:Env} {w:World} {σ : aa} (h:Inv G own E w σ) {id:Id} {bk:dC} (hσ : σ id=some bk) (DZ:bk.fr=false)
   {g N:Nat} {cur:Array Value} {ty:TypeId} (hB:xj E own w id bk g N cur ty)
   {e:Nat} {news:List AV} {vs:List Value} (hle:e+news.length<=bk.els.length) (hk:∀ x∈news,x.size=bk.k) (hv:aM E w (flat news) vs) :
   e*bk.k+vs.length<=cur.size /\
   Adv own E E w (w.setRow g (cur.toList.take (e*bk.k)++vs++cur.toList.drop (e*bk.k+vs.length)).toArray) /\
   Inv G own E (w.setRow g (cur.toList.take (e*bk.k)++vs++cur.toList.drop (e*bk.k+vs.length)).toArray) (σ.put id (some { bk with els:=bk.els.take e++news++bk.els.drop (e+news.length) })):=by
 obtain ⟨uF,hvp⟩:=bz.1 hv
 have FU:=cC hk
 have hbound:e*bk.k+vs.length<=cur.size:=by
   rw [hB.size,uF,FU, <- Nat.add_mul]
   exact Nat.mul_le_mul_right _ (by have:=hB.len;omega)
 refine ⟨hbound, ?_⟩
 generalize To:(cur.toList.take (e*bk.k)++vs++cur.toList.drop (e*bk.k+vs.length)).toArray=nv
 have hg:=dH hB.heap
 have uS:(w.setRow g nv).heap[g]? = some (.cells nv ty (0,0)):=setRow_heap w g cur nv ty _ hB.heap
 have hs:Step E E w (w.setRow g nv):=⟨fun _ _ h=>h,fun _ h=>h,fun b hb=>setRow_other w g b nv (fun e=>hB.no DZ (e▸hb))⟩
 have gr:Adv own E E w (w.setRow g nv) :=
   ⟨hs,rfl,rfl,rfl,by simp,fun k _ hk=>setRow_other w g k nv (fun e=>hk (e▸hB.own)),fun _ h => .inl h⟩
 refine ⟨gr, ?_, ?_, ?_, ?_, ?_⟩
 . intro b hb;simpa using h.okb b hb
 . intro i BB hi
   by_cases dr:i=id
   . subst dr
     rw [aa.bb] at hi
     simp only [Option.some.injEq] at hi
     subst hi
     have xr:(bk.els.take e++news++bk.els.drop (e+news.length)).length=bk.els.length:=by simp;omega
     have yr:∀ x∈bk.els.take e++news++bk.els.drop (e+news.length),x.size=bk.k:=by
       intro x hx
       simp only [List.append_assoc,List.mem_append] at hx
       rcases hx with hx | hx | hx
       . exact hB.k x (List.mem_of_mem_take hx)
       . exact hk x hx
       . exact hB.k x (List.mem_of_mem_drop hx)
     refine ⟨g,N,nv,ty,hB.μ,uS, ?_,by rw [xr];exact hB.len,hB.most,hB.own,by simp [DZ],hB.no,yr, ?_⟩
     . rw [<- To]
       simp only [List.size_toArray,List.length_append,List.length_take,List.length_drop,Array.length_toList]
       rw [<- hB.size];omega
     . show gP E (w.setRow g nv) g 0 (flat (bk.els.take e++news++bk.els.drop (e+news.length)))
       rw [mD,mD,z6 hB.k,Ev hB.k]
       have hlen:(flat bk.els).length=bk.els.length*bk.k:=cC hB.k
       have hcz:bk.els.length*bk.k<=cur.size:=by rw [hB.size];exact Nat.mul_le_mul_right _ hB.len
       have hmul:(e+news.length)*bk.k<=bk.els.length*bk.k:=Nat.mul_le_mul_right _ hle
       rw [Nat.add_mul] at hmul
       intro j c hj
       have hcell:(w.setRow g nv).cell? ⟨g,0+j,none⟩=nv[j]? := by rw [Nat.zero_add];exact cell_of_row _ _ _ _ _ _ uS
       rw [hcell]
       suffices Wx:∃ v,nv[j]? = some v/\aL E w c v by
         obtain ⟨v,pj,tk⟩:=Wx;exact ⟨v,pj,aL.keep hs c v tk⟩
       rw [<- To]
       have hold:∀ (j:Nat) (c:AV),(flat bk.els)[j]? = some c->∃ v:Value,cur[j]? = some v/\aL E w c v:=by
         intro j c hj
         obtain ⟨v,pj,tk⟩:=hB.row j c hj
         rw [Nat.zero_add,cell_of_row _ _ _ _ _ _ hB.heap] at pj
         exact ⟨v,pj,tk⟩
       simp only [List.getElem?_toArray]
       have ha:(cur.toList.take (e*bk.k)).length=e*bk.k:=by simp;omega
       have hb:((flat bk.els).take (e*bk.k)).length=e*bk.k:=by simp;omega
       rw [List.append_assoc] at hj ⊢
       by_cases c1:j<e*bk.k
       . rw [List.getElem?_append_left (by omega),List.getElem?_take_of_lt c1] at hj
         rw [List.getElem?_append_left (by omega),List.getElem?_take_of_lt c1]
         obtain ⟨v,pj,tk⟩:=hold j c hj
         exact ⟨v,by simpa using pj,tk⟩
       . rw [List.getElem?_append_right (by omega),hb] at hj
         rw [List.getElem?_append_right (by omega),ha]
         by_cases c2:j-e*bk.k<(flat news).length
         . rw [List.getElem?_append_left c2] at hj
           rw [List.getElem?_append_left (by omega)]
           obtain ⟨v,pj,tk⟩:=hvp _ c hj
           exact ⟨v,pj,tk⟩
         . rw [List.getElem?_append_right (by omega),List.getElem?_drop] at hj
           rw [List.getElem?_append_right (by omega),List.getElem?_drop,uF]
           rw [FU] at hj c2 ⊢
           have e1:(e+news.length)*bk.k+(j-e*bk.k-news.length*bk.k)=j:=by rw [Nat.add_mul];omega
           have e2:e*bk.k+news.length*bk.k+(j-e*bk.k-news.length*bk.k)=j:=by omega
           rw [e1] at hj;rw [e2]
           obtain ⟨v,pj,tk⟩:=hold _ c hj
           exact ⟨v,by simpa using pj,tk⟩
   . rw [aa.bd _ _ _ dr] at hi
     obtain ⟨g',N',zS,Lg,Pe⟩:=h.blk i BB hi
     have hne:g'≠g:=h.inj i id _ _ (by simp [hi]) (by simp [hσ]) dr Pe.μ hB.μ
     exact ⟨g',N',zS,Lg,Pe.keep hs (setRow_other w g g' nv hne) Pe.no⟩
 . intro i j x y hi hj hne hx hy
   refine h.inj i j x y ?_ ?_ hne hx hy
   . intro hn;by_cases dr:i=id
     . subst dr;simp [hσ] at hn
     . rw [aa.bd _ _ _ dr] at hi;exact hi hn
   . intro hn;by_cases dr:j=id
     . subst dr;simp [hσ] at hn
     . rw [aa.bd _ _ _ dr] at hj;exact hj hn
 . intro g' cs JT
   obtain ⟨Lh,Vo⟩:=h.glob g' cs JT
   exact ⟨Lh,cm.keep hs.bare (hs.same g' Lh) cs 0 Vo⟩
 . intro k hk;simp at hk;exact h.new k hk
end Go.VL
end

section
namespace Go.VL
section
variable {P:Program} {G:Nat->Option (List AV)} {own:Nat->Prop} {E:Env} {w:World} {σ : aa} {p:Id}
theorem Tv (hi:Inv G own E w σ) (hμ : E.μ p=none) (hσ : σ p=none) {id:Id} {bk:dC} (hid : σ id=some bk) (DZ:bk.fr=false) {g N:Nat} {cur:Array Value} {ty:TypeId} (hB:xj E own w id bk g N cur ty)
   {ys:List AV} (hk:∀ e∈ys,e.size=bk.k) {news:List Value} (hv:aM E w (flat ys) news) (JW:bk.els.length+ys.length<=N) {rd:List Id} :
   kU G own E w σ p { val := .osl p bk.k 0 (bk.els.length+ys.length) false,rd:=rd,up:=[(id,none),(p,some ⟨bk.els++ys,bk.k,false⟩)] }
     (.slice (some ⟨g,0,none⟩) (bk.els.length+ys.length) N) (E.bind p g bk.k N)
     (w.setRow g (cur.toList.take (bk.els.length*bk.k)++news++cur.toList.drop (bk.els.length*bk.k+news.length)).toArray):=by
 obtain ⟨uF,hvp⟩:=bz.1 hv
 have hy:=cC hk
 have he:=cC hB.k
 have hle:bk.els.length*bk.k+news.length<=cur.size:=by
   rw [uF,hy,hB.size, <- Nat.add_mul];exact Nat.mul_le_mul_right _ JW
 generalize To:(cur.toList.take (bk.els.length*bk.k)++news++cur.toList.drop (bk.els.length*bk.k+news.length)).toArray=nv
 have uS:(w.setRow g nv).heap[g]? = some (.cells nv ty (0,0)):=setRow_heap w g cur nv ty _ hB.heap
 have Ze:id≠p:=by rintro rfl;simp [hid] at hσ
 have hs:Step E (E.bind p g bk.k N) w (w.setRow g nv) :=
   ⟨fun i x h=>by rw [Env.iO];exact h;rintro rfl;simp [hμ] at h,fun _ h=>h,fun b hb=>setRow_other w g b nv (fun e=>hB.no DZ (e▸hb))⟩
 have gr:Adv own E (E.bind p g bk.k N) w (w.setRow g nv) :=
   ⟨hs,rfl,rfl,rfl,by simp,fun k _ hk=>setRow_other w g k nv (fun e=>hk (e▸hB.own)),fun _ h => .inl h⟩
 have hsz:nv.size=cur.size:=by
   rw [<- To]
   simp only [List.size_toArray,List.length_append,List.length_take,List.length_drop,Array.length_toList]
   omega
 refine ⟨gr,⟨?_, ?_, ?_, ?_, ?_⟩, ?_,fun i hne=>Env.iO _ _ _ _ _ (fun e=>hne (by rw [e];exact List.suffix_refl _))⟩
 . intro b hb;simpa using hi.okb b hb
 . intro i BB h
   simp only [aa.app] at h
   by_cases e1:i=p
   . subst e1
     rw [aa.bb] at h
     simp only [Option.some.injEq] at h;subst h
     refine ⟨g,N,nv,ty,Env.ji _ _ _ _ _,uS,by rw [hsz];exact hB.size,by simpa using JW,hB.most,hB.own,by simp,fun _ hb=>hB.no DZ hb, ?_, ?_⟩
     . intro e he
       rcases List.mem_append.1 he with h | h
       . exact hB.k e h
       . exact hk e h
     . show gP _ _ g 0 (flat (bk.els++ys))
       rw [mD]
       have hcell:∀ j,(w.setRow g nv).cell? ⟨g,j,none⟩=nv[j]? := fun j=>cell_of_row _ _ _ _ _ _ uS
       have ht:(cur.toList.take (bk.els.length*bk.k)).length=bk.els.length*bk.k:=by simp;omega
       refine tj.2 ⟨fun j c hj => ?_,fun j c hj => ?_⟩
       . have nH:j<bk.els.length*bk.k:=by rw [<- he];exact (List.getElem?_eq_some_iff.1 hj).1
         obtain ⟨v,pj,tk⟩:=hB.row j c hj
         rw [Nat.zero_add,cell_of_row _ _ _ _ _ _ hB.heap] at pj
         refine ⟨v, ?_,aL.keep hs c v tk⟩
         rw [Nat.zero_add,hcell, <- To]
         simp only [List.getElem?_toArray,List.append_assoc]
         rw [List.getElem?_append_left (by omega),List.getElem?_take_of_lt nH]
         simpa using pj
       . obtain ⟨v,pj,tk⟩:=hvp j c hj
         have nH:j<news.length:=(List.getElem?_eq_some_iff.1 pj).1
         refine ⟨v, ?_,aL.keep hs c v tk⟩
         rw [Nat.zero_add,hcell, <- To,he]
         simp only [List.getElem?_toArray,List.append_assoc]
         rw [List.getElem?_append_right (by omega),ht,Nat.add_sub_cancel_left,List.getElem?_append_left nH]
         exact pj
   . rw [aa.bd _ _ _ e1] at h
     by_cases e2:i=id
     . subst e2;simp [aa.put] at h
     . rw [aa.bd _ _ _ e2] at h
       obtain ⟨g',N',zS,Lg,Pe⟩:=hi.blk i BB h
       have hne:g'≠g:=hi.inj i id _ _ (by simp [h]) (by simp [hid]) e2 Pe.μ hB.μ
       exact ⟨g',N',zS,Lg,Pe.keep hs (setRow_other w g g' nv hne) Pe.no⟩
 . intro i j x y hx hy hne h1 h2
   simp only [aa.app] at hx hy
   have other:∀ i,i≠p->((σ.put id none).put p (some ⟨bk.els++ys,bk.k,false⟩)) i≠none->i≠id /\ σ i≠none:=by
     intro i e h
     rw [aa.bd _ _ _ e] at h
     have e2:i≠id:=by rintro rfl;simp [aa.put] at h
     rw [aa.bd _ _ _ e2] at h
     exact ⟨e2,h⟩
   by_cases e1:i=p
   . have e1:=e1.symm
     subst e1
     have e2:j≠p:=fun e=>hne e.symm
     obtain ⟨h3,h4⟩:=other j e2 hy
     rw [Env.ji] at h1
     rw [Env.iO _ _ _ _ _ e2] at h2
     have:=hi.inj id j (g,bk.k,N) y (by simp [hid]) h4 (fun e=>h3 e.symm) hB.μ h2
     simp only [Option.some.injEq] at h1
     rw [<- h1];exact this
   . obtain ⟨h3,h4⟩:=other i e1 hx
     rw [Env.iO _ _ _ _ _ e1] at h1
     by_cases e2:j=p
     . subst e2
       rw [Env.ji] at h2
       have:=hi.inj i id x (g,bk.k,N) h4 (by simp [hid]) h3 h1 hB.μ
       simp only [Option.some.injEq] at h2
       rw [<- h2];exact this
     . obtain ⟨h5,h6⟩:=other j e2 hy
       rw [Env.iO _ _ _ _ _ e2] at h2
       exact hi.inj i j x y h4 h6 hne h1 h2
 . intro g' cs JT
   obtain ⟨h1,h2⟩:=hi.glob g' cs JT
   exact ⟨h1,cm.keep hs.bare (hs.same g' h1) cs 0 h2⟩
 . intro k hk;simp at hk;exact hi.new k hk
 . simp only [aL]
   exact ⟨g,N,N,Env.ji _ _ _ _ _,by simp,JW,by omega,hB.most,by simp⟩
def Lr (c:AV) (val:Value):Prop:=∀ E w,aL E w c val
theorem FV {ys:List AV} (h:(ys.all fun e=>e.cells.all AV.one)=true):∀ c∈flat ys,c.one=true:=by
 intro c hc
 simp only [flat,List.mem_flatMap] at hc
 obtain ⟨e,he,hce⟩:=hc
 have:=List.all_eq_true.1 h e he
 exact List.all_eq_true.1 this c hce
theorem pt (t ty e bt:TypeId) (i:TypeInfo) (ht:P.underlying t=some (.slice e)) (hi:P.info? e=some i)
   (g J3 Wz:Nat) (cur:Array Value) (hg:w.heap[g]? = some (.cells cur bt (0,0)))
   (a:Addr) (m c:Nat) (news:List Value) (hl:news.length=m*i.size) (Zf:∀ j u,news[j]? = some u->w.cell? (a.add j)=some u) (h1:∀ u∈news,u.oneCell'=true)
   (hroom:J3+m<=Wz) (JW:J3*i.size+news.length<=cur.size) :
   (Builtin.append_ #[t,t] ty #[.slice (some ⟨g,0,none⟩) J3 Wz, .slice (some a) m c]).run P w =
     .ok (.slice (some ⟨g,0,none⟩) (J3+m) Wz) (w.setRow g (cur.toList.take (J3*i.size)++news++cur.toList.drop (J3*i.size+news.length)).toArray):=by
 have hf:=run_firstCells_some (P:=P) w i.size m a m c news hl Zf
 have hst:=run_storeCells_at P g (J3*i.size) bt news 0 cur w hg (by simpa using JW) h1
 simp only [Nat.add_zero] at hst
 simp [Builtin.append_,run_underlying ht,sizeOf,typeInfo,hi,Builtin.lenOf,hroom,hf,Addr.add_lit,hst]
theorem xt {z:AV} {zv:Value} (hz:aM E w z.cells zv.cells.toList) (n:Nat) (hp:0<z.size):aM E w (flat (List.replicate n z)) (Builtin.zeroCells zv.cells n).toList:=by
 obtain ⟨hl,Y9⟩:=bz.1 hz
 have hk:∀ e∈List.replicate n z,e.size=z.size:=fun e he=>by rw [List.eq_of_mem_replicate he]
 have Cf:=cC hk
 have hs:zv.cells.size=z.size:=by simpa [AV.size] using hl
 refine bz.2 ⟨by rw [Cf];simp [Builtin.zeroCells,hs],fun j c hj => ?_⟩
 have nH:j<n*z.size:=by have:=(List.getElem?_eq_some_iff.1 hj).1;rw [Cf] at this;simpa using this
 have hdm:j/z.size*z.size+j%z.size=j:=by rw [Nat.mul_comm];exact Nat.div_add_mod j z.size
 have Px:=Nat.mod_lt j hp
 have hdiv:j/z.size<n:=Nat.div_lt_of_lt_mul (by rwa [Nat.mul_comm] at nH)
 have hg:=flat_get (i:=j/z.size) (e:=z) hk (by simp [hdiv]) Px
 rw [hdm,hj] at hg
 obtain ⟨v,hv,hr⟩:=Y9 (j%z.size) c hg.symm
 refine ⟨v, ?_,hr⟩
 have hv':zv.cells[j%z.size]? = some v:=by simpa using hv
 simp only [Builtin.zeroCells,Array.toList_map,Array.toList_range,List.getElem?_map,hs,List.getElem?_range nH,Option.map_some]
 rw [getElem!_def,hv']
theorem Cl (hi:Inv G own E w σ) {id:Id} {off k len:Nat} {tt:Bool} {news:List AV} {v:AV} {rd:List Id} {r:dN} (h:uG σ id off k news v rd=some r) {a:Value} (hs:aL E w (.osl id k off len tt) a)
   (hk:∀ e∈news,e.size=k) {vs:List Value} (hv:aM E w (flat news) vs) {val:Value} (hval:Lr v val) :
   ∃ g cap,a = .slice (some ⟨g,off*k,none⟩) len cap/\∃ w',(storeCells ⟨g,off*k,none⟩ vs).run P w = .ok () w'/\kU G own E w σ p r val E w':=by
 unfold uG at h
 split at h
 . rename_i bk hid
   split at h
   . rename_i hh
     obtain ⟨J2,hle,DZ,JO⟩:=hh
     simp only [Option.some.injEq] at h;subst h
     obtain ⟨g,N,cur,ety,hB⟩:=hi.blk id bk hid
     simp only [aL] at hs
     obtain ⟨g',N',cap,GI,rfl,FM,Pw,YJ,J1⟩:=hs
     rw [hB.μ] at GI
     simp only [Option.some.injEq,Prod.mk.injEq] at GI
     obtain ⟨rfl,_,rfl⟩:=GI
     obtain ⟨B0,had,Ew⟩:=A5 hi hid DZ hB (e:=off) (news:=news) (vs:=vs) hle (fun e he=>by rw [J2];exact hk e he) hv
     have e0:off*bk.k=off*k:=by rw [J2]
     rw [e0] at B0 had Ew
     have hst:=run_storeCells_at P g (off*k) ety vs 0 cur w hB.heap (by simpa using B0) (Ck hv (FV JO))
     simp only [Nat.add_zero] at hst
     exact ⟨g,cap,rfl,_,hst,had,Ew,hval E _,fun _ _=>rfl⟩
   . simp at h
 . simp at h
theorem G2 (hi:Inv G own E w σ) {t e ty:TypeId} {z:AV} (hu:P.underlying t=some (.slice e)) (hz:lN P e=some z) (ot:0<z.size) {x:AV} {a:Value} (hx:aL E w x a) {r:dN} (h:xF σ z.size z x=some r) :
   Sound P G own E w σ p (Builtin.clear_ #[t] ty #[a]) r:=by
 obtain ⟨it,zv,hit,JN,Ni,Ll,Lm⟩:=kV hz
 have hzr:=aL.cells (iA (E:=E) (w:=w) Ni) (jL Lm)
 unfold xF at h
 split at h
 . simp only [Option.some.injEq] at h;subst h
   simp only [aL] at hx;subst hx
   exact Sound.same (v := .tuple #[]) hi (by simp [Builtin.clear_,run_underlying hu]) (by simp only [aL];exact ⟨#[],rfl,by simp [aM]⟩)
 . rename_i id k' off len tt
   split at h
   . rename_i h0
     subst h0
     simp only [Option.some.injEq] at h;subst h
     simp only [aL] at hx
     obtain ⟨g',N',cap,GI,rfl,_⟩:=hx
     exact Sound.same (v := .tuple #[]) hi (by simp [Builtin.clear_,run_underlying hu]) (by simp only [aL];exact ⟨#[],rfl,by simp [aM]⟩)
   . rename_i h0
     split at h
     . rename_i hh
       obtain ⟨rfl,_⟩:=hh
       obtain ⟨g,cap,rfl,w',hst,hp⟩:=Cl (P:=P) (p:=p) (val := .tuple #[]) hi h hx (fun e he=>by rw [List.eq_of_mem_replicate he]) (xt hzr len ot) (fun E w=>by simp only [aL];exact ⟨#[],rfl,by simp [aM]⟩)
       refine ⟨_,w',E, ?_,hp⟩
       obtain ⟨m,rfl⟩:∃ m,len=m+1:=⟨len-1,by omega⟩
       simp [Builtin.clear_,run_underlying hu,xn hit JN,hst]
     . simp at h
 . simp at h
theorem J4 (hi:Inv G own E w σ) {t t2 e ty:TypeId} {i:TypeInfo} (hu:P.underlying t=some (.slice e)) (dr:P.info? e=some i) {d x:AV} {a b:Value} (hd:aL E w d a) (hx:aL E w x b) {r:dN} (h:yk σ i.size d x=some r) :
   Sound P G own E w σ p (Builtin.copy_ #[t,t2] ty #[a,b]) r:=by
 unfold yk at h
 split at h
 . simp at h
 . rename_i ys rd vz
   obtain ⟨Eo,xa,D4,rfl,Nl,rh⟩:=wG hi hx vz
   have zero:∀ (ba:Option Addr) (n cap:Nat),Nat.min ys.length n=0->(Builtin.copy_ #[t,t2] ty #[.slice ba n cap, .slice xa ys.length D4]).run P w = .ok (.int .i64 0) w:=by
     intro ba n cap h0
     cases ba<;>cases xa<;>simp [Builtin.copy_,run_underlying hu,eN dr,Builtin.lenOf,h0,Builtin.firstCells,loadCells,loadCellsFrom,storeCells,goInt]
   split at h
   . simp only [Option.some.injEq] at h;subst h
     simp only [aL] at hd;subst hd
     exact Sound.same hi (zero none 0 0 (by simp)) (by simp only [aL])
   . rename_i id k' off len tt
     split at h
     . rename_i h0
       simp only [Option.some.injEq] at h;subst h
       simp only [aL] at hd
       obtain ⟨g',N',cap,GI,rfl,_⟩:=hd
       have h0':Nat.min ys.length len=0:=by
         have:=congrArg List.length (List.isEmpty_iff.1 h0)
         simp only [List.length_take,List.length_nil] at this
         rw [Nat.min_comm] at this;exact this
       exact Sound.same hi (zero _ len cap h0') (by simp only [aL])
     . rename_i h0
       split at h
       . rename_i hk
         subst hk
         have hne:ys≠[]:=by rintro rfl;simp at h0
         obtain ⟨xb,xo,rfl,hxr⟩:=rh.resolve_left hne
         have hkt:∀ e∈ys.take len,e.size=i.size:=fun e he=>Eo e (List.mem_of_mem_take he)
         have acE:gP E w xb xo (flat (ys.take len)):=by
           rw [z6 Eo]
           exact (tj.1 (by rw [List.take_append_drop];exact hxr:gP E w xb xo ((flat ys).take (len*i.size)++(flat ys).drop (len*i.size)))).1
         obtain ⟨news,Nj,Vt⟩:=FT acE
         have yt:news.length=(ys.take len).length*i.size:=by rw [aM.len Nj,cC hkt]
         obtain ⟨g,cap,rfl,w',hst,hp⟩:=Cl (P:=P) (p:=p) (val := .int .i64 (ys.take len).length) hi h hd hkt Nj (fun E w=>by simp only [aL])
         refine ⟨_,w',E, ?_,hp⟩
         have Zg:Nat.min ys.length len=(ys.take len).length:=by rw [List.length_take,Nat.min_comm]
         have hf:=run_firstCells_some (P:=P) w i.size (ys.take len).length ⟨xb,xo,none⟩ ys.length D4 news yt Vt
         generalize (ys.take len).length=m at Zg hf hp ⊢
         simp [Builtin.copy_,run_underlying hu,eN dr,Builtin.lenOf,Zg,hf,hst,goInt]
       . simp at h
   . simp at h
theorem D5 {d:Option TypeDesc} (h:zU d=true):∃ e,d=some (.slice e):=by
 unfold zU at h
 split at h
 . exact ⟨_,rfl⟩
 . cases h
theorem z7 {t t' e e' ty:TypeId} (hu:P.underlying t=some (.slice e)) (JP:P.underlying t'=some (.slice e')) (a b:Value) (w:World) :
   (Builtin.append_ #[t,t'] ty #[a,b]).run P w=(Builtin.append_ #[t,t] ty #[a,b]).run P w:=by
 cases a<;>simp [Builtin.append_,run_underlying hu,run_underlying JP]
theorem FW (hi:Inv G own E w σ) (hμ : E.μ p=none) (hσ : σ p=none) {t e ty:TypeId} {i:TypeInfo} (hu:P.underlying t=some (.slice e)) (dr:P.info? e=some i)
   (hz:(lN P e).isSome=true) {s x:AV} {a b:Value} (hs:aL E w s a) (hx:aL E w x b) {r:dN} (h:b6 σ p i.size i.bytes s x=some r) :
   Sound P G own E w σ p (Builtin.append_ #[t,t] ty #[a,b]) r:=by
 obtain ⟨z,hz⟩:=Option.isSome_iff_exists.1 hz
 obtain ⟨it,zv,hit,JN,Ni,Ll,Lm⟩:=kV hz
 rw [dr] at hit
 simp only [Option.some.injEq] at hit;subst hit
 have Py:zv.cells.size=i.size:=by
   have:=aM.len (aL.cells (iA (E:=E) (w:=w) Ni) (jL Lm))
   simp at this;unfold AV.size at Ll;omega
 unfold b6 at h
 split at h
 . simp at h
 . rename_i ys rd vz
   obtain ⟨Eo,xa,D4,rfl,Nl,rh⟩:=wG hi hx vz
   split at h
   . rename_i J5
     have hys:ys=[]:=by simpa using J5
     subst hys
     have hrun:∀ (base:Option Addr) (n cap:Nat),n<=cap->(Builtin.append_ #[t,t] ty #[.slice base n cap, .slice xa ([]:List AV).length D4]).run P w = .ok (.slice base n cap) w:=by
       intro base n cap hn
       cases base<;>cases xa<;>simp [Builtin.append_,run_underlying hu,eN dr,Builtin.lenOf,hn,Builtin.firstCells,loadCells,loadCellsFrom,storeCells]
     split at h
     . simp only [Option.some.injEq] at h;subst h
       have lY:=hs
       simp only [aL] at hs;subst hs
       exact Sound.same hi (hrun none 0 0 (Nat.le_refl _)) lY
     . simp only [Option.some.injEq] at h;subst h
       have lY:=hs
       simp only [aL] at hs;obtain ⟨q,rfl,_⟩:=hs
       exact Sound.same hi (hrun q _ _ (Nat.le_refl _)) lY
     . simp only [Option.some.injEq] at h;subst h
       have lY:=hs
       simp only [aL] at hs;obtain ⟨g,N,cap,_,rfl,hle,_⟩:=hs
       exact Sound.same hi (hrun _ _ _ hle) lY
     . simp at h
   . rename_i J5
     have hne:ys≠[]:=by simpa using J5
     have ot:0<ys.length:=List.length_pos_iff.2 hne
     obtain ⟨xb,xo,rfl,hxr⟩:=rh.resolve_left hne
     obtain ⟨news,Nj,Vt⟩:=FT hxr
     have Cf:=cC Eo
     have yt:news.length=ys.length*i.size:=by rw [aM.len Nj,Cf]
     -- an append to a row that has no room
     have grow:∀ (ba:Addr) (q:Nat) (es:List AV) (cap:Nat),(∀ e∈es,e.size=i.size)->(es=[]∨∃ b o,ba=⟨b,o,none⟩/\gP E w b o (flat es))->q=es.length->cap<q+ys.length ->
         (q+ys.length)*i.bytes<=140737488355328->q+ys.length<=maxLen->∀ rd,
         ∃ v w' E',(Builtin.append_ #[t,t] ty #[.slice (some ba) q cap, .slice (some ⟨xb,xo,none⟩) ys.length D4]).run P w = .ok v w' /\
           kU G own E w σ p { val := .osl p i.size 0 (q+ys.length) false,rd:=rd,up:=[(p,some ⟨es++ys,i.size,false⟩)] } v E' w':=by
       intro ba q es cap hk hr hq Cm hb hm rd
       have GZ:=cC hk
       obtain ⟨Pz,S9,Pw⟩:∃ vs:List Value,aM E w (flat es) vs/\∀ j v,vs[j]? = some v->w.cell? (ba.add j)=some v:=by
         rcases hr with rfl | ⟨b,o,rfl,hr⟩
         . exact ⟨[],by simp [flat,aM],by simp⟩
         . exact FT hr
       have Ta:Pz.length=q*i.size:=by rw [aM.len S9,GZ,hq]
       have hrun:=run_append_grow (P:=P) w t ty e i zv hu dr JN ba q cap Pz Ta Pw ⟨xb,xo,none⟩ ys.length D4 news yt Vt Cm (by unfold maxLen at hm;omega) (growslice_fits Cm hb)
       have th:=grownCap_ge w (q+ys.length) cap e
       have Ln:=grownCap_le_maxLen w (q+ys.length) cap e hm
       refine ⟨_,_,E.bind p w.heap.size i.size (grownCap w (q+ys.length) cap e),hrun, ?_⟩
       have:=yq (p:=p) (rd:=rd) hi hμ hσ (k:=i.size) (n:=q+ys.length) (N:=grownCap w (q+ys.length) cap e) (els:=es++ys) (fun e he=>(List.mem_append.1 he).elim (hk e) (Eo e)) (by simp [hq])
         (vs:=Pz++news) (by rw [mD];exact aM.append S9 Nj) (rest:=Builtin.zeroCells zv.cells (grownCap w (q+ys.length) cap e-(q+ys.length))) (by rw [size_zeroCells,Py]) th Ln e
       have hee:(Pz++news).toArray=Pz.toArray++news.toArray:=by simp
       rw [hee] at this
       exact this
     split at h
     . -- onto nil
       split at h
       . rename_i hh
         obtain ⟨hb,hm,_⟩:=hh
         simp only [Option.some.injEq] at h;subst h
         simp only [aL] at hs;subst hs
         have hrun:=run_append_nil (P:=P) w t ty e i zv hu dr JN ⟨xb,xo,none⟩ ys.length D4 news yt Vt ot (by unfold maxLen at hm;omega) (by omega)
         have th:=grownCap_ge w ys.length 0 e
         have Ln:=grownCap_le_maxLen w ys.length 0 e hm
         refine ⟨_,_,E.bind p w.heap.size i.size (grownCap w ys.length 0 e),hrun, ?_⟩
         exact yq (p:=p) (rd:=rd) hi hμ hσ (k:=i.size) (n:=ys.length) (N:=grownCap w ys.length 0 e) (els:=ys) Eo rfl Nj (by rw [size_zeroCells,Py]) th Ln e
       . simp at h
     . -- onto a row without room
       rename_i k' es
       split at h
       . rename_i hh
         obtain ⟨rfl,hb,hm,_⟩:=hh
         simp only [Option.some.injEq] at h;subst h
         simp only [aL] at hs
         obtain ⟨q,rfl,_,hk,hr⟩:=hs
         cases q with
         | none =>
           have hes:es=[]:=by rcases hr with h | ⟨b,o,h,_⟩;exact h;simp at h
           subst hes
           simp only [List.length_nil,Nat.zero_add,List.nil_append] at hb hm ⊢
           have hrun:=run_append_nil (P:=P) w t ty e i zv hu dr JN ⟨xb,xo,none⟩ ys.length D4 news yt Vt ot (by unfold maxLen at hm;omega) (by omega)
           have th:=grownCap_ge w ys.length 0 e
           have Ln:=grownCap_le_maxLen w ys.length 0 e hm
           refine ⟨_,_,E.bind p w.heap.size i.size (grownCap w ys.length 0 e),hrun, ?_⟩
           exact yq (p:=p) (rd:=rd) hi hμ hσ (k:=i.size) (n:=ys.length) (N:=grownCap w ys.length 0 e) (els:=ys) Eo rfl Nj (by rw [size_zeroCells,Py]) th Ln e
         | some ba =>
           exact grow ba es.length es es.length hk (hr.imp id fun ⟨b,o,e,_,r⟩=>⟨b,o,by simpa using e,dG.1 r⟩) rfl (by omega) hb hm rd
       . simp at h
     . -- onto a block of the store
       rename_i id k' off len tt
       split at h
       . rename_i bk hid
         split at h
         . rename_i hh
           obtain ⟨rfl,J2,rfl,hle,hb,hm,JO⟩:=hh
           obtain ⟨g,N,cur,ety,hB⟩:=hi.blk id bk hid
           simp only [aL] at hs
           obtain ⟨g',N',cap,GI,rfl,FM,Pw,YJ,J1⟩:=hs
           rw [hB.μ] at GI
           simp only [Option.some.injEq,Prod.mk.injEq] at GI
           obtain ⟨rfl,_,rfl⟩:=GI
           have FN:∀ e∈bk.els,e.size=i.size:=fun e he=>by rw [<- J2];exact hB.k e he
           simp only [Nat.zero_mul]
           split at h
           . split at h
             . rename_i ht _
               simp only [Option.some.injEq] at h;subst h
               rw [if_pos ht] at J1
               have xI:=pH (l:=0) (r:=len) hB.k hB.row (Nat.zero_le _) hle
               simp only [Nat.zero_mul,Nat.add_zero,List.drop_zero] at xI
               exact grow ⟨g,0,none⟩ len (bk.els.take len) cap (fun e he=>FN e (List.mem_of_mem_take he)) (.inr ⟨g,0,rfl,xI⟩) (by simp;omega) (by omega) hb hm (id::rd)
             . simp at h
           . split at h
             . rename_i ht hh2
               obtain ⟨Tw,DZ,qA⟩:=hh2
               simp only [Option.some.injEq] at h;subst h
               simp only [ht,Bool.false_eq_true,if_false,Nat.zero_add] at J1
               subst Tw
               by_cases hroom:bk.els.length+ys.length<=cap
               . have hrun:=pt (P:=P) (w:=w) t ty e ety i hu dr g bk.els.length cap cur hB.heap ⟨xb,xo,none⟩ ys.length D4 news yt Vt (Ck Nj (FV JO)) hroom
                   (by rw [yt,hB.size,J2, <- Nat.add_mul];exact Nat.mul_le_mul_right _ (by omega))
                 obtain rfl:cap=N:=J1
                 refine ⟨_,_,E.bind p g i.size cap,hrun, ?_⟩
                 have:=Tv (p:=p) (rd:=id::rd) hi hμ hσ hid DZ hB (ys:=ys) (fun e he=>by rw [J2];exact Eo e he) Nj hroom
                 rw [J2] at this
                 exact this
               . obtain ⟨v,w',E',hrun,Ls⟩:=grow ⟨g,0,none⟩ bk.els.length bk.els cap FN (.inr ⟨g,0,rfl,hB.row⟩) rfl (by omega) hb hm (id::rd)
                 refine ⟨v,w',E',hrun,Ls.Ch, ?_,Ls.rep,Ls.ids⟩
                 have Ze:id≠p:=by rintro rfl;simp [hid] at hσ
                 have:=Tu Ls.inv id
                 have he:(σ.app [(p,some ⟨bk.els++ys,i.size,false⟩)]).put id none = σ.app [(id,none),(p,some ⟨bk.els++ys,i.size,false⟩)]:=by
                   funext j
                   simp only [aa.app,aa.put]
                   by_cases e1:j=id
                   . subst e1;simp [Ze]
                   . simp [e1]
                 rw [he] at this
                 exact this
             . split at h
               . -- over elements that lie behind
                 rename_i ht _ hh2
                 obtain ⟨Tw,DZ⟩:=hh2
                 simp only [Option.some.injEq] at h;subst h
                 simp only [ht,Bool.false_eq_true,if_false,Nat.zero_add] at J1
                 obtain rfl:cap=N:=J1
                 have hroom:len+ys.length<=cap:=Nat.le_trans Tw hB.len
                 obtain ⟨B0,had,Ew⟩:=A5 hi hid DZ hB (e:=len) (news:=ys) (vs:=news) Tw (fun e he=>by rw [J2];exact Eo e he) Nj
                 have e0:len*bk.k=len*i.size:=by rw [J2]
                 rw [e0] at B0 had Ew
                 have hrun:=pt (P:=P) (w:=w) t ty e ety i hu dr g len cap cur hB.heap ⟨xb,xo,none⟩ ys.length D4 news yt Vt (Ck Nj (FV JO)) hroom B0
                 refine ⟨_,_,E,hrun,had,Ew, ?_,fun _ _=>rfl⟩
                 simp only [aL]
                 exact ⟨g,cap,cap,by rw [hB.μ,J2],by simp,hroom,by omega,YJ,by simp⟩
               . simp at h
         . simp at h
       . simp at h
     . simp at h
theorem J6 (hi:Inv G own E w σ) (hμ : E.μ p=none) (hσ : σ p=none) {t tn e ty:TypeId} {i:TypeInfo} {kn:IntKind} (hu:P.underlying t=some (.slice e)) (dr:P.info? e=some i) (htn:P.underlying tn=some (.int kn)) {z:AV}
   (hz:lN P e=some z) (ot:0<i.size) {s x:AV} {a b:Value} (hs:aL E w s a) (hx:aL E w x b) {r:dN} (h:Lj p i.size i.bytes z s x=some r) :
   Sound P G own E w σ p (Builtin.append_ #[t,tn] ty #[a,b]) r:=by
 obtain ⟨it,zv,hit,JN,Ni,Ll,Lm⟩:=kV hz
 rw [dr] at hit
 simp only [Option.some.injEq] at hit;subst hit
 have hzr:=aL.cells (iA (E:=E) (w:=w) Ni) (jL Lm)
 have Py:zv.cells.size=i.size:=by have:=aM.len hzr;simp at this;unfold AV.size at Ll;omega
 unfold Lj at h
 split at h
 . rename_i kk n
   split at h
   . rename_i hh
     obtain ⟨h0,hb,hm,hzk,_⟩:=hh
     simp only [Option.some.injEq] at h;subst h
     simp only [aL] at hs hx;subst hs;subst hx
     obtain ⟨m,rfl⟩:∃ m:Nat,n=m:=⟨n.toNat,by omega⟩
     have Vu:m*i.bytes<=140737488355328:=by rw [<- Int.natCast_mul] at hb;omega
     have qx:m<=maxLen:=by omega
     have th:=grownCap_ge w m 0 e
     have Ln:=grownCap_le_maxLen w m 0 e qx
     have hrun:=Lib.run_append_nil_zeros (P:=P) w t tn ty e i zv kk kn hu htn dr JN m (by omega) ot (by unfold maxLen at qx;omega) (by omega)
     refine ⟨_,_,E.bind p w.heap.size i.size (grownCap w m 0 e),hrun, ?_⟩
     have:=yq (p:=p) (rd:=[]) hi hμ hσ (k:=i.size) (n:=m) (N:=grownCap w m 0 e) (els:=List.replicate m z) (fun e he=>by rw [List.eq_of_mem_replicate he];exact hzk) (by simp)
       (vs:=(Builtin.zeroCells zv.cells m).toList) (xt hzr m (by omega)) (rest:=Builtin.zeroCells zv.cells (grownCap w m 0 e-m)) (by rw [size_zeroCells,Py]) th Ln e
     simpa using this
   . simp at h
 . simp at h
end
end Go.VL
end

section
namespace Go.VL
section
variable {P:Program} {G:Nat->Option (List AV)} {own:Nat->Prop} {E:Env} {w:World} {σ : aa} {p:Id}
def eE (P:Program) (G:Nat->Option (List AV)) (own:Nat->Prop) (E:Env) (w:World) (σ : aa) (p:Id) (r:dN) (s:Sem Next):Prop :=
 ∃ v w' E',(s.run P w = .ok (.value v) w'∨(s.run P w = .ok .skip w'/\v=undef))/\kU G own E w σ p r v E' w'
theorem eE.of {s:Sem Value} {r:dN} (h:Sound P G own E w σ p s r):eE P G own E w σ p r (do pure (.value (<- s))):=by
 obtain ⟨v,w',E',hr,hp⟩:=h
 exact ⟨v,w',E', .inl (by simp [hr]),hp⟩
theorem eE.ofU {s:Sem Unit} {r:dN} (h:∃ w',s.run P w = .ok () w'/\kU G own E w σ p r undef E w'):eE P G own E w σ p r (do s;pure .skip):=by
 obtain ⟨w',hr,hp⟩:=h
 exact ⟨undef,w',E, .inr ⟨by simp [hr],rfl⟩,hp⟩
theorem vC {t:List AV} {a:Act} (hf:cn E w t a) (hi:Inv G own E w σ) {x:Option Operand} {vx:Option aS} (h:zT x=some vx):mQ E w (vx.map (aS.ev G t)) (x.map a.eval):=by
 cases x with
 | none=>simp only [zT,Option.some.injEq] at h;subst h;trivial
 | some x =>
   simp only [zT,Option.map_eq_some_iff] at h
   obtain ⟨va,zM,rfl⟩:=h
   exact aZ hf hi zM
theorem J7 {σ : aa} {x:AV} {oc:Option AV} {r:dN} (h:yl σ x oc=some r):bI oc=some r∨∃ id k off len bk,x = .osl id k off len false /\ σ id=some bk/\off<=bk.els.length/\r={ val := .ige (bk.els.length-off),rd:=[id] }:=by
 unfold yl at h
 split at h
 . exact .inl h
 . split at h
   . rename_i id k off len
     split at h
     . rename_i bk hb
       split at h
       . rename_i ho
         simp only [Option.some.injEq] at h
         exact .inr ⟨id,k,off,len,bk,rfl,hb,ho,h.symm⟩
       . simp at h
     . simp at h
   . simp at h
theorem D6 (hi : Inv G own E w σ) {t e:TypeId} {i:TypeInfo} (hu:P.underlying t=some (.slice e)) (dr:P.info? e=some i) {x:AV} {v:Value} (hx:aL E w x v)
   {lo jc mx:Option AV} {Nk Lp vmx:Option Value} (uU:mQ E w lo Nk) (zY:mQ E w jc Lp) (hmx:mQ E w mx vmx) (hmh:mx.isSome->jc.isSome) {r:dN}
   (h:kI σ i.size x lo jc mx (bT i.size x lo jc mx)=some r):Sound P G own E w σ p (Instr.sliceAt t v Nk Lp vmx) r:=by
 cases hs:bT i.size x lo jc mx with
 | some c =>
   rw [hs] at h
   refine Sound.fy (oc:=some c) h fun c' hc' => ?_
   simp only [Option.some.injEq] at hc';subst hc'
   exact yp hi hu dr hx uU zY hmx hmh hs
 | none =>
   rw [hs] at h
   simp only [kI] at h
   split at h
   . rename_i id k' off len hh
     split at h
     . rename_i bk hb
       split at h
       . rename_i hc
         obtain ⟨ho,hk⟩:=hc
         simp only [Option.map_eq_some_iff] at h
         obtain ⟨c,hc,rfl⟩:=h
         simp only [aL] at hx
         obtain ⟨g,N,cap,hm,rfl,h1,h2,h3,h4⟩:=hx
         obtain ⟨g',N',cur,Lg,hB⟩:=hi.blk id bk hb
         have hμ := hB.μ
         rw [hμ] at hm
         simp only [Option.some.injEq,Prod.mk.injEq] at hm
         obtain ⟨rfl,rfl,rfl⟩:=hm
         simp only [Bool.false_eq_true,if_false] at h4
         have hl:=hB.len
         have hx':aL E w (.osl id bk.k off (bk.els.length-off) false) (.slice (some ⟨g',off*bk.k,none⟩) (bk.els.length-off) cap):=by
           simp only [aL]
           exact ⟨g',N',cap,hμ,rfl,by omega,h2,h3,by simpa using h4⟩
         have acH:vmx=none:=by cases vmx with | none=>rfl | some _=>exact (hmx:False).elim
         subst acH
         obtain ⟨v,w',E',hrun,hp⟩:=yp (p:=p) hi hu dr hx' uU zY (mx:=none) (vmx:=none) hmx (by simp) hc
         cases Lp with
         | none=>exact (zY:False).elim
         | some u =>
           refine ⟨v,w',E', ?_,⟨hp.Ch,hp.inv,hp.rep,hp.ids⟩⟩
           rw [<- hrun]
           simp [Instr.sliceAt,Instr.slice,run_underlying hu,Instr.sliceBounds]
       . simp at h
     . simp at h
   . rename_i hh km m
     split at h
     . rename_i n hn
       split at h
       . rename_i l r' hb
         split at h
         . rename_i hc
           simp only [Option.some.injEq] at h;subst h
           obtain ⟨h1,h2⟩:=hc
           have Tx:m=((m.toNat:Nat):Int):=by omega
           obtain ⟨a,cap,rfl,FM⟩:∃ a cap,v = .slice a n cap/\n<=cap:=by
             unfold Ph at hn
             split at hn
             . simp only [Option.some.injEq] at hn;subst hn
               simp only [aL] at hx;exact ⟨_,_,hx,Nat.le_refl _⟩
             . split at hn
               . simp only [Option.some.injEq] at hn;subst hn
                 simp only [aL] at hx;obtain ⟨a,cap,rfl,h,_⟩:=hx;exact ⟨_,_,rfl,h⟩
               . simp at hn
             . split at hn
               . simp only [Option.some.injEq] at hn;subst hn
                 simp only [aL] at hx;obtain ⟨a,rfl,_⟩:=hx;exact ⟨_,_,rfl,Nat.le_refl _⟩
               . simp at hn
             . split at hn
               . simp only [Option.some.injEq] at hn;subst hn
                 simp only [aL] at hx;obtain ⟨g,N,cap,_,rfl,h,_⟩:=hx;exact ⟨_,_,rfl,h⟩
               . simp at hn
             . simp at hn
           unfold cJ at hb
           split at hb
           . simp at hb
           . rename_i Lh e1
             split at hb
             . simp at hb
             . rename_i l1 e2
               simp only [Option.some.injEq,Prod.mk.injEq] at hb
               obtain ⟨rfl,rfl⟩:=hb
               obtain ⟨qA,_,_⟩:=iP (P:=P) (isSlice:=true) (len:=n) (cap:=cap) (m:=m.toNat) uU zY hmx FM e1 e2 (.inr ⟨km,by rw [<- Tx],by simp,by omega,by omega⟩)
               refine ⟨.slice (if m.toNat=l1 then a else a.map (·.add (l1*i.size))) (Lh-l1) (m.toNat-l1),w,E, ?_,⟨Adv.refl own E w,hi,by simp only [aL],fun _ _=>rfl⟩⟩
               simp [Instr.sliceAt,Instr.slice,run_underlying hu,qA,eN dr]
         . simp at h
       . simp at h
     . simp at h
   . simp at h
theorem Lt {f:FuncId} {fn:Func} {e:Array Value->Sem Value} {c:Call} {a:Act} {o:Oper} (hop:o.op = .call c) (vD:c.callee = .value (.func f)) (hf:P.funcs[f]? = some fn) (sw:(fn.name == "runtime.NumGoroutine")=false)
   (hb:fn.body.isNone=true) (hn:Extern.findNext fn=none) (he:Extern.find fn=some e) {v:Value} {w':World} (hrun:(e (c.args.map a.eval)).run P w = .ok v w') :
   (execOp a.eval o).run P w = .ok (.value v) w':=by
 have h1:=run_callFunc_extern hf sw hb hn he (c.args.map a.eval) w
 rw [hrun] at h1
 simp only [Result.andThen] at h1
 have e0:a.eval (.func f) = .func (.func f) #[] #[]:=rfl
 simp [execOp,hop,resolve,vD,e0,Deferred.ofValue,invoke,h1]
theorem Ex {fo : Operand} {k:Tp} (h:Pj P fo=some k):∃ f fn,fo = .func f/\P.funcs[f]? = some fn/\fn.body.isNone=true /\
   ((k = .idx/\fn.name = "internal/bytealg.IndexByteString" /\ fn.origin = "")∨(k = .ovl/\fn.origin = "slices.overlaps" /\ vB fn.name=true/\∃ t e i,fn.params[0]? = some t/\P.underlying t=some (.slice e)/\P.info? e=some i)):=by
 unfold Pj at h
 split at h
 . rename_i f
   split at h
   . rename_i fn FU
     split at h
     . rename_i hb
       refine ⟨f,fn,rfl,FU,hb, ?_⟩
       split at h
       . rename_i hn
         simp only [Option.some.injEq] at h
         simp only [Bool.and_eq_true,beq_iff_eq] at hn
         exact .inl ⟨h.symm,hn.1,hn.2⟩
       . split at h
         . rename_i ho
           simp only [Bool.and_eq_true,beq_iff_eq] at ho
           split at h
           . rename_i t ht
             split at h
             . rename_i e he
               split at h
               . rename_i hi
                 simp only [Option.some.injEq] at h
                 obtain ⟨i,hi⟩:=Option.isSome_iff_exists.1 hi
                 exact .inr ⟨h.symm,ho.1,ho.2,t,e,i,ht,he,hi⟩
               . simp at h
             . simp at h
           . simp at h
         . simp at h
     . simp at h
   . simp at h
 . simp at h
theorem Nn {fn:Func} (hf:vB fn.name=true) (ho:fn.origin = "slices.overlaps"):Extern.findNext fn=none/\Extern.find fn=some (Extern.SlicesOverlaps.overlaps fn.params fn.resultTypes):=by
 unfold vB at hf
 simp only [Bool.and_eq_true,Option.isNone_iff_eq_none] at hf
 obtain ⟨⟨⟨⟨h1,h2⟩,h3⟩,h4⟩,_⟩:=hf
 have o1:Extern.allGenericRows.lookup "slices.overlaps" = none:=by kernel_rfl
 have o2:Extern.allTypedRows.lookup "slices.overlaps" = some Extern.SlicesOverlaps.overlaps:=by kernel_rfl
 have o4:Extern.allNextRows.lookup "slices.overlaps" = none:=by kernel_rfl
 constructor
 . simp [Extern.findNext,h4,ho,o4]
 . simp [Extern.find,h1,h2,h3,ho,o1,o2]
theorem PA {fn:Func} (hn:fn.name = "internal/bytealg.IndexByteString") (ho:fn.origin = ""):Extern.findNext fn=none/\Extern.find fn=some Extern.BytealgIndexByte.indexByte:=by
 have o1:Extern.allGenericRows.lookup "internal/bytealg.IndexByteString" = none:=by kernel_rfl
 have o2:Extern.allTypedRows.lookup "internal/bytealg.IndexByteString" = none:=by kernel_rfl
 have o3:Extern.allRows.lookup "internal/bytealg.IndexByteString" = some Extern.BytealgIndexByte.indexByte:=by kernel_rfl
 have o4:Extern.allNextRows.lookup "internal/bytealg.IndexByteString" = none:=by kernel_rfl
 have o5:Extern.allNextRows.lookup "" = none:=by kernel_rfl
 constructor
 . simp [Extern.findNext,hn,ho,o4,o5]
 . simp [Extern.find,hn,o1,o2,o3]
theorem Cn:∀ (l:List UInt8) (c:UInt8),Lib.indexByte l c=qM l c
 | [],_=>rfl
 | b::l,c=>by simp only [Lib.indexByte,qM,Cn l c]
theorem Np {c:Call} {a:Act} {o:Oper} {fo x y:Operand} (hop:o.op = .call c) (vD:c.callee = .value fo) (hk:Pj P fo=some .idx) (kK:c.args.toList=[x,y]) (hi:Inv G own E w σ) {vx vy:AV}
   (hx:aL E w vx (a.eval x)) (hy:aL E w vy (a.eval y)) {r:dN} (h:bI (Pg vx vy)=some r):eE P G own E w σ p r (execOp a.eval o):=by
 obtain ⟨f,fn,rfl,FU,hb,hh⟩:=Ex hk
 rcases hh with ⟨_,hn,ho⟩ | ⟨h0,_⟩
 case inr=>simp at h0
 have key:∃ s n,vx = .str s/\vy = .int .u8 n/\r={ val := .int .i64 (qM s n.toNat.toUInt8) }:=by
   unfold Pg at h
   split at h
   . simp only [bI,Option.map_some,Option.some.injEq] at h
     exact ⟨_,_,rfl,rfl,h.symm⟩
   . simp [bI] at h
 clear h
 obtain ⟨s,n,rfl,rfl,rfl⟩:=key
 . simp only [aL] at hx hy
   obtain ⟨WA,Ty⟩:=PA hn ho
   have Zh:c.args.map a.eval = #[.string ⟨s.toArray⟩, .int .u8 n]:=by
     apply Array.ext'
     simp [kK,hx,hy]
   refine ⟨.int .i64 (qM s n.toNat.toUInt8),w,E, .inl (Lt hop vD FU (by rw [hn];rfl) hb WA Ty ?_),⟨Adv.refl own E w,hi,by simp only [aL],fun _ _=>rfl⟩⟩
   rw [Zh,Lib.run_indexByteString,Cn]
theorem Tz (params res:Array TypeId) {tS e:TypeId} {i:TypeInfo} (hp:params[0]? = some tS) (ht:P.underlying tS=some (.slice e)) (dr:P.info? e=some i)
   (a b:Addr) (la ca lb cb:Nat) (hne:a.block≠b.block) {WB TA:Array Value} {tA tB:TypeId} (ha:w.heap[a.block]? = some (.cells WB tA (0,0))) (hb:w.heap[b.block]? = some (.cells TA tB (0,0))) (hkB:TA.size≠0) :
   (Extern.SlicesOverlaps.overlaps params res #[.slice (some a) la ca, .slice (some b) lb cb]).run P w = .ok (.bool false) w:=by
 have Tb:(a.block != b.block)=true:=by simpa using hne
 have acI:(a.block==b.block)=false:=by simpa using hne
 have hsa:w.shape? a.block=some (tA,WB.size):=by simp [World.shape?,ha]
 have hsb:w.shape? b.block=some (tB,TA.size):=by simp [World.shape?,hb]
 have hfa:w.frozen? a=false:=by simp [World.frozen?,ha]
 have GZ:w.frozen? { block:=a.block,off:=WB.size }=false:=by simp [World.frozen?,ha]
 have hz:(Go.sizeOf e).run P w = .ok i.size w:=eN dr w
 change Sem.run P (α := Value) (do
   let some t:=params[0]? | stuck "slices.overlaps: no parameter types"
   let .slice elem <- underlying t | stuck "slices.overlaps: slice type expected"
   let size <- sizeOf elem
   match (some a:Option Addr),(some b:Option Addr) with
   | some a,some b =>
     if la=0∨lb=0∨size=0 then pure (Value.bool false)
     else if a.block != b.block&&(<- frozen a)&&(<- frozen b) then unsupported .addressObserved
     else do
       if a.block != b.block then do
         noView a;noView b
         if <- mayBeOne a b then return Value.bool ((<- choose (.extern "sameAddr.stringBytes" 2))==1)
       pure (Value.bool (a.block==b.block&&a.off<b.off+lb*size&&b.off<a.off+la*size))
   | _,_=>pure (Value.bool false)) w=_
 rw [hp]
 by_cases h0:la=0∨lb=0∨i.size=0
 . simp [run_underlying ht,hz,h0]
 . cases hk:TA.size with
   | zero=>exact absurd hk hkB
   | succ kB =>
     simp [run_underlying ht,hz,h0,Tb,acI,frozen,noView,viewAt,mayBeOne,stringish,shape,Sem.run,hsa,hsb,hfa,GZ,hk]
theorem Nq {c:Call} {a:Act} {o:Oper} {fo x y:Operand} (hop:o.op = .call c) (vD:c.callee = .value fo) (hk:Pj P fo=some .ovl) (kK:c.args.toList=[x,y]) (hi:Inv G own E w σ) {vx vy:AV}
   (hx:aL E w vx (a.eval x)) (hy:aL E w vy (a.eval y)) {r:dN} (h:GR σ vx vy=some r):eE P G own E w σ p r (execOp a.eval o):=by
 obtain ⟨f,fn,rfl,FU,hb,hh⟩:=Ex hk
 rcases hh with ⟨h0,_⟩ | ⟨_,ho,hnf,tS,e,i,hp,ht,dr⟩
 case inl=>simp at h0
 unfold GR at h
 split at h
 . rename_i id1 k1 o1 l1 t1 Vv k2 o2 l2 t2
   split at h
   . simp at h
   . rename_i hne
     split at h
     . rename_i b1 b2 h1 h2
       split at h
       . rename_i ot
         simp only [Option.some.injEq] at h;subst h
         simp only [aL] at hx hy
         obtain ⟨g1,N1,c1,GJ,pj,_⟩:=hx
         obtain ⟨g2,N2,c2,ti,tk,_⟩:=hy
         obtain ⟨g1',N1',agd,ty1,hB1⟩:=hi.blk id1 b1 h1
         obtain ⟨g2',N2',WC,ty2,uI⟩:=hi.blk Vv b2 h2
         have hg:g1≠g2:=hi.inj id1 Vv _ _ (by simp [h1]) (by simp [h2]) hne GJ ti
         rw [hB1.μ] at GJ
         rw [uI.μ] at ti
         simp only [Option.some.injEq,Prod.mk.injEq] at GJ ti
         obtain ⟨rfl,_,_⟩:=GJ
         obtain ⟨rfl,_,_⟩:=ti
         obtain ⟨WA,Ty⟩:=Nn hnf ho
         have sw:(fn.name == "runtime.NumGoroutine")=false:=by
           unfold vB at hnf
           simp only [Bool.and_eq_true,Bool.not_eq_true'] at hnf
           exact hnf.2
         have Zh:c.args.map a.eval = #[.slice (some ⟨g1',o1*k1,none⟩) l1 c1, .slice (some ⟨g2',o2*k2,none⟩) l2 c2]:=by
           apply Array.ext'
           simp [kK,pj,tk]
         have hsz:WC.size≠0:=by
           rw [uI.size]
           have hl:=uI.len
           exact Nat.ne_of_gt (Nat.mul_pos (by omega) ot.1)
         refine ⟨.bool false,w,E, .inl (Lt hop vD FU sw hb WA Ty ?_),⟨Adv.refl own E w,hi,by simp only [aL],fun _ _=>rfl⟩⟩
         rw [Zh]
         exact Tz fn.params fn.resultTypes hp ht dr _ _ _ _ _ _ hg hB1.heap uI.heap hsz
       . simp at h
     . simp at h
 . simp at h
theorem D7 (hi:Inv G own E w σ) (hμ : E.μ p=none) (hσ : σ p=none) {t:List AV} {a:Act} (hf:cn E w t a) {b:Builtin} {args:Array Operand} {ts:Array TypeId} {ty:TypeId} {cs:Array Bool} {vo:gB aS}
   (hc:ym P b args ts=some vo) {r:dN} (h:b8 σ p (vo.map (aS.ev G t))=some r) {R:Prop}
   (fin:∀ {s:Sem Value},builtin b ts ty cs (args.map a.eval)=(do pure (.value (<- s)))->Sound P G own E w σ p s r->R):R:=by
 unfold ym at hc
 split at hc
 . -- len
   rename_i x tx kK TB
   have nL:args = #[x]:=by apply Array.ext';simpa using kK
   have FY:ts = #[tx]:=by apply Array.ext';simpa using TB
   refine fin (s:=Builtin.len_ ts ty (args.map a.eval)) rfl ?_
   rw [nL,FY]
   split at hc
   . rename_i hu
     simp only [Option.map_eq_some_iff] at hc;obtain ⟨va,zM,rfl⟩:=hc
     simp only [gB.map,b8] at h
     have hr:=aZ hf hi zM
     refine Sound.fy h fun cc hcc => ?_
     cases hx:va.ev G t<;>simp only [hx,jK,Option.some.injEq,reduceCtorEq] at hcc
     rename_i l
     rw [hx] at hr
     simp only [aL] at hr
     subst hcc
     refine Sound.same (v := .int .i64 l.length) hi ?_ (by simp only [aL])
     have hsz:(ByteArray.mk l.toArray).size=l.length:=by show l.toArray.size=l.length;simp
     simp [Builtin.len_,run_underlying hu,hr,goInt,hsz]
   . rename_i e hu
     simp only [Option.map_eq_some_iff] at hc;obtain ⟨va,zM,rfl⟩:=hc
     simp only [gB.map,b8] at h
     have hr:=aZ hf hi zM
     refine Sound.fy h fun cc hcc => ?_
     have hrun:∀ (ad:Option Addr) (n c:Nat),a.eval x = .slice ad n c->(Builtin.len_ #[tx] ty (#[x].map a.eval)).run P w = .ok (.int .i64 n) w:=by
       intro ad n c he
       simp [Builtin.len_,run_underlying hu,he,goInt]
     cases hx:va.ev G t<;>simp only [hx,jK,Option.some.injEq,reduceCtorEq] at hcc<;>rw [hx] at hr<;>simp only [aL] at hr<;>subst hcc
     . obtain ⟨ad,cap,he,_⟩:=hr
       exact Sound.same hi (hrun _ _ _ he) (by simp only [aL])
     . obtain ⟨ad,he,_⟩:=hr
       exact Sound.same hi (hrun _ _ _ he) (by simp only [aL])
     . exact Sound.same hi (hrun _ _ _ hr) (by simp only [aL];rfl)
     . obtain ⟨g,N,cap,_,he,_⟩:=hr
       exact Sound.same hi (hrun _ _ _ he) (by simp only [aL])
   . rename_i n e hu
     simp only [Option.map_eq_some_iff] at hc;obtain ⟨va,zM,rfl⟩:=hc
     simp only [gB.map,b8] at h
     refine Sound.fy h fun cc hcc => ?_
     simp only [Option.some.injEq] at hcc;subst hcc
     refine Sound.same (v := .int .i64 n) hi ?_ (by simp only [aL])
     simp [Builtin.len_,run_underlying hu,goInt]
   . simp at hc
 . -- append
   rename_i s x t1 t2 kK TB
   have nL:args = #[s,x]:=by apply Array.ext';simpa using kK
   have FY:ts = #[t1,t2]:=by apply Array.ext';simpa using TB
   refine fin (s:=Builtin.append_ ts ty (args.map a.eval)) rfl ?_
   rw [nL,FY]
   split at hc
   . rename_i e hu
     split at hc
     . rename_i i dr
       split at hc
       . rename_i hh
         obtain ⟨Co,_,_,hz⟩:=hh
         obtain ⟨e',JP⟩:=D5 Co
         split at hc
         . rename_i vs vx Lu kq
           simp only [Option.some.injEq] at hc;subst hc
           simp only [gB.map,b8] at h
           obtain ⟨v,w',E',hr,hp⟩:=FW (ty:=ty) hi hμ hσ hu dr hz (aZ hf hi Lu) (aZ hf hi kq) h
           refine ⟨v,w',E', ?_,hp⟩
           rw [<- hr, <- z7 (ty:=ty) hu JP]
           simp
         . simp at hc
       . split at hc
         . rename_i kn z vs vx TC hz Lu kq
           split at hc
           . rename_i ot
             simp only [Option.some.injEq] at hc;subst hc
             simp only [gB.map,b8] at h
             have:=J6 (P:=P) (ty:=ty) hi hμ hσ hu dr TC hz ot (aZ hf hi Lu) (aZ hf hi kq) h
             simpa using this
           . simp at hc
         . simp at hc
     . simp at hc
   . simp at hc
 . -- cap
   rename_i x tx kK TB
   have nL:args = #[x]:=by apply Array.ext';simpa using kK
   have FY:ts = #[tx]:=by apply Array.ext';simpa using TB
   refine fin (s:=Builtin.cap_ ts ty (args.map a.eval)) rfl ?_
   rw [nL,FY]
   split at hc
   . rename_i e hu
     simp only [Option.map_eq_some_iff] at hc;obtain ⟨va,zM,rfl⟩:=hc
     simp only [gB.map,b8] at h
     have hr:=aZ hf hi zM
     rcases J7 h with h | ⟨id,k,off,len,bk,hx,hid,agf,rfl⟩
     case inr =>
       rw [hx] at hr;simp only [aL] at hr
       obtain ⟨g,N,cap,GI,hv,h1,h2,h3,h4⟩:=hr
       obtain ⟨g',N',cur,Lg,hB⟩:=hi.blk id bk hid
       rw [hB.μ] at GI
       simp only [Option.some.injEq,Prod.mk.injEq] at GI
       obtain ⟨rfl,_,rfl⟩:=GI
       refine Sound.same (v := .int .i64 cap) hi (by simp [Builtin.cap_,run_underlying hu,hv,goInt]) ?_
       simp only [aL]
       have:=hB.len
       simp only [Bool.false_eq_true,if_false] at h4
       exact ⟨cap,by omega,rfl⟩
     refine Sound.fy h fun cc hcc => ?_
     have hrun:∀ (ad:Option Addr) (n c:Nat),a.eval x = .slice ad n c->(Builtin.cap_ #[tx] ty (#[x].map a.eval)).run P w = .ok (.int .i64 c) w:=by
       intro ad n c he
       simp [Builtin.cap_,run_underlying hu,he,goInt]
     unfold Na at hcc
     split at hcc
     . rename_i hx
       rw [hx] at hr;simp only [aL] at hr
       simp only [Option.some.injEq] at hcc;subst hcc
       exact Sound.same hi (hrun _ _ _ hr) (by simp only [aL];rfl)
     . rename_i hx
       rw [hx] at hr;simp only [aL] at hr
       simp only [Option.some.injEq] at hcc;subst hcc
       obtain ⟨ad,he,_⟩:=hr
       exact Sound.same hi (hrun _ _ _ he) (by simp only [aL])
     . rename_i hx
       rw [hx] at hr;simp only [aL,if_true] at hr
       simp only [Option.some.injEq] at hcc;subst hcc
       obtain ⟨g,N,cap,_,he,_,_,_,Cm⟩:=hr
       subst Cm
       exact Sound.same hi (hrun _ _ _ he) (by simp only [aL])
     . simp at hcc
   . simp at hc
 . -- clear
   rename_i x tx kK TB
   have nL:args = #[x]:=by apply Array.ext';simpa using kK
   have FY:ts = #[tx]:=by apply Array.ext';simpa using TB
   refine fin (s:=Builtin.clear_ ts ty (args.map a.eval)) rfl ?_
   rw [nL,FY]
   split at hc
   . rename_i e hu
     split at hc
     . rename_i z vx hz kq
       split at hc
       . rename_i ot
         simp only [Option.some.injEq] at hc;subst hc
         simp only [gB.map,b8] at h
         have:=G2 (P:=P) (p:=p) (ty:=ty) hi hu hz ot (aZ hf hi kq) h
         simpa using this
       . simp at hc
     . simp at hc
   . simp at hc
 . -- copy
   rename_i d x t1 t2 kK TB
   have nL:args = #[d,x]:=by apply Array.ext';simpa using kK
   have FY:ts = #[t1,t2]:=by apply Array.ext';simpa using TB
   refine fin (s:=Builtin.copy_ ts ty (args.map a.eval)) rfl ?_
   rw [nL,FY]
   split at hc
   . rename_i e hu
     split at hc
     . rename_i i dr
       split at hc
       . split at hc
         . rename_i vd vx hvd kq
           simp only [Option.some.injEq] at hc;subst hc
           simp only [gB.map,b8] at h
           have:=J4 (P:=P) (p:=p) (ty:=ty) (t2:=t2) hi hu dr (aZ hf hi hvd) (aZ hf hi kq) h
           simpa using this
         . simp at hc
       . simp at hc
     . simp at hc
   . simp at hc
 . -- min
   rename_i x y kK
   have nL:args = #[x,y]:=by apply Array.ext';simpa using kK
   refine fin (s:=Builtin.min_ ts ty (args.map a.eval)) rfl ?_
   rw [nL]
   split at hc
   . rename_i vx vy kq FZ
     simp only [Option.some.injEq] at hc;subst hc
     simp only [gB.map,b8] at h
     have TD:=aZ hf hi kq
     have TE:=aZ hf hi FZ
     split at h
     . rename_i k n k' m hx hy
       rw [hx] at TD;rw [hy] at TE
       simp only [aL] at TD TE
       refine Sound.fy h fun cc hcc => ?_
       simp only [Option.some.injEq] at hcc;subst hcc
       refine Sound.same (v := .int k (if m<n then m else n)) hi ?_ (by simp only [aL])
       simp [Builtin.min_,TD,TE,Builtin.min2]
     . simp at h
   . simp at hc
 . -- max
   rename_i x y kK
   have nL:args = #[x,y]:=by apply Array.ext';simpa using kK
   refine fin (s:=Builtin.max_ ts ty (args.map a.eval)) rfl ?_
   rw [nL]
   split at hc
   . rename_i vx vy kq FZ
     simp only [Option.some.injEq] at hc;subst hc
     simp only [gB.map,b8] at h
     have TD:=aZ hf hi kq
     have TE:=aZ hf hi FZ
     split at h
     . rename_i k n k' m hx hy
       rw [hx] at TD;rw [hy] at TE
       simp only [aL] at TD TE
       refine Sound.fy h fun cc hcc => ?_
       simp only [Option.some.injEq] at hcc;subst hcc
       refine Sound.same (v := .int k (if m>n then m else n)) hi ?_ (by simp only [aL])
       simp [Builtin.max_,TD,TE,Builtin.max2]
     . simp at h
   . simp at hc
 . simp at hc
theorem yu:∀ {ys:List AV} {l:List UInt8},bytesOf ys=some l->∃ zs:List Int,ys=zs.map (AV.int .u8)/\l=zs.map fun n=>UInt8.ofNat n.toNat
 | [],l,h=>by simp only [bytesOf,Option.some.injEq] at h;subst h;exact ⟨[],rfl,rfl⟩
 | .int .u8 n::r,l,h=>by
   simp only [bytesOf,Option.map_eq_some_iff] at h
   obtain ⟨l',h1,rfl⟩:=h
   obtain ⟨zs,rfl,rfl⟩:=yu h1
   exact ⟨n::zs,rfl,rfl⟩
theorem Ey (k:IntKind):∀ zs:List Int,flat (zs.map (AV.int k))=zs.map (AV.int k)
 | []=>rfl
 | z::zs=>by have:=Ey k zs;simp only [List.map_cons,flat,List.flatMap_cons,AV.cells] at this ⊢;rw [this];rfl
theorem Cp (hi:Inv G own E w σ) {src dst e:TypeId} (hs:P.underlying src=some (.slice e)) (he:P.underlying e=some (.int .u8)) (hd:P.underlying dst=some .string) {x:AV} {v:Value} (hx:aL E w x v) {r:dN} (h:mE σ x=some r) :
   Sound P G own E w σ p (convert src dst v) r:=by
 unfold mE at h
 split at h
 . rename_i ys rd vz
   simp only [Option.map_eq_some_iff] at h
   obtain ⟨l,hl,rfl⟩:=h
   obtain ⟨zs,rfl,rfl⟩:=yu hl
   obtain ⟨_,a,cap,rfl,hle,hr⟩:=wG hi hx vz
   refine Sound.same (v := .string ⟨(zs.map fun n=>UInt8.ofNat n.toNat).toArray⟩) hi ?_ (by simp [aL])
   rcases hr with hr | ⟨b,o,rfl,hr⟩
   . have hz:zs=[]:=by simpa using hr
     subst hz
     rw [run_convert_bytes_string w src dst e _ _ _ hs he hd]
     cases a with
     | none=>simp [Conv.bytesToString];rfl
     | some a =>
       rw [run_bytesToString w a _ _ [] (by simp [loadCells,loadCellsFrom])]
       rfl
   . rw [Ey] at hr
     have:=run_convert_bytes_arg (P:=P) w src e hs he b o zs.length cap zs rfl (fun i PB=>by
       obtain ⟨v,h1,h2⟩:=hr i (.int .u8 zs[i]) (by rw [List.getElem?_map,List.getElem?_eq_getElem PB];rfl)
       simp only [aL] at h2
       subst h2
       have WD:(⟨b,o,none⟩:Addr).add i=⟨b,o+i,none⟩:=by simp [Addr.add]
       first | rw [WD] at h1 | skip
       rw [h1,List.getD_eq_getElem?_getD,List.getElem?_eq_getElem PB];rfl) dst hd
     simpa [strOfNums] using this
 . simp at h
theorem Nr (hi:Inv G own E w σ) (hμ : E.μ p=none) (hσ : σ p=none) {t:List AV} {a:Act} (hf:cn E w t a) {o:Oper} {vo:gB aS} (hc:mL P o.op=some vo) {r:dN}
   (h:b8 σ p (vo.map (aS.ev G t))=some r):eE P G own E w σ p r (execOp a.eval o):=by
 unfold execOp
 cases ho:o.op<;>rw [ho] at hc<;>simp only []
 case move x =>
   simp only [mL,Option.map_eq_some_iff] at hc;obtain ⟨va,zM,rfl⟩:=hc
   simp only [gB.map,b8,bI,Option.map_some,Option.some.injEq] at h;subst h
   exact ⟨a.eval x,w,E, .inl rfl,Adv.refl own E w,hi,aZ hf hi zM,fun _ _=>rfl⟩
 case assign x =>
   simp only [mL,Option.map_eq_some_iff] at hc;obtain ⟨va,zM,rfl⟩:=hc
   simp only [gB.map,b8,bI,Option.map_some,Option.some.injEq] at h;subst h
   exact ⟨a.eval x,w,E, .inl rfl,Adv.refl own E w,hi,aZ hf hi zM,fun _ _=>rfl⟩
 case pick c x y =>
   simp only [mL] at hc
   cases TF:cL c with
   | none=>simp [TF] at hc
   | some vc =>
   cases kq:cL x with
   | none=>simp [TF,kq] at hc
   | some vx =>
   cases FZ:cL y with
   | none=>simp [TF,kq,FZ] at hc
   | some vy =>
     simp only [TF,kq,FZ,Option.some.injEq] at hc;subst hc
     simp only [gB.map,b8] at h
     have Ts:=aZ hf hi TF
     have TD:=aZ hf hi kq
     have TE:=aZ hf hi FZ
     split at h
     . rename_i b hb
       rw [hb] at Ts
       simp only [aL] at Ts
       simp only [bI,Option.map_some,Option.some.injEq] at h;subst h
       refine ⟨if b then a.eval x else a.eval y,w,E, .inl (by simp [Ts,asBool]),Adv.refl own E w,hi, ?_,fun _ _=>rfl⟩
       cases b
       . exact TE
       . exact TD
     . simp at h
 case alloc ty =>
   simp only [mL,Option.map_eq_some_iff] at hc;obtain ⟨z,hz,rfl⟩:=hc
   simp only [gB.map,b8,aS.ev] at h
   obtain ⟨it,zv,hit,JN,Ni,Ll,Lm⟩:=kV hz
   split at h
   . simp only [Option.some.injEq] at h;subst h
     have:=Eu (P:=P) (p:=p) hi hμ hσ (iA Ni) Lm ty
     refine eE.of ?_
     obtain ⟨v,w',E',hr,hp⟩:=this
     refine ⟨v,w',E', ?_,hp⟩
     simp only [Instr.alloc,Sem.run_bind,xn hit JN,Result.andThen_ok]
     exact hr
   . rename_i hno;exact absurd Lm hno
 case box ty x =>
   simp only [mL,Option.map_eq_some_iff] at hc;obtain ⟨va,zM,rfl⟩:=hc
   simp only [gB.map,b8] at h
   split at h
   . rename_i xH
     simp only [Option.some.injEq] at h;subst h
     exact eE.of (Eu hi hμ hσ (aZ hf hi zM) xH ty)
   . simp at h
 case build ty ps=>exact eE.of (GX hi hf hc h)
 case buildSlice ty n ps=>exact eE.of (D1 hi hμ hσ hf hc h)
 case load ty x =>
   simp only [mL] at hc
   cases ha:nK P ty with
   | none=>simp [ha] at hc
   | some g =>
   cases BD:P.info? ty with
   | none=>simp [ha,BD] at hc
   | some i =>
   cases kq:cL x with
   | none=>simp [ha,BD,kq] at hc
   | some vx =>
     simp only [ha,BD,kq] at hc
     split at hc
     . simp only [Option.some.injEq] at hc;subst hc
       simp only [gB.map,b8] at h
       exact eE.of (GV hi ha BD (aZ hf hi kq) h)
     . simp at hc
 case store ty x y =>
   simp only [mL] at hc
   cases BD:P.info? ty with
   | none=>simp [BD] at hc
   | some i =>
   cases kq:cL x with
   | none=>simp [BD,kq] at hc
   | some vx =>
   cases FZ:cL y with
   | none=>simp [BD,kq,FZ] at hc
   | some vy =>
     simp only [BD,kq,FZ,Option.some.injEq] at hc;subst hc
     simp only [gB.map,b8] at h
     exact eE.ofU (FJ hi BD (aZ hf hi kq) (aZ hf hi FZ) h)
 case nilCheck x =>
   simp only [mL,Option.map_eq_some_iff] at hc;obtain ⟨va,zM,rfl⟩:=hc
   simp only [gB.map,b8] at h
   have hr:=aZ hf hi zM
   split at h
   . rename_i id e q hx
     simp only [bI,Option.map_some,Option.some.injEq] at h;subst h
     rw [hx] at hr ⊢
     have zX:=hr
     simp only [aL] at hr
     obtain ⟨g,k,N,hm,he⟩:=hr
     exact ⟨a.eval x,w,E, .inl (by rw [he];rfl),Adv.refl own E w,hi,zX,fun _ _=>rfl⟩
   . rename_i cs q hx
     simp only [bI,Option.map_some,Option.some.injEq] at h;subst h
     rw [hx] at hr ⊢
     have zX:=hr
     simp only [aL] at hr
     obtain ⟨b,q,he,_⟩:=hr
     exact ⟨a.eval x,w,E, .inl (by rw [he];rfl),Adv.refl own E w,hi,zX,fun _ _=>rfl⟩
   . rename_i f l1 l2 hx
     simp only [bI,Option.map_some,Option.some.injEq] at h;subst h
     rw [hx] at hr ⊢
     have zX:=hr
     simp only [aL] at hr
     obtain ⟨xs,ys,he,_⟩:=hr
     exact ⟨a.eval x,w,E, .inl (by rw [he];rfl),Adv.refl own E w,hi,zX,fun _ _=>rfl⟩
   . simp at h
 case binOp op ty x y Lg =>
   simp only [mL] at hc
   cases BC:Nb P ty with
   | none=>simp [BC] at hc
   | some sh =>
   cases kq:cL x with
   | none=>simp [BC,kq] at hc
   | some vx =>
   cases FZ:cL y with
   | none=>simp [BC,kq,FZ] at hc
   | some vy =>
     simp only [BC,kq,FZ,Option.some.injEq] at hc;subst hc
     simp only [gB.map,b8] at h
     refine eE.of (Sound.fy h fun c hcc => ?_)
     unfold bo at hcc
     split at hcc
     . rename_i c' acK
       simp only [Option.some.injEq] at hcc;subst hcc
       obtain ⟨h1,h2,h3,h4⟩:=Pt (P:=P) BC acK (aZ hf hi kq) (aZ hf hi FZ)
       refine Sound.same hi ?_ (Ep h2)
       simp only [Sem.run_bind,yo op ty x y _ _ h3 h4,Result.andThen_ok]
       exact h1
     . obtain ⟨⟨q,h1,h2⟩,h3,h4⟩:=Ng (P:=P) BC hcc (aZ hf hi kq) (aZ hf hi FZ)
       refine Sound.same (v := .bool q) hi ?_ h1
       simp only [Sem.run_bind,yo op ty x y _ _ h3 h4,Result.andThen_ok]
       exact h2
 case unOp op ty x =>
   simp only [mL,Option.map_eq_some_iff] at hc;obtain ⟨va,zM,rfl⟩:=hc
   simp only [gB.map,b8] at h
   refine eE.of (Sound.fy h fun c hcc => ?_)
   obtain ⟨h1,h2⟩:=Tr (P:=P) hcc (aZ hf hi zM)
   exact Sound.same hi h1 (Ep h2)
 case convert src dst x =>
   simp only [mL] at hc
   split at hc
   . rename_i k1 k2 h1 h2
     simp only [Option.map_eq_some_iff] at hc;obtain ⟨va,zM,rfl⟩:=hc
     simp only [gB.map,b8] at h
     have hr:=aZ hf hi zM
     split at h
     . rename_i k n hx
       rw [hx] at hr
       simp only [aL] at hr
       simp only [bI,Option.map_some,Option.some.injEq] at h;subst h
       refine eE.of (Sound.same (v := .int k2 (k2.wrap n)) hi ?_ (by simp [aL]))
       rw [hr]
       simp [convert,run_underlying h1,run_underlying h2,Conv.intToInt]
     . simp at h
   . rename_i h1 h2
     simp only [Option.map_eq_some_iff] at hc;obtain ⟨va,zM,rfl⟩:=hc
     simp only [gB.map,b8] at h
     have hr:=aZ hf hi zM
     split at h
     . rename_i l hx
       rw [hx] at hr h
       have zX:=hr
       simp only [aL] at hr
       simp only [bI,Option.map_some,Option.some.injEq] at h;subst h
       refine eE.of (Sound.same hi ?_ zX)
       rw [hr]
       simp [convert,run_underlying h1,run_underlying h2]
     . simp at h
   . rename_i e h1 h2
     split at hc
     . rename_i he
       simp only [Option.map_eq_some_iff] at hc;obtain ⟨va,zM,rfl⟩:=hc
       simp only [gB.map,b8] at h
       exact eE.of (Cp hi h1 he h2 (aZ hf hi zM) h)
     . simp at hc
   . simp at hc
 case makeFunc fn first cap =>
   simp only [mL] at hc
   cases h1:Cg first with
   | none=>simp [h1] at hc
   | some va =>
   cases h2:Cg cap with
   | none=>simp [h1,h2] at hc
   | some vc =>
     simp only [h1,h2,Option.some.injEq] at hc;subst hc
     simp only [gB.map,b8,bI,Option.map_some,Option.some.injEq] at h;subst h
     refine eE.of (Sound.same (v := .func fn (first.map a.eval) (cap.map a.eval)) hi (by simp [Instr.makeFunc]) ?_)
     simp only [aL]
     exact ⟨_,_,rfl,zV hf hi h1,zV hf hi h2⟩
 case makeSlice ty l c =>
   simp only [mL] at hc
   cases hu:P.underlying ty with
   | none=>simp [hu] at hc
   | some d =>
   cases d<;>simp only [hu,reduceCtorEq] at hc
   rename_i e
   cases dr:P.info? e with
   | none=>simp [dr] at hc
   | some i =>
   cases hz:lN P e with
   | none=>simp [dr,hz] at hc
   | some z =>
   cases uF:cL l with
   | none=>simp [dr,hz,uF] at hc
   | some vl =>
   cases TF:cL c with
   | none=>simp [dr,hz,uF,TF] at hc
   | some vc =>
     simp only [dr,hz,uF,TF] at hc
     split at hc
     . rename_i hh
       simp only [Option.some.injEq] at hc;subst hc
       simp only [gB.map,b8] at h
       exact eE.of (J0 hi hμ hσ hu dr hz hh.1 (aZ hf hi uF) (aZ hf hi TF) h)
     . simp at hc
 case slice ty x lo jc mx =>
   simp only [mL] at hc
   cases hu:P.underlying ty with
   | none=>simp [hu] at hc
   | some d =>
   cases d<;>simp only [hu,reduceCtorEq] at hc
   case string =>
     cases kq:cL x with
     | none=>simp [kq] at hc
     | some vx =>
     cases uF:zT lo with
     | none=>simp [kq,uF] at hc
     | some vl =>
     cases TG:zT jc with
     | none=>simp [kq,uF,TG] at hc
     | some vh =>
     cases mx with
     | some _=>simp [kq,uF,TG] at hc
     | none =>
       simp only [kq,uF,TG,Option.some.injEq] at hc;subst hc
       simp only [gB.map,b8] at h
       refine eE.of (Sound.fy h fun c hcc => ?_)
       exact D3 hi hu (aZ hf hi kq) (vC hf hi uF) (vC hf hi TG) hcc
   case slice e =>
     cases dr:P.info? e with
     | none=>simp [dr] at hc
     | some i =>
     cases kq:cL x with
     | none=>simp [dr,kq] at hc
     | some vx =>
     cases uF:zT lo with
     | none=>simp [dr,kq,uF] at hc
     | some vl =>
     cases TG:zT jc with
     | none=>simp [dr,kq,uF,TG] at hc
     | some vh =>
     cases Zd:zT mx with
     | none=>simp [dr,kq,uF,TG,Zd] at hc
     | some vm =>
       simp only [dr,kq,uF,TG,Zd] at hc
       split at hc
       . rename_i hh
         simp only [Option.some.injEq] at hc;subst hc
         simp only [gB.map,b8] at h
         exact eE.of (D6 hi hu dr (aZ hf hi kq) (vC hf hi uF) (vC hf hi TG) (vC hf hi Zd) (by simpa using hh) h)
       . simp at hc
 case fieldAddr s x f =>
   simp only [mL] at hc
   cases hu:P.underlying s with
   | none=>simp [hu] at hc
   | some d =>
   cases d<;>simp only [hu,reduceCtorEq] at hc
   rename_i fs
   cases WE:fs[f]? with
   | none=>simp [WE] at hc
   | some fd =>
   simp only [WE] at hc
   cases dr:P.info? fd.type with
   | none=>simp [dr] at hc
   | some i =>
   cases kq:cL x with
   | none=>simp [dr,kq] at hc
   | some vx =>
     simp only [dr,kq] at hc
     split at hc
     . simp at hc
     . rename_i h0
       simp only [Option.some.injEq] at hc;subst hc
       exact eE.of (G0 hi hu WE dr h0 (aZ hf hi kq) h)
 case field s x f =>
   simp only [mL] at hc
   cases hu:P.underlying s with
   | none=>simp [hu] at hc
   | some d =>
   cases d<;>simp only [hu,reduceCtorEq] at hc
   rename_i fs
   cases WE:fs[f]? with
   | none=>simp [WE] at hc
   | some fd =>
   simp only [WE] at hc
   cases O4:nK P fd.type with
   | none=>simp [O4] at hc
   | some g =>
   cases dr:P.info? fd.type with
   | none=>simp [O4,dr] at hc
   | some i =>
   cases kq:cL x with
   | none=>simp [O4,dr,kq] at hc
   | some vx =>
     simp only [O4,dr,kq,Option.some.injEq] at hc;subst hc
     simp only [gB.map,b8] at h
     have hr:=aZ hf hi kq
     split at h
     . rename_i cs hx
       rw [hx] at hr
       simp only [aL] at hr
       obtain ⟨xs,he,hr⟩:=hr
       refine eE.of (Sound.fy h fun c hcc => ?_)
       obtain ⟨v,hv,wT⟩:=G1 (P:=P) O4 dr hr hcc
       refine Sound.same hi ?_ wT
       rw [he]
       simp [Instr.field,run_underlying hu,WE,asAgg,hv]
     . simp at h
 case indexAddr ty x ix =>
   simp only [mL] at hc
   cases hu:P.underlying ty with
   | none=>simp [hu] at hc
   | some d =>
   cases d<;>simp only [hu,reduceCtorEq] at hc
   case slice e =>
     cases dr:P.info? e with
     | none=>simp [dr] at hc
     | some i =>
     cases kq:cL x with
     | none=>simp [dr,kq] at hc
     | some vx =>
     cases J8:cL ix with
     | none=>simp [dr,kq,J8] at hc
     | some vi =>
       simp only [dr,kq,J8,Option.some.injEq] at hc;subst hc
       simp only [gB.map,b8] at h
       refine eE.of (Sound.fy h fun c hcc => ?_)
       exact FQ hi hu dr (aZ hf hi kq) (aZ hf hi J8) hcc
   case array n e =>
     cases dr:P.info? e with
     | none=>simp [dr] at hc
     | some i =>
     cases kq:cL x with
     | none=>simp [dr,kq] at hc
     | some vx =>
     cases J8:cL ix with
     | none=>simp [dr,kq,J8] at hc
     | some vi =>
       simp only [dr,kq,J8,Option.some.injEq] at hc;subst hc
       simp only [gB.map,b8] at h
       refine eE.of (Sound.fy h fun c hcc => ?_)
       exact FR hi hu dr (aZ hf hi kq) (aZ hf hi J8) hcc
 case index ty x ix =>
   simp only [mL] at hc
   cases hu:P.underlying ty with
   | none=>simp [hu] at hc
   | some d =>
   cases d<;>simp only [hu,reduceCtorEq] at hc
   case string =>
     cases kq:cL x with
     | none=>simp [kq] at hc
     | some vx =>
     cases J8:cL ix with
     | none=>simp [kq,J8] at hc
     | some vi =>
       simp only [kq,J8,Option.some.injEq] at hc;subst hc
       simp only [gB.map,b8] at h
       have hr:=aZ hf hi kq
       have PC:=aZ hf hi J8
       split at h
       . rename_i s k n hx hn
         rw [hx] at hr;rw [hn] at PC
         simp only [aL] at hr PC
         split at h
         . rename_i h0
           refine eE.of (Sound.fy h fun c hcc => ?_)
           simp only [Option.map_eq_some_iff] at hcc
           obtain ⟨b,hb,rfl⟩:=hcc
           refine Sound.same (v := .int .u8 b.toNat) hi ?_ (by simp [aL])
           rw [hr,PC]
           have Vu:(ByteArray.mk s.toArray)[n.toNat]? = some b:=by
             have hlt:=(List.getElem?_eq_some_iff.1 hb)
             obtain ⟨h1,h2⟩:=hlt
             rw [getElem?_pos (ByteArray.mk s.toArray) n.toNat (by simpa [ByteArray.size] using h1)]
             congr 1
           simp [Instr.index,run_underlying hu,asIntOf,h0,Vu]
         . simp at h
       . simp at h
   case array n e =>
     cases O4:nK P e with
     | none=>simp [O4] at hc
     | some g =>
     cases dr:P.info? e with
     | none=>simp [O4,dr] at hc
     | some i =>
     cases kq:cL x with
     | none=>simp [O4,dr,kq] at hc
     | some vx =>
     cases J8:cL ix with
     | none=>simp [O4,dr,kq,J8] at hc
     | some vi =>
       simp only [O4,dr,kq,J8,Option.some.injEq] at hc;subst hc
       simp only [gB.map,b8] at h
       have hr:=aZ hf hi kq
       have PC:=aZ hf hi J8
       split at h
       . rename_i cs k m hx hn
         rw [hx] at hr;rw [hn] at PC
         simp only [aL] at hr PC
         obtain ⟨xs,he,hr⟩:=hr
         split at h
         . rename_i h0
           refine eE.of (Sound.fy h fun c hcc => ?_)
           obtain ⟨v,hv,wT⟩:=G1 (P:=P) O4 dr hr hcc
           refine Sound.same hi ?_ wT
           rw [he,PC]
           simp [Instr.index,run_underlying hu,asIntOf,h0,eN dr,hv]
         . simp at h
       . simp at h
 case extract x i =>
   simp only [mL,Option.map_eq_some_iff] at hc;obtain ⟨va,zM,rfl⟩:=hc
   simp only [gB.map,b8] at h
   have hr:=aZ hf hi zM
   split at h
   . rename_i vs hx
     rw [hx] at hr
     simp only [aL] at hr
     obtain ⟨xs,he,hr⟩:=hr
     refine eE.of (Sound.fy h fun c hcc => ?_)
     obtain ⟨v,hv,wT⟩:=(bz.1 hr).2 i c hcc
     refine Sound.same hi ?_ wT
     rw [he]
     simp at hv
     simp [Instr.extract,hv]
   . simp at h
 case call c =>
   simp only [mL] at hc
   cases vD:c.callee with
   | value f =>
     simp only [vD] at hc
     split at hc
     . split at hc
       . simp only [Option.some.injEq] at hc;subst hc
         simp [gB.map,b8] at h
       . simp at hc
     . rename_i k hk
       unfold Tq at hc
       split at hc
       . rename_i x y kK
         split at hc
         . rename_i vx vy kq FZ
           simp only [Option.some.injEq] at hc;subst hc
           cases k with
           | idx =>
             simp only [gB.map,b8] at h
             have hh:=Np (p:=p) ho vD hk kK hi (aZ hf hi kq) (aZ hf hi FZ) h
             unfold execOp at hh;simp only [ho] at hh;exact hh
           | ovl =>
             simp only [gB.map,b8] at h
             have hh:=Nq (p:=p) ho vD hk kK hi (aZ hf hi kq) (aZ hf hi FZ) h
             unfold execOp at hh;simp only [ho] at hh;exact hh
         . simp at hc
       . simp at hc
   | invoke _ _=>simp [vD] at hc
   | builtin b =>
     simp only [vD] at hc
     have BF:∀ w,(do let d <- resolve a.eval c o.type;invoke d.target d.args:Sem Next).run P w =
         (builtin b c.argTypes o.type (c.args.map fun | .const _=>true | _=>false) (c.args.map a.eval)).run P w:=by
       intro w;simp [resolve,vD,invoke];rfl
     have fin:∀ {s:Sem Value},builtin b c.argTypes o.type (c.args.map fun | .const _=>true | _=>false) (c.args.map a.eval)=(do pure (.value (<- s)))->Sound P G own E w σ p s r ->
         eE P G own E w σ p r (do let d <- resolve a.eval c o.type;invoke d.target d.args):=by
       intro s he hs
       obtain ⟨v,w',E',hr,hp⟩:=hs
       exact ⟨v,w',E', .inl (by rw [BF,he];simp [hr]),hp⟩
     exact D7 hi hμ hσ hf hc h fin
 all_goals simp [mL] at hc
theorem PD (hi:Inv G own E w σ) (hμ : E.μ p=none) (hσ : σ p=none) {t:List AV} {a:Act} (hf:cn E w t a) {o:Oper} {vo:gB aS} (hc:Vp P o.op=some vo) {r:dN}
   (h:b8 σ p (vo.map (aS.ev G t))=some r):eE P G own E w σ p r (execOp a.eval o):=by
 unfold Vp at hc
 split at hc
 . rename_i v hv
   simp only [Option.some.injEq] at hc;subst hc
   exact Nr hi hμ hσ hf hv h
 . simp only [Option.some.injEq] at hc;subst hc
   simp [gB.map,b8] at h
end
end Go.VL
end

section
namespace Go.VL
def aB (P:Program) (G:Nat->Option (List AV)) (f:FuncId) (args:List AV) (p:Id) (S:List (Id × dC)) (r:dN):Prop :=
 (∃ fn,P.funcs[f]? = some fn/\(fn.name == "runtime.NumGoroutine")=false/\fn.body.isSome=true) /\
 ∀ own E w σ vs,(∀ x∈S, σ x.1=some x.2)->Inv G own E w σ -> aM E w args vs->(∀ j,p <:+ j->E.μ j=none) ->
   Calls P f vs.toArray w fun e w'=>∃ v E',e = .returned v/\kU G own E w σ p r v E' w'
def jM (P:Program) (G:Nat->Option (List AV)) (σ : aa) (p:Id) (op:gB AV) (r:dN):Prop :=
 match op with
 | .call f as=>match f with
   | .fn (.func f) first cap=>∃ S,aB P G f (first++as++cap) p S r/\(∀ x∈S, σ x.1=some x.2)/\∀ x∈S,x.1∈r.rd
   | _=>False
 | op=>b8 σ p op=some r
def fG (t:List AV) (d:Option Nat) (v:AV):List AV:=match d with | some d=>t.set d v | none=>t
def eO (t:List AV):Option (Nat × Bool)->Option Bool
 | none=>some true
 | some (d,want)=>match t[d]? with
   | some (.bool b)=>some (b==want)
   | some .top | some .anyb=>none
   | _=>some false
section
variable {P:Program} {G:Nat->Option (List AV)} {own:Nat->Prop} {E:Env} {w:World} {σ : aa} {p:Id}
theorem cn.keep {E':Env} {w':World} {t:List AV} {a:Act} (h:cn E w t a) (s:Step E E' w w'):cn E' w' t a:=aM.keep s t _ h
theorem cn.put {t:List AV} {a:Act} (h:cn E w t a) {c:AV} {v:Value} (hv:aL E w c v) (d:Option Nat):cn E w (fG t d c) (a.put d v):=by
 cases d with
 | none=>exact h
 | some d =>
   obtain ⟨hl,hp⟩:=bz.1 h
   refine bz.2 ⟨by simpa [fG,Act.put] using hl,fun j c' hj => ?_⟩
   simp only [fG,List.getElem?_set] at hj
   simp only [Act.put,Array.toList_setIfInBounds,List.getElem?_set]
   split at hj
   . rename_i e
     subst e
     split at hj
     . rename_i hlt
       simp only [Option.some.injEq] at hj;subst hj
       exact ⟨v,by rw [if_pos rfl,if_pos (by omega)],hv⟩
     . simp at hj
   . rename_i e
     rw [if_neg e]
     exact hp j c' hj
theorem cn.at? {t:List AV} {a:Act} (h:cn E w t a) (d:Nat):(t[d]? = none/\a.tmps[d]? = none)∨∃ c v,t[d]? = some c/\a.tmps[d]? = some v/\aL E w c v:=by
 obtain ⟨hl,hp⟩:=bz.1 h
 by_cases hd:d<t.length
 . right
   obtain ⟨v,hv,hr⟩:=hp d t[d] (by simp [hd])
   exact ⟨t[d],v,by simp [hd],by simpa using hv,hr⟩
 . left
   have:a.tmps.size<=d:=by have:=hl;simp at this;omega
   exact ⟨by simp;omega,by simp;omega⟩
theorem F0 {c:AV} {v:Value} (h:aL E w c v) (h1:∀ b,c ≠ .bool b) (h2:c ≠ .top) (h3:c ≠ .anyb):∀ b,v ≠ .bool b:=by
 intro b e
 subst e
 cases c<;>simp only [aL,reduceCtorEq,exists_const,false_and,and_false] at h
 . exact h1 _ rfl
 all_goals first
   | exact h2 rfl
   | exact h3 rfl
   | (obtain ⟨_,_,h,_⟩:=h;cases h)
   | (obtain ⟨_,h,_⟩:=h;cases h)
   | (obtain ⟨_,_,h⟩:=h;cases h)
theorem tw {ops:Array Oper} {o:Oper} {vo:bp} (hc:xl P ops o=some vo) {t:List AV} {a:Act} (hf:cn E w t a) {b:Bool} (h:eO t vo.guard=some b):Region.wanted o (yielded ops a.tmps)=b:=by
 unfold xl at hc
 cases hop:Vp P o.op with
 | none=>simp [hop] at hc
 | some op =>
   simp only [hop] at hc
   cases hg:o.guard with
   | none =>
     simp only [hg,Option.some.injEq] at hc;subst hc
     simp only [eO,Option.some.injEq] at h;subst h
     simp [Region.wanted,hg]
   | some jw =>
     obtain ⟨j,want⟩:=jw
     simp only [hg] at hc
     cases hd:(ops[j]?).bind (·.dst) with
     | none=>simp [hd] at hc
     | some d =>
       simp only [hd,Option.some.injEq] at hc;subst hc
       simp only [eO] at h
       simp only [Region.wanted,hg,yielded,hd,Option.bind_some]
       rcases hf.at? d with ⟨h1,h2⟩ | ⟨c,v,h1,h2,hr⟩
       . simp only [h1,Option.some.injEq] at h;subst h
         simp [h2]
       . simp only [h1] at h
         simp only [h2]
         cases c with
         | bool b' =>
           simp only [Option.some.injEq] at h;subst h
           simp only [aL] at hr;subst hr
           simp
         | top=>simp at h
         | anyb=>simp at h
         | _ =>
           simp only [Option.some.injEq] at h;subst h
           have Tb:=F0 hr (by simp) (by simp) (by simp)
           cases v<;>simp at Tb ⊢
theorem G3 {ops:Array Oper} {o:Oper} {vo:bp} (hc:xl P ops o=some vo):Vp P o.op=some vo.op/\vo.dst=o.dst:=by
 unfold xl at hc
 cases hop:Vp P o.op with
 | none=>simp [hop] at hc
 | some op =>
   simp only [hop] at hc
   split at hc
   . simp only [Option.some.injEq] at hc;subst hc;simp_all
   . split at hc
     . simp only [Option.some.injEq] at hc;subst hc;simp_all
     . simp at hc
   . simp_all
theorem TH {k:Tp} {l:List Operand} (f:aS) (as:List aS):Tq k l≠some (.call f as):=by
 unfold Tq
 split
 . split
   . cases k<;>simp
   . simp
 . simp
theorem Cq (hi:Inv G own E w σ) (hμ : ∀ j,p <:+ j->E.μ j=none) {t:List AV} {a:Act} (hf:cn E w t a) {o:Oper} {vo:gB aS} (hc:Vp P o.op=some vo) {r:dN}
   (h:jM P G σ p (vo.map (aS.ev G t)) r) {K:Act->World->Prop} {Q:Exit->Act->World->Prop} (hK:∀ v w' E',kU G own E w σ p r v E' w'->K (a.put o.dst v) w'):o.wp P a w K Q:=by
 have hσ : σ p=none:=by
   cases hs : σ p with
   | none=>rfl
   | some bk=>obtain ⟨g,N,cur,ty,hB⟩:=hi.blk _ _ hs;have:=hB.μ;rw [hμ _ (List.suffix_refl _)] at this;simp at this
 have plain:b8 σ p (vo.map (aS.ev G t))=some r->o.wp P a w K Q:=by
   intro hv
   obtain ⟨v,w',E',hrun,hp⟩:=PD hi (hμ p (List.suffix_refl _)) hσ hf hc hv
   unfold Oper.wp
   rcases hrun with hrun | ⟨hrun,rfl⟩
   . rw [hrun];exact hK v w' E' hp
   . rw [hrun];exact hK undef w' E' hp
 cases vo with
 | call f as =>
   replace hc:mL P o.op=some (.call f as):=by
     unfold Vp at hc
     split at hc
     . rename_i v hv;rw [hv];exact hc
     . simp at hc
   simp only [gB.map,jM] at h
   split at h
   . rename_i f' fid first cap GZ
     obtain ⟨S,PE,hS,_⟩:=h
     obtain ⟨⟨fn,FU,sw,Zi⟩,PE⟩:=PE
     cases hop:o.op with
     | call c =>
       rw [hop] at hc
       simp only [mL] at hc
       cases vD:c.callee with
       | value fo =>
         simp only [vD] at hc
         split at hc
         case h_2=>exact absurd hc (TH _ _)
         split at hc
         . rename_i vf vas h1 h2
           simp only [Option.some.injEq,gB.call.injEq] at hc
           obtain ⟨rfl,rfl⟩:=hc
           have hrf:=aZ hf hi h1
           rw [GZ] at hrf
           simp only [aL] at hrf
           obtain ⟨xs,ys,hfv,hx,hy⟩:=hrf
           have hra:=zV hf hi h2
           have kK:aM E w (first++vas.map (aS.ev G t)++cap) (xs.toList++(c.args.map a.eval).toList++ys.toList):=aM.append (aM.append hx hra) hy
           have uT:=PE own E w σ _ hS hi kK hμ
           have hrun:(execOp a.eval o).run P w = .ok (.enter fid (xs++c.args.map a.eval++ys)) w:=by
             have Tb : ¬ fn.body=none:=by intro e;simp [e] at Zi
             have WG : ¬ fn.name = "runtime.NumGoroutine" := by intro e;simp [e] at sw
             simp [execOp,hop,resolve,vD,hfv,Deferred.ofValue,invoke,callFunc,FU,WG,Tb]
           unfold Oper.wp
           rw [hrun,Oper.upon_enter]
           have Zh:(xs.toList++(c.args.map a.eval).toList++ys.toList).toArray=xs++c.args.map a.eval++ys:=by apply Array.ext';simp
           rw [Zh] at uT
           refine uT.mono fun e w' he => ?_
           obtain ⟨v,E',rfl,hp⟩:=he
           exact hK v w' E' hp
         . simp at hc
       | invoke _ _=>simp [vD] at hc
       | builtin b =>
         simp only [vD] at hc
         unfold ym at hc
         split at hc<;>(try split at hc)<;>(try split at hc)<;>(try split at hc)<;>(try split at hc)<;>simp at hc
     | _ =>
       rw [hop] at hc
       simp only [mL] at hc
       exfalso
       revert hc
       clear plain GZ
       intro hc
       first
         | simp at hc
         | (simp only [Option.map_eq_some_iff] at hc;obtain ⟨_,_,hc⟩:=hc;cases hc)
         | ((repeat' split at hc)<;>first | (simp at hc;done) | (simp only [Option.map_eq_some_iff] at hc;obtain ⟨_,_,hc⟩:=hc;cases hc) | (cases hc))
   . exact h.elim
 | _=>exact plain h
end
end Go.VL
end

section
namespace Go.VL
abbrev Done:=Option Nat × dN
def eP (X:Nat->Bool):List Done->Nat->List AV->List AV
 | [],_,t=>t
 | (d,r)::L,i,t=>eP X L (i+1) (if X i then fG t d r.val else t)
def gu (X:Nat->Bool):List Done->Nat->aa->aa
 | [],_, σ => σ
 | (_,r)::L,i, σ => gu X L (i+1) (if X i then σ.app r.up else σ)
theorem sy (t:List AV) (d:Option Nat) (v:AV) (s:Nat):(fG t d v)[s]? = if d=some s then (if s<t.length then some v else none) else t[s]? := by
 cases d with
 | none=>simp [fG]
 | some d =>
   simp only [fG,List.getElem?_set,Option.some.injEq]
   by_cases e:d=s
   . subst e;simp
   . simp [e]
theorem G4 (t:List AV) (d:Option Nat) (v:AV):(fG t d v).length=t.length:=by cases d<;>simp [fG]
theorem Ez (X:Nat->Bool):∀ (L:List Done) (i:Nat) (t:List AV),(eP X L i t).length=t.length
 | [],_,_=>rfl
 | (d,r)::L,i,t=>by
   simp only [eP];rw [Ez X L]
   split
   . exact G4 t d r.val
   . rfl
theorem Ns {t t':List AV} {s:Nat} (h:t[s]? = t'[s]?):(s<t.length)=(s<t'.length):=by
 have h1:s<t.length↔t[s]? ≠ none:=by simp
 have h2:s<t'.length↔t'[s]? ≠ none:=by simp
 exact propext (h1.trans ((by rw [h]:t[s]? ≠ none↔t'[s]? ≠ none).trans h2.symm))
theorem qN {X Y:Nat->Bool} {s:Nat}:∀ (L:List Done) (i:Nat) (t t':List AV),t[s]? = t'[s]? -> (∀ k d r,L[k]? = some (d,r)->X (i+k)≠Y (i+k)->d≠some s)->(eP X L i t)[s]? = (eP Y L i t')[s]?
 | [],_,_,_,h,_=>h
 | (d,r)::L,i,t,t',h,hd=>by
   simp only [eP]
   refine qN L (i+1) _ _ ?_ (fun k d' r' hk hne=>hd (k+1) d' r' (by simpa using hk) (by rwa [show i+(k+1)=i+1+k from by omega]))
   by_cases hx:X i=Y i
   . rw [hx]
     split
     . rw [sy,sy];simp only [Ns h,h]
     . exact h
   . have:=hd 0 d r rfl hx
     have e1:(fG t d r.val)[s]? = t[s]? := by rw [sy,if_neg this]
     have e2:(fG t' d r.val)[s]? = t'[s]? := by rw [sy,if_neg this]
     split<;>split<;>simp only [e1,e2,h]
theorem aa.Nt {σ σ':aa} {id:Id} (h : σ id = σ' id):∀ (up:List (Id × Option dC)),(σ.app up) id=(σ'.app up) id:=by
 intro up
 induction up generalizing σ σ' with
 | nil=>exact h
 | cons x up ih =>
   obtain ⟨i,b⟩:=x
   simp only [aa.app]
   refine ih ?_
   simp only [aa.put]
   split<;>first | rfl | exact h
theorem aa.wH {σ : aa} {id:Id}:∀ {up:List (Id × Option dC)},id ∉ up.map (·.1)->(σ.app up) id = σ id:=by
 intro up
 induction up generalizing σ with
 | nil=>intro _;rfl
 | cons x up ih =>
   obtain ⟨i,b⟩:=x
   intro h
   simp only [List.map_cons,List.mem_cons,not_or] at h
   simp only [aa.app]
   rw [ih h.2,aa.bd _ _ _ h.1]
theorem aa.J9 {σ σ':aa} {id:Id}:∀ {up:List (Id × Option dC)},id∈up.map (·.1)->(σ.app up) id=(σ'.app up) id:=by
 intro up
 induction up generalizing σ σ' with
 | nil=>intro h;simp at h
 | cons x up ih =>
   obtain ⟨i,b⟩:=x
   intro h
   simp only [aa.app]
   by_cases vA:id∈up.map (·.1)
   . exact ih vA
   . have he:id=i:=by simpa [vA] using h
     subst he
     rw [aa.wH vA,aa.wH vA,aa.bb,aa.bb]
theorem qO {X Y:Nat->Bool} {id:Id}:∀ (L:List Done) (i:Nat) (σ σ':aa), σ id = σ' id->(∀ k d r,L[k]? = some (d,r)->X (i+k)≠Y (i+k)->id ∉ r.up.map (·.1))->gu X L i σ id=gu Y L i σ' id
 | [],_,_,_,h,_=>h
 | (d,r)::L,i, σ, σ',h,hd=>by
   simp only [gu]
   refine qO L (i+1) _ _ ?_ (fun k d' r' hk hne=>hd (k+1) d' r' (by simpa using hk) (by rwa [show i+(k+1)=i+1+k from by omega]))
   by_cases hx:X i=Y i
   . rw [hx]
     split
     . exact aa.Nt h _
     . exact h
   . have:=hd 0 d r rfl hx
     split<;>split<;>simp only [aa.wH this,h]
theorem Cr {X:Nat->Bool} {s:Nat} {r:dN}:∀ (L:List Done) (i j:Nat) (t:List AV),L[j]? = some (some s,r)->X (i+j)=true->(∀ k d r',L[k]? = some (d,r')->j<k->X (i+k)=true->d≠some s) ->
   (eP X L i t)[s]? = if s<t.length then some r.val else none
 | [],_,_,_,h,_,_=>by simp at h
 | (d,r')::L,i,0,t,h,hx,hd=>by
   simp only [List.getElem?_cons_zero,Option.some.injEq,Prod.mk.injEq] at h
   obtain ⟨rfl,rfl⟩:=h
   simp only [eP]
   rw [Nat.add_zero] at hx
   rw [if_pos hx]
   have:=qN (X:=X) (Y:=fun _=>false) (s:=s) L (i+1) (fG t (some s) r'.val) (fG t (some s) r'.val) rfl (fun k d r2 hk hne=>hd (k+1) d r2 (by simpa using hk) (by omega) (by
     rw [show i+(k+1)=i+1+k from by omega]
     cases hh:X (i+1+k) with
     | true=>rfl
     | false=>simp [hh] at hne))
   rw [this]
   have none:∀ (L:List Done) (i:Nat) (t:List AV),eP (fun _=>false) L i t=t:=by
     intro L
     induction L with
     | nil=>intro _ _;rfl
     | cons x L ih=>intro i t;obtain ⟨d,r⟩:=x;simp only [eP];rw [ih];simp
   rw [none,sy,if_pos rfl]
 | (d,r')::L,i,j+1,t,h,hx,hd=>by
   simp only [eP]
   have:=Cr L (i+1) j (if X i then fG t d r'.val else t) (by simpa using h) (by rwa [show i+1+j=i+(j+1) from by omega])
     (fun k d r2 hk hlt BG=>hd (k+1) d r2 (by simpa using hk) (by omega) (by rwa [show i+(k+1)=i+1+k from by omega]))
   rw [this]
   split<;>simp [G4]
theorem Cs {X:Nat->Bool} {id:Id} {d:Option Nat} {r:dN} {σ':aa}:∀ (L:List Done) (i j:Nat) (σ : aa),L[j]? = some (d,r)->X (i+j)=true->id∈r.up.map (·.1) ->
   (∀ k d r',L[k]? = some (d,r')->j<k->X (i+k)=true->id ∉ r'.up.map (·.1))->gu X L i σ id=(σ'.app r.up) id
 | [],_,_,_,h,_,_,_=>by simp at h
 | (d',r')::L,i,0, σ,h,hx,vA,hd=>by
   simp only [List.getElem?_cons_zero,Option.some.injEq,Prod.mk.injEq] at h
   obtain ⟨rfl,rfl⟩:=h
   simp only [gu]
   rw [Nat.add_zero] at hx
   rw [if_pos hx]
   have:=qO (X:=X) (Y:=fun _=>false) (id:=id) L (i+1) (σ.app r'.up) (σ.app r'.up) rfl (fun k d r2 hk hne=>hd (k+1) d r2 (by simpa using hk) (by omega) (by
     rw [show i+(k+1)=i+1+k from by omega]
     cases hh:X (i+1+k) with
     | true=>rfl
     | false=>simp [hh] at hne))
   rw [this]
   have none:∀ (L:List Done) (i:Nat) (σ : aa),gu (fun _=>false) L i σ = σ := by
     intro L
     induction L with
     | nil=>intro _ _;rfl
     | cons x L ih=>intro i t;obtain ⟨d,r⟩:=x;simp only [gu];rw [ih];simp
   rw [none]
   exact aa.J9 vA
 | (d',r')::L,i,j+1, σ,h,hx,vA,hd=>by
   simp only [gu]
   exact Cs L (i+1) j _ (by simpa using h) (by rwa [show i+1+j=i+(j+1) from by omega]) vA
     (fun k d r2 hk hlt BG=>hd (k+1) d r2 (by simpa using hk) (by omega) (by rwa [show i+(k+1)=i+1+k from by omega]))
theorem ri {X:Nat->Bool}:∀ (L:List Done) (i:Nat) (t:List AV),(∀ k,k<L.length->X (i+k)=false)->eP X L i t=t
 | [],_,_,_=>rfl
 | (d,r)::L,i,t,h=>by
   simp only [eP]
   have:=h 0 (by simp)
   rw [Nat.add_zero] at this
   rw [this]
   exact ri L (i+1) t (fun k hk=>by rw [show i+1+k=i+(k+1) from by omega];exact h (k+1) (by simpa using hk))
theorem rj {X:Nat->Bool}:∀ (L:List Done) (i:Nat) (σ : aa),(∀ k,k<L.length->X (i+k)=false)->gu X L i σ = σ
 | [],_,_,_=>rfl
 | (d,r)::L,i,t,h=>by
   simp only [gu]
   have:=h 0 (by simp)
   rw [Nat.add_zero] at this
   rw [this]
   exact rj L (i+1) t (fun k hk=>by rw [show i+1+k=i+(k+1) from by omega];exact h (k+1) (by simpa using hk))
section
variable (P:Program) (G:Nat->Option (List AV)) (π : Id)
def yv (σ : aa) (p:Id) (op:gB AV) (K:dN->Prop):Prop :=
 match op with
 | .call f as=>match f with
   | .fn (.func f) first cap=>∃ S r,aB P G f (first++as++cap) p S r/\(∀ x∈S, σ x.1=some x.2)/\(∀ x∈S,x.1∈r.rd)/\K r
   | _=>False
 | op=>match b8 σ p op with
   | some r=>K r
   | none=>False
def yw (base:Nat) (K:List AV->aa->Prop):List bp->Nat->List AV->aa->Prop
 | [],_,t, σ => K t σ
 | o::os,i,t, σ => match eO t o.guard with
   | none=>False
   | some false=>yw base K os (i+1) (fG t o.dst (.tup [])) σ
   | some true=>yv P G σ ((base+i) :: π) (o.op.map (aS.ev G t)) fun r=>yw base K os (i+1) (fG t o.dst r.val) (σ.app r.up)
def yx (base:Nat) (K:List dN->List AV->aa->Prop):List bp->Nat->List dN->List AV->aa->Prop
 | [],_,acc,t, σ => K acc.reverse t σ
 | o::os,i,acc,t, σ => match eO t o.guard with
   | none=>False
   | some false=>yx base K os (i+1) ({ val := .tup [] }::acc) (fG t o.dst (.tup [])) σ
   | some true=>yv P G σ ((base+i) :: π) (o.op.map (aS.ev G t)) fun r=>yx base K os (i+1) (r::acc) (fG t o.dst r.val) (σ.app r.up)
def apart (a b:dN):Prop:=(∀ x∈a.up,x.1 ∉ b.rd/\x.1 ∉ b.up.map (·.1))/\∀ x∈b.up,x.1 ∉ a.rd
def ar (rs:List dN) (ps:List (Nat × Nat)):Prop:=∀ q∈ps,∀ a b,rs[q.1]? = some a->rs[q.2]? = some b->apart a b
def yy (base:Nat) (o:bp) (k:Nat) (t:List AV) (σ : aa) (r:dN):Prop :=
 (eO t o.guard=some false/\r={ val := .tup [] })∨(eO t o.guard=some true/\jM P G σ ((base+k) :: π) (o.op.map (aS.ev G t)) r)
end
section
variable {P:Program} {G:Nat->Option (List AV)} {π : Id} {own:Nat->Prop} {E:Env} {w:World} {σ : aa}
theorem Ct {σ : aa} {p:Id} {op:gB AV} {K:dN->Prop} (h:yv P G σ p op K):∃ r,jM P G σ p op r/\K r:=by
 unfold yv at h
 cases op with
 | call f as =>
   simp only [] at h
   split at h
   . obtain ⟨S,r,h1,h2,h3,h4⟩:=h
     exact ⟨r,⟨S,h1,h2,h3⟩,h4⟩
   . exact h.elim
 | _ =>
   simp only [] at h
   split at h
   . rename_i r hr;exact ⟨r,hr,h⟩
   . exact h.elim
theorem EA {base:Nat} {K:List dN->List AV->aa->Prop}:∀ {os:List bp} {i:Nat} {acc:List dN} {t:List AV} {σ : aa},yx P G π base K os i acc t σ ->
   ∃ rs:List dN,rs.length=os.length /\
     (∀ k o r,os[k]? = some o->rs[k]? = some r->yy P G π base o (i+k) (eP (fun m=>m<i+k) ((os.map (·.dst)).zip rs) i t) (gu (fun m=>m<i+k) ((os.map (·.dst)).zip rs) i σ) r) /\
     K (acc.reverse++rs) (eP (fun _=>true) ((os.map (·.dst)).zip rs) i t) (gu (fun _=>true) ((os.map (·.dst)).zip rs) i σ)
 | [],i,acc,t, σ,h=>⟨[],rfl,by simp,by simpa [yx,eP,gu] using h⟩
 | o :: os,i,acc,t, σ,h=>by
   have go:∀ r,yy P G π base o i t σ r->yx P G π base K os (i+1) (r::acc) (fG t o.dst r.val) (σ.app r.up) ->
       ∃ rs:List dN,rs.length=(o::os).length /\
         (∀ k o' r,(o::os)[k]? = some o'->rs[k]? = some r->yy P G π base o' (i+k) (eP (fun m=>m<i+k) (((o::os).map (·.dst)).zip rs) i t) (gu (fun m=>m<i+k) (((o::os).map (·.dst)).zip rs) i σ) r) /\
         K (acc.reverse++rs) (eP (fun _=>true) (((o::os).map (·.dst)).zip rs) i t) (gu (fun _=>true) (((o::os).map (·.dst)).zip rs) i σ):=by
     intro r hr hv
     obtain ⟨rs,h1,h2,h3⟩:=EA hv
     refine ⟨r::rs,by simp [h1], ?_, ?_⟩
     . intro k o' r' ho zX
       cases k with
       | zero =>
         simp only [List.getElem?_cons_zero,Option.some.injEq] at ho zX
         subst ho;subst zX
         rw [ri _ _ _ (fun k _=>by simp),rj _ _ _ (fun k _=>by simp),Nat.add_zero]
         exact hr
       | succ k =>
         have:=h2 k o' r' (by simpa using ho) (by simpa using zX)
         simp only [List.map_cons,List.zip_cons_cons,eP,gu]
         have hd:decide (i<i+(k+1))=true:=by simp
         rw [if_pos hd,if_pos hd]
         rw [show i+(k+1)=i+1+k from by omega]
         exact this
     . simpa [eP,gu] using h3
   simp only [yx] at h
   split at h
   . exact h.elim
   . rename_i hw
     exact go { val := .tup [] } (.inl ⟨hw,rfl⟩) h
   . rename_i hw
     obtain ⟨r,hr,hk⟩:=Ct h
     exact go r (.inr ⟨hw,hr⟩) hk
theorem G5 {q q':Nat} {π j:Id} (h:(q :: π) <:+ j) (hne:q≠q') : ¬ (q' :: π) <:+ j:=by
 intro h'
 have:=List.suffix_of_suffix_length_le h h' (by simp)
 obtain ⟨l,hl⟩:=this
 have Lq:l=[]:=by
   have:=congrArg List.length hl
   simp at this;exact this
 subst Lq
 simp at hl
 exact hne hl
theorem kU.frame {p:Id} {r:dN} {v:Value} {E':Env} {w':World} (h:kU G own E w σ p r v E' w') {t:List AV} {a:Act} (hf:cn E w t a) (d:Option Nat):cn E' w' (fG t d r.val) (a.put d v) :=
 (hf.keep h.Ch.step).put h.rep d
theorem EB {t:List AV} {a:Act} (hf:cn E w t a) (d:Option Nat):cn E w (fG t d (.tup [])) (a.put d undef) :=
 hf.put (by simp only [aL,undef];exact ⟨#[],rfl,by simp [aM]⟩) d
theorem qP (a:Act) (d:Option Nat) (v:Value):(a.put d v).defers=a.defers:=by cases d<;>rfl
def xJ (E:Env) (π : Id) (n:Nat):Prop:=∀ j, π <:+ j->(∀ q,q<n -> ¬ (q :: π) <:+ j)->E.μ j=none
theorem xJ.at {π : Id} {n q:Nat} (h:xJ E π n) (hq:n<=q) {j:Id} (hj:(q :: π) <:+ j):E.μ j=none :=
 h j ((List.suffix_cons q π).trans hj) fun q' hq'=>G5 hj (by omega)
theorem xJ.mono {π : Id} {n n':Nat} (h:xJ E π n) (hn:n<=n'):xJ E π n':=fun j hj hq=>h j hj fun q hq'=>hq q (by omega)
theorem xJ.step {π : Id} {n:Nat} {E':Env} (h:xJ E π n) (TI:∀ i:Id, ¬ (n :: π) <:+ i->E'.μ i=E.μ i):xJ E' π (n+1):=fun j hj hq=>by
 rw [TI j (hq n (by omega))];exact h j hj fun q hq'=>hq q (by omega)
theorem xJ.self {π : Id} {n:Nat} (h:xJ E π n):E.μ π = none :=
 h π (List.suffix_refl _) fun q _ hs=>by have:=hs.length_le;simp at this;omega
structure ky (own:Nat->Prop) (π : Id) (E E':Env) (w w':World):Prop extends Adv own E E' w w' where
 ids:∀ i:Id, ¬ π <:+ i->E'.μ i=E.μ i
theorem ky.refl (own:Nat->Prop) (π : Id) (E:Env) (w:World):ky own π E E w w:=⟨Adv.refl own E w,fun _ _=>rfl⟩
theorem ky.trans {π : Id} {E' Vn:Env} {w' w'':World} (a:ky own π E E' w w') (b:ky own π E' Vn w' w''):ky own π E Vn w w'' :=
 ⟨a.toAdv.trans b.toAdv,fun i hi=>(b.ids i hi).trans (a.ids i hi)⟩
theorem kU.Zj {π : Id} {q:Nat} {r:dN} {v:Value} {E':Env} {w':World} (h:kU G own E w σ (q :: π) r v E' w'):ky own π E E' w w' :=
 ⟨h.Ch,fun i hi=>h.ids i fun hs=>hi ((List.suffix_cons q π).trans hs)⟩
theorem Cu {ops:Array Oper} {base:Nat} {K:List AV->aa->Prop} {Q:Exit->Act->World->Prop} :
   ∀ (l:List Oper) (i:Nat),(∀ k,l[k]? = ops[i+k]?)->∀ (vs:List bp),l.mapM (xl P ops)=some vs->∀ (t:List AV) (σ : aa) (a:Act) (E:Env) (w:World),yw P G π base K vs i t σ ->
   cn E w t a->Inv G own E w σ -> xJ E π (base+i) ->
   (∀ t' σ' a' E' w',K t' σ'->ky own π E E' w w'->cn E' w' t' a'->Inv G own E' w' σ'->xJ E' π (base+i+l.length)->a'.defers=a.defers->Q .normal a' w') ->
   wpOps P ops Q ((List.range' i l.length)) a w
 | [],i,_,vs,hm,t, σ,a,E,w,hv,hf,hi,yz,hQ=>by
   simp at hm;subst hm
   simp only [yw] at hv
   simp only [List.length_nil,List.range'_zero,wpOps]
   exact hQ t σ a E w hv (ky.refl own π E w) hf hi yz rfl
 | o :: l,i,hl,vs,hm,t, σ,a,E,w,hv,hf,hi,yz,hQ=>by
   simp only [List.mapM_cons,Option.pure_def,Option.bind_eq_bind,Option.bind_eq_some_iff] at hm
   obtain ⟨vo,xK,vs',Lu,he⟩:=hm
   simp only [Option.some.injEq] at he;subst he
   obtain ⟨hop,PF⟩:=G3 xK
   have hoi:ops[i]? = some o:=by have:=hl 0;simpa using this.symm
   simp only [List.length_cons,List.range'_succ]
   rw [wpOps_cons]
   unfold wpOp
   rw [hoi]
   simp only []
   have rest:∀ (t':List AV) (σ':aa) (a':Act) (E':Env) (w':World),yw P G π base K vs' (i+1) t' σ'->ky own π E E' w w'->cn E' w' t' a'->Inv G own E' w' σ'->xJ E' π (base+i+1)->a'.defers=a.defers ->
       wpOps P ops Q (List.range' (i+1) l.length) a' w':=by
     intro t' σ' a' E' w' hv' had Tn jc WH Zk
     refine Cu l (i+1) (fun k=>by rw [show i+1+k=i+(k+1) from by omega, <- hl];simp) vs' Lu t' σ' a' E' w' hv' Tn jc (by rw [<- Nat.add_assoc];exact WH) ?_
     intro t2 σ2 a2 E2 w2 hk F1 hf2 Ew WI tz
     exact hQ t2 σ2 a2 E2 w2 hk (had.trans F1) hf2 Ew (by rw [List.length_cons,show base+i+(l.length+1)=base+(i+1)+l.length from by omega];exact WI) (tz.trans Zk)
   simp only [yw] at hv
   split at hv
   . exact hv.elim
   . rename_i hw
     rw [tw xK hf hw]
     simp only [Bool.false_eq_true,if_false]
     rw [<- PF]
     exact rest _ _ _ E w hv (ky.refl own π E w) (EB hf _) hi (yz.mono (by omega)) (qP _ _ _)
   . rename_i hw
     rw [tw xK hf hw]
     simp only [if_true]
     obtain ⟨r,hr,hk⟩:=Ct hv
     left
     refine Cq hi (fun j hj=>yz.at (Nat.le_refl _) hj) hf hop hr ?_
     intro v w' E' hp
     rw [<- PF]
     exact rest _ _ _ E' w' hk hp.Zj (hp.frame hf _) hp.inv (yz.step hp.ids) (qP _ _ _)
end
end Go.VL
end

section
namespace Go.VL
theorem EC (f:Nat->Nat) (b:Nat):∀ (l:List Nat) (s:Nat),(l.foldl (fun s i=>s ||| 2 ^ i ||| f i) s).testBit b=true->s.testBit b=true∨∃ e∈l,b=e∨(f e).testBit b=true
 | [],s,h => .inl h
 | i :: l,s,h=>by
   simp only [List.foldl_cons] at h
   rcases EC f b l _ h with h | ⟨e,he,h⟩
   . simp only [Nat.testBit_or,Bool.or_eq_true,Nat.testBit_two_pow,decide_eq_true_eq] at h
     rcases h with (h | h) | h
     . exact .inl h
     . exact .inr ⟨i,by simp, .inl h.symm⟩
     . exact .inr ⟨i,by simp, .inr h⟩
   . exact .inr ⟨e,by simp [he],h⟩
theorem ED:∀ (po:List (List Nat)) (acc:List Nat),(jE po acc).length=acc.length+po.length
 | [],acc=>by simp [jE]
 | l::r,acc=>by simp only [jE];rw [ED r];simp;omega
theorem z8:∀ (po:List (List Nat)) (acc:List Nat) (k:Nat),k<acc.length->(jE po acc)[k]? = acc[k]?
 | [],acc,k,_=>by simp [jE]
 | l::r,acc,k,h=>by
   simp only [jE]
   rw [z8 r _ k (by simp;omega),List.getElem?_append_left h]
theorem G6:∀ (po:List (List Nat)) (acc:List Nat) (j:Nat) (l:List Nat),po[j]? = some l->∃ Nu:List Nat,Nu.length=acc.length+j/\(∀ k,k<Nu.length->(jE po acc)[k]? = Nu[k]?) /\
   (jE po acc)[acc.length+j]? = some (l.foldl (fun s i=>s ||| 2 ^ i ||| Nu.getD i 0) 0)
 | [],_,_,_,h=>by simp at h
 | l'::r,acc,0,l,h=>by
   simp only [List.getElem?_cons_zero,Option.some.injEq] at h;subst h
   refine ⟨acc,rfl,fun k hk=>z8 _ _ k hk, ?_⟩
   simp only [jE]
   rw [z8 r _ _ (by simp),List.getElem?_append_right (by omega)]
   simp
 | l'::r,acc,j+1,l,h=>by
   simp only [jE]
   obtain ⟨Nu,h1,h2,h3⟩:=G6 r (acc++[l'.foldl (fun s i=>s ||| 2 ^ i ||| acc.getD i 0) 0]) j l (by simpa using h)
   refine ⟨Nu,by simp at h1;omega,h2, ?_⟩
   simp only [List.length_append,List.length_singleton] at h3
   rw [show acc.length+(j+1)=acc.length+1+j from by omega]
   exact h3
theorem Nv {po:List (List Nat)} {j b:Nat} (hlt:∀ e∈po.getD j [],e<j) (h:((jE po []).getD j 0).testBit b=true):∃ e∈po.getD j [],b=e∨((jE po []).getD e 0).testBit b=true:=by
 by_cases hj:j<po.length
 . obtain ⟨acc,h1,h2,h3⟩:=G6 po [] j po[j] (by simp [hj])
   simp only [List.length_nil,Nat.zero_add] at h1 h3
   have hg:(jE po []).getD j 0=po[j].foldl (fun s i=>s ||| 2 ^ i ||| acc.getD i 0) 0:=by simp [List.getD,h3]
   rw [hg] at h
   have ho:po.getD j []=po[j]:=by simp [List.getD,hj]
   rw [ho] at hlt ⊢
   rcases EC _ b _ _ h with h | ⟨e,he,h⟩
   . simp at h
   . refine ⟨e,he,h.imp id fun h => ?_⟩
     have:(jE po []).getD e 0=acc.getD e 0:=by
       simp only [List.getD]
       rw [h2 e (by rw [h1];exact hlt e he)]
     rw [this];exact h
 . have:(jE po []).getD j 0=0:=by
     have:=ED po []
     simp only [List.getD]
     rw [List.getElem?_eq_none (by simp at this;omega)]
     rfl
   rw [this] at h
   simp at h
theorem A6 {po:List (List Nat)} {X:Nat->Bool} {n:Nat} (hlt:∀ j,j<n->∀ e∈po.getD j [],e<j) (hX:∀ k,k<n->X k=true->∀ e∈po.getD k [],X e=true) :
   ∀ j,j<n->(∀ e∈po.getD j [],X e=true)->∀ b,((jE po []).getD j 0).testBit b=true->X b=true:=by
 intro j
 induction j using Nat.strongRecOn with
 | _ j ih =>
   intro hj he b hb
   obtain ⟨e,he1,h⟩:=Nv (hlt j hj) hb
   have hej:=hlt j hj e he1
   rcases h with rfl | h
   . exact he b he1
   . exact ih e hej (by omega) (hX e (by omega) (he e he1)) b h
theorem gB.map_congr {α β : Type} {g h : α -> β}:∀ (op:gB α),(∀ x∈op.args,g x=h x)->op.map g=op.map h:=by
 intro op hx
 have hl:∀ (l:List α),(∀ x∈l,x∈op.args)->l.map g=l.map h:=fun l hl=>List.map_congr_left fun x Nl=>hx x (hl x Nl)
 have ho:∀ (l:Option α),(∀ x,l=some x->x∈op.args)->l.map g=l.map h:=by
   intro l hl;cases l with
   | none=>rfl
   | some x=>simp [hx x (hl x rfl)]
 cases op<;>simp only [gB.map,gB.args] at hx hl ho ⊢
 case build z ps=>congr 1;apply List.map_congr_left;intro q hq;rw [hx q.2.2 (List.mem_map.2 ⟨q,hq,rfl⟩)]
 case buildSl k n z ps=>congr 1;apply List.map_congr_left;intro q hq;rw [hx q.2 (List.mem_map.2 ⟨q,hq,rfl⟩)]
 case mkfn fn a c=>rw [hl a (by simp +contextual),hl c (by simp +contextual)]
 case call f as=>rw [hx f (by simp),hl as (by simp +contextual)]
 case slice k x lo hi mx=>rw [hx x (by simp),ho lo (by simp +contextual),ho hi (by simp +contextual),ho mx (by simp +contextual)]
 case sliceS x lo hi=>rw [hx x (by simp),ho lo (by simp +contextual),ho hi (by simp +contextual)]
 all_goals try simp only [List.mem_cons,List.not_mem_nil,or_false,forall_eq_or_imp,forall_eq] at hx
 all_goals simp only [hx]
theorem PG {G:Nat->Option (List AV)} {t t':List AV}:∀ (x:aS),(∀ s,x.Y8=some s->t[s]? = t'[s]?)->x.ev G t=x.ev G t'
 | .t n,h=>by have:=h n rfl;simp [aS.ev,List.getD,this]
 | .c _,_=>rfl
 | .g _,_=>rfl
 | .f _,_=>rfl
theorem rk {σ σ':aa} {k:Nat} {x:AV} {ys:List AV} {rd:List Id} (h:dA σ k x=some (ys,rd)) (hr:∀ id∈rd, σ' id = σ id):dA σ' k x=some (ys,rd):=by
 unfold dA at h ⊢
 split at h
 . exact h
 . exact h
 . exact h
 . rename_i id k' off len t
   skip
   split at h
   . rename_i bk hb
     split at h
     . rename_i hh
       simp only [Option.some.injEq,Prod.mk.injEq] at h
       obtain ⟨rfl,rfl⟩:=h
       have:=hr id (by simp)
       rw [this,hb]
       simp [hh]
     . simp at h
   . simp at h
 . simp at h
theorem G7 {σ : aa} {id:Id} {off k:Nat} {news:List AV} {v:AV} {rd:List Id} {r:dN} (h:uG σ id off k news v rd=some r):r.rd=id::rd:=by
 unfold uG at h
 split at h
 . split at h
   . simp only [Option.some.injEq] at h;subst h;rfl
   . simp at h
 . simp at h
theorem A7 {σ σ':aa} {id:Id} {off k:Nat} {news:List AV} {v:AV} {rd:List Id} {r:dN} (h:uG σ id off k news v rd=some r) (hr:∀ id∈r.rd, σ' id = σ id):uG σ' id off k news v rd=some r:=by
 have Nh:=G7 h
 unfold uG at h ⊢
 rw [hr id (by rw [Nh];simp)]
 exact h
theorem Nw {σ σ':aa} {p:Id} {op:gB AV} {r:dN} (h:b8 σ p op=some r) (hr:∀ id∈r.rd, σ' id = σ id):b8 σ' p op=some r:=by
 cases op with
 | load agg n x =>
   simp only [b8] at h ⊢
   unfold gh at h ⊢
   split at h
   . rename_i id e o
     skip
     cases hb : σ id with
     | none=>simp [hb] at h
     | some bk =>
       simp only [hb] at h
       cases he:bk.els[e]? with
       | none=>simp [he] at h
       | some el =>
         simp only [he,Option.map_eq_some_iff] at h
         obtain ⟨v,hv,rfl⟩:=h
         rw [hr id (by simp),hb]
         simp [he,hv]
   . exact h
   . simp at h
 | store n x v =>
   simp only [b8] at h ⊢
   unfold eK at h ⊢
   split at h
   . rename_i id e o
     skip
     cases hb : σ id with
     | none=>simp [hb] at h
     | some bk =>
       simp only [hb] at h
       cases he:bk.els[e]? with
       | none=>simp [he] at h
       | some el =>
         simp only [he] at h
         split at h
         . rename_i hh
           simp only [Option.some.injEq] at h;subst h
           rw [hr id (by simp),hb]
           simp [he,hh]
         . simp at h
   . simp at h
 | append k bytes s x =>
   simp only [b8] at h ⊢
   unfold b6 at h ⊢
   cases vz:dA σ k x with
   | none=>simp [vz] at h
   | some q =>
     obtain ⟨ys,rd⟩:=q
     simp only [vz] at h
     have xI : ∀ id∈rd,id∈r.rd:=by
       intro id hid
       split at h
       . split at h<;>first | (simp only [Option.some.injEq] at h;subst h;exact hid) | simp at h
       . split at h
         . split at h<;>first | (simp only [Option.some.injEq] at h;subst h;exact hid) | simp at h
         . split at h<;>first | (simp only [Option.some.injEq] at h;subst h;exact hid) | simp at h
         . split at h
           . split at h
             . split at h
               . split at h<;>first | (simp only [Option.some.injEq] at h;subst h;exact List.mem_cons_of_mem _ hid) | (simp at h;done)
               . split at h<;>first | (simp only [Option.some.injEq] at h;subst h;exact List.mem_cons_of_mem _ hid) | (split at h<;>first | (simp only [Option.some.injEq] at h;subst h;exact List.mem_cons_of_mem _ hid) | (simp at h;done))
             . simp at h
           . simp at h
         . simp at h
     rw [rk vz (fun id hid=>hr id (xI id hid))]
     simp only []
     split at h
     . rename_i J5
       rw [if_pos J5];exact h
     . rename_i J5
       rw [if_neg J5]
       split at h
       . exact h
       . exact h
       . rename_i id k' off len t
         skip
         cases hb : σ id with
         | none=>simp [hb] at h
         | some bk =>
           simp only [hb] at h
           have hid:id∈r.rd:=by
             split at h
             . split at h
               . split at h<;>first | (simp only [Option.some.injEq] at h;subst h;simp;done) | (simp at h;done)
               . split at h<;>first | (simp only [Option.some.injEq] at h;subst h;simp;done) | (split at h<;>first | (simp only [Option.some.injEq] at h;subst h;simp;done) | (simp at h;done))
             . simp at h
           rw [hr id hid,hb]
           exact h
       . simp at h
 | bytesStr x =>
   simp only [b8] at h ⊢
   unfold mE at h ⊢
   cases vz:dA σ 1 x with
   | none=>simp [vz] at h
   | some q =>
     obtain ⟨ys,rd⟩:=q
     simp only [vz,Option.map_eq_some_iff] at h
     obtain ⟨l,hl,rfl⟩:=h
     rw [rk vz hr]
     simp [hl]
 | slice k x lo hi mx =>
   simp only [b8] at h ⊢
   cases hs:bT k x lo hi mx with
   | some v=>rw [hs] at h;exact h
   | none =>
     rw [hs] at h
     simp only [kI] at h ⊢
     split at h
     . rename_i id k' off len hh
       cases hb : σ id with
       | none=>simp [hb] at h
       | some bk =>
         simp only [hb] at h
         split at h
         . rename_i hc
           simp only [Option.map_eq_some_iff] at h
           obtain ⟨v,hv,rfl⟩:=h
           rw [hr id (by simp),hb]
           simp [hc,hv]
         . simp at h
     . exact h
     . simp at h
 | cap x =>
   simp only [b8] at h ⊢
   cases hs:Na x with
   | some v=>rw [hs] at h;exact h
   | none =>
     rw [hs] at h
     simp only [yl] at h ⊢
     split at h
     . rename_i id k' off len
       cases hb : σ id with
       | none=>simp [hb] at h
       | some bk =>
         simp only [hb] at h
         split at h
         . rename_i hc
           simp only [Option.some.injEq] at h;subst h
           rw [hr id (by simp),hb]
           simp [hc]
         . simp at h
     . simp at h
 | ovl x y =>
   simp only [b8] at h ⊢
   unfold GR at h ⊢
   split at h
   . rename_i i1 _ _ _ _ i2 _ _ _ _
     split at h
     . simp at h
     . rename_i hne
       cases h1 : σ i1 with
       | none=>simp [h1] at h
       | some b1 =>
         cases h2 : σ i2 with
         | none=>simp [h1,h2] at h
         | some b2 =>
           simp only [h1,h2] at h
           split at h
           . rename_i hp
             simp only [Option.some.injEq] at h;subst h
             simp only [hr i1 (by simp),hr i2 (by simp),h1,h2]
             rw [if_neg hne,if_pos hp]
           . simp at h
   . simp at h
 | clear k z x =>
   simp only [b8] at h ⊢
   unfold xF at h ⊢
   split at h
   . exact h
   . rename_i id k' off len tt
     split at h
     . rename_i h0;simp only [h0,if_true];exact h
     . rename_i h0
       simp only [h0,if_false]
       split at h
       . rename_i hh;rw [if_pos hh];exact A7 h hr
       . simp at h
   . simp at h
 | copy k d x =>
   simp only [b8] at h ⊢
   unfold yk at h ⊢
   cases vz:dA σ k x with
   | none=>simp [vz] at h
   | some q =>
     obtain ⟨ys,rd⟩:=q
     simp only [vz] at h
     have xI:∀ id∈rd,id∈r.rd:=by
       intro id hid
       split at h
       . simp only [Option.some.injEq] at h;subst h;exact hid
       . split at h
         . simp only [Option.some.injEq] at h;subst h;exact hid
         . split at h
           . have:=G7 h;rw [this];exact List.mem_cons_of_mem _ hid
           . simp at h
       . simp at h
     rw [rk vz (fun id hid=>hr id (xI id hid))]
     simp only []
     split at h
     . exact h
     . split at h
       . rename_i h0;rw [if_pos h0];exact h
       . rename_i h0
         rw [if_neg h0]
         split at h
         . rename_i hk;rw [if_pos hk];exact A7 h hr
         . simp at h
     . simp at h
 | _=>exact h
theorem D8 {P:Program} {G:Nat->Option (List AV)} {σ σ':aa} {p:Id} {op:gB AV} {r:dN} (h:jM P G σ p op r) (hr:∀ id∈r.rd, σ' id = σ id):jM P G σ' p op r:=by
 cases op with
 | call f as =>
   simp only [jM] at h ⊢
   split at h
   . obtain ⟨S,h1,h2,h3⟩:=h
     exact ⟨S,h1,fun x hx=>by rw [hr _ (h3 x hx)];exact h2 x hx,h3⟩
   . exact h
 | _=>exact Nw h hr
theorem pN {oc:Option AV} {r:dN} (h:bI oc=some r):r.rd=[]/\r.up=[]:=by
 cases oc with
 | none=>simp [bI] at h
 | some c=>simp only [bI,Option.map_some,Option.some.injEq] at h;subst h;exact ⟨rfl,rfl⟩
theorem Nx {P:Program} {G:Nat->Option (List AV)} {σ : aa} {p:Id} {op:gB aS} (hp:op.pure=true) {t:List AV} {r:dN} (h:jM P G σ p (op.map (aS.ev G t)) r):r.rd=[]/\r.up=[]:=by
 cases op<;>simp only [gB.pure,Bool.false_eq_true] at hp<;>simp only [gB.map,jM,b8] at h
 all_goals first
   | exact pN h
   | (simp at h;done)
   | (split at h<;>first | exact pN h | (simp at h;done) | (split at h<;>first | exact pN h | (simp at h;done)))
theorem Ny {P:Program} {G:Nat->Option (List AV)} {σ : aa} {p:Id} {op:gB aS} (hp:op.rf=true) {t:List AV} {r:dN} (h:jM P G σ p (op.map (aS.ev G t)) r):r.up=[]:=by
 cases op<;>simp only [gB.rf,Bool.false_eq_true] at hp
 case bytesStr =>
   simp only [gB.map,jM,b8] at h
   unfold mE at h
   split at h
   . simp only [Option.map_eq_some_iff] at h;obtain ⟨v,_,rfl⟩:=h;rfl
   . simp at h
 case ovl =>
   simp only [gB.map,jM,b8] at h
   unfold GR at h
   split at h
   . split at h
     . simp at h
     . split at h
       . split at h
         . simp only [Option.some.injEq] at h;subst h;rfl
         . simp at h
       . simp at h
   . simp at h
 case slice =>
   simp only [gB.map,jM,b8] at h
   unfold kI at h
   split at h
   . exact (pN h).2
   . split at h
     . split at h
       . split at h
         . simp only [Option.map_eq_some_iff] at h;obtain ⟨v,_,rfl⟩:=h;rfl
         . simp at h
       . simp at h
     . split at h
       . split at h
         . split at h
           . simp only [Option.some.injEq] at h;subst h;rfl
           . simp at h
         . simp at h
       . simp at h
     . simp at h
 case cap =>
   simp only [gB.map,jM,b8] at h
   unfold yl at h
   split at h
   . exact (pN h).2
   . split at h
     . split at h
       . split at h
         . simp only [Option.some.injEq] at h;subst h;rfl
         . simp at h
       . simp at h
     . simp at h
 simp only [gB.map,jM,b8] at h
 unfold gh at h
 split at h
 . split at h
   . split at h
     . simp only [Option.map_eq_some_iff] at h;obtain ⟨v,_,rfl⟩:=h;rfl
     . simp at h
   . simp at h
 . simp only [Option.map_eq_some_iff] at h;obtain ⟨v,_,rfl⟩:=h;rfl
 . simp at h
end Go.VL
end
