/- For the claim of FeaturePattern: parts VL9, VL2S, VL10, VL11, VL12, VL13, VL14. -/
import Derived.Test.YtchdghnpcekegaaGreatDoorC01
import Derived.Lib.AppendZeros
import Derived.Laws.BytesArg
import Derived.Laws.Externs
import Derived.Lib.Bytealg
import Derived.Lib.Overlaps
import Derived.Orders
set_option linter.unusedSimpArgs false
set_option linter.unusedVariables false
section
namespace Go.VL
section
variable {P:Program} {G:Nat->Option (List AV)} {own:Nat->Prop} {E:Env} {w:World} {σ : ah} {p:Id}
theorem Jl {len l r:Nat} {lo hi:Option AV} (hb:gy len lo hi=some (l,r)):jW len len hi=some r/\jW 0 r lo=some l:=by
 unfold gy at hb
 split at hb
 . simp at hb
 . rename_i h1 e1
   split at hb
   . simp at hb
   . rename_i l1 e2
     simp only [Option.some.injEq,Prod.mk.injEq] at hb
     obtain ⟨rfl,rfl⟩:=hb
     exact ⟨e1,e2⟩
theorem Ht (s:List UInt8) (l r:Nat):(ByteArray.mk s.toArray).extract l r=⟨((s.take r).drop l).toArray⟩:=by
 apply ByteArray.ext
 rw [ByteArray.data_extract]
 apply Array.ext'
 simp [List.extract_eq_take_drop,List.drop_take]
theorem Hu (hi:Inv G own E w σ) {t:TypeId} (hu:P.underlying t=some .string) {x:AV} {v:Value} (hx:aX E w x v)
   {lo p6:Option AV} {QC OK:Option Value} (yn:nV E w lo QC) (EC:nV E w p6 OK) {c:AV} (h:vL x lo p6=some c):Sound P G own E w σ p (Instr.sliceAt t v QC OK none) { val:=c }:=by
 unfold vL at h
 split at h
 . rename_i s
   simp only [aX] at hx;subst hx
   split at h
   . rename_i l r hb
     obtain ⟨CW,Bq⟩:=Jl hb
     simp only [Option.some.injEq] at h;subst h
     obtain ⟨yj,CY,Nf⟩:=iZ (P:=P) (isSlice:=false) (mx:=none) (vmx:=none) (m:=s.length) yn EC trivial (Nat.le_refl _) CW Bq (.inl ⟨rfl,rfl⟩)
     refine Sound.same (v := .string ⟨((s.take r).drop l).toArray⟩) hi ?_ (by simp [aX])
     have hsz:(ByteArray.mk s.toArray).size=s.length:=by simp [ByteArray.size]
     simp [Instr.sliceAt,Instr.slice,run_underlying hu,hsz,yj,Ht]
   . simp at h
 . simp at h
theorem Jm {b o k:Nat} {es:List AV} (hk:∀ e∈es,e.size=k) (h:bp E w b o es) {i:Nat} {e:AV} (he:es[i]? = some e):bu E w b (o+i*k) e.cells :=
 eZ.2 (Ku hk (dN.1 h) he)
theorem Jn (hi:Inv G own E w σ) {t e:TypeId} {i:TypeInfo} (hu:P.underlying t=some (.slice e)) (dI:P.info? e=some i) {x j:AV} {v u:Value} (hx:aX E w x v) (hj:aX E w j u) {c:AV}
   (h:cW i.size x j=some c):Sound P G own E w σ p (Instr.indexAt t v u) { val:=c }:=by
 have hrun:∀ (a:Addr) (len cap:Nat) (k:IntKind) (n:Int),0<=n->n<len->(Instr.indexAt t (.slice (some a) len cap) (.int k n)).run P w = .ok (.pointer (some (a.add (n.toNat*i.size)))) w:=by
   intro a len cap k n h0 h1
   simp [Instr.indexAt,run_underlying hu,asIntOf,h0,h1,e6 dI]
 unfold cW at h
 split at h
 . rename_i kk n
   simp only [aX] at hj;subst hj
   have row:∀ {es:List AV} {a:Option Addr} {cap:Nat},(∀ e∈es,e.size=i.size)->(es=[]∨∃ b o,a=some ⟨b,o,none⟩/\E.ok b/\bp E w b o es)->0<=n ->
       (es[n.toNat]?).map (fun e=>AV.ep e.cells 0)=some c->Sound P G own E w σ p (Instr.indexAt t (.slice a es.length cap) (.int kk n)) { val:=c }:=by
     intro es a cap hk vN h0 h
     simp only [Option.map_eq_some_iff] at h
     obtain ⟨el,Bo,rfl⟩:=h
     have hlt:n.toNat<es.length:=(List.getElem?_eq_some_iff.1 Bo).1
     rcases vN with rfl | ⟨b,o,rfl,hb,hr⟩
     . simp at hlt
     . refine Sound.same hi (hrun _ _ cap kk n h0 (by omega)) ?_
       rw [Addr.add_lit]
       simp only [aX]
       exact ⟨b,o+n.toNat*i.size,by simp,hb,Jm hk hr Bo⟩
   split at h
   . rename_i k' es
     simp only [aX] at hx
     obtain ⟨a,cap,rfl,_,_,hk,vN⟩:=hx
     split at h
     . rename_i hh
       obtain ⟨rfl,h0⟩:=hh
       exact row hk vN h0 h
     . simp at h
   . rename_i k' es
     simp only [aX] at hx
     obtain ⟨a,rfl,_,hk,vN⟩:=hx
     split at h
     . rename_i hh
       obtain ⟨rfl,h0⟩:=hh
       exact row hk vN h0 h
     . simp at h
   . rename_i id k' off len tt
     simp only [aX] at hx
     obtain ⟨g,N,cap,hm,rfl,_⟩:=hx
     split at h
     . rename_i hh
       obtain ⟨rfl,h0,h1⟩:=hh
       simp only [Option.some.injEq] at h;subst h
       refine Sound.same hi (hrun _ _ cap kk n h0 h1) ?_
       rw [Addr.add_lit]
       simp only [aX]
       exact ⟨g,i.size,N,hm,by simp [Nat.add_mul]⟩
     . simp at h
   . simp at h
 . simp at h
theorem Jo (hi:Inv G own E w σ) {t e:TypeId} {n:Nat} {i:TypeInfo} (hu:P.underlying t=some (.array n e)) (dI:P.info? e=some i) {x j:AV} {v u:Value} (hx:aX E w x v) (hj:aX E w j u) {c:AV}
   (h:nU n i.size x j=some c):Sound P G own E w σ p (Instr.indexAt t v u) { val:=c }:=by
 unfold nU at h
 split at h
 . rename_i kk m
   simp only [aX] at hj;subst hj
   split at h
   . rename_i hh
     have hrun:∀ a:Addr,(Instr.indexAt t (.pointer (some a)) (.int kk m)).run P w = .ok (.pointer (some (a.add (m.toNat*i.size)))) w:=by
       intro a
       simp [Instr.indexAt,run_underlying hu,asIntOf,hh,e6 dI,Instr.sureAddr]
     split at h
     . simp only [Option.some.injEq] at h;subst h
       simp only [aX] at hx
       obtain ⟨g,k,N,hm,rfl⟩:=hx
       refine Sound.same hi (hrun _) ?_
       rw [Addr.add_lit]
       simp only [aX]
       exact ⟨g,k,N,hm,by simp [Nat.add_assoc]⟩
     . simp only [Option.some.injEq] at h;subst h
       simp only [aX] at hx
       obtain ⟨b,q,rfl,hb,hr⟩:=hx
       refine Sound.same hi (hrun _) ?_
       rw [Addr.add_lit]
       simp only [aX]
       exact ⟨b,q,by simp [Nat.add_assoc],hb,hr⟩
     . simp at h
   . simp at h
 . simp at h
theorem KE (hi:Inv G own E w σ) {s:TypeId} {fs:Array Field} {f:Nat} {fd:Field} {i:TypeInfo} (hu:P.underlying s=some (.struct fs)) (hf:fs[f]? = some fd) (dI:P.info? fd.type=some i) (h0:i.size≠0)
   {x:AV} {v:Value} (hx:aX E w x v) {r:eT} (h:b8 σ p (.faddr fd.offset x)=some r):Sound P G own E w σ p (Instr.fieldAt s v f) r:=by
 have hrun:∀ a:Addr,(Instr.fieldAt s (.pointer (some a)) f).run P w = .ok (.pointer (some (a.add fd.offset))) w:=by
   intro a
   simp [Instr.fieldAt,run_underlying hu,hf,Instr.sureAddr,fieldPlace,e6 dI,h0]
 simp only [b8] at h
 split at h
 . simp only [bB,Option.map_some,Option.some.injEq] at h;subst h
   simp only [aX] at hx
   obtain ⟨g,k,N,hm,rfl⟩:=hx
   refine Sound.same hi (hrun _) ?_
   rw [Addr.add_lit]
   simp only [aX]
   exact ⟨g,k,N,hm,by simp [Nat.add_assoc]⟩
 . simp only [bB,Option.map_some,Option.some.injEq] at h;subst h
   simp only [aX] at hx
   obtain ⟨b,q,rfl,hb,hr⟩:=hx
   refine Sound.same hi (hrun _) ?_
   rw [Addr.add_lit]
   simp only [aX]
   exact ⟨b,q,by simp [Nat.add_assoc],hb,hr⟩
 . simp at h
theorem KF {t:TypeId} {agg:Bool} {i:TypeInfo} (ha:o8 P t=some agg) (dI:P.info? t=some i) {cs:List AV} {xs:Array Value} (hr:bf E w cs xs.toList) {o:Nat} {c:AV} (h:VL.part agg cs o i.size=some c) :
   ∃ v,(Go.part t xs o).run P w = .ok v w/\aX E w c v:=by
 obtain ⟨h1,h2,h3⟩:=SN h hr
 refine ⟨_, ?_,h1⟩
 cases agg with
 | true=>simp [Go.part,vM ha,e6 dI]
 | false =>
   have h1':=h3 rfl
   have:o<xs.size:=by omega
   simp [Go.part,vM ha,this]
theorem zI (hi:Inv G own E w σ) {k:Nat} {x:AV} {v:Value} (hx:aX E w x v) {ys:List AV} {rd:List Id} (h:gb σ k x=some (ys,rd)) :
   (∀ e∈ys,e.size=k)/\∃ a cap,v = .slice a ys.length cap/\ys.length<=cap/\(ys=[]∨∃ b o,a=some ⟨b,o,none⟩/\eY E w b o (flat ys)):=by
 unfold gb at h
 split at h
 . simp only [Option.some.injEq,Prod.mk.injEq] at h
   obtain ⟨rfl,rfl⟩:=h
   simp only [aX] at hx;subst hx
   exact ⟨by simp,none,0,rfl,Nat.le_refl _, .inl rfl⟩
 . rename_i k' es
   split at h
   . rename_i hk
     simp only [Option.some.injEq,Prod.mk.injEq] at h
     obtain ⟨rfl,rfl⟩:=h
     subst hk
     simp only [aX] at hx
     obtain ⟨a,cap,rfl,hl,_,hk,vN⟩:=hx
     exact ⟨hk,a,cap,rfl,hl,vN.imp id fun ⟨b,o,e,_,r⟩=>⟨b,o,e,dN.1 r⟩⟩
   . simp at h
 . rename_i k' es
   split at h
   . rename_i hk
     simp only [Option.some.injEq,Prod.mk.injEq] at h
     obtain ⟨rfl,rfl⟩:=h
     subst hk
     simp only [aX] at hx
     obtain ⟨a,rfl,_,hk,vN⟩:=hx
     exact ⟨hk,a,_,rfl,Nat.le_refl _,vN.imp id fun ⟨b,o,e,_,r⟩=>⟨b,o,e,dN.1 r⟩⟩
   . simp at h
 . rename_i id k' off len tt
   split at h
   . rename_i bk hσ
     split at h
     . rename_i hh
       obtain ⟨rfl,Ng,hle⟩:=hh
       simp only [Option.some.injEq,Prod.mk.injEq] at h
       obtain ⟨rfl,rfl⟩:=h
       obtain ⟨g,N,cur,ty,hB⟩:=hi.blk id bk hσ
       simp only [aX] at hx
       obtain ⟨g',N',cap,hm,rfl,Ko,_⟩:=hx
       rw [hB.μ] at hm
       simp only [Option.some.injEq,Prod.mk.injEq] at hm
       obtain ⟨rfl,_,rfl⟩:=hm
       have Jk:∀ e∈(bk.els.drop off).take len,e.size=k':=fun e he=>by rw [<- Ng];exact hB.k e (List.mem_of_mem_drop (List.mem_of_mem_take he))
       have hlen:((bk.els.drop off).take len).length=len:=by simp;omega
       refine ⟨Jk,some ⟨g,off*k',none⟩,cap,by rw [hlen],by omega, .inr ⟨g,off*k',rfl, ?_⟩⟩
       have:=qS (l:=off) (r:=off+len) hB.k hB.row (by omega) hle
       rw [Nat.zero_add,Ng] at this
       have e:(bk.els.take (off+len)).drop off=(bk.els.drop off).take len:=by rw [List.drop_take];congr 1;omega
       rwa [e] at this
     . simp at h
   . simp at h
 . simp at h
theorem Jp {b o:Nat} {cs:List AV} (h:eY E w b o cs):∃ vs:List Value,bf E w cs vs/\∀ j v,vs[j]? = some v->w.cell? ((⟨b,o,none⟩:Addr).add j)=some v:=by
 refine ⟨(List.range cs.length).map fun j=>(w.cell? ⟨b,o+j,none⟩).getD undef,bO.2 ⟨by simp,fun j c hj => ?_⟩,fun j v hj => ?_⟩
 . obtain ⟨v,hv,hr⟩:=h j c hj
   have hlt:j<cs.length:=(List.getElem?_eq_some_iff.1 hj).1
   exact ⟨v,by simp [hlt,hv],hr⟩
 . have hlt:j<cs.length:=by have:=(List.getElem?_eq_some_iff.1 hj).1;simpa using this
   obtain ⟨v',hv',_⟩:=h j cs[j] (by simp [hlt])
   simp only [List.getElem?_map,hlt,List.getElem?_range,Option.map_some,Option.some.injEq] at hj
   rw [Addr.add_lit,hv', <- hj,hv']
   rfl
theorem FE {cs:List AV} {vs:List Value} (h:bf E w cs vs) (h1:∀ c∈cs,c.one=true):∀ v∈vs,v.oneCell'=true:=by
 intro v hv
 obtain ⟨j,hj⟩:=List.mem_iff_getElem?.1 hv
 obtain ⟨hl,hp⟩:=bO.1 h
 have yi:j<cs.length:=by have:=(List.getElem?_eq_some_iff.1 hj).1;omega
 obtain ⟨u,hu,hru⟩:=hp j cs[j] (by simp [yi])
 have:u=v:=by rw [hj] at hu;simpa using hu.symm
 subst this
 exact aX.one hru (h1 _ (by simp))
theorem Bz (hi:Inv G own E w σ) (hμ : E.μ p=none) (hσ : σ p=none) {k n N:Nat} {els:List AV} (hk:∀ e∈els,e.size=k) (hn:els.length=n) {vs:List Value} (hv:bf E w (flat els) vs)
   {rest:Array Value} (hr:rest.size=(N-n)*k) (hnN:n<=N) (hN:N<=maxLen) (ty:TypeId) {rd:List Id} :
   lB G own E w σ p { val := .osl p k 0 n false,rd:=rd,up:=[(p,some ⟨els,k,false⟩)] } (.slice (some ⟨w.heap.size,0,none⟩) n N) (E.bind p w.heap.size k N) (w.drew.alloc (.cells (vs.toArray++rest) ty)):=by
 have hd:=hi.drew
 obtain ⟨hl,hp⟩:=bO.1 hv
 have Fw:=cE hk
 have hstep:Step E E w w.drew:=(Adv.drew (own:=own) E w).step
 have hlen:(vs++rest.toList).length=N*k:=by
   simp only [List.length_append,Array.length_toList,hl,Fw,hn,hr, <- Nat.add_mul]
   congr 1;omega
 have:=zG (p:=p) (rd:=rd) hd hμ hσ (els:=els) (k:=k) (N:=N) (vs:=vs++rest.toList) ty hk
   (fun j c hj=>by
     obtain ⟨v,qW,yl⟩:=hp j c hj
     exact ⟨v,by rw [List.getElem?_append_left (List.getElem?_eq_some_iff.1 qW).1];exact qW,aX.keep hstep c v yl⟩) hlen (by omega) hN
   (c := .osl p k 0 n false) (v := .slice (some ⟨w.heap.size,0,none⟩) n N)
   (by simp only [aX];exact ⟨w.heap.size,N,N,Env.jv _ _ _ _ _,by simp,hnN,by omega,hN,by simp⟩)
 have he:(vs++rest.toList).toArray=vs.toArray++rest:=by apply Array.ext';simp
 rw [he] at this
 exact ⟨(Adv.drew E w).trans this.Hm,this.inv,this.rep,this.ids⟩
theorem Wy (hi:Inv G own E w σ) (id:Id):Inv G own E w (σ.put id none) where
 okb:=hi.okb
 blk:=fun i bk h=>by
   by_cases e:i=id
   . subst e;simp [ah.put] at h
   . rw [ah.cD _ _ _ e] at h;exact hi.blk i bk h
 inj:=fun i j x y hx hy hne h1 h2=>by
   have ei:i≠id:=by rintro rfl;simp [ah.put] at hx
   have ej:j≠id:=by rintro rfl;simp [ah.put] at hy
   rw [ah.cD _ _ _ ei] at hx
   rw [ah.cD _ _ _ ej] at hy
   exact hi.inj i j x y hx hy hne h1 h2
 glob:=hi.glob
 new:=hi.new
end
end Go.VL
end

section
namespace Go.VL
theorem C7 {k:Nat}:∀ {es:List AV} {n:Nat},(∀ x∈es,x.size=k)->flat (es.take n)=(flat es).take (n*k)
 | [],n,_=>by simp [flat]
 | x::es,0,_=>by simp [flat]
 | x::es,n+1,h=>by
   have hx:x.cells.length=k:=h x (by simp)
   have ih:=C7 (es:=es) (n:=n) (fun y hy=>h y (by simp [hy]))
   have hf:flat (x::es)=x.cells++flat es:=by simp [flat]
   have Wo:flat ((x::es).take (n+1))=x.cells++flat (es.take n):=by simp [flat]
   rw [hf,Wo,ih,show (n+1)*k=x.cells.length+n*k from by rw [hx,Nat.add_mul];omega,List.take_length_add_append]
theorem Ib {k:Nat}:∀ {es:List AV} {n:Nat},(∀ x∈es,x.size=k)->flat (es.drop n)=(flat es).drop (n*k)
 | [],n,_=>by simp [flat]
 | x::es,0,_=>by simp
 | x::es,n+1,h=>by
   have hx:x.cells.length=k:=h x (by simp)
   have ih:=Ib (es:=es) (n:=n) (fun y hy=>h y (by simp [hy]))
   have hf:flat (x::es)=x.cells++flat es:=by simp [flat]
   rw [List.drop_succ_cons,ih,hf,show (n+1)*k=x.cells.length+n*k from by rw [hx,Nat.add_mul];omega,List.drop_length_add_append]
theorem D5 {G:Nat->Option (List AV)} {own:Nat->Prop} {E:Env} {w:World} {σ : ah} (h:Inv G own E w σ) {id:Id} {bk:dA} (hσ : σ id=some bk) (H0:bk.fr=false)
   {g N:Nat} {cur:Array Value} {ty:TypeId} (hB:xA E own w id bk g N cur ty)
   {e:Nat} {news:List AV} {vs:List Value} (hle:e+news.length<=bk.els.length) (hk:∀ x∈news,x.size=bk.k) (hv:bf E w (flat news) vs) :
   e*bk.k+vs.length<=cur.size /\
   Adv own E E w (w.setRow g (cur.toList.take (e*bk.k)++vs++cur.toList.drop (e*bk.k+vs.length)).toArray) /\
   Inv G own E (w.setRow g (cur.toList.take (e*bk.k)++vs++cur.toList.drop (e*bk.k+vs.length)).toArray) (σ.put id (some { bk with els:=bk.els.take e++news++bk.els.drop (e+news.length) })):=by
 obtain ⟨xO,hvp⟩:=bO.1 hv
 have Ic:=cE hk
 have hbound:e*bk.k+vs.length<=cur.size:=by
   rw [hB.size,xO,Ic, <- Nat.add_mul]
   exact Nat.mul_le_mul_right _ (by have:=hB.len;omega)
 refine ⟨hbound, ?_⟩
 generalize Wp:(cur.toList.take (e*bk.k)++vs++cur.toList.drop (e*bk.k+vs.length)).toArray=nv
 have hg:=gJ hB.heap
 have C1:(w.setRow g nv).heap[g]? = some (.cells nv ty (0,0)):=setRow_heap w g cur nv ty _ hB.heap
 have hs:Step E E w (w.setRow g nv):=⟨fun _ _ h=>h,fun _ h=>h,fun b hb=>setRow_other w g b nv (fun e=>hB.no H0 (e▸hb))⟩
 have ic:Adv own E E w (w.setRow g nv) :=
   ⟨hs,rfl,rfl,rfl,by simp,fun k _ hk=>setRow_other w g k nv (fun e=>hk (e▸hB.own)),fun _ h => .inl h⟩
 refine ⟨ic, ?_, ?_, ?_, ?_, ?_⟩
 . intro b hb;simpa using h.okb b hb
 . intro i Fv hi
   by_cases dI:i=id
   . subst dI
     rw [ah.dE] at hi
     simp only [Option.some.injEq] at hi
     subst hi
     have KG:(bk.els.take e++news++bk.els.drop (e+news.length)).length=bk.els.length:=by simp;omega
     have acK:∀ x∈bk.els.take e++news++bk.els.drop (e+news.length),x.size=bk.k:=by
       intro x hx
       simp only [List.append_assoc,List.mem_append] at hx
       rcases hx with hx | hx | hx
       . exact hB.k x (List.mem_of_mem_take hx)
       . exact hk x hx
       . exact hB.k x (List.mem_of_mem_drop hx)
     refine ⟨g,N,nv,ty,hB.μ,C1, ?_,by rw [KG];exact hB.len,hB.most,hB.own,by simp [H0],hB.no,acK, ?_⟩
     . rw [<- Wp]
       simp only [List.size_toArray,List.length_append,List.length_take,List.length_drop,Array.length_toList]
       rw [<- hB.size];omega
     . show eY E (w.setRow g nv) g 0 (flat (bk.els.take e++news++bk.els.drop (e+news.length)))
       rw [nG,nG,C7 hB.k,Ib hB.k]
       have hlen:(flat bk.els).length=bk.els.length*bk.k:=cE hB.k
       have hcz:bk.els.length*bk.k<=cur.size:=by rw [hB.size];exact Nat.mul_le_mul_right _ hB.len
       have hmul:(e+news.length)*bk.k<=bk.els.length*bk.k:=Nat.mul_le_mul_right _ hle
       rw [Nat.add_mul] at hmul
       intro j c hj
       have hcell:(w.setRow g nv).cell? ⟨g,0+j,none⟩=nv[j]? := by rw [Nat.zero_add];exact cell_of_row _ _ _ _ _ _ C1
       rw [hcell]
       suffices Z5:∃ v,nv[j]? = some v/\aX E w c v by
         obtain ⟨v,qW,yl⟩:=Z5;exact ⟨v,qW,aX.keep hs c v yl⟩
       rw [<- Wp]
       have hold:∀ (j:Nat) (c:AV),(flat bk.els)[j]? = some c->∃ v:Value,cur[j]? = some v/\aX E w c v:=by
         intro j c hj
         obtain ⟨v,qW,yl⟩:=hB.row j c hj
         rw [Nat.zero_add,cell_of_row _ _ _ _ _ _ hB.heap] at qW
         exact ⟨v,qW,yl⟩
       simp only [List.getElem?_toArray]
       have ha:(cur.toList.take (e*bk.k)).length=e*bk.k:=by simp;omega
       have hb:((flat bk.els).take (e*bk.k)).length=e*bk.k:=by simp;omega
       rw [List.append_assoc] at hj ⊢
       by_cases c1:j<e*bk.k
       . rw [List.getElem?_append_left (by omega),List.getElem?_take_of_lt c1] at hj
         rw [List.getElem?_append_left (by omega),List.getElem?_take_of_lt c1]
         obtain ⟨v,qW,yl⟩:=hold j c hj
         exact ⟨v,by simpa using qW,yl⟩
       . rw [List.getElem?_append_right (by omega),hb] at hj
         rw [List.getElem?_append_right (by omega),ha]
         by_cases c2:j-e*bk.k<(flat news).length
         . rw [List.getElem?_append_left c2] at hj
           rw [List.getElem?_append_left (by omega)]
           obtain ⟨v,qW,yl⟩:=hvp _ c hj
           exact ⟨v,qW,yl⟩
         . rw [List.getElem?_append_right (by omega),List.getElem?_drop] at hj
           rw [List.getElem?_append_right (by omega),List.getElem?_drop,xO]
           rw [Ic] at hj c2 ⊢
           have e1:(e+news.length)*bk.k+(j-e*bk.k-news.length*bk.k)=j:=by rw [Nat.add_mul];omega
           have e2:e*bk.k+news.length*bk.k+(j-e*bk.k-news.length*bk.k)=j:=by omega
           rw [e1] at hj;rw [e2]
           obtain ⟨v,qW,yl⟩:=hold _ c hj
           exact ⟨v,by simpa using qW,yl⟩
   . rw [ah.cD _ _ _ dI] at hi
     obtain ⟨g',N',Na,OH,Kw⟩:=h.blk i Fv hi
     have hne:g'≠g:=h.inj i id _ _ (by simp [hi]) (by simp [hσ]) dI Kw.μ hB.μ
     exact ⟨g',N',Na,OH,Kw.keep hs (setRow_other w g g' nv hne) Kw.no⟩
 . intro i j x y hi hj hne hx hy
   refine h.inj i j x y ?_ ?_ hne hx hy
   . intro hn;by_cases dI:i=id
     . subst dI;simp [hσ] at hn
     . rw [ah.cD _ _ _ dI] at hi;exact hi hn
   . intro hn;by_cases dI:j=id
     . subst dI;simp [hσ] at hn
     . rw [ah.cD _ _ _ dI] at hj;exact hj hn
 . intro g' cs Nb
   obtain ⟨h1',h2'⟩:=h.glob g' cs Nb
   exact ⟨h1',bu.keep hs.bare (hs.same g' h1') cs 0 h2'⟩
 . intro k hk;simp at hk;exact h.new k hk
end Go.VL
end

section
namespace Go.VL
section
variable {P:Program} {G:Nat->Option (List AV)} {own:Nat->Prop} {E:Env} {w:World} {σ : ah} {p:Id}
theorem Wz (hi:Inv G own E w σ) (hμ : E.μ p=none) (hσ : σ p=none) {id:Id} {bk:dA} (jS : σ id=some bk) (H0:bk.fr=false) {g N:Nat} {cur:Array Value} {ty:TypeId} (hB:xA E own w id bk g N cur ty)
   {ys:List AV} (hk:∀ e∈ys,e.size=bk.k) {news:List Value} (hv:bf E w (flat ys) news) (Nc:bk.els.length+ys.length<=N) {rd:List Id} :
   lB G own E w σ p { val := .osl p bk.k 0 (bk.els.length+ys.length) false,rd:=rd,up:=[(id,none),(p,some ⟨bk.els++ys,bk.k,false⟩)] }
     (.slice (some ⟨g,0,none⟩) (bk.els.length+ys.length) N) (E.bind p g bk.k N)
     (w.setRow g (cur.toList.take (bk.els.length*bk.k)++news++cur.toList.drop (bk.els.length*bk.k+news.length)).toArray):=by
 obtain ⟨xO,hvp⟩:=bO.1 hv
 have hy:=cE hk
 have he:=cE hB.k
 have hle:bk.els.length*bk.k+news.length<=cur.size:=by
   rw [xO,hy,hB.size, <- Nat.add_mul];exact Nat.mul_le_mul_right _ Nc
 generalize Wp:(cur.toList.take (bk.els.length*bk.k)++news++cur.toList.drop (bk.els.length*bk.k+news.length)).toArray=nv
 have C1:(w.setRow g nv).heap[g]? = some (.cells nv ty (0,0)):=setRow_heap w g cur nv ty _ hB.heap
 have acL:id≠p:=by rintro rfl;simp [jS] at hσ
 have hs:Step E (E.bind p g bk.k N) w (w.setRow g nv) :=
   ⟨fun i x h=>by rw [Env.iY];exact h;rintro rfl;simp [hμ] at h,fun _ h=>h,fun b hb=>setRow_other w g b nv (fun e=>hB.no H0 (e▸hb))⟩
 have ic:Adv own E (E.bind p g bk.k N) w (w.setRow g nv) :=
   ⟨hs,rfl,rfl,rfl,by simp,fun k _ hk=>setRow_other w g k nv (fun e=>hk (e▸hB.own)),fun _ h => .inl h⟩
 have hsz:nv.size=cur.size:=by
   rw [<- Wp]
   simp only [List.size_toArray,List.length_append,List.length_take,List.length_drop,Array.length_toList]
   omega
 refine ⟨ic,⟨?_, ?_, ?_, ?_, ?_⟩, ?_,fun i hne=>Env.iY _ _ _ _ _ (fun e=>hne (by rw [e];exact List.suffix_refl _))⟩
 . intro b hb;simpa using hi.okb b hb
 . intro i Fv h
   simp only [ah.app] at h
   by_cases e1:i=p
   . subst e1
     rw [ah.dE] at h
     simp only [Option.some.injEq] at h;subst h
     refine ⟨g,N,nv,ty,Env.jv _ _ _ _ _,C1,by rw [hsz];exact hB.size,by simpa using Nc,hB.most,hB.own,by simp,fun _ hb=>hB.no H0 hb, ?_, ?_⟩
     . intro e he
       rcases List.mem_append.1 he with h | h
       . exact hB.k e h
       . exact hk e h
     . show eY _ _ g 0 (flat (bk.els++ys))
       rw [nG]
       have hcell:∀ j,(w.setRow g nv).cell? ⟨g,j,none⟩=nv[j]? := fun j=>cell_of_row _ _ _ _ _ _ C1
       have ht:(cur.toList.take (bk.els.length*bk.k)).length=bk.els.length*bk.k:=by simp;omega
       refine vJ.2 ⟨fun j c hj => ?_,fun j c hj => ?_⟩
       . have yi:j<bk.els.length*bk.k:=by rw [<- he];exact (List.getElem?_eq_some_iff.1 hj).1
         obtain ⟨v,qW,yl⟩:=hB.row j c hj
         rw [Nat.zero_add,cell_of_row _ _ _ _ _ _ hB.heap] at qW
         refine ⟨v, ?_,aX.keep hs c v yl⟩
         rw [Nat.zero_add,hcell, <- Wp]
         simp only [List.getElem?_toArray,List.append_assoc]
         rw [List.getElem?_append_left (by omega),List.getElem?_take_of_lt yi]
         simpa using qW
       . obtain ⟨v,qW,yl⟩:=hvp j c hj
         have yi:j<news.length:=(List.getElem?_eq_some_iff.1 qW).1
         refine ⟨v, ?_,aX.keep hs c v yl⟩
         rw [Nat.zero_add,hcell, <- Wp,he]
         simp only [List.getElem?_toArray,List.append_assoc]
         rw [List.getElem?_append_right (by omega),ht,Nat.add_sub_cancel_left,List.getElem?_append_left yi]
         exact qW
   . rw [ah.cD _ _ _ e1] at h
     by_cases e2:i=id
     . subst e2;simp [ah.put] at h
     . rw [ah.cD _ _ _ e2] at h
       obtain ⟨g',N',Na,OH,Kw⟩:=hi.blk i Fv h
       have hne:g'≠g:=hi.inj i id _ _ (by simp [h]) (by simp [jS]) e2 Kw.μ hB.μ
       exact ⟨g',N',Na,OH,Kw.keep hs (setRow_other w g g' nv hne) Kw.no⟩
 . intro i j x y hx hy hne h1 h2
   simp only [ah.app] at hx hy
   have other:∀ i,i≠p->((σ.put id none).put p (some ⟨bk.els++ys,bk.k,false⟩)) i≠none->i≠id /\ σ i≠none:=by
     intro i e h
     rw [ah.cD _ _ _ e] at h
     have e2:i≠id:=by rintro rfl;simp [ah.put] at h
     rw [ah.cD _ _ _ e2] at h
     exact ⟨e2,h⟩
   by_cases e1:i=p
   . have e1:=e1.symm
     subst e1
     have e2:j≠p:=fun e=>hne e.symm
     obtain ⟨h3,h4⟩:=other j e2 hy
     rw [Env.jv] at h1
     rw [Env.iY _ _ _ _ _ e2] at h2
     have:=hi.inj id j (g,bk.k,N) y (by simp [jS]) h4 (fun e=>h3 e.symm) hB.μ h2
     simp only [Option.some.injEq] at h1
     rw [<- h1];exact this
   . obtain ⟨h3,h4⟩:=other i e1 hx
     rw [Env.iY _ _ _ _ _ e1] at h1
     by_cases e2:j=p
     . subst e2
       rw [Env.jv] at h2
       have:=hi.inj i id x (g,bk.k,N) h4 (by simp [jS]) h3 h1 hB.μ
       simp only [Option.some.injEq] at h2
       rw [<- h2];exact this
     . obtain ⟨h5,h6⟩:=other j e2 hy
       rw [Env.iY _ _ _ _ _ e2] at h2
       exact hi.inj i j x y h4 h6 hne h1 h2
 . intro g' cs Nb
   obtain ⟨h1,h2⟩:=hi.glob g' cs Nb
   exact ⟨h1,bu.keep hs.bare (hs.same g' h1) cs 0 h2⟩
 . intro k hk;simp at hk;exact hi.new k hk
 . simp only [aX]
   exact ⟨g,N,N,Env.jv _ _ _ _ _,by simp,Nc,by omega,hB.most,by simp⟩
def OM (c:AV) (val:Value):Prop:=∀ E w,aX E w c val
theorem Jq {ys:List AV} (h:(ys.all fun e=>e.cells.all AV.one)=true):∀ c∈flat ys,c.one=true:=by
 intro c hc
 simp only [flat,List.mem_flatMap] at hc
 obtain ⟨e,he,hce⟩:=hc
 have:=List.all_eq_true.1 h e he
 exact List.all_eq_true.1 this c hce
theorem qA (t ty e bt:TypeId) (i:TypeInfo) (ht:P.underlying t=some (.slice e)) (hi:P.info? e=some i)
   (g Nh Z9:Nat) (cur:Array Value) (hg:w.heap[g]? = some (.cells cur bt (0,0)))
   (a:Addr) (m c:Nat) (news:List Value) (hl:news.length=m*i.size) (acM:∀ j u,news[j]? = some u->w.cell? (a.add j)=some u) (h1:∀ u∈news,u.oneCell'=true)
   (hroom:Nh+m<=Z9) (Nc:Nh*i.size+news.length<=cur.size) :
   (Builtin.append_ #[t,t] ty #[.slice (some ⟨g,0,none⟩) Nh Z9, .slice (some a) m c]).run P w =
     .ok (.slice (some ⟨g,0,none⟩) (Nh+m) Z9) (w.setRow g (cur.toList.take (Nh*i.size)++news++cur.toList.drop (Nh*i.size+news.length)).toArray):=by
 have hf:=run_firstCells_some (P:=P) w i.size m a m c news hl acM
 have hst:=run_storeCells_at P g (Nh*i.size) bt news 0 cur w hg (by simpa using Nc) h1
 simp only [Nat.add_zero] at hst
 simp [Builtin.append_,run_underlying ht,sizeOf,typeInfo,hi,Builtin.lenOf,hroom,hf,Addr.add_lit,hst]
theorem Am {z:AV} {zv:Value} (hz:bf E w z.cells zv.cells.toList) (n:Nat) (hp:0<z.size):bf E w (flat (List.replicate n z)) (Builtin.zeroCells zv.cells n).toList:=by
 obtain ⟨hl,hp2⟩:=bO.1 hz
 have hk:∀ e∈List.replicate n z,e.size=z.size:=fun e he=>by rw [List.eq_of_mem_replicate he]
 have Fw:=cE hk
 have hs:zv.cells.size=z.size:=by simpa [AV.size] using hl
 refine bO.2 ⟨by rw [Fw];simp [Builtin.zeroCells,hs],fun j c hj => ?_⟩
 have yi:j<n*z.size:=by have:=(List.getElem?_eq_some_iff.1 hj).1;rw [Fw] at this;simpa using this
 have hdm:j/z.size*z.size+j%z.size=j:=by rw [Nat.mul_comm];exact Nat.div_add_mod j z.size
 have aaa:=Nat.mod_lt j hp
 have hdiv:j/z.size<n:=Nat.div_lt_of_lt_mul (by rwa [Nat.mul_comm] at yi)
 have hg:=flat_get (i:=j/z.size) (e:=z) hk (by simp [hdiv]) aaa
 rw [hdm,hj] at hg
 obtain ⟨v,hv,hr⟩:=hp2 (j%z.size) c hg.symm
 refine ⟨v, ?_,hr⟩
 have hv':zv.cells[j%z.size]? = some v:=by simpa using hv
 simp only [Builtin.zeroCells,Array.toList_map,Array.toList_range,List.getElem?_map,hs,List.getElem?_range yi,Option.map_some]
 rw [getElem!_def,hv']
theorem FF (hi:Inv G own E w σ) {id:Id} {off k len:Nat} {tt:Bool} {news:List AV} {v:AV} {rd:List Id} {r:eT} (h:Br σ id off k news v rd=some r) {a:Value} (hs:aX E w (.osl id k off len tt) a)
   (hk:∀ e∈news,e.size=k) {vs:List Value} (hv:bf E w (flat news) vs) {val:Value} (hval:OM v val) :
   ∃ g cap,a = .slice (some ⟨g,off*k,none⟩) len cap/\∃ w',(storeCells ⟨g,off*k,none⟩ vs).run P w = .ok () w'/\lB G own E w σ p r val E w':=by
 unfold Br at h
 split at h
 . rename_i bk jS
   split at h
   . rename_i hh
     obtain ⟨Ng,hle,H0,OO⟩:=hh
     simp only [Option.some.injEq] at h;subst h
     obtain ⟨g,N,cur,ety,hB⟩:=hi.blk id bk jS
     simp only [aX] at hs
     obtain ⟨g',N',cap,M0,rfl,Ko,hoc,hNm,S4⟩:=hs
     rw [hB.μ] at M0
     simp only [Option.some.injEq,Prod.mk.injEq] at M0
     obtain ⟨rfl,_,rfl⟩:=M0
     obtain ⟨Fa,had,QD⟩:=D5 hi jS H0 hB (e:=off) (news:=news) (vs:=vs) hle (fun e he=>by rw [Ng];exact hk e he) hv
     have e0:off*bk.k=off*k:=by rw [Ng]
     rw [e0] at Fa had QD
     have hst:=run_storeCells_at P g (off*k) ety vs 0 cur w hB.heap (by simpa using Fa) (FE hv (Jq OO))
     simp only [Nat.add_zero] at hst
     exact ⟨g,cap,rfl,_,hst,had,QD,hval E _,fun _ _=>rfl⟩
   . simp at h
 . simp at h
theorem KH (hi:Inv G own E w σ) {t e ty:TypeId} {z:AV} (hu:P.underlying t=some (.slice e)) (hz:mK P e=some z) (p8:0<z.size) {x:AV} {a:Value} (hx:aX E w x a) {r:eT} (h:Fx σ z.size z x=some r) :
   Sound P G own E w σ p (Builtin.clear_ #[t] ty #[a]) r:=by
 obtain ⟨it,zv,hit,MY,Qz,MZ,OI⟩:=lC hz
 have hzr:=aX.cells (iO (E:=E) (w:=w) Qz) (jX OI)
 unfold Fx at h
 split at h
 . simp only [Option.some.injEq] at h;subst h
   simp only [aX] at hx;subst hx
   exact Sound.same (v := .tuple #[]) hi (by simp [Builtin.clear_,run_underlying hu]) (by simp only [aX];exact ⟨#[],rfl,by simp [bf]⟩)
 . rename_i id k' off len tt
   split at h
   . rename_i h0
     subst h0
     simp only [Option.some.injEq] at h;subst h
     simp only [aX] at hx
     obtain ⟨g',N',cap,M0,rfl,_⟩:=hx
     exact Sound.same (v := .tuple #[]) hi (by simp [Builtin.clear_,run_underlying hu]) (by simp only [aX];exact ⟨#[],rfl,by simp [bf]⟩)
   . rename_i h0
     split at h
     . rename_i hh
       obtain ⟨rfl,_⟩:=hh
       obtain ⟨g,cap,rfl,w',hst,hp⟩:=FF (P:=P) (p:=p) (val := .tuple #[]) hi h hx (fun e he=>by rw [List.eq_of_mem_replicate he]) (Am hzr len p8) (fun E w=>by simp only [aX];exact ⟨#[],rfl,by simp [bf]⟩)
       refine ⟨_,w',E, ?_,hp⟩
       obtain ⟨m,rfl⟩:∃ m,len=m+1:=⟨len-1,by omega⟩
       simp [Builtin.clear_,run_underlying hu,Aj hit MY,hst]
     . simp at h
 . simp at h
theorem Ni (hi:Inv G own E w σ) {t t2 e ty:TypeId} {i:TypeInfo} (hu:P.underlying t=some (.slice e)) (dI:P.info? e=some i) {d x:AV} {a b:Value} (hd:aX E w d a) (hx:aX E w x b) {r:eT} (h:Ky σ i.size d x=some r) :
   Sound P G own E w σ p (Builtin.copy_ #[t,t2] ty #[a,b]) r:=by
 unfold Ky at h
 split at h
 . simp at h
 . rename_i ys rd Bo
   obtain ⟨H2,xa,Hv,rfl,hxl,vN⟩:=zI hi hx Bo
   have zero:∀ (ba:Option Addr) (n cap:Nat),Nat.min ys.length n=0->(Builtin.copy_ #[t,t2] ty #[.slice ba n cap, .slice xa ys.length Hv]).run P w = .ok (.int .i64 0) w:=by
     intro ba n cap h0
     cases ba<;>cases xa<;>simp [Builtin.copy_,run_underlying hu,e6 dI,Builtin.lenOf,h0,Builtin.firstCells,loadCells,loadCellsFrom,storeCells,goInt]
   split at h
   . simp only [Option.some.injEq] at h;subst h
     simp only [aX] at hd;subst hd
     exact Sound.same hi (zero none 0 0 (by simp)) (by simp only [aX])
   . rename_i id k' off len tt
     split at h
     . rename_i h0
       simp only [Option.some.injEq] at h;subst h
       simp only [aX] at hd
       obtain ⟨g',N',cap,M0,rfl,_⟩:=hd
       have h0':Nat.min ys.length len=0:=by
         have:=congrArg List.length (List.isEmpty_iff.1 h0)
         simp only [List.length_take,List.length_nil] at this
         rw [Nat.min_comm] at this;exact this
       exact Sound.same hi (zero _ len cap h0') (by simp only [aX])
     . rename_i h0
       split at h
       . rename_i hk
         subst hk
         have hne:ys≠[]:=by rintro rfl;simp at h0
         obtain ⟨xb,xo,rfl,hxr⟩:=vN.resolve_left hne
         have hkt:∀ e∈ys.take len,e.size=i.size:=fun e he=>H2 e (List.mem_of_mem_take he)
         have agh:eY E w xb xo (flat (ys.take len)):=by
           rw [C7 H2]
           exact (vJ.1 (by rw [List.take_append_drop];exact hxr:eY E w xb xo ((flat ys).take (len*i.size)++(flat ys).drop (len*i.size)))).1
         obtain ⟨news,QB,YQ⟩:=Jp agh
         have YR:news.length=(ys.take len).length*i.size:=by rw [bf.len QB,cE hkt]
         obtain ⟨g,cap,rfl,w',hst,hp⟩:=FF (P:=P) (p:=p) (val := .int .i64 (ys.take len).length) hi h hd hkt QB (fun E w=>by simp only [aX])
         refine ⟨_,w',E, ?_,hp⟩
         have acN:Nat.min ys.length len=(ys.take len).length:=by rw [List.length_take,Nat.min_comm]
         have hf:=run_firstCells_some (P:=P) w i.size (ys.take len).length ⟨xb,xo,none⟩ ys.length Hv news YR YQ
         generalize (ys.take len).length=m at acN hf hp ⊢
         simp [Builtin.copy_,run_underlying hu,e6 dI,Builtin.lenOf,acN,hf,hst,goInt]
       . simp at h
   . simp at h
theorem Hw {d:Option TypeDesc} (h:C3 d=true):∃ e,d=some (.slice e):=by
 unfold C3 at h
 split at h
 . exact ⟨_,rfl⟩
 . cases h
theorem C8 {t t' e e' ty:TypeId} (hu:P.underlying t=some (.slice e)) (M1:P.underlying t'=some (.slice e')) (a b:Value) (w:World) :
   (Builtin.append_ #[t,t'] ty #[a,b]).run P w=(Builtin.append_ #[t,t] ty #[a,b]).run P w:=by
 cases a<;>simp [Builtin.append_,run_underlying hu,run_underlying M1]
theorem Jr (hi:Inv G own E w σ) (hμ : E.μ p=none) (hσ : σ p=none) {t e ty:TypeId} {i:TypeInfo} (hu:P.underlying t=some (.slice e)) (dI:P.info? e=some i)
   (hz:(mK P e).isSome=true) {s x:AV} {a b:Value} (hs:aX E w s a) (hx:aX E w x b) {r:eT} (h:eu σ p i.size i.bytes s x=some r) :
   Sound P G own E w σ p (Builtin.append_ #[t,t] ty #[a,b]) r:=by
 obtain ⟨z,hz⟩:=Option.isSome_iff_exists.1 hz
 obtain ⟨it,zv,hit,MY,Qz,MZ,OI⟩:=lC hz
 rw [dI] at hit
 simp only [Option.some.injEq] at hit;subst hit
 have S5:zv.cells.size=i.size:=by
   have:=bf.len (aX.cells (iO (E:=E) (w:=w) Qz) (jX OI))
   simp at this;unfold AV.size at MZ;omega
 unfold eu at h
 split at h
 . simp at h
 . rename_i ys rd Bo
   obtain ⟨H2,xa,Hv,rfl,hxl,vN⟩:=zI hi hx Bo
   split at h
   . rename_i Nj
     have hys:ys=[]:=by simpa using Nj
     subst hys
     have hrun:∀ (base:Option Addr) (n cap:Nat),n<=cap->(Builtin.append_ #[t,t] ty #[.slice base n cap, .slice xa ([]:List AV).length Hv]).run P w = .ok (.slice base n cap) w:=by
       intro base n cap hn
       cases base<;>cases xa<;>simp [Builtin.append_,run_underlying hu,e6 dI,Builtin.lenOf,hn,Builtin.firstCells,loadCells,loadCellsFrom,storeCells]
     split at h
     . simp only [Option.some.injEq] at h;subst h
       have eK:=hs
       simp only [aX] at hs;subst hs
       exact Sound.same hi (hrun none 0 0 (Nat.le_refl _)) eK
     . simp only [Option.some.injEq] at h;subst h
       have eK:=hs
       simp only [aX] at hs;obtain ⟨q,rfl,_⟩:=hs
       exact Sound.same hi (hrun q _ _ (Nat.le_refl _)) eK
     . simp only [Option.some.injEq] at h;subst h
       have eK:=hs
       simp only [aX] at hs;obtain ⟨g,N,cap,_,rfl,hle,_⟩:=hs
       exact Sound.same hi (hrun _ _ _ hle) eK
     . simp at h
   . rename_i Nj
     have hne:ys≠[]:=by simpa using Nj
     have p8:0<ys.length:=List.length_pos_iff.2 hne
     obtain ⟨xb,xo,rfl,hxr⟩:=vN.resolve_left hne
     obtain ⟨news,QB,YQ⟩:=Jp hxr
     have Fw:=cE H2
     have YR:news.length=ys.length*i.size:=by rw [bf.len QB,Fw]
     -- an append to a row that has no room
     have grow:∀ (ba:Addr) (q:Nat) (es:List AV) (cap:Nat),(∀ e∈es,e.size=i.size)->(es=[]∨∃ b o,ba=⟨b,o,none⟩/\eY E w b o (flat es))->q=es.length->cap<q+ys.length ->
         (q+ys.length)*i.bytes<=140737488355328->q+ys.length<=maxLen->∀ rd,
         ∃ v w' E',(Builtin.append_ #[t,t] ty #[.slice (some ba) q cap, .slice (some ⟨xb,xo,none⟩) ys.length Hv]).run P w = .ok v w' /\
           lB G own E w σ p { val := .osl p i.size 0 (q+ys.length) false,rd:=rd,up:=[(p,some ⟨es++ys,i.size,false⟩)] } v E' w':=by
       intro ba q es cap hk hr hq WA hb hm rd
       have S3:=cE hk
       obtain ⟨S6,Wb,hoc⟩:∃ vs:List Value,bf E w (flat es) vs/\∀ j v,vs[j]? = some v->w.cell? (ba.add j)=some v:=by
         rcases hr with rfl | ⟨b,o,rfl,hr⟩
         . exact ⟨[],by simp [flat,bf],by simp⟩
         . exact Jp hr
       have YS:S6.length=q*i.size:=by rw [bf.len Wb,S3,hq]
       have hrun:=run_append_grow (P:=P) w t ty e i zv hu dI MY ba q cap S6 YS hoc ⟨xb,xo,none⟩ ys.length Hv news YR YQ WA (by unfold maxLen at hm;omega) (growslice_fits WA hb)
       have KI:=grownCap_ge w (q+ys.length) cap e
       have OJ:=grownCap_le_maxLen w (q+ys.length) cap e hm
       refine ⟨_,_,E.bind p w.heap.size i.size (grownCap w (q+ys.length) cap e),hrun, ?_⟩
       have:=Bz (p:=p) (rd:=rd) hi hμ hσ (k:=i.size) (n:=q+ys.length) (N:=grownCap w (q+ys.length) cap e) (els:=es++ys) (fun e he=>(List.mem_append.1 he).elim (hk e) (H2 e)) (by simp [hq])
         (vs:=S6++news) (by rw [nG];exact bf.append Wb QB) (rest:=Builtin.zeroCells zv.cells (grownCap w (q+ys.length) cap e-(q+ys.length))) (by rw [size_zeroCells,S5]) KI OJ e
       have hee:(S6++news).toArray=S6.toArray++news.toArray:=by simp
       rw [hee] at this
       exact this
     split at h
     . -- onto nil
       split at h
       . rename_i hh
         obtain ⟨hb,hm,_⟩:=hh
         simp only [Option.some.injEq] at h;subst h
         simp only [aX] at hs;subst hs
         have hrun:=run_append_nil (P:=P) w t ty e i zv hu dI MY ⟨xb,xo,none⟩ ys.length Hv news YR YQ p8 (by unfold maxLen at hm;omega) (by omega)
         have KI:=grownCap_ge w ys.length 0 e
         have OJ:=grownCap_le_maxLen w ys.length 0 e hm
         refine ⟨_,_,E.bind p w.heap.size i.size (grownCap w ys.length 0 e),hrun, ?_⟩
         exact Bz (p:=p) (rd:=rd) hi hμ hσ (k:=i.size) (n:=ys.length) (N:=grownCap w ys.length 0 e) (els:=ys) H2 rfl QB (by rw [size_zeroCells,S5]) KI OJ e
       . simp at h
     . -- onto a row without room
       rename_i k' es
       split at h
       . rename_i hh
         obtain ⟨rfl,hb,hm,_⟩:=hh
         simp only [Option.some.injEq] at h;subst h
         simp only [aX] at hs
         obtain ⟨q,rfl,_,hk,hr⟩:=hs
         cases q with
         | none =>
           have hes:es=[]:=by rcases hr with h | ⟨b,o,h,_⟩;exact h;simp at h
           subst hes
           simp only [List.length_nil,Nat.zero_add,List.nil_append] at hb hm ⊢
           have hrun:=run_append_nil (P:=P) w t ty e i zv hu dI MY ⟨xb,xo,none⟩ ys.length Hv news YR YQ p8 (by unfold maxLen at hm;omega) (by omega)
           have KI:=grownCap_ge w ys.length 0 e
           have OJ:=grownCap_le_maxLen w ys.length 0 e hm
           refine ⟨_,_,E.bind p w.heap.size i.size (grownCap w ys.length 0 e),hrun, ?_⟩
           exact Bz (p:=p) (rd:=rd) hi hμ hσ (k:=i.size) (n:=ys.length) (N:=grownCap w ys.length 0 e) (els:=ys) H2 rfl QB (by rw [size_zeroCells,S5]) KI OJ e
         | some ba =>
           exact grow ba es.length es es.length hk (hr.imp id fun ⟨b,o,e,_,r⟩=>⟨b,o,by simpa using e,dN.1 r⟩) rfl (by omega) hb hm rd
       . simp at h
     . -- onto a block of the store
       rename_i id k' off len tt
       split at h
       . rename_i bk jS
         split at h
         . rename_i hh
           obtain ⟨rfl,Ng,rfl,hle,hb,hm,OO⟩:=hh
           obtain ⟨g,N,cur,ety,hB⟩:=hi.blk id bk jS
           simp only [aX] at hs
           obtain ⟨g',N',cap,M0,rfl,Ko,hoc,hNm,S4⟩:=hs
           rw [hB.μ] at M0
           simp only [Option.some.injEq,Prod.mk.injEq] at M0
           obtain ⟨rfl,_,rfl⟩:=M0
           have Jk:∀ e∈bk.els,e.size=i.size:=fun e he=>by rw [<- Ng];exact hB.k e he
           simp only [Nat.zero_mul]
           split at h
           . split at h
             . rename_i ht _
               simp only [Option.some.injEq] at h;subst h
               rw [if_pos ht] at S4
               have FG:=qS (l:=0) (r:=len) hB.k hB.row (Nat.zero_le _) hle
               simp only [Nat.zero_mul,Nat.add_zero,List.drop_zero] at FG
               exact grow ⟨g,0,none⟩ len (bk.els.take len) cap (fun e he=>Jk e (List.mem_of_mem_take he)) (.inr ⟨g,0,rfl,FG⟩) (by simp;omega) (by omega) hb hm (id::rd)
             . simp at h
           . split at h
             . rename_i ht hh2
               obtain ⟨WB,H0,yj⟩:=hh2
               simp only [Option.some.injEq] at h;subst h
               simp only [ht,Bool.false_eq_true,if_false,Nat.zero_add] at S4
               subst WB
               by_cases hroom:bk.els.length+ys.length<=cap
               . have hrun:=qA (P:=P) (w:=w) t ty e ety i hu dI g bk.els.length cap cur hB.heap ⟨xb,xo,none⟩ ys.length Hv news YR YQ (FE QB (Jq OO)) hroom
                   (by rw [YR,hB.size,Ng, <- Nat.add_mul];exact Nat.mul_le_mul_right _ (by omega))
                 obtain rfl:cap=N:=S4
                 refine ⟨_,_,E.bind p g i.size cap,hrun, ?_⟩
                 have:=Wz (p:=p) (rd:=id::rd) hi hμ hσ jS H0 hB (ys:=ys) (fun e he=>by rw [Ng];exact H2 e he) QB hroom
                 rw [Ng] at this
                 exact this
               . obtain ⟨v,w',E',hrun,OP⟩:=grow ⟨g,0,none⟩ bk.els.length bk.els cap Jk (.inr ⟨g,0,rfl,hB.row⟩) rfl (by omega) hb hm (id::rd)
                 refine ⟨v,w',E',hrun,OP.Hm, ?_,OP.rep,OP.ids⟩
                 have acL:id≠p:=by rintro rfl;simp [jS] at hσ
                 have:=Wy OP.inv id
                 have he:(σ.app [(p,some ⟨bk.els++ys,i.size,false⟩)]).put id none = σ.app [(id,none),(p,some ⟨bk.els++ys,i.size,false⟩)]:=by
                   funext j
                   simp only [ah.app,ah.put]
                   by_cases e1:j=id
                   . subst e1;simp [acL]
                   . simp [e1]
                 rw [he] at this
                 exact this
             . split at h
               . -- over elements that lie behind
                 rename_i ht _ hh2
                 obtain ⟨WB,H0⟩:=hh2
                 simp only [Option.some.injEq] at h;subst h
                 simp only [ht,Bool.false_eq_true,if_false,Nat.zero_add] at S4
                 obtain rfl:cap=N:=S4
                 have hroom:len+ys.length<=cap:=Nat.le_trans WB hB.len
                 obtain ⟨Fa,had,QD⟩:=D5 hi jS H0 hB (e:=len) (news:=ys) (vs:=news) WB (fun e he=>by rw [Ng];exact H2 e he) QB
                 have e0:len*bk.k=len*i.size:=by rw [Ng]
                 rw [e0] at Fa had QD
                 have hrun:=qA (P:=P) (w:=w) t ty e ety i hu dI g len cap cur hB.heap ⟨xb,xo,none⟩ ys.length Hv news YR YQ (FE QB (Jq OO)) hroom Fa
                 refine ⟨_,_,E,hrun,had,QD, ?_,fun _ _=>rfl⟩
                 simp only [aX]
                 exact ⟨g,cap,cap,by rw [hB.μ,Ng],by simp,hroom,by omega,hNm,by simp⟩
               . simp at h
         . simp at h
       . simp at h
     . simp at h
theorem Nk (hi:Inv G own E w σ) (hμ : E.μ p=none) (hσ : σ p=none) {t tn e ty:TypeId} {i:TypeInfo} {kn:IntKind} (hu:P.underlying t=some (.slice e)) (dI:P.info? e=some i) (htn:P.underlying tn=some (.int kn)) {z:AV}
   (hz:mK P e=some z) (p8:0<i.size) {s x:AV} {a b:Value} (hs:aX E w s a) (hx:aX E w x b) {r:eT} (h:H3 p i.size i.bytes z s x=some r) :
   Sound P G own E w σ p (Builtin.append_ #[t,tn] ty #[a,b]) r:=by
 obtain ⟨it,zv,hit,MY,Qz,MZ,OI⟩:=lC hz
 rw [dI] at hit
 simp only [Option.some.injEq] at hit;subst hit
 have hzr:=aX.cells (iO (E:=E) (w:=w) Qz) (jX OI)
 have S5:zv.cells.size=i.size:=by have:=bf.len hzr;simp at this;unfold AV.size at MZ;omega
 unfold H3 at h
 split at h
 . rename_i kk n
   split at h
   . rename_i hh
     obtain ⟨h0,hb,hm,hzk,_⟩:=hh
     simp only [Option.some.injEq] at h;subst h
     simp only [aX] at hs hx;subst hs;subst hx
     obtain ⟨m,rfl⟩:∃ m:Nat,n=m:=⟨n.toNat,by omega⟩
     have M3:m*i.bytes<=140737488355328:=by rw [<- Int.natCast_mul] at hb;omega
     have qH:m<=maxLen:=by omega
     have KI:=grownCap_ge w m 0 e
     have OJ:=grownCap_le_maxLen w m 0 e qH
     have hrun:=Lib.run_append_nil_zeros (P:=P) w t tn ty e i zv kk kn hu htn dI MY m (by omega) p8 (by unfold maxLen at qH;omega) (by omega)
     refine ⟨_,_,E.bind p w.heap.size i.size (grownCap w m 0 e),hrun, ?_⟩
     have:=Bz (p:=p) (rd:=[]) hi hμ hσ (k:=i.size) (n:=m) (N:=grownCap w m 0 e) (els:=List.replicate m z) (fun e he=>by rw [List.eq_of_mem_replicate he];exact hzk) (by simp)
       (vs:=(Builtin.zeroCells zv.cells m).toList) (Am hzr m (by omega)) (rest:=Builtin.zeroCells zv.cells (grownCap w m 0 e-m)) (by rw [size_zeroCells,S5]) KI OJ e
     simpa using this
   . simp at h
 . simp at h
end
end Go.VL
end

section
namespace Go.VL
section
variable {P:Program} {G:Nat->Option (List AV)} {own:Nat->Prop} {E:Env} {w:World} {σ : ah} {p:Id}
def dW (P:Program) (G:Nat->Option (List AV)) (own:Nat->Prop) (E:Env) (w:World) (σ : ah) (p:Id) (r:eT) (s:Sem Next):Prop :=
 ∃ v w' E',(s.run P w = .ok (.value v) w'∨(s.run P w = .ok .skip w'/\v=undef))/\lB G own E w σ p r v E' w'
theorem dW.of {s:Sem Value} {r:eT} (h:Sound P G own E w σ p s r):dW P G own E w σ p r (do pure (.value (<- s))):=by
 obtain ⟨v,w',E',hr,hp⟩:=h
 exact ⟨v,w',E', .inl (by simp [hr]),hp⟩
theorem dW.ofU {s:Sem Unit} {r:eT} (h:∃ w',s.run P w = .ok () w'/\lB G own E w σ p r undef E w'):dW P G own E w σ p r (do s;pure .skip):=by
 obtain ⟨w',hr,hp⟩:=h
 exact ⟨undef,w',E, .inr ⟨by simp [hr],rfl⟩,hp⟩
theorem yo {t:List AV} {a:Act} (hf:cn E w t a) (hi:Inv G own E w σ) {x:Option Operand} {vx:Option bd} (h:C2 x=some vx):nV E w (vx.map (bd.ev G t)) (x.map a.eval):=by
 cases x with
 | none=>simp only [C2,Option.some.injEq] at h;subst h;trivial
 | some x =>
   simp only [C2,Option.map_eq_some_iff] at h
   obtain ⟨va,Bp,rfl⟩:=h
   exact bl hf hi Bp
theorem Nl {σ : ah} {x:AV} {oc:Option AV} {r:eT} (h:Fy σ x oc=some r):bB oc=some r∨∃ id k off len bk,x = .osl id k off len false /\ σ id=some bk/\off<=bk.els.length/\r={ val := .ige (bk.els.length-off),rd:=[id] }:=by
 unfold Fy at h
 split at h
 . exact .inl h
 . split at h
   . rename_i id k off len
     split at h
     . rename_i bk hb
       split at h
       . rename_i ho
         simp only [Option.some.injEq] at h
         exact .inr ⟨id,k,off,len,bk,rfl,hb,ho,h.symm⟩
       . simp at h
     . simp at h
   . simp at h
theorem Hx (hi : Inv G own E w σ) {t e:TypeId} {i:TypeInfo} (hu:P.underlying t=some (.slice e)) (dI:P.info? e=some i) {x:AV} {v:Value} (hx:aX E w x v)
   {lo p6 mx:Option AV} {QC OK vmx:Option Value} (yn:nV E w lo QC) (EC:nV E w p6 OK) (hmx:nV E w mx vmx) (hmh:mx.isSome->p6.isSome) {r:eT}
   (h:sE σ i.size x lo p6 mx (fK i.size x lo p6 mx)=some r):Sound P G own E w σ p (Instr.sliceAt t v QC OK vmx) r:=by
 cases hs:fK i.size x lo p6 mx with
 | some c =>
   rw [hs] at h
   refine Sound.fP (oc:=some c) h fun c' hc' => ?_
   simp only [Option.some.injEq] at hc';subst hc'
   exact Bx hi hu dI hx yn EC hmx hmh hs
 | none =>
   rw [hs] at h
   simp only [sE] at h
   split at h
   . rename_i id k' off len hh
     split at h
     . rename_i bk hb
       split at h
       . rename_i hc
         obtain ⟨ho,hk⟩:=hc
         simp only [Option.map_eq_some_iff] at h
         obtain ⟨c,hc,rfl⟩:=h
         simp only [aX] at hx
         obtain ⟨g,N,cap,hm,rfl,h1,h2,h3,h4⟩:=hx
         obtain ⟨g',N',cur,OH,hB⟩:=hi.blk id bk hb
         have hμ := hB.μ
         rw [hμ] at hm
         simp only [Option.some.injEq,Prod.mk.injEq] at hm
         obtain ⟨rfl,rfl,rfl⟩:=hm
         simp only [Bool.false_eq_true,if_false] at h4
         have hl:=hB.len
         have hx':aX E w (.osl id bk.k off (bk.els.length-off) false) (.slice (some ⟨g',off*bk.k,none⟩) (bk.els.length-off) cap):=by
           simp only [aX]
           exact ⟨g',N',cap,hμ,rfl,by omega,h2,h3,by simpa using h4⟩
         have agj:vmx=none:=by cases vmx with | none=>rfl | some _=>exact (hmx:False).elim
         subst agj
         obtain ⟨v,w',E',hrun,hp⟩:=Bx (p:=p) hi hu dI hx' yn EC (mx:=none) (vmx:=none) hmx (by simp) hc
         cases OK with
         | none=>exact (EC:False).elim
         | some u =>
           refine ⟨v,w',E', ?_,⟨hp.Hm,hp.inv,hp.rep,hp.ids⟩⟩
           rw [<- hrun]
           simp [Instr.sliceAt,Instr.slice,run_underlying hu,Instr.sliceBounds]
       . simp at h
     . simp at h
   . rename_i hh km m
     split at h
     . rename_i n hn
       split at h
       . rename_i l r' hb
         split at h
         . rename_i hc
           simp only [Option.some.injEq] at h;subst h
           obtain ⟨h1,h2⟩:=hc
           have hm0:m=((m.toNat:Nat):Int):=by omega
           obtain ⟨a,cap,rfl,Ko⟩:∃ a cap,v = .slice a n cap/\n<=cap:=by
             unfold YM at hn
             split at hn
             . simp only [Option.some.injEq] at hn;subst hn
               simp only [aX] at hx;exact ⟨_,_,hx,Nat.le_refl _⟩
             . split at hn
               . simp only [Option.some.injEq] at hn;subst hn
                 simp only [aX] at hx;obtain ⟨a,cap,rfl,h,_⟩:=hx;exact ⟨_,_,rfl,h⟩
               . simp at hn
             . split at hn
               . simp only [Option.some.injEq] at hn;subst hn
                 simp only [aX] at hx;obtain ⟨a,rfl,_⟩:=hx;exact ⟨_,_,rfl,Nat.le_refl _⟩
               . simp at hn
             . split at hn
               . simp only [Option.some.injEq] at hn;subst hn
                 simp only [aX] at hx;obtain ⟨g,N,cap,_,rfl,h,_⟩:=hx;exact ⟨_,_,rfl,h⟩
               . simp at hn
             . simp at hn
           unfold gy at hb
           split at hb
           . simp at hb
           . rename_i h1' e1
             split at hb
             . simp at hb
             . rename_i l1 e2
               simp only [Option.some.injEq,Prod.mk.injEq] at hb
               obtain ⟨rfl,rfl⟩:=hb
               obtain ⟨yj,_,_⟩:=iZ (P:=P) (isSlice:=true) (len:=n) (cap:=cap) (m:=m.toNat) yn EC hmx Ko e1 e2 (.inr ⟨km,by rw [<- hm0],by simp,by omega,by omega⟩)
               refine ⟨.slice (if m.toNat=l1 then a else a.map (·.add (l1*i.size))) (h1'-l1) (m.toNat-l1),w,E, ?_,⟨Adv.refl own E w,hi,by simp only [aX],fun _ _=>rfl⟩⟩
               simp [Instr.sliceAt,Instr.slice,run_underlying hu,yj,e6 dI]
         . simp at h
       . simp at h
     . simp at h
   . simp at h
theorem OQ {f:FuncId} {fn:Func} {e:Array Value->Sem Value} {c:Call} {a:Act} {o:Oper} (hop:o.op = .call c) (yp:c.callee = .value (.func f)) (hf:P.funcs[f]? = some fn) (uv:(fn.name == "runtime.NumGoroutine")=false)
   (hb:fn.body.isNone=true) (hn:Extern.findNext fn=none) (he:Extern.find fn=some e) {v:Value} {w':World} (hrun:(e (c.args.map a.eval)).run P w = .ok v w') :
   (execOp a.eval o).run P w = .ok (.value v) w':=by
 have h1:=run_callFunc_extern hf uv hb hn he (c.args.map a.eval) w
 rw [hrun] at h1
 simp only [Result.andThen] at h1
 have e0:a.eval (.func f) = .func (.func f) #[] #[]:=rfl
 simp [execOp,hop,resolve,yp,e0,Deferred.ofValue,invoke,h1]
theorem Ie {fo : Operand} {k:Ws} (h:SL P fo=some k):∃ f fn,fo = .func f/\P.funcs[f]? = some fn/\fn.body.isNone=true /\
   ((k = .idx/\fn.name = "internal/bytealg.IndexByteString" /\ fn.origin = "")∨(k = .ovl/\fn.origin = "slices.overlaps" /\ ym fn.name=true/\∃ t e i,fn.params[0]? = some t/\P.underlying t=some (.slice e)/\P.info? e=some i)):=by
 unfold SL at h
 split at h
 . rename_i f
   split at h
   . rename_i fn Ic
     split at h
     . rename_i hb
       refine ⟨f,fn,rfl,Ic,hb, ?_⟩
       split at h
       . rename_i hn
         simp only [Option.some.injEq] at h
         simp only [Bool.and_eq_true,beq_iff_eq] at hn
         exact .inl ⟨h.symm,hn.1,hn.2⟩
       . split at h
         . rename_i ho
           simp only [Bool.and_eq_true,beq_iff_eq] at ho
           split at h
           . rename_i t ht
             split at h
             . rename_i e he
               split at h
               . rename_i hi
                 simp only [Option.some.injEq] at h
                 obtain ⟨i,hi⟩:=Option.isSome_iff_exists.1 hi
                 exact .inr ⟨h.symm,ho.1,ho.2,t,e,i,ht,he,hi⟩
               . simp at h
             . simp at h
           . simp at h
         . simp at h
     . simp at h
   . simp at h
 . simp at h
theorem QE {fn:Func} (hf:ym fn.name=true) (ho:fn.origin = "slices.overlaps"):Extern.findNext fn=none/\Extern.find fn=some (Extern.SlicesOverlaps.overlaps fn.params fn.resultTypes):=by
 unfold ym at hf
 simp only [Bool.and_eq_true,Option.isNone_iff_eq_none] at hf
 obtain ⟨⟨⟨⟨h1,h2⟩,h3⟩,h4⟩,_⟩:=hf
 have o1:Extern.allGenericRows.lookup "slices.overlaps" = none:=by kernel_rfl
 have o2:Extern.allTypedRows.lookup "slices.overlaps" = some Extern.SlicesOverlaps.overlaps:=by kernel_rfl
 have o4:Extern.allNextRows.lookup "slices.overlaps" = none:=by kernel_rfl
 constructor
 . simp [Extern.findNext,h4,ho,o4]
 . simp [Extern.find,h1,h2,h3,ho,o1,o2]
theorem S7 {fn:Func} (hn:fn.name = "internal/bytealg.IndexByteString") (ho:fn.origin = ""):Extern.findNext fn=none/\Extern.find fn=some Extern.BytealgIndexByte.indexByte:=by
 have o1:Extern.allGenericRows.lookup "internal/bytealg.IndexByteString" = none:=by kernel_rfl
 have o2:Extern.allTypedRows.lookup "internal/bytealg.IndexByteString" = none:=by kernel_rfl
 have o3:Extern.allRows.lookup "internal/bytealg.IndexByteString" = some Extern.BytealgIndexByte.indexByte:=by kernel_rfl
 have o4:Extern.allNextRows.lookup "internal/bytealg.IndexByteString" = none:=by kernel_rfl
 have o5:Extern.allNextRows.lookup "" = none:=by kernel_rfl
 constructor
 . simp [Extern.findNext,hn,ho,o4,o5]
 . simp [Extern.find,hn,o1,o2,o3]
theorem FH:∀ (l:List UInt8) (c:UInt8),Lib.indexByte l c=sD l c
 | [],_=>rfl
 | b::l,c=>by simp only [Lib.indexByte,sD,FH l c]
theorem QF {c:Call} {a:Act} {o:Oper} {fo x y:Operand} (hop:o.op = .call c) (yp:c.callee = .value fo) (hk:SL P fo=some .idx) (mG:c.args.toList=[x,y]) (hi:Inv G own E w σ) {vx vy:AV}
   (hx:aX E w vx (a.eval x)) (hy:aX E w vy (a.eval y)) {r:eT} (h:bB (SK vx vy)=some r):dW P G own E w σ p r (execOp a.eval o):=by
 obtain ⟨f,fn,rfl,Ic,hb,hh⟩:=Ie hk
 rcases hh with ⟨_,hn,ho⟩ | ⟨h0,_⟩
 case inr=>simp at h0
 have key:∃ s n,vx = .str s/\vy = .int .u8 n/\r={ val := .int .i64 (sD s n.toNat.toUInt8) }:=by
   unfold SK at h
   split at h
   . simp only [bB,Option.map_some,Option.some.injEq] at h
     exact ⟨_,_,rfl,rfl,h.symm⟩
   . simp [bB] at h
 clear h
 obtain ⟨s,n,rfl,rfl,rfl⟩:=key
 . simp only [aX] at hx hy
   obtain ⟨hn1,WC⟩:=S7 hn ho
   have hae:c.args.map a.eval = #[.string ⟨s.toArray⟩, .int .u8 n]:=by
     apply Array.ext'
     simp [mG,hx,hy]
   refine ⟨.int .i64 (sD s n.toNat.toUInt8),w,E, .inl (OQ hop yp Ic (by rw [hn];rfl) hb hn1 WC ?_),⟨Adv.refl own E w,hi,by simp only [aX],fun _ _=>rfl⟩⟩
   rw [hae,Lib.run_indexByteString,FH]
theorem WD (params res:Array TypeId) {tS e:TypeId} {i:TypeInfo} (hp:params[0]? = some tS) (ht:P.underlying tS=some (.slice e)) (dI:P.info? e=some i)
   (a b:Addr) (la ca lb cb:Nat) (hne:a.block≠b.block) {aac WE:Array Value} {tA tB:TypeId} (ha:w.heap[a.block]? = some (.cells aac tA (0,0))) (hb:w.heap[b.block]? = some (.cells WE tB (0,0))) (hkB:WE.size≠0) :
   (Extern.SlicesOverlaps.overlaps params res #[.slice (some a) la ca, .slice (some b) lb cb]).run P w = .ok (.bool false) w:=by
 have Wc:(a.block != b.block)=true:=by simpa using hne
 have agm:(a.block==b.block)=false:=by simpa using hne
 have hsa:w.shape? a.block=some (tA,aac.size):=by simp [World.shape?,ha]
 have hsb:w.shape? b.block=some (tB,WE.size):=by simp [World.shape?,hb]
 have hfa:w.frozen? a=false:=by simp [World.frozen?,ha]
 have S3:w.frozen? { block:=a.block,off:=aac.size }=false:=by simp [World.frozen?,ha]
 have hz:(Go.sizeOf e).run P w = .ok i.size w:=e6 dI w
 change Sem.run P (α := Value) (do
   let some t:=params[0]? | stuck "slices.overlaps: no parameter types"
   let .slice elem <- underlying t | stuck "slices.overlaps: slice type expected"
   let size <- sizeOf elem
   match (some a:Option Addr),(some b:Option Addr) with
   | some a,some b =>
     if la=0∨lb=0∨size=0 then pure (Value.bool false)
     else if a.block != b.block&&(<- frozen a)&&(<- frozen b) then unsupported .addressObserved
     else do
       if a.block != b.block then do
         noView a;noView b
         if <- mayBeOne a b then return Value.bool ((<- choose (.extern "sameAddr.stringBytes" 2))==1)
       pure (Value.bool (a.block==b.block&&a.off<b.off+lb*size&&b.off<a.off+la*size))
   | _,_=>pure (Value.bool false)) w=_
 rw [hp]
 by_cases h0:la=0∨lb=0∨i.size=0
 . simp [run_underlying ht,hz,h0]
 . cases hk:WE.size with
   | zero=>exact absurd hk hkB
   | succ kB =>
     simp [run_underlying ht,hz,h0,Wc,agm,frozen,noView,viewAt,mayBeOne,stringish,shape,Sem.run,hsa,hsb,hfa,S3,hk]
theorem QG {c:Call} {a:Act} {o:Oper} {fo x y:Operand} (hop:o.op = .call c) (yp:c.callee = .value fo) (hk:SL P fo=some .ovl) (mG:c.args.toList=[x,y]) (hi:Inv G own E w σ) {vx vy:AV}
   (hx:aX E w vx (a.eval x)) (hy:aX E w vy (a.eval y)) {r:eT} (h:Qr σ vx vy=some r):dW P G own E w σ p r (execOp a.eval o):=by
 obtain ⟨f,fn,rfl,Ic,hb,hh⟩:=Ie hk
 rcases hh with ⟨h0,_⟩ | ⟨_,ho,hnf,tS,e,i,hp,ht,dI⟩
 case inl=>simp at h0
 unfold Qr at h
 split at h
 . rename_i id1 k1 o1 l1 t1 D6 k2 o2 l2 t2
   split at h
   . simp at h
   . rename_i hne
     split at h
     . rename_i b1 b2 h1 h2
       split at h
       . rename_i p8
         simp only [Option.some.injEq] at h;subst h
         simp only [aX] at hx hy
         obtain ⟨g1,N1,c1,YT,qW,_⟩:=hx
         obtain ⟨g2,N2,c2,BA,yl,_⟩:=hy
         obtain ⟨g1',N1',akC,ty1,hB1⟩:=hi.blk id1 b1 h1
         obtain ⟨g2',N2',agn,ty2,OR⟩:=hi.blk D6 b2 h2
         have hg:g1≠g2:=hi.inj id1 D6 _ _ (by simp [h1]) (by simp [h2]) hne YT BA
         rw [hB1.μ] at YT
         rw [OR.μ] at BA
         simp only [Option.some.injEq,Prod.mk.injEq] at YT BA
         obtain ⟨rfl,_,_⟩:=YT
         obtain ⟨rfl,_,_⟩:=BA
         obtain ⟨hn1,WC⟩:=QE hnf ho
         have uv:(fn.name == "runtime.NumGoroutine")=false:=by
           unfold ym at hnf
           simp only [Bool.and_eq_true,Bool.not_eq_true'] at hnf
           exact hnf.2
         have hae:c.args.map a.eval = #[.slice (some ⟨g1',o1*k1,none⟩) l1 c1, .slice (some ⟨g2',o2*k2,none⟩) l2 c2]:=by
           apply Array.ext'
           simp [mG,qW,yl]
         have hsz:agn.size≠0:=by
           rw [OR.size]
           have hl:=OR.len
           exact Nat.ne_of_gt (Nat.mul_pos (by omega) p8.1)
         refine ⟨.bool false,w,E, .inl (OQ hop yp Ic uv hb hn1 WC ?_),⟨Adv.refl own E w,hi,by simp only [aX],fun _ _=>rfl⟩⟩
         rw [hae]
         exact WD fn.params fn.resultTypes hp ht dI _ _ _ _ _ _ hg hB1.heap OR.heap hsz
       . simp at h
     . simp at h
 . simp at h
theorem Hy (hi:Inv G own E w σ) (hμ : E.μ p=none) (hσ : σ p=none) {t:List AV} {a:Act} (hf:cn E w t a) {b:Builtin} {args:Array Operand} {ts:Array TypeId} {ty:TypeId} {cs:Array Bool} {vo:gD bd}
   (hc:Bt P b args ts=some vo) {r:eT} (h:b8 σ p (vo.map (bd.ev G t))=some r) {R:Prop}
   (fin:∀ {s:Sem Value},builtin b ts ty cs (args.map a.eval)=(do pure (.value (<- s)))->Sound P G own E w σ p s r->R):R:=by
 unfold Bt at hc
 split at hc
 . -- len
   rename_i x tx mG WG
   have o9:args = #[x]:=by apply Array.ext';simpa using mG
   have Js:ts = #[tx]:=by apply Array.ext';simpa using WG
   refine fin (s:=Builtin.len_ ts ty (args.map a.eval)) rfl ?_
   rw [o9,Js]
   split at hc
   . rename_i hu
     simp only [Option.map_eq_some_iff] at hc;obtain ⟨va,Bp,rfl⟩:=hc
     simp only [gD.map,b8] at h
     have hr:=bl hf hi Bp
     refine Sound.fP h fun cc hcc => ?_
     cases hx:va.ev G t<;>simp only [hx,p7,Option.some.injEq,reduceCtorEq] at hcc
     rename_i l
     rw [hx] at hr
     simp only [aX] at hr
     subst hcc
     refine Sound.same (v := .int .i64 l.length) hi ?_ (by simp only [aX])
     have hsz:(ByteArray.mk l.toArray).size=l.length:=by show l.toArray.size=l.length;simp
     simp [Builtin.len_,run_underlying hu,hr,goInt,hsz]
   . rename_i e hu
     simp only [Option.map_eq_some_iff] at hc;obtain ⟨va,Bp,rfl⟩:=hc
     simp only [gD.map,b8] at h
     have hr:=bl hf hi Bp
     refine Sound.fP h fun cc hcc => ?_
     have hrun:∀ (ad:Option Addr) (n c:Nat),a.eval x = .slice ad n c->(Builtin.len_ #[tx] ty (#[x].map a.eval)).run P w = .ok (.int .i64 n) w:=by
       intro ad n c he
       simp [Builtin.len_,run_underlying hu,he,goInt]
     cases hx:va.ev G t<;>simp only [hx,p7,Option.some.injEq,reduceCtorEq] at hcc<;>rw [hx] at hr<;>simp only [aX] at hr<;>subst hcc
     . obtain ⟨ad,cap,he,_⟩:=hr
       exact Sound.same hi (hrun _ _ _ he) (by simp only [aX])
     . obtain ⟨ad,he,_⟩:=hr
       exact Sound.same hi (hrun _ _ _ he) (by simp only [aX])
     . exact Sound.same hi (hrun _ _ _ hr) (by simp only [aX];rfl)
     . obtain ⟨g,N,cap,_,he,_⟩:=hr
       exact Sound.same hi (hrun _ _ _ he) (by simp only [aX])
   . rename_i n e hu
     simp only [Option.map_eq_some_iff] at hc;obtain ⟨va,Bp,rfl⟩:=hc
     simp only [gD.map,b8] at h
     refine Sound.fP h fun cc hcc => ?_
     simp only [Option.some.injEq] at hcc;subst hcc
     refine Sound.same (v := .int .i64 n) hi ?_ (by simp only [aX])
     simp [Builtin.len_,run_underlying hu,goInt]
   . simp at hc
 . -- append
   rename_i s x t1 t2 mG WG
   have o9:args = #[s,x]:=by apply Array.ext';simpa using mG
   have Js:ts = #[t1,t2]:=by apply Array.ext';simpa using WG
   refine fin (s:=Builtin.append_ ts ty (args.map a.eval)) rfl ?_
   rw [o9,Js]
   split at hc
   . rename_i e hu
     split at hc
     . rename_i i dI
       split at hc
       . rename_i hh
         obtain ⟨WH,_,_,hz⟩:=hh
         obtain ⟨e',M1⟩:=Hw WH
         split at hc
         . rename_i vs vx M4 kJ
           simp only [Option.some.injEq] at hc;subst hc
           simp only [gD.map,b8] at h
           obtain ⟨v,w',E',hr,hp⟩:=Jr (ty:=ty) hi hμ hσ hu dI hz (bl hf hi M4) (bl hf hi kJ) h
           refine ⟨v,w',E', ?_,hp⟩
           rw [<- hr, <- C8 (ty:=ty) hu M1]
           simp
         . simp at hc
       . split at hc
         . rename_i kn z vs vx WI hz M4 kJ
           split at hc
           . rename_i p8
             simp only [Option.some.injEq] at hc;subst hc
             simp only [gD.map,b8] at h
             have:=Nk (P:=P) (ty:=ty) hi hμ hσ hu dI WI hz p8 (bl hf hi M4) (bl hf hi kJ) h
             simpa using this
           . simp at hc
         . simp at hc
     . simp at hc
   . simp at hc
 . -- cap
   rename_i x tx mG WG
   have o9:args = #[x]:=by apply Array.ext';simpa using mG
   have Js:ts = #[tx]:=by apply Array.ext';simpa using WG
   refine fin (s:=Builtin.cap_ ts ty (args.map a.eval)) rfl ?_
   rw [o9,Js]
   split at hc
   . rename_i e hu
     simp only [Option.map_eq_some_iff] at hc;obtain ⟨va,Bp,rfl⟩:=hc
     simp only [gD.map,b8] at h
     have hr:=bl hf hi Bp
     rcases Nl h with h | ⟨id,k,off,len,bk,hx,jS,akE,rfl⟩
     case inr =>
       rw [hx] at hr;simp only [aX] at hr
       obtain ⟨g,N,cap,M0,hv,h1,h2,h3,h4⟩:=hr
       obtain ⟨g',N',cur,OH,hB⟩:=hi.blk id bk jS
       rw [hB.μ] at M0
       simp only [Option.some.injEq,Prod.mk.injEq] at M0
       obtain ⟨rfl,_,rfl⟩:=M0
       refine Sound.same (v := .int .i64 cap) hi (by simp [Builtin.cap_,run_underlying hu,hv,goInt]) ?_
       simp only [aX]
       have:=hB.len
       simp only [Bool.false_eq_true,if_false] at h4
       exact ⟨cap,by omega,rfl⟩
     refine Sound.fP h fun cc hcc => ?_
     have hrun:∀ (ad:Option Addr) (n c:Nat),a.eval x = .slice ad n c->(Builtin.cap_ #[tx] ty (#[x].map a.eval)).run P w = .ok (.int .i64 c) w:=by
       intro ad n c he
       simp [Builtin.cap_,run_underlying hu,he,goInt]
     unfold SJ at hcc
     split at hcc
     . rename_i hx
       rw [hx] at hr;simp only [aX] at hr
       simp only [Option.some.injEq] at hcc;subst hcc
       exact Sound.same hi (hrun _ _ _ hr) (by simp only [aX];rfl)
     . rename_i hx
       rw [hx] at hr;simp only [aX] at hr
       simp only [Option.some.injEq] at hcc;subst hcc
       obtain ⟨ad,he,_⟩:=hr
       exact Sound.same hi (hrun _ _ _ he) (by simp only [aX])
     . rename_i hx
       rw [hx] at hr;simp only [aX,if_true] at hr
       simp only [Option.some.injEq] at hcc;subst hcc
       obtain ⟨g,N,cap,_,he,_,_,_,WA⟩:=hr
       subst WA
       exact Sound.same hi (hrun _ _ _ he) (by simp only [aX])
     . simp at hcc
   . simp at hc
 . -- clear
   rename_i x tx mG WG
   have o9:args = #[x]:=by apply Array.ext';simpa using mG
   have Js:ts = #[tx]:=by apply Array.ext';simpa using WG
   refine fin (s:=Builtin.clear_ ts ty (args.map a.eval)) rfl ?_
   rw [o9,Js]
   split at hc
   . rename_i e hu
     split at hc
     . rename_i z vx hz kJ
       split at hc
       . rename_i p8
         simp only [Option.some.injEq] at hc;subst hc
         simp only [gD.map,b8] at h
         have:=KH (P:=P) (p:=p) (ty:=ty) hi hu hz p8 (bl hf hi kJ) h
         simpa using this
       . simp at hc
     . simp at hc
   . simp at hc
 . -- copy
   rename_i d x t1 t2 mG WG
   have o9:args = #[d,x]:=by apply Array.ext';simpa using mG
   have Js:ts = #[t1,t2]:=by apply Array.ext';simpa using WG
   refine fin (s:=Builtin.copy_ ts ty (args.map a.eval)) rfl ?_
   rw [o9,Js]
   split at hc
   . rename_i e hu
     split at hc
     . rename_i i dI
       split at hc
       . split at hc
         . rename_i vd vx hvd kJ
           simp only [Option.some.injEq] at hc;subst hc
           simp only [gD.map,b8] at h
           have:=Ni (P:=P) (p:=p) (ty:=ty) (t2:=t2) hi hu dI (bl hf hi hvd) (bl hf hi kJ) h
           simpa using this
         . simp at hc
       . simp at hc
     . simp at hc
   . simp at hc
 . -- min
   rename_i x y mG
   have o9:args = #[x,y]:=by apply Array.ext';simpa using mG
   refine fin (s:=Builtin.min_ ts ty (args.map a.eval)) rfl ?_
   rw [o9]
   split at hc
   . rename_i vx vy kJ Jt
     simp only [Option.some.injEq] at hc;subst hc
     simp only [gD.map,b8] at h
     have WJ:=bl hf hi kJ
     have WK:=bl hf hi Jt
     split at h
     . rename_i k n k' m hx hy
       rw [hx] at WJ;rw [hy] at WK
       simp only [aX] at WJ WK
       refine Sound.fP h fun cc hcc => ?_
       simp only [Option.some.injEq] at hcc;subst hcc
       refine Sound.same (v := .int k (if m<n then m else n)) hi ?_ (by simp only [aX])
       simp [Builtin.min_,WJ,WK,Builtin.min2]
     . simp at h
   . simp at hc
 . -- max
   rename_i x y mG
   have o9:args = #[x,y]:=by apply Array.ext';simpa using mG
   refine fin (s:=Builtin.max_ ts ty (args.map a.eval)) rfl ?_
   rw [o9]
   split at hc
   . rename_i vx vy kJ Jt
     simp only [Option.some.injEq] at hc;subst hc
     simp only [gD.map,b8] at h
     have WJ:=bl hf hi kJ
     have WK:=bl hf hi Jt
     split at h
     . rename_i k n k' m hx hy
       rw [hx] at WJ;rw [hy] at WK
       simp only [aX] at WJ WK
       refine Sound.fP h fun cc hcc => ?_
       simp only [Option.some.injEq] at hcc;subst hcc
       refine Sound.same (v := .int k (if m>n then m else n)) hi ?_ (by simp only [aX])
       simp [Builtin.max_,WJ,WK,Builtin.max2]
     . simp at h
   . simp at hc
 . simp at hc
theorem BB:∀ {ys:List AV} {l:List UInt8},bytesOf ys=some l->∃ zs:List Int,ys=zs.map (AV.int .u8)/\l=zs.map fun n=>UInt8.ofNat n.toNat
 | [],l,h=>by simp only [bytesOf,Option.some.injEq] at h;subst h;exact ⟨[],rfl,rfl⟩
 | .int .u8 n::r,l,h=>by
   simp only [bytesOf,Option.map_eq_some_iff] at h
   obtain ⟨l',h1,rfl⟩:=h
   obtain ⟨zs,rfl,rfl⟩:=BB h1
   exact ⟨n::zs,rfl,rfl⟩
theorem Ig (k:IntKind):∀ zs:List Int,flat (zs.map (AV.int k))=zs.map (AV.int k)
 | []=>rfl
 | z::zs=>by have:=Ig k zs;simp only [List.map_cons,flat,List.flatMap_cons,AV.cells] at this ⊢;rw [this];rfl
theorem FI (hi:Inv G own E w σ) {src dst e:TypeId} (hs:P.underlying src=some (.slice e)) (he:P.underlying e=some (.int .u8)) (hd:P.underlying dst=some .string) {x:AV} {v:Value} (hx:aX E w x v) {r:eT} (h:qR σ x=some r) :
   Sound P G own E w σ p (convert src dst v) r:=by
 unfold qR at h
 split at h
 . rename_i ys rd Bo
   simp only [Option.map_eq_some_iff] at h
   obtain ⟨l,hl,rfl⟩:=h
   obtain ⟨zs,rfl,rfl⟩:=BB hl
   obtain ⟨_,a,cap,rfl,hle,hr⟩:=zI hi hx Bo
   refine Sound.same (v := .string ⟨(zs.map fun n=>UInt8.ofNat n.toNat).toArray⟩) hi ?_ (by simp [aX])
   rcases hr with hr | ⟨b,o,rfl,hr⟩
   . have hz:zs=[]:=by simpa using hr
     subst hz
     rw [run_convert_bytes_string w src dst e _ _ _ hs he hd]
     cases a with
     | none=>simp [Conv.bytesToString];rfl
     | some a =>
       rw [run_bytesToString w a _ _ [] (by simp [loadCells,loadCellsFrom])]
       rfl
   . rw [Ig] at hr
     have:=run_convert_bytes_arg (P:=P) w src e hs he b o zs.length cap zs rfl (fun i hil=>by
       obtain ⟨v,h1,h2⟩:=hr i (.int .u8 zs[i]) (by rw [List.getElem?_map,List.getElem?_eq_getElem hil];rfl)
       simp only [aX] at h2
       subst h2
       have aad:(⟨b,o,none⟩:Addr).add i=⟨b,o+i,none⟩:=by simp [Addr.add]
       first | rw [aad] at h1 | skip
       rw [h1,List.getD_eq_getElem?_getD,List.getElem?_eq_getElem hil];rfl) dst hd
     simpa [strOfNums] using this
 . simp at h
theorem BC {n:Int} (hn:0<=n/\n<128):Utf8.encode n=⟨[UInt8.ofNat n.toNat].toArray⟩:=by
 have hv:Utf8.valid n=true:=by unfold Utf8.valid;simp;omega
 unfold Utf8.encode
 simp only [hv,if_true]
 rw [if_pos (by omega)]
theorem QH (hi:Inv G own E w σ) (hμ : E.μ p=none) (hσ : σ p=none) {t:List AV} {a:Act} (hf:cn E w t a) {o:Oper} {vo:gD bd} (hc:nQ P o.op=some vo) {r:eT}
   (h:b8 σ p (vo.map (bd.ev G t))=some r):dW P G own E w σ p r (execOp a.eval o):=by
 unfold execOp
 cases ho:o.op<;>rw [ho] at hc<;>simp only []
 case move x =>
   simp only [nQ,Option.map_eq_some_iff] at hc;obtain ⟨va,Bp,rfl⟩:=hc
   simp only [gD.map,b8,bB,Option.map_some,Option.some.injEq] at h;subst h
   exact ⟨a.eval x,w,E, .inl rfl,Adv.refl own E w,hi,bl hf hi Bp,fun _ _=>rfl⟩
 case assign x =>
   simp only [nQ,Option.map_eq_some_iff] at hc;obtain ⟨va,Bp,rfl⟩:=hc
   simp only [gD.map,b8,bB,Option.map_some,Option.some.injEq] at h;subst h
   exact ⟨a.eval x,w,E, .inl rfl,Adv.refl own E w,hi,bl hf hi Bp,fun _ _=>rfl⟩
 case pick c x y =>
   simp only [nQ] at hc
   cases WL:cJ c with
   | none=>simp [WL] at hc
   | some vc =>
   cases kJ:cJ x with
   | none=>simp [WL,kJ] at hc
   | some vx =>
   cases Jt:cJ y with
   | none=>simp [WL,kJ,Jt] at hc
   | some vy =>
     simp only [WL,kJ,Jt,Option.some.injEq] at hc;subst hc
     simp only [gD.map,b8] at h
     have Wv:=bl hf hi WL
     have WJ:=bl hf hi kJ
     have WK:=bl hf hi Jt
     split at h
     . rename_i b hb
       rw [hb] at Wv
       simp only [aX] at Wv
       simp only [bB,Option.map_some,Option.some.injEq] at h;subst h
       refine ⟨if b then a.eval x else a.eval y,w,E, .inl (by simp [Wv,asBool]),Adv.refl own E w,hi, ?_,fun _ _=>rfl⟩
       cases b
       . exact WK
       . exact WJ
     . simp at h
 case alloc ty =>
   simp only [nQ,Option.map_eq_some_iff] at hc;obtain ⟨z,hz,rfl⟩:=hc
   simp only [gD.map,b8,bd.ev] at h
   obtain ⟨it,zv,hit,MY,Qz,MZ,OI⟩:=lC hz
   split at h
   . simp only [Option.some.injEq] at h;subst h
     have:=H9 (P:=P) (p:=p) hi hμ hσ (iO Qz) OI ty
     refine dW.of ?_
     obtain ⟨v,w',E',hr,hp⟩:=this
     refine ⟨v,w',E', ?_,hp⟩
     simp only [Instr.alloc,Sem.run_bind,Aj hit MY,Result.andThen_ok]
     exact hr
   . rename_i hno;exact absurd OI hno
 case box ty x =>
   simp only [nQ,Option.map_eq_some_iff] at hc;obtain ⟨va,Bp,rfl⟩:=hc
   simp only [gD.map,b8] at h
   split at h
   . rename_i AG
     simp only [Option.some.injEq] at h;subst h
     exact dW.of (H9 hi hμ hσ (bl hf hi Bp) AG ty)
   . simp at h
 case build ty ps=>exact dW.of (KC hi hf hc h)
 case buildSlice ty n ps=>exact dW.of (Hs hi hμ hσ hf hc h)
 case load ty x =>
   simp only [nQ] at hc
   cases ha:o8 P ty with
   | none=>simp [ha] at hc
   | some g =>
   cases EB:P.info? ty with
   | none=>simp [ha,EB] at hc
   | some i =>
   cases kJ:cJ x with
   | none=>simp [ha,EB,kJ] at hc
   | some vx =>
     simp only [ha,EB,kJ] at hc
     split at hc
     . simp only [Option.some.injEq] at hc;subst hc
       simp only [gD.map,b8] at h
       exact dW.of (KB hi ha EB (bl hf hi kJ) h)
     . simp at hc
 case store ty x y =>
   simp only [nQ] at hc
   cases EB:P.info? ty with
   | none=>simp [EB] at hc
   | some i =>
   cases kJ:cJ x with
   | none=>simp [EB,kJ] at hc
   | some vx =>
   cases Jt:cJ y with
   | none=>simp [EB,kJ,Jt] at hc
   | some vy =>
     simp only [EB,kJ,Jt,Option.some.injEq] at hc;subst hc
     simp only [gD.map,b8] at h
     exact dW.ofU (Jh hi EB (bl hf hi kJ) (bl hf hi Jt) h)
 case nilCheck x =>
   simp only [nQ,Option.map_eq_some_iff] at hc;obtain ⟨va,Bp,rfl⟩:=hc
   simp only [gD.map,b8] at h
   have hr:=bl hf hi Bp
   split at h
   . rename_i id e q hx
     simp only [bB,Option.map_some,Option.some.injEq] at h;subst h
     rw [hx] at hr ⊢
     have FC:=hr
     simp only [aX] at hr
     obtain ⟨g,k,N,hm,he⟩:=hr
     exact ⟨a.eval x,w,E, .inl (by rw [he];rfl),Adv.refl own E w,hi,FC,fun _ _=>rfl⟩
   . rename_i cs q hx
     simp only [bB,Option.map_some,Option.some.injEq] at h;subst h
     rw [hx] at hr ⊢
     have FC:=hr
     simp only [aX] at hr
     obtain ⟨b,q,he,_⟩:=hr
     exact ⟨a.eval x,w,E, .inl (by rw [he];rfl),Adv.refl own E w,hi,FC,fun _ _=>rfl⟩
   . rename_i f l1 l2 hx
     simp only [bB,Option.map_some,Option.some.injEq] at h;subst h
     rw [hx] at hr ⊢
     have FC:=hr
     simp only [aX] at hr
     obtain ⟨xs,ys,he,_⟩:=hr
     exact ⟨a.eval x,w,E, .inl (by rw [he];rfl),Adv.refl own E w,hi,FC,fun _ _=>rfl⟩
   . simp at h
 case binOp op ty x y OH =>
   simp only [nQ] at hc
   cases KA:Qs P ty with
   | none=>simp [KA] at hc
   | some sh =>
   cases kJ:cJ x with
   | none=>simp [KA,kJ] at hc
   | some vx =>
   cases Jt:cJ y with
   | none=>simp [KA,kJ,Jt] at hc
   | some vy =>
     simp only [KA,kJ,Jt,Option.some.injEq] at hc;subst hc
     simp only [gD.map,b8] at h
     refine dW.of (Sound.fP h fun c hcc => ?_)
     unfold bY at hcc
     split at hcc
     . rename_i c' ago
       simp only [Option.some.injEq] at hcc;subst hcc
       obtain ⟨h1,h2,h3,h4⟩:=SX (P:=P) KA ago (bl hf hi kJ) (bl hf hi Jt)
       refine Sound.same hi ?_ (H5 h2)
       simp only [Sem.run_bind,Bv op ty x y _ _ h3 h4,Result.andThen_ok]
       exact h1
     . obtain ⟨⟨q,h1,h2⟩,h3,h4⟩:=Qx (P:=P) KA hcc (bl hf hi kJ) (bl hf hi Jt)
       refine Sound.same (v := .bool q) hi ?_ h1
       simp only [Sem.run_bind,Bv op ty x y _ _ h3 h4,Result.andThen_ok]
       exact h2
 case unOp op ty x =>
   simp only [nQ,Option.map_eq_some_iff] at hc;obtain ⟨va,Bp,rfl⟩:=hc
   simp only [gD.map,b8] at h
   refine dW.of (Sound.fP h fun c hcc => ?_)
   obtain ⟨h1,h2⟩:=Wu (P:=P) hcc (bl hf hi Bp)
   exact Sound.same hi h1 (H5 h2)
 case convert src dst x =>
   simp only [nQ] at hc
   split at hc
   . rename_i k1 k2 h1 h2
     simp only [Option.map_eq_some_iff] at hc;obtain ⟨va,Bp,rfl⟩:=hc
     simp only [gD.map,b8] at h
     have hr:=bl hf hi Bp
     split at h
     . rename_i k n hx
       rw [hx] at hr
       simp only [aX] at hr
       simp only [bB,Option.map_some,Option.some.injEq] at h;subst h
       refine dW.of (Sound.same (v := .int k2 (k2.wrap n)) hi ?_ (by simp [aX]))
       rw [hr]
       simp [convert,run_underlying h1,run_underlying h2,Conv.intToInt]
     . simp at h
   . rename_i h1 h2
     simp only [Option.map_eq_some_iff] at hc;obtain ⟨va,Bp,rfl⟩:=hc
     simp only [gD.map,b8] at h
     have hr:=bl hf hi Bp
     split at h
     . rename_i l hx
       rw [hx] at hr h
       have FC:=hr
       simp only [aX] at hr
       simp only [bB,Option.map_some,Option.some.injEq] at h;subst h
       refine dW.of (Sound.same hi ?_ FC)
       rw [hr]
       simp [convert,run_underlying h1,run_underlying h2]
     . rename_i k n hx
       rw [hx] at hr
       simp only [aX] at hr
       split at h
       . rename_i hn
         simp only [bB,Option.map_some,Option.some.injEq] at h;subst h
         refine dW.of (Sound.same (v := .string (Utf8.encode n)) hi ?_ (by simp [aX,BC hn]))
         rw [hr]
         simp [convert,run_underlying h1,run_underlying h2,Conv.intToString]
       . simp at h
     . simp at h
   . rename_i k1 h1 h2
     simp only [Option.map_eq_some_iff] at hc;obtain ⟨va,Bp,rfl⟩:=hc
     simp only [gD.map,b8] at h
     have hr:=bl hf hi Bp
     split at h
     . rename_i l hx
       rw [hx] at hr h
       have FC:=hr
       simp only [aX] at hr
       simp only [bB,Option.map_some,Option.some.injEq] at h;subst h
       refine dW.of (Sound.same hi ?_ FC)
       rw [hr]
       simp [convert,run_underlying h1,run_underlying h2]
     . rename_i k n hx
       rw [hx] at hr
       simp only [aX] at hr
       split at h
       . rename_i hn
         simp only [bB,Option.map_some,Option.some.injEq] at h;subst h
         refine dW.of (Sound.same (v := .string (Utf8.encode n)) hi ?_ (by simp [aX,BC hn]))
         rw [hr]
         simp [convert,run_underlying h1,run_underlying h2,Conv.intToString]
       . simp at h
     . simp at h
   . rename_i e h1 h2
     split at hc
     . rename_i he
       simp only [Option.map_eq_some_iff] at hc;obtain ⟨va,Bp,rfl⟩:=hc
       simp only [gD.map,b8] at h
       exact dW.of (FI hi h1 he h2 (bl hf hi Bp) h)
     . simp at hc
   . simp at hc
 case makeFunc fn first cap =>
   simp only [nQ] at hc
   cases h1:Fz first with
   | none=>simp [h1] at hc
   | some va =>
   cases h2:Fz cap with
   | none=>simp [h1,h2] at hc
   | some vc =>
     simp only [h1,h2,Option.some.injEq] at hc;subst hc
     simp only [gD.map,b8,bB,Option.map_some,Option.some.injEq] at h;subst h
     refine dW.of (Sound.same (v := .func fn (first.map a.eval) (cap.map a.eval)) hi (by simp [Instr.makeFunc]) ?_)
     simp only [aX]
     exact ⟨_,_,rfl,C4 hf hi h1,C4 hf hi h2⟩
 case makeSlice ty l c =>
   simp only [nQ] at hc
   cases hu:P.underlying ty with
   | none=>simp [hu] at hc
   | some d =>
   cases d<;>simp only [hu,reduceCtorEq] at hc
   rename_i e
   cases dI:P.info? e with
   | none=>simp [dI] at hc
   | some i =>
   cases hz:mK P e with
   | none=>simp [dI,hz] at hc
   | some z =>
   cases xO:cJ l with
   | none=>simp [dI,hz,xO] at hc
   | some vl =>
   cases WL:cJ c with
   | none=>simp [dI,hz,xO,WL] at hc
   | some vc =>
     simp only [dI,hz,xO,WL] at hc
     split at hc
     . rename_i hh
       simp only [Option.some.injEq] at hc;subst hc
       simp only [gD.map,b8] at h
       exact dW.of (Nd hi hμ hσ hu dI hz hh.1 (bl hf hi xO) (bl hf hi WL) h)
     . simp at hc
 case slice ty x lo p6 mx =>
   simp only [nQ] at hc
   cases hu:P.underlying ty with
   | none=>simp [hu] at hc
   | some d =>
   cases d<;>simp only [hu,reduceCtorEq] at hc
   case string =>
     cases kJ:cJ x with
     | none=>simp [kJ] at hc
     | some vx =>
     cases xO:C2 lo with
     | none=>simp [kJ,xO] at hc
     | some vl =>
     cases WM:C2 p6 with
     | none=>simp [kJ,xO,WM] at hc
     | some vh =>
     cases mx with
     | some _=>simp [kJ,xO,WM] at hc
     | none =>
       simp only [kJ,xO,WM,Option.some.injEq] at hc;subst hc
       simp only [gD.map,b8] at h
       refine dW.of (Sound.fP h fun c hcc => ?_)
       exact Hu hi hu (bl hf hi kJ) (yo hf hi xO) (yo hf hi WM) hcc
   case slice e =>
     cases dI:P.info? e with
     | none=>simp [dI] at hc
     | some i =>
     cases kJ:cJ x with
     | none=>simp [dI,kJ] at hc
     | some vx =>
     cases xO:C2 lo with
     | none=>simp [dI,kJ,xO] at hc
     | some vl =>
     cases WM:C2 p6 with
     | none=>simp [dI,kJ,xO,WM] at hc
     | some vh =>
     cases hvm:C2 mx with
     | none=>simp [dI,kJ,xO,WM,hvm] at hc
     | some vm =>
       simp only [dI,kJ,xO,WM,hvm] at hc
       split at hc
       . rename_i hh
         simp only [Option.some.injEq] at hc;subst hc
         simp only [gD.map,b8] at h
         exact dW.of (Hx hi hu dI (bl hf hi kJ) (yo hf hi xO) (yo hf hi WM) (yo hf hi hvm) (by simpa using hh) h)
       . simp at hc
 case fieldAddr s x f =>
   simp only [nQ] at hc
   cases hu:P.underlying s with
   | none=>simp [hu] at hc
   | some d =>
   cases d<;>simp only [hu,reduceCtorEq] at hc
   rename_i fs
   cases hfd:fs[f]? with
   | none=>simp [hfd] at hc
   | some fd =>
   simp only [hfd] at hc
   cases dI:P.info? fd.type with
   | none=>simp [dI] at hc
   | some i =>
   cases kJ:cJ x with
   | none=>simp [dI,kJ] at hc
   | some vx =>
     simp only [dI,kJ] at hc
     split at hc
     . simp at hc
     . rename_i h0
       simp only [Option.some.injEq] at hc;subst hc
       exact dW.of (KE hi hu hfd dI h0 (bl hf hi kJ) h)
 case field s x f =>
   simp only [nQ] at hc
   cases hu:P.underlying s with
   | none=>simp [hu] at hc
   | some d =>
   cases d<;>simp only [hu,reduceCtorEq] at hc
   rename_i fs
   cases hfd:fs[f]? with
   | none=>simp [hfd] at hc
   | some fd =>
   simp only [hfd] at hc
   cases SB:o8 P fd.type with
   | none=>simp [SB] at hc
   | some g =>
   cases dI:P.info? fd.type with
   | none=>simp [SB,dI] at hc
   | some i =>
   cases kJ:cJ x with
   | none=>simp [SB,dI,kJ] at hc
   | some vx =>
     simp only [SB,dI,kJ,Option.some.injEq] at hc;subst hc
     simp only [gD.map,b8] at h
     have hr:=bl hf hi kJ
     split at h
     . rename_i cs hx
       rw [hx] at hr
       simp only [aX] at hr
       obtain ⟨xs,he,hr⟩:=hr
       refine dW.of (Sound.fP h fun c hcc => ?_)
       obtain ⟨v,hv,FB⟩:=KF (P:=P) SB dI hr hcc
       refine Sound.same hi ?_ FB
       rw [he]
       simp [Instr.field,run_underlying hu,hfd,asAgg,hv]
     . simp at h
 case indexAddr ty x ix =>
   simp only [nQ] at hc
   cases hu:P.underlying ty with
   | none=>simp [hu] at hc
   | some d =>
   cases d<;>simp only [hu,reduceCtorEq] at hc
   case slice e =>
     cases dI:P.info? e with
     | none=>simp [dI] at hc
     | some i =>
     cases kJ:cJ x with
     | none=>simp [dI,kJ] at hc
     | some vx =>
     cases Nn:cJ ix with
     | none=>simp [dI,kJ,Nn] at hc
     | some vi =>
       simp only [dI,kJ,Nn,Option.some.injEq] at hc;subst hc
       simp only [gD.map,b8] at h
       refine dW.of (Sound.fP h fun c hcc => ?_)
       exact Jn hi hu dI (bl hf hi kJ) (bl hf hi Nn) hcc
   case array n e =>
     cases dI:P.info? e with
     | none=>simp [dI] at hc
     | some i =>
     cases kJ:cJ x with
     | none=>simp [dI,kJ] at hc
     | some vx =>
     cases Nn:cJ ix with
     | none=>simp [dI,kJ,Nn] at hc
     | some vi =>
       simp only [dI,kJ,Nn,Option.some.injEq] at hc;subst hc
       simp only [gD.map,b8] at h
       refine dW.of (Sound.fP h fun c hcc => ?_)
       exact Jo hi hu dI (bl hf hi kJ) (bl hf hi Nn) hcc
 case index ty x ix =>
   simp only [nQ] at hc
   cases hu:P.underlying ty with
   | none=>simp [hu] at hc
   | some d =>
   cases d<;>simp only [hu,reduceCtorEq] at hc
   case string =>
     cases kJ:cJ x with
     | none=>simp [kJ] at hc
     | some vx =>
     cases Nn:cJ ix with
     | none=>simp [kJ,Nn] at hc
     | some vi =>
       simp only [kJ,Nn,Option.some.injEq] at hc;subst hc
       simp only [gD.map,b8] at h
       have hr:=bl hf hi kJ
       have S8:=bl hf hi Nn
       split at h
       . rename_i s k n hx hn
         rw [hx] at hr;rw [hn] at S8
         simp only [aX] at hr S8
         split at h
         . rename_i h0
           refine dW.of (Sound.fP h fun c hcc => ?_)
           simp only [Option.map_eq_some_iff] at hcc
           obtain ⟨b,hb,rfl⟩:=hcc
           refine Sound.same (v := .int .u8 b.toNat) hi ?_ (by simp [aX])
           rw [hr,S8]
           have M3:(ByteArray.mk s.toArray)[n.toNat]? = some b:=by
             have hlt:=(List.getElem?_eq_some_iff.1 hb)
             obtain ⟨h1,h2⟩:=hlt
             rw [getElem?_pos (ByteArray.mk s.toArray) n.toNat (by simpa [ByteArray.size] using h1)]
             congr 1
           simp [Instr.index,run_underlying hu,asIntOf,h0,M3]
         . simp at h
       . simp at h
   case array n e =>
     cases SB:o8 P e with
     | none=>simp [SB] at hc
     | some g =>
     cases dI:P.info? e with
     | none=>simp [SB,dI] at hc
     | some i =>
     cases kJ:cJ x with
     | none=>simp [SB,dI,kJ] at hc
     | some vx =>
     cases Nn:cJ ix with
     | none=>simp [SB,dI,kJ,Nn] at hc
     | some vi =>
       simp only [SB,dI,kJ,Nn,Option.some.injEq] at hc;subst hc
       simp only [gD.map,b8] at h
       have hr:=bl hf hi kJ
       have S8:=bl hf hi Nn
       split at h
       . rename_i cs k m hx hn
         rw [hx] at hr;rw [hn] at S8
         simp only [aX] at hr S8
         obtain ⟨xs,he,hr⟩:=hr
         split at h
         . rename_i h0
           refine dW.of (Sound.fP h fun c hcc => ?_)
           obtain ⟨v,hv,FB⟩:=KF (P:=P) SB dI hr hcc
           refine Sound.same hi ?_ FB
           rw [he,S8]
           simp [Instr.index,run_underlying hu,asIntOf,h0,e6 dI,hv]
         . simp at h
       . simp at h
 case extract x i =>
   simp only [nQ,Option.map_eq_some_iff] at hc;obtain ⟨va,Bp,rfl⟩:=hc
   simp only [gD.map,b8] at h
   have hr:=bl hf hi Bp
   split at h
   . rename_i vs hx
     rw [hx] at hr
     simp only [aX] at hr
     obtain ⟨xs,he,hr⟩:=hr
     refine dW.of (Sound.fP h fun c hcc => ?_)
     obtain ⟨v,hv,FB⟩:=(bO.1 hr).2 i c hcc
     refine Sound.same hi ?_ FB
     rw [he]
     simp at hv
     simp [Instr.extract,hv]
   . simp at h
 case call c =>
   simp only [nQ] at hc
   cases yp:c.callee with
   | value f =>
     simp only [yp] at hc
     split at hc
     . split at hc
       . simp only [Option.some.injEq] at hc;subst hc
         simp [gD.map,b8] at h
       . simp at hc
     . rename_i k hk
       unfold Wt at hc
       split at hc
       . rename_i x y mG
         split at hc
         . rename_i vx vy kJ Jt
           simp only [Option.some.injEq] at hc;subst hc
           cases k with
           | idx =>
             simp only [gD.map,b8] at h
             have hh:=QF (p:=p) ho yp hk mG hi (bl hf hi kJ) (bl hf hi Jt) h
             unfold execOp at hh;simp only [ho] at hh;exact hh
           | ovl =>
             simp only [gD.map,b8] at h
             have hh:=QG (p:=p) ho yp hk mG hi (bl hf hi kJ) (bl hf hi Jt) h
             unfold execOp at hh;simp only [ho] at hh;exact hh
         . simp at hc
       . simp at hc
   | invoke _ _=>simp [yp] at hc
   | builtin b =>
     simp only [yp] at hc
     have KJ:∀ w,(do let d <- resolve a.eval c o.type;invoke d.target d.args:Sem Next).run P w =
         (builtin b c.argTypes o.type (c.args.map fun | .const _=>true | _=>false) (c.args.map a.eval)).run P w:=by
       intro w;simp [resolve,yp,invoke];rfl
     have fin:∀ {s:Sem Value},builtin b c.argTypes o.type (c.args.map fun | .const _=>true | _=>false) (c.args.map a.eval)=(do pure (.value (<- s)))->Sound P G own E w σ p s r ->
         dW P G own E w σ p r (do let d <- resolve a.eval c o.type;invoke d.target d.args):=by
       intro s he hs
       obtain ⟨v,w',E',hr,hp⟩:=hs
       exact ⟨v,w',E', .inl (by rw [KJ,he];simp [hr]),hp⟩
     exact Hy hi hμ hσ hf hc h fin
 all_goals simp [nQ] at hc
theorem S9 (hi:Inv G own E w σ) (hμ : E.μ p=none) (hσ : σ p=none) {t:List AV} {a:Act} (hf:cn E w t a) {o:Oper} {vo:gD bd} (hc:YN P o.op=some vo) {r:eT}
   (h:b8 σ p (vo.map (bd.ev G t))=some r):dW P G own E w σ p r (execOp a.eval o):=by
 unfold YN at hc
 split at hc
 . rename_i v hv
   simp only [Option.some.injEq] at hc;subst hc
   exact QH hi hμ hσ hf hv h
 . simp only [Option.some.injEq] at hc;subst hc
   simp [gD.map,b8] at h
end
end Go.VL
end

section
namespace Go.VL
def bc (P:Program) (G:Nat->Option (List AV)) (f:FuncId) (args:List AV) (p:Id) (S:List (Id × dA)) (r:eT):Prop :=
 (∃ fn,P.funcs[f]? = some fn/\(fn.name == "runtime.NumGoroutine")=false/\fn.body.isSome=true) /\
 ∀ own E w σ vs,(∀ x∈S, σ x.1=some x.2)->Inv G own E w σ -> bf E w args vs->(∀ j,p <:+ j->E.μ j=none) ->
   Calls P f vs.toArray w fun e w'=>∃ v E',e = .returned v/\lB G own E w σ p r v E' w'
def jY (P:Program) (G:Nat->Option (List AV)) (σ : ah) (p:Id) (op:gD AV) (r:eT):Prop :=
 match op with
 | .call f as=>match f with
   | .fn (.func f) first cap=>∃ S,bc P G f (first++as++cap) p S r/\(∀ x∈S, σ x.1=some x.2)/\∀ x∈S,x.1∈r.rd
   | _=>False
 | op=>b8 σ p op=some r
def gg (t:List AV) (d:Option Nat) (v:AV):List AV:=match d with | some d=>t.set d v | none=>t
def e7 (t:List AV):Option (Nat × Bool)->Option Bool
 | none=>some true
 | some (d,want)=>match t[d]? with
   | some (.bool b)=>some (b==want)
   | some .top | some .anyb=>none
   | _=>some false
section
variable {P:Program} {G:Nat->Option (List AV)} {own:Nat->Prop} {E:Env} {w:World} {σ : ah} {p:Id}
theorem cn.keep {E':Env} {w':World} {t:List AV} {a:Act} (h:cn E w t a) (s:Step E E' w w'):cn E' w' t a:=bf.keep s t _ h
theorem cn.put {t:List AV} {a:Act} (h:cn E w t a) {c:AV} {v:Value} (hv:aX E w c v) (d:Option Nat):cn E w (gg t d c) (a.put d v):=by
 cases d with
 | none=>exact h
 | some d =>
   obtain ⟨hl,hp⟩:=bO.1 h
   refine bO.2 ⟨by simpa [gg,Act.put] using hl,fun j c' hj => ?_⟩
   simp only [gg,List.getElem?_set] at hj
   simp only [Act.put,Array.toList_setIfInBounds,List.getElem?_set]
   split at hj
   . rename_i e
     subst e
     split at hj
     . rename_i hlt
       simp only [Option.some.injEq] at hj;subst hj
       exact ⟨v,by rw [if_pos rfl,if_pos (by omega)],hv⟩
     . simp at hj
   . rename_i e
     rw [if_neg e]
     exact hp j c' hj
theorem cn.at? {t:List AV} {a:Act} (h:cn E w t a) (d:Nat):(t[d]? = none/\a.tmps[d]? = none)∨∃ c v,t[d]? = some c/\a.tmps[d]? = some v/\aX E w c v:=by
 obtain ⟨hl,hp⟩:=bO.1 h
 by_cases hd:d<t.length
 . right
   obtain ⟨v,hv,hr⟩:=hp d t[d] (by simp [hd])
   exact ⟨t[d],v,by simp [hd],by simpa using hv,hr⟩
 . left
   have:a.tmps.size<=d:=by have:=hl;simp at this;omega
   exact ⟨by simp;omega,by simp;omega⟩
theorem Ju {c:AV} {v:Value} (h:aX E w c v) (h1:∀ b,c ≠ .bool b) (h2:c ≠ .top) (h3:c ≠ .anyb):∀ b,v ≠ .bool b:=by
 intro b e
 subst e
 cases c<;>simp only [aX,reduceCtorEq,exists_const,false_and,and_false] at h
 . exact h1 _ rfl
 all_goals first
   | exact h2 rfl
   | exact h3 rfl
   | (obtain ⟨_,_,h,_⟩:=h;cases h)
   | (obtain ⟨_,h,_⟩:=h;cases h)
   | (obtain ⟨_,_,h⟩:=h;cases h)
theorem vP {ops:Array Oper} {o:Oper} {vo:bA} (hc:Ah P ops o=some vo) {t:List AV} {a:Act} (hf:cn E w t a) {b:Bool} (h:e7 t vo.guard=some b):Region.wanted o (yielded ops a.tmps)=b:=by
 unfold Ah at hc
 cases hop:YN P o.op with
 | none=>simp [hop] at hc
 | some op =>
   simp only [hop] at hc
   cases hg:o.guard with
   | none =>
     simp only [hg,Option.some.injEq] at hc;subst hc
     simp only [e7,Option.some.injEq] at h;subst h
     simp [Region.wanted,hg]
   | some jw =>
     obtain ⟨j,want⟩:=jw
     simp only [hg] at hc
     cases hd:(ops[j]?).bind (·.dst) with
     | none=>simp [hd] at hc
     | some d =>
       simp only [hd,Option.some.injEq] at hc;subst hc
       simp only [e7] at h
       simp only [Region.wanted,hg,yielded,hd,Option.bind_some]
       rcases hf.at? d with ⟨h1,h2⟩ | ⟨c,v,h1,h2,hr⟩
       . simp only [h1,Option.some.injEq] at h;subst h
         simp [h2]
       . simp only [h1] at h
         simp only [h2]
         cases c with
         | bool b' =>
           simp only [Option.some.injEq] at h;subst h
           simp only [aX] at hr;subst hr
           simp
         | top=>simp at h
         | anyb=>simp at h
         | _ =>
           simp only [Option.some.injEq] at h;subst h
           have Wc:=Ju hr (by simp) (by simp) (by simp)
           cases v<;>simp at Wc ⊢
theorem KL {ops:Array Oper} {o:Oper} {vo:bA} (hc:Ah P ops o=some vo):YN P o.op=some vo.op/\vo.dst=o.dst:=by
 unfold Ah at hc
 cases hop:YN P o.op with
 | none=>simp [hop] at hc
 | some op =>
   simp only [hop] at hc
   split at hc
   . simp only [Option.some.injEq] at hc;subst hc;simp_all
   . split at hc
     . simp only [Option.some.injEq] at hc;subst hc;simp_all
     . simp at hc
   . simp_all
theorem WN {k:Ws} {l:List Operand} (f:bd) (as:List bd):Wt k l≠some (.call f as):=by
 unfold Wt
 split
 . split
   . cases k<;>simp
   . simp
 . simp
theorem FJ (hi:Inv G own E w σ) (hμ : ∀ j,p <:+ j->E.μ j=none) {t:List AV} {a:Act} (hf:cn E w t a) {o:Oper} {vo:gD bd} (hc:YN P o.op=some vo) {r:eT}
   (h:jY P G σ p (vo.map (bd.ev G t)) r) {K:Act->World->Prop} {Q:Exit->Act->World->Prop} (hK:∀ v w' E',lB G own E w σ p r v E' w'->K (a.put o.dst v) w'):o.wp P a w K Q:=by
 have hσ : σ p=none:=by
   cases hs : σ p with
   | none=>rfl
   | some bk=>obtain ⟨g,N,cur,ty,hB⟩:=hi.blk _ _ hs;have:=hB.μ;rw [hμ _ (List.suffix_refl _)] at this;simp at this
 have plain:b8 σ p (vo.map (bd.ev G t))=some r->o.wp P a w K Q:=by
   intro hv
   obtain ⟨v,w',E',hrun,hp⟩:=S9 hi (hμ p (List.suffix_refl _)) hσ hf hc hv
   unfold Oper.wp
   rcases hrun with hrun | ⟨hrun,rfl⟩
   . rw [hrun];exact hK v w' E' hp
   . rw [hrun];exact hK undef w' E' hp
 cases vo with
 | call f as =>
   replace hc:nQ P o.op=some (.call f as):=by
     unfold YN at hc
     split at hc
     . rename_i v hv;rw [hv];exact hc
     . simp at hc
   simp only [gD.map,jY] at h
   split at h
   . rename_i f' fid first cap S3
     obtain ⟨S,Ta,hS,_⟩:=h
     obtain ⟨⟨fn,Ic,uv,acP⟩,Ta⟩:=Ta
     cases hop:o.op with
     | call c =>
       rw [hop] at hc
       simp only [nQ] at hc
       cases yp:c.callee with
       | value fo =>
         simp only [yp] at hc
         split at hc
         case h_2=>exact absurd hc (WN _ _)
         split at hc
         . rename_i vf vas h1 h2
           simp only [Option.some.injEq,gD.call.injEq] at hc
           obtain ⟨rfl,rfl⟩:=hc
           have hrf:=bl hf hi h1
           rw [S3] at hrf
           simp only [aX] at hrf
           obtain ⟨xs,ys,hfv,hx,hy⟩:=hrf
           have hra:=C4 hf hi h2
           have mG:bf E w (first++vas.map (bd.ev G t)++cap) (xs.toList++(c.args.map a.eval).toList++ys.toList):=bf.append (bf.append hx hra) hy
           have Hq:=Ta own E w σ _ hS hi mG hμ
           have hrun:(execOp a.eval o).run P w = .ok (.enter fid (xs++c.args.map a.eval++ys)) w:=by
             have Wc : ¬ fn.body=none:=by intro e;simp [e] at acP
             have hnn : ¬ fn.name = "runtime.NumGoroutine" := by intro e;simp [e] at uv
             simp [execOp,hop,resolve,yp,hfv,Deferred.ofValue,invoke,callFunc,Ic,hnn,Wc]
           unfold Oper.wp
           rw [hrun,Oper.upon_enter]
           have hae:(xs.toList++(c.args.map a.eval).toList++ys.toList).toArray=xs++c.args.map a.eval++ys:=by apply Array.ext';simp
           rw [hae] at Hq
           refine Hq.mono fun e w' he => ?_
           obtain ⟨v,E',rfl,hp⟩:=he
           exact hK v w' E' hp
         . simp at hc
       | invoke _ _=>simp [yp] at hc
       | builtin b =>
         simp only [yp] at hc
         unfold Bt at hc
         split at hc<;>(try split at hc)<;>(try split at hc)<;>(try split at hc)<;>(try split at hc)<;>simp at hc
     | _ =>
       rw [hop] at hc
       simp only [nQ] at hc
       exfalso
       revert hc
       clear plain S3
       intro hc
       first
         | simp at hc
         | (simp only [Option.map_eq_some_iff] at hc;obtain ⟨_,_,hc⟩:=hc;cases hc)
         | ((repeat' split at hc)<;>first | (simp at hc;done) | (simp only [Option.map_eq_some_iff] at hc;obtain ⟨_,_,hc⟩:=hc;cases hc) | (cases hc))
   . exact h.elim
 | _=>exact plain h
end
end Go.VL
end

section
namespace Go.VL
abbrev Done:=Option Nat × eT
def e8 (X:Nat->Bool):List Done->Nat->List AV->List AV
 | [],_,t=>t
 | (d,r)::L,i,t=>e8 X L (i+1) (if X i then gg t d r.val else t)
def gO (X:Nat->Bool):List Done->Nat->ah->ah
 | [],_, σ => σ
 | (_,r)::L,i, σ => gO X L (i+1) (if X i then σ.app r.up else σ)
theorem uw (t:List AV) (d:Option Nat) (v:AV) (s:Nat):(gg t d v)[s]? = if d=some s then (if s<t.length then some v else none) else t[s]? := by
 cases d with
 | none=>simp [gg]
 | some d =>
   simp only [gg,List.getElem?_set,Option.some.injEq]
   by_cases e:d=s
   . subst e;simp
   . simp [e]
theorem KM (t:List AV) (d:Option Nat) (v:AV):(gg t d v).length=t.length:=by cases d<;>simp [gg]
theorem Ih (X:Nat->Bool):∀ (L:List Done) (i:Nat) (t:List AV),(e8 X L i t).length=t.length
 | [],_,_=>rfl
 | (d,r)::L,i,t=>by
   simp only [e8];rw [Ih X L]
   split
   . exact KM t d r.val
   . rfl
theorem QI {t t':List AV} {s:Nat} (h:t[s]? = t'[s]?):(s<t.length)=(s<t'.length):=by
 have h1:s<t.length↔t[s]? ≠ none:=by simp
 have h2:s<t'.length↔t'[s]? ≠ none:=by simp
 exact propext (h1.trans ((by rw [h]:t[s]? ≠ none↔t'[s]? ≠ none).trans h2.symm))
theorem sF {X Y:Nat->Bool} {s:Nat}:∀ (L:List Done) (i:Nat) (t t':List AV),t[s]? = t'[s]? -> (∀ k d r,L[k]? = some (d,r)->X (i+k)≠Y (i+k)->d≠some s)->(e8 X L i t)[s]? = (e8 Y L i t')[s]?
 | [],_,_,_,h,_=>h
 | (d,r)::L,i,t,t',h,hd=>by
   simp only [e8]
   refine sF L (i+1) _ _ ?_ (fun k d' r' hk hne=>hd (k+1) d' r' (by simpa using hk) (by rwa [show i+(k+1)=i+1+k from by omega]))
   by_cases hx:X i=Y i
   . rw [hx]
     split
     . rw [uw,uw];simp only [QI h,h]
     . exact h
   . have:=hd 0 d r rfl hx
     have e1:(gg t d r.val)[s]? = t[s]? := by rw [uw,if_neg this]
     have e2:(gg t' d r.val)[s]? = t'[s]? := by rw [uw,if_neg this]
     split<;>split<;>simp only [e1,e2,h]
theorem ah.QJ {σ σ':ah} {id:Id} (h : σ id = σ' id):∀ (up:List (Id × Option dA)),(σ.app up) id=(σ'.app up) id:=by
 intro up
 induction up generalizing σ σ' with
 | nil=>exact h
 | cons x up ih =>
   obtain ⟨i,b⟩:=x
   simp only [ah.app]
   refine ih ?_
   simp only [ah.put]
   split<;>first | rfl | exact h
theorem ah.zJ {σ : ah} {id:Id}:∀ {up:List (Id × Option dA)},id ∉ up.map (·.1)->(σ.app up) id = σ id:=by
 intro up
 induction up generalizing σ with
 | nil=>intro _;rfl
 | cons x up ih =>
   obtain ⟨i,b⟩:=x
   intro h
   simp only [List.map_cons,List.mem_cons,not_or] at h
   simp only [ah.app]
   rw [ih h.2,ah.cD _ _ _ h.1]
theorem ah.Jv {σ σ':ah} {id:Id}:∀ {up:List (Id × Option dA)},id∈up.map (·.1)->(σ.app up) id=(σ'.app up) id:=by
 intro up
 induction up generalizing σ σ' with
 | nil=>intro h;simp at h
 | cons x up ih =>
   obtain ⟨i,b⟩:=x
   intro h
   simp only [ah.app]
   by_cases p9:id∈up.map (·.1)
   . exact ih p9
   . have he:id=i:=by simpa [p9] using h
     subst he
     rw [ah.zJ p9,ah.zJ p9,ah.dE,ah.dE]
theorem sG {X Y:Nat->Bool} {id:Id}:∀ (L:List Done) (i:Nat) (σ σ':ah), σ id = σ' id->(∀ k d r,L[k]? = some (d,r)->X (i+k)≠Y (i+k)->id ∉ r.up.map (·.1))->gO X L i σ id=gO Y L i σ' id
 | [],_,_,_,h,_=>h
 | (d,r)::L,i, σ, σ',h,hd=>by
   simp only [gO]
   refine sG L (i+1) _ _ ?_ (fun k d' r' hk hne=>hd (k+1) d' r' (by simpa using hk) (by rwa [show i+(k+1)=i+1+k from by omega]))
   by_cases hx:X i=Y i
   . rw [hx]
     split
     . exact ah.QJ h _
     . exact h
   . have:=hd 0 d r rfl hx
     split<;>split<;>simp only [ah.zJ this,h]
theorem FK {X:Nat->Bool} {s:Nat} {r:eT}:∀ (L:List Done) (i j:Nat) (t:List AV),L[j]? = some (some s,r)->X (i+j)=true->(∀ k d r',L[k]? = some (d,r')->j<k->X (i+k)=true->d≠some s) ->
   (e8 X L i t)[s]? = if s<t.length then some r.val else none
 | [],_,_,_,h,_,_=>by simp at h
 | (d,r')::L,i,0,t,h,hx,hd=>by
   simp only [List.getElem?_cons_zero,Option.some.injEq,Prod.mk.injEq] at h
   obtain ⟨rfl,rfl⟩:=h
   simp only [e8]
   rw [Nat.add_zero] at hx
   rw [if_pos hx]
   have:=sF (X:=X) (Y:=fun _=>false) (s:=s) L (i+1) (gg t (some s) r'.val) (gg t (some s) r'.val) rfl (fun k d r2 hk hne=>hd (k+1) d r2 (by simpa using hk) (by omega) (by
     rw [show i+(k+1)=i+1+k from by omega]
     cases hh:X (i+1+k) with
     | true=>rfl
     | false=>simp [hh] at hne))
   rw [this]
   have none:∀ (L:List Done) (i:Nat) (t:List AV),e8 (fun _=>false) L i t=t:=by
     intro L
     induction L with
     | nil=>intro _ _;rfl
     | cons x L ih=>intro i t;obtain ⟨d,r⟩:=x;simp only [e8];rw [ih];simp
   rw [none,uw,if_pos rfl]
 | (d,r')::L,i,j+1,t,h,hx,hd=>by
   simp only [e8]
   have:=FK L (i+1) j (if X i then gg t d r'.val else t) (by simpa using h) (by rwa [show i+1+j=i+(j+1) from by omega])
     (fun k d r2 hk hlt ED=>hd (k+1) d r2 (by simpa using hk) (by omega) (by rwa [show i+(k+1)=i+1+k from by omega]))
   rw [this]
   split<;>simp [KM]
theorem FL {X:Nat->Bool} {id:Id} {d:Option Nat} {r:eT} {σ':ah}:∀ (L:List Done) (i j:Nat) (σ : ah),L[j]? = some (d,r)->X (i+j)=true->id∈r.up.map (·.1) ->
   (∀ k d r',L[k]? = some (d,r')->j<k->X (i+k)=true->id ∉ r'.up.map (·.1))->gO X L i σ id=(σ'.app r.up) id
 | [],_,_,_,h,_,_,_=>by simp at h
 | (d',r')::L,i,0, σ,h,hx,p9,hd=>by
   simp only [List.getElem?_cons_zero,Option.some.injEq,Prod.mk.injEq] at h
   obtain ⟨rfl,rfl⟩:=h
   simp only [gO]
   rw [Nat.add_zero] at hx
   rw [if_pos hx]
   have:=sG (X:=X) (Y:=fun _=>false) (id:=id) L (i+1) (σ.app r'.up) (σ.app r'.up) rfl (fun k d r2 hk hne=>hd (k+1) d r2 (by simpa using hk) (by omega) (by
     rw [show i+(k+1)=i+1+k from by omega]
     cases hh:X (i+1+k) with
     | true=>rfl
     | false=>simp [hh] at hne))
   rw [this]
   have none:∀ (L:List Done) (i:Nat) (σ : ah),gO (fun _=>false) L i σ = σ := by
     intro L
     induction L with
     | nil=>intro _ _;rfl
     | cons x L ih=>intro i t;obtain ⟨d,r⟩:=x;simp only [gO];rw [ih];simp
   rw [none]
   exact ah.Jv p9
 | (d',r')::L,i,j+1, σ,h,hx,p9,hd=>by
   simp only [gO]
   exact FL L (i+1) j _ (by simpa using h) (by rwa [show i+1+j=i+(j+1) from by omega]) p9
     (fun k d r2 hk hlt ED=>hd (k+1) d r2 (by simpa using hk) (by omega) (by rwa [show i+(k+1)=i+1+k from by omega]))
theorem tc {X:Nat->Bool}:∀ (L:List Done) (i:Nat) (t:List AV),(∀ k,k<L.length->X (i+k)=false)->e8 X L i t=t
 | [],_,_,_=>rfl
 | (d,r)::L,i,t,h=>by
   simp only [e8]
   have:=h 0 (by simp)
   rw [Nat.add_zero] at this
   rw [this]
   exact tc L (i+1) t (fun k hk=>by rw [show i+1+k=i+(k+1) from by omega];exact h (k+1) (by simpa using hk))
theorem td {X:Nat->Bool}:∀ (L:List Done) (i:Nat) (σ : ah),(∀ k,k<L.length->X (i+k)=false)->gO X L i σ = σ
 | [],_,_,_=>rfl
 | (d,r)::L,i,t,h=>by
   simp only [gO]
   have:=h 0 (by simp)
   rw [Nat.add_zero] at this
   rw [this]
   exact td L (i+1) t (fun k hk=>by rw [show i+1+k=i+(k+1) from by omega];exact h (k+1) (by simpa using hk))
section
variable (P:Program) (G:Nat->Option (List AV)) (π : Id)
def yq (σ : ah) (p:Id) (op:gD AV) (K:eT->Prop):Prop :=
 match op with
 | .call f as=>match f with
   | .fn (.func f) first cap=>∃ S r,bc P G f (first++as++cap) p S r/\(∀ x∈S, σ x.1=some x.2)/\(∀ x∈S,x.1∈r.rd)/\K r
   | _=>False
 | op=>match b8 σ p op with
   | some r=>K r
   | none=>False
def BD (base:Nat) (K:List AV->ah->Prop):List bA->Nat->List AV->ah->Prop
 | [],_,t, σ => K t σ
 | o::os,i,t, σ => match e7 t o.guard with
   | none=>False
   | some false=>BD base K os (i+1) (gg t o.dst (.tup [])) σ
   | some true=>yq P G σ ((base+i) :: π) (o.op.map (bd.ev G t)) fun r=>BD base K os (i+1) (gg t o.dst r.val) (σ.app r.up)
def BF (base:Nat) (K:List eT->List AV->ah->Prop):List bA->Nat->List eT->List AV->ah->Prop
 | [],_,acc,t, σ => K acc.reverse t σ
 | o::os,i,acc,t, σ => match e7 t o.guard with
   | none=>False
   | some false=>BF base K os (i+1) ({ val := .tup [] }::acc) (gg t o.dst (.tup [])) σ
   | some true=>yq P G σ ((base+i) :: π) (o.op.map (bd.ev G t)) fun r=>BF base K os (i+1) (r::acc) (gg t o.dst r.val) (σ.app r.up)
def apart (a b:eT):Prop:=(∀ x∈a.up,x.1 ∉ b.rd/\x.1 ∉ b.up.map (·.1))/\∀ x∈b.up,x.1 ∉ a.rd
def ab (rs:List eT) (ps:List (Nat × Nat)):Prop:=∀ q∈ps,∀ a b,rs[q.1]? = some a->rs[q.2]? = some b->apart a b
def BG (base:Nat) (o:bA) (k:Nat) (t:List AV) (σ : ah) (r:eT):Prop :=
 (e7 t o.guard=some false/\r={ val := .tup [] })∨(e7 t o.guard=some true/\jY P G σ ((base+k) :: π) (o.op.map (bd.ev G t)) r)
end
section
variable {P:Program} {G:Nat->Option (List AV)} {π : Id} {own:Nat->Prop} {E:Env} {w:World} {σ : ah}
theorem FM {σ : ah} {p:Id} {op:gD AV} {K:eT->Prop} (h:yq P G σ p op K):∃ r,jY P G σ p op r/\K r:=by
 unfold yq at h
 cases op with
 | call f as =>
   simp only [] at h
   split at h
   . obtain ⟨S,r,h1,h2,h3,h4⟩:=h
     exact ⟨r,⟨S,h1,h2,h3⟩,h4⟩
   . exact h.elim
 | _ =>
   simp only [] at h
   split at h
   . rename_i r hr;exact ⟨r,hr,h⟩
   . exact h.elim
theorem Ii {base:Nat} {K:List eT->List AV->ah->Prop}:∀ {os:List bA} {i:Nat} {acc:List eT} {t:List AV} {σ : ah},BF P G π base K os i acc t σ ->
   ∃ rs:List eT,rs.length=os.length /\
     (∀ k o r,os[k]? = some o->rs[k]? = some r->BG P G π base o (i+k) (e8 (fun m=>m<i+k) ((os.map (·.dst)).zip rs) i t) (gO (fun m=>m<i+k) ((os.map (·.dst)).zip rs) i σ) r) /\
     K (acc.reverse++rs) (e8 (fun _=>true) ((os.map (·.dst)).zip rs) i t) (gO (fun _=>true) ((os.map (·.dst)).zip rs) i σ)
 | [],i,acc,t, σ,h=>⟨[],rfl,by simp,by simpa [BF,e8,gO] using h⟩
 | o :: os,i,acc,t, σ,h=>by
   have go:∀ r,BG P G π base o i t σ r->BF P G π base K os (i+1) (r::acc) (gg t o.dst r.val) (σ.app r.up) ->
       ∃ rs:List eT,rs.length=(o::os).length /\
         (∀ k o' r,(o::os)[k]? = some o'->rs[k]? = some r->BG P G π base o' (i+k) (e8 (fun m=>m<i+k) (((o::os).map (·.dst)).zip rs) i t) (gO (fun m=>m<i+k) (((o::os).map (·.dst)).zip rs) i σ) r) /\
         K (acc.reverse++rs) (e8 (fun _=>true) (((o::os).map (·.dst)).zip rs) i t) (gO (fun _=>true) (((o::os).map (·.dst)).zip rs) i σ):=by
     intro r hr hv
     obtain ⟨rs,h1,h2,h3⟩:=Ii hv
     refine ⟨r::rs,by simp [h1], ?_, ?_⟩
     . intro k o' r' ho FC
       cases k with
       | zero =>
         simp only [List.getElem?_cons_zero,Option.some.injEq] at ho FC
         subst ho;subst FC
         rw [tc _ _ _ (fun k _=>by simp),td _ _ _ (fun k _=>by simp),Nat.add_zero]
         exact hr
       | succ k =>
         have:=h2 k o' r' (by simpa using ho) (by simpa using FC)
         simp only [List.map_cons,List.zip_cons_cons,e8,gO]
         have hd:decide (i<i+(k+1))=true:=by simp
         rw [if_pos hd,if_pos hd]
         rw [show i+(k+1)=i+1+k from by omega]
         exact this
     . simpa [e8,gO] using h3
   simp only [BF] at h
   split at h
   . exact h.elim
   . rename_i hw
     exact go { val := .tup [] } (.inl ⟨hw,rfl⟩) h
   . rename_i hw
     obtain ⟨r,hr,hk⟩:=FM h
     exact go r (.inr ⟨hw,hr⟩) hk
theorem KN {q q':Nat} {π j:Id} (h:(q :: π) <:+ j) (hne:q≠q') : ¬ (q' :: π) <:+ j:=by
 intro h'
 have:=List.suffix_of_suffix_length_le h h' (by simp)
 obtain ⟨l,hl⟩:=this
 have Kp:l=[]:=by
   have:=congrArg List.length hl
   simp at this;exact this
 subst Kp
 simp at hl
 exact hne hl
theorem lB.frame {p:Id} {r:eT} {v:Value} {E':Env} {w':World} (h:lB G own E w σ p r v E' w') {t:List AV} {a:Act} (hf:cn E w t a) (d:Option Nat):cn E' w' (gg t d r.val) (a.put d v) :=
 (hf.keep h.Hm.step).put h.rep d
theorem Ij {t:List AV} {a:Act} (hf:cn E w t a) (d:Option Nat):cn E w (gg t d (.tup [])) (a.put d undef) :=
 hf.put (by simp only [aX,undef];exact ⟨#[],rfl,by simp [bf]⟩) d
theorem sH (a:Act) (d:Option Nat) (v:Value):(a.put d v).defers=a.defers:=by cases d<;>rfl
def zX (E:Env) (π : Id) (n:Nat):Prop:=∀ j, π <:+ j->(∀ q,q<n -> ¬ (q :: π) <:+ j)->E.μ j=none
theorem zX.at {π : Id} {n q:Nat} (h:zX E π n) (hq:n<=q) {j:Id} (hj:(q :: π) <:+ j):E.μ j=none :=
 h j ((List.suffix_cons q π).trans hj) fun q' hq'=>KN hj (by omega)
theorem zX.mono {π : Id} {n n':Nat} (h:zX E π n) (hn:n<=n'):zX E π n':=fun j hj hq=>h j hj fun q hq'=>hq q (by omega)
theorem zX.step {π : Id} {n:Nat} {E':Env} (h:zX E π n) (WO:∀ i:Id, ¬ (n :: π) <:+ i->E'.μ i=E.μ i):zX E' π (n+1):=fun j hj hq=>by
 rw [WO j (hq n (by omega))];exact h j hj fun q hq'=>hq q (by omega)
theorem zX.self {π : Id} {n:Nat} (h:zX E π n):E.μ π = none :=
 h π (List.suffix_refl _) fun q _ hs=>by have:=hs.length_le;simp at this;omega
structure mL (own:Nat->Prop) (π : Id) (E E':Env) (w w':World):Prop extends Adv own E E' w w' where
 ids:∀ i:Id, ¬ π <:+ i->E'.μ i=E.μ i
theorem mL.refl (own:Nat->Prop) (π : Id) (E:Env) (w:World):mL own π E E w w:=⟨Adv.refl own E w,fun _ _=>rfl⟩
theorem mL.trans {π : Id} {E' YL:Env} {w' w'':World} (a:mL own π E E' w w') (b:mL own π E' YL w' w''):mL own π E YL w w'' :=
 ⟨a.toAdv.trans b.toAdv,fun i hi=>(b.ids i hi).trans (a.ids i hi)⟩
theorem lB.acQ {π : Id} {q:Nat} {r:eT} {v:Value} {E':Env} {w':World} (h:lB G own E w σ (q :: π) r v E' w'):mL own π E E' w w' :=
 ⟨h.Hm,fun i hi=>h.ids i fun hs=>hi ((List.suffix_cons q π).trans hs)⟩
theorem FN {ops:Array Oper} {base:Nat} {K:List AV->ah->Prop} {Q:Exit->Act->World->Prop} :
   ∀ (l:List Oper) (i:Nat),(∀ k,l[k]? = ops[i+k]?)->∀ (vs:List bA),l.mapM (Ah P ops)=some vs->∀ (t:List AV) (σ : ah) (a:Act) (E:Env) (w:World),BD P G π base K vs i t σ ->
   cn E w t a->Inv G own E w σ -> zX E π (base+i) ->
   (∀ t' σ' a' E' w',K t' σ'->mL own π E E' w w'->cn E' w' t' a'->Inv G own E' w' σ'->zX E' π (base+i+l.length)->a'.defers=a.defers->Q .normal a' w') ->
   wpOps P ops Q ((List.range' i l.length)) a w
 | [],i,_,vs,hm,t, σ,a,E,w,hv,hf,hi,sI,hQ=>by
   simp at hm;subst hm
   simp only [BD] at hv
   simp only [List.length_nil,List.range'_zero,wpOps]
   exact hQ t σ a E w hv (mL.refl own π E w) hf hi sI rfl
 | o :: l,i,hl,vs,hm,t, σ,a,E,w,hv,hf,hi,sI,hQ=>by
   simp only [List.mapM_cons,Option.pure_def,Option.bind_eq_bind,Option.bind_eq_some_iff] at hm
   obtain ⟨vo,AH,vs',M4,he⟩:=hm
   simp only [Option.some.injEq] at he;subst he
   obtain ⟨hop,Tb⟩:=KL AH
   have hoi:ops[i]? = some o:=by have:=hl 0;simpa using this.symm
   simp only [List.length_cons,List.range'_succ]
   rw [wpOps_cons]
   unfold wpOp
   rw [hoi]
   simp only []
   have rest:∀ (t':List AV) (σ':ah) (a':Act) (E':Env) (w':World),BD P G π base K vs' (i+1) t' σ'->mL own π E E' w w'->cn E' w' t' a'->Inv G own E' w' σ'->zX E' π (base+i+1)->a'.defers=a.defers ->
       wpOps P ops Q (List.range' (i+1) l.length) a' w':=by
     intro t' σ' a' E' w' hv' had Wo p6 Np hde
     refine FN l (i+1) (fun k=>by rw [show i+1+k=i+(k+1) from by omega, <- hl];simp) vs' M4 t' σ' a' E' w' hv' Wo p6 (by rw [<- Nat.add_assoc];exact Np) ?_
     intro t2 σ2 a2 E2 w2 hk aaf hf2 QD aag xP
     exact hQ t2 σ2 a2 E2 w2 hk (had.trans aaf) hf2 QD (by rw [List.length_cons,show base+i+(l.length+1)=base+(i+1)+l.length from by omega];exact aag) (xP.trans hde)
   simp only [BD] at hv
   split at hv
   . exact hv.elim
   . rename_i hw
     rw [vP AH hf hw]
     simp only [Bool.false_eq_true,if_false]
     rw [<- Tb]
     exact rest _ _ _ E w hv (mL.refl own π E w) (Ij hf _) hi (sI.mono (by omega)) (sH _ _ _)
   . rename_i hw
     rw [vP AH hf hw]
     simp only [if_true]
     obtain ⟨r,hr,hk⟩:=FM hv
     left
     refine FJ hi (fun j hj=>sI.at (Nat.le_refl _) hj) hf hop hr ?_
     intro v w' E' hp
     rw [<- Tb]
     exact rest _ _ _ E' w' hk hp.acQ (hp.frame hf _) hp.inv (sI.step hp.ids) (sH _ _ _)
end
end Go.VL
end

section
namespace Go.VL
theorem Ik (f:Nat->Nat) (b:Nat):∀ (l:List Nat) (s:Nat),(l.foldl (fun s i=>s ||| 2 ^ i ||| f i) s).testBit b=true->s.testBit b=true∨∃ e∈l,b=e∨(f e).testBit b=true
 | [],s,h => .inl h
 | i :: l,s,h=>by
   simp only [List.foldl_cons] at h
   rcases Ik f b l _ h with h | ⟨e,he,h⟩
   . simp only [Nat.testBit_or,Bool.or_eq_true,Nat.testBit_two_pow,decide_eq_true_eq] at h
     rcases h with (h | h) | h
     . exact .inl h
     . exact .inr ⟨i,by simp, .inl h.symm⟩
     . exact .inr ⟨i,by simp, .inr h⟩
   . exact .inr ⟨e,by simp [he],h⟩
theorem Il:∀ (qz:List (List Nat)) (acc:List Nat),(jT qz acc).length=acc.length+qz.length
 | [],acc=>by simp [jT]
 | l::r,acc=>by simp only [jT];rw [Il r];simp;omega
theorem C9:∀ (qz:List (List Nat)) (acc:List Nat) (k:Nat),k<acc.length->(jT qz acc)[k]? = acc[k]?
 | [],acc,k,_=>by simp [jT]
 | l::r,acc,k,h=>by
   simp only [jT]
   rw [C9 r _ k (by simp;omega),List.getElem?_append_left h]
theorem KO:∀ (qz:List (List Nat)) (acc:List Nat) (j:Nat) (l:List Nat),qz[j]? = some l->∃ QK:List Nat,QK.length=acc.length+j/\(∀ k,k<QK.length->(jT qz acc)[k]? = QK[k]?) /\
   (jT qz acc)[acc.length+j]? = some (l.foldl (fun s i=>s ||| 2 ^ i ||| QK.getD i 0) 0)
 | [],_,_,_,h=>by simp at h
 | l'::r,acc,0,l,h=>by
   simp only [List.getElem?_cons_zero,Option.some.injEq] at h;subst h
   refine ⟨acc,rfl,fun k hk=>C9 _ _ k hk, ?_⟩
   simp only [jT]
   rw [C9 r _ _ (by simp),List.getElem?_append_right (by omega)]
   simp
 | l'::r,acc,j+1,l,h=>by
   simp only [jT]
   obtain ⟨QK,h1,h2,h3⟩:=KO r (acc++[l'.foldl (fun s i=>s ||| 2 ^ i ||| acc.getD i 0) 0]) j l (by simpa using h)
   refine ⟨QK,by simp at h1;omega,h2, ?_⟩
   simp only [List.length_append,List.length_singleton] at h3
   rw [show acc.length+(j+1)=acc.length+1+j from by omega]
   exact h3
theorem QL {qz:List (List Nat)} {j b:Nat} (hlt:∀ e∈qz.getD j [],e<j) (h:((jT qz []).getD j 0).testBit b=true):∃ e∈qz.getD j [],b=e∨((jT qz []).getD e 0).testBit b=true:=by
 by_cases hj:j<qz.length
 . obtain ⟨acc,h1,h2,h3⟩:=KO qz [] j qz[j] (by simp [hj])
   simp only [List.length_nil,Nat.zero_add] at h1 h3
   have hg:(jT qz []).getD j 0=qz[j].foldl (fun s i=>s ||| 2 ^ i ||| acc.getD i 0) 0:=by simp [List.getD,h3]
   rw [hg] at h
   have ho:qz.getD j []=qz[j]:=by simp [List.getD,hj]
   rw [ho] at hlt ⊢
   rcases Ik _ b _ _ h with h | ⟨e,he,h⟩
   . simp at h
   . refine ⟨e,he,h.imp id fun h => ?_⟩
     have:(jT qz []).getD e 0=acc.getD e 0:=by
       simp only [List.getD]
       rw [h2 e (by rw [h1];exact hlt e he)]
     rw [this];exact h
 . have:(jT qz []).getD j 0=0:=by
     have:=Il qz []
     simp only [List.getD]
     rw [List.getElem?_eq_none (by simp at this;omega)]
     rfl
   rw [this] at h
   simp at h
theorem D7 {qz:List (List Nat)} {X:Nat->Bool} {n:Nat} (hlt:∀ j,j<n->∀ e∈qz.getD j [],e<j) (hX:∀ k,k<n->X k=true->∀ e∈qz.getD k [],X e=true) :
   ∀ j,j<n->(∀ e∈qz.getD j [],X e=true)->∀ b,((jT qz []).getD j 0).testBit b=true->X b=true:=by
 intro j
 induction j using Nat.strongRecOn with
 | _ j ih =>
   intro hj he b hb
   obtain ⟨e,he1,h⟩:=QL (hlt j hj) hb
   have hej:=hlt j hj e he1
   rcases h with rfl | h
   . exact he b he1
   . exact ih e hej (by omega) (hX e (by omega) (he e he1)) b h
theorem gD.map_congr {α β : Type} {g h : α -> β}:∀ (op:gD α),(∀ x∈op.args,g x=h x)->op.map g=op.map h:=by
 intro op hx
 have hl:∀ (l:List α),(∀ x∈l,x∈op.args)->l.map g=l.map h:=fun l hl=>List.map_congr_left fun x hxl=>hx x (hl x hxl)
 have ho:∀ (l:Option α),(∀ x,l=some x->x∈op.args)->l.map g=l.map h:=by
   intro l hl;cases l with
   | none=>rfl
   | some x=>simp [hx x (hl x rfl)]
 cases op<;>simp only [gD.map,gD.args] at hx hl ho ⊢
 case build z ps=>congr 1;apply List.map_congr_left;intro q hq;rw [hx q.2.2 (List.mem_map.2 ⟨q,hq,rfl⟩)]
 case buildSl k n z ps=>congr 1;apply List.map_congr_left;intro q hq;rw [hx q.2 (List.mem_map.2 ⟨q,hq,rfl⟩)]
 case mkfn fn a c=>rw [hl a (by simp +contextual),hl c (by simp +contextual)]
 case call f as=>rw [hx f (by simp),hl as (by simp +contextual)]
 case slice k x lo hi mx=>rw [hx x (by simp),ho lo (by simp +contextual),ho hi (by simp +contextual),ho mx (by simp +contextual)]
 case sliceS x lo hi=>rw [hx x (by simp),ho lo (by simp +contextual),ho hi (by simp +contextual)]
 all_goals try simp only [List.mem_cons,List.not_mem_nil,or_false,forall_eq_or_imp,forall_eq] at hx
 all_goals simp only [hx]
theorem Tc {G:Nat->Option (List AV)} {t t':List AV}:∀ (x:bd),(∀ s,x.acA=some s->t[s]? = t'[s]?)->x.ev G t=x.ev G t'
 | .t n,h=>by have:=h n rfl;simp [bd.ev,List.getD,this]
 | .c _,_=>rfl
 | .g _,_=>rfl
 | .f _,_=>rfl
theorem te {σ σ':ah} {k:Nat} {x:AV} {ys:List AV} {rd:List Id} (h:gb σ k x=some (ys,rd)) (hr:∀ id∈rd, σ' id = σ id):gb σ' k x=some (ys,rd):=by
 unfold gb at h ⊢
 split at h
 . exact h
 . exact h
 . exact h
 . rename_i id k' off len t
   skip
   split at h
   . rename_i bk hb
     split at h
     . rename_i hh
       simp only [Option.some.injEq,Prod.mk.injEq] at h
       obtain ⟨rfl,rfl⟩:=h
       have:=hr id (by simp)
       rw [this,hb]
       simp [hh]
     . simp at h
   . simp at h
 . simp at h
theorem KP {σ : ah} {id:Id} {off k:Nat} {news:List AV} {v:AV} {rd:List Id} {r:eT} (h:Br σ id off k news v rd=some r):r.rd=id::rd:=by
 unfold Br at h
 split at h
 . split at h
   . simp only [Option.some.injEq] at h;subst h;rfl
   . simp at h
 . simp at h
theorem D8 {σ σ':ah} {id:Id} {off k:Nat} {news:List AV} {v:AV} {rd:List Id} {r:eT} (h:Br σ id off k news v rd=some r) (hr:∀ id∈r.rd, σ' id = σ id):Br σ' id off k news v rd=some r:=by
 have hrd:=KP h
 unfold Br at h ⊢
 rw [hr id (by rw [hrd];simp)]
 exact h
theorem QM {σ σ':ah} {p:Id} {op:gD AV} {r:eT} (h:b8 σ p op=some r) (hr:∀ id∈r.rd, σ' id = σ id):b8 σ' p op=some r:=by
 cases op with
 | load agg n x =>
   simp only [b8] at h ⊢
   unfold jm at h ⊢
   split at h
   . rename_i id e o
     skip
     cases hb : σ id with
     | none=>simp [hb] at h
     | some bk =>
       simp only [hb] at h
       cases he:bk.els[e]? with
       | none=>simp [he] at h
       | some el =>
         simp only [he,Option.map_eq_some_iff] at h
         obtain ⟨v,hv,rfl⟩:=h
         rw [hr id (by simp),hb]
         simp [he,hv]
   . exact h
   . simp at h
 | store n x v =>
   simp only [b8] at h ⊢
   unfold fJ at h ⊢
   split at h
   . rename_i id e o
     skip
     cases hb : σ id with
     | none=>simp [hb] at h
     | some bk =>
       simp only [hb] at h
       cases he:bk.els[e]? with
       | none=>simp [he] at h
       | some el =>
         simp only [he] at h
         split at h
         . rename_i hh
           simp only [Option.some.injEq] at h;subst h
           rw [hr id (by simp),hb]
           simp [he,hh]
         . simp at h
   . simp at h
 | append k bytes s x =>
   simp only [b8] at h ⊢
   unfold eu at h ⊢
   cases Bo:gb σ k x with
   | none=>simp [Bo] at h
   | some q =>
     obtain ⟨ys,rd⟩:=q
     simp only [Bo] at h
     have FG : ∀ id∈rd,id∈r.rd:=by
       intro id jS
       split at h
       . split at h<;>first | (simp only [Option.some.injEq] at h;subst h;exact jS) | simp at h
       . split at h
         . split at h<;>first | (simp only [Option.some.injEq] at h;subst h;exact jS) | simp at h
         . split at h<;>first | (simp only [Option.some.injEq] at h;subst h;exact jS) | simp at h
         . split at h
           . split at h
             . split at h
               . split at h<;>first | (simp only [Option.some.injEq] at h;subst h;exact List.mem_cons_of_mem _ jS) | (simp at h;done)
               . split at h<;>first | (simp only [Option.some.injEq] at h;subst h;exact List.mem_cons_of_mem _ jS) | (split at h<;>first | (simp only [Option.some.injEq] at h;subst h;exact List.mem_cons_of_mem _ jS) | (simp at h;done))
             . simp at h
           . simp at h
         . simp at h
     rw [te Bo (fun id jS=>hr id (FG id jS))]
     simp only []
     split at h
     . rename_i Nj
       rw [if_pos Nj];exact h
     . rename_i Nj
       rw [if_neg Nj]
       split at h
       . exact h
       . exact h
       . rename_i id k' off len t
         skip
         cases hb : σ id with
         | none=>simp [hb] at h
         | some bk =>
           simp only [hb] at h
           have jS:id∈r.rd:=by
             split at h
             . split at h
               . split at h<;>first | (simp only [Option.some.injEq] at h;subst h;simp;done) | (simp at h;done)
               . split at h<;>first | (simp only [Option.some.injEq] at h;subst h;simp;done) | (split at h<;>first | (simp only [Option.some.injEq] at h;subst h;simp;done) | (simp at h;done))
             . simp at h
           rw [hr id jS,hb]
           exact h
       . simp at h
 | bytesStr x =>
   simp only [b8] at h ⊢
   unfold qR at h ⊢
   cases Bo:gb σ 1 x with
   | none=>simp [Bo] at h
   | some q =>
     obtain ⟨ys,rd⟩:=q
     simp only [Bo,Option.map_eq_some_iff] at h
     obtain ⟨l,hl,rfl⟩:=h
     rw [te Bo hr]
     simp [hl]
 | slice k x lo hi mx =>
   simp only [b8] at h ⊢
   cases hs:fK k x lo hi mx with
   | some v=>rw [hs] at h;exact h
   | none =>
     rw [hs] at h
     simp only [sE] at h ⊢
     split at h
     . rename_i id k' off len hh
       cases hb : σ id with
       | none=>simp [hb] at h
       | some bk =>
         simp only [hb] at h
         split at h
         . rename_i hc
           simp only [Option.map_eq_some_iff] at h
           obtain ⟨v,hv,rfl⟩:=h
           rw [hr id (by simp),hb]
           simp [hc,hv]
         . simp at h
     . exact h
     . simp at h
 | cap x =>
   simp only [b8] at h ⊢
   cases hs:SJ x with
   | some v=>rw [hs] at h;exact h
   | none =>
     rw [hs] at h
     simp only [Fy] at h ⊢
     split at h
     . rename_i id k' off len
       cases hb : σ id with
       | none=>simp [hb] at h
       | some bk =>
         simp only [hb] at h
         split at h
         . rename_i hc
           simp only [Option.some.injEq] at h;subst h
           rw [hr id (by simp),hb]
           simp [hc]
         . simp at h
     . simp at h
 | ovl x y =>
   simp only [b8] at h ⊢
   unfold Qr at h ⊢
   split at h
   . rename_i i1 _ _ _ _ i2 _ _ _ _
     split at h
     . simp at h
     . rename_i hne
       cases h1 : σ i1 with
       | none=>simp [h1] at h
       | some b1 =>
         cases h2 : σ i2 with
         | none=>simp [h1,h2] at h
         | some b2 =>
           simp only [h1,h2] at h
           split at h
           . rename_i hp
             simp only [Option.some.injEq] at h;subst h
             simp only [hr i1 (by simp),hr i2 (by simp),h1,h2]
             rw [if_neg hne,if_pos hp]
           . simp at h
   . simp at h
 | clear k z x =>
   simp only [b8] at h ⊢
   unfold Fx at h ⊢
   split at h
   . exact h
   . rename_i id k' off len tt
     split at h
     . rename_i h0;simp only [h0,if_true];exact h
     . rename_i h0
       simp only [h0,if_false]
       split at h
       . rename_i hh;rw [if_pos hh];exact D8 h hr
       . simp at h
   . simp at h
 | copy k d x =>
   simp only [b8] at h ⊢
   unfold Ky at h ⊢
   cases Bo:gb σ k x with
   | none=>simp [Bo] at h
   | some q =>
     obtain ⟨ys,rd⟩:=q
     simp only [Bo] at h
     have FG:∀ id∈rd,id∈r.rd:=by
       intro id jS
       split at h
       . simp only [Option.some.injEq] at h;subst h;exact jS
       . split at h
         . simp only [Option.some.injEq] at h;subst h;exact jS
         . split at h
           . have:=KP h;rw [this];exact List.mem_cons_of_mem _ jS
           . simp at h
       . simp at h
     rw [te Bo (fun id jS=>hr id (FG id jS))]
     simp only []
     split at h
     . exact h
     . split at h
       . rename_i h0;rw [if_pos h0];exact h
       . rename_i h0
         rw [if_neg h0]
         split at h
         . rename_i hk;rw [if_pos hk];exact D8 h hr
         . simp at h
     . simp at h
 | _=>exact h
theorem Hz {P:Program} {G:Nat->Option (List AV)} {σ σ':ah} {p:Id} {op:gD AV} {r:eT} (h:jY P G σ p op r) (hr:∀ id∈r.rd, σ' id = σ id):jY P G σ' p op r:=by
 cases op with
 | call f as =>
   simp only [jY] at h ⊢
   split at h
   . obtain ⟨S,h1,h2,h3⟩:=h
     exact ⟨S,h1,fun x hx=>by rw [hr _ (h3 x hx)];exact h2 x hx,h3⟩
   . exact h
 | _=>exact QM h hr
theorem qX {oc:Option AV} {r:eT} (h:bB oc=some r):r.rd=[]/\r.up=[]:=by
 cases oc with
 | none=>simp [bB] at h
 | some c=>simp only [bB,Option.map_some,Option.some.injEq] at h;subst h;exact ⟨rfl,rfl⟩
theorem QN {P:Program} {G:Nat->Option (List AV)} {σ : ah} {p:Id} {op:gD bd} (hp:op.pure=true) {t:List AV} {r:eT} (h:jY P G σ p (op.map (bd.ev G t)) r):r.rd=[]/\r.up=[]:=by
 cases op<;>simp only [gD.pure,Bool.false_eq_true] at hp<;>simp only [gD.map,jY,b8] at h
 all_goals first
   | exact qX h
   | (simp at h;done)
   | (split at h<;>first | exact qX h | (simp at h;done) | (split at h<;>first | exact qX h | (simp at h;done)))
theorem QO {P:Program} {G:Nat->Option (List AV)} {σ : ah} {p:Id} {op:gD bd} (hp:op.s9=true) {t:List AV} {r:eT} (h:jY P G σ p (op.map (bd.ev G t)) r):r.up=[]:=by
 cases op<;>simp only [gD.s9,Bool.false_eq_true] at hp
 case bytesStr =>
   simp only [gD.map,jY,b8] at h
   unfold qR at h
   split at h
   . simp only [Option.map_eq_some_iff] at h;obtain ⟨v,_,rfl⟩:=h;rfl
   . simp at h
 case ovl =>
   simp only [gD.map,jY,b8] at h
   unfold Qr at h
   split at h
   . split at h
     . simp at h
     . split at h
       . split at h
         . simp only [Option.some.injEq] at h;subst h;rfl
         . simp at h
       . simp at h
   . simp at h
 case slice =>
   simp only [gD.map,jY,b8] at h
   unfold sE at h
   split at h
   . exact (qX h).2
   . split at h
     . split at h
       . split at h
         . simp only [Option.map_eq_some_iff] at h;obtain ⟨v,_,rfl⟩:=h;rfl
         . simp at h
       . simp at h
     . split at h
       . split at h
         . split at h
           . simp only [Option.some.injEq] at h;subst h;rfl
           . simp at h
         . simp at h
       . simp at h
     . simp at h
 case cap =>
   simp only [gD.map,jY,b8] at h
   unfold Fy at h
   split at h
   . exact (qX h).2
   . split at h
     . split at h
       . split at h
         . simp only [Option.some.injEq] at h;subst h;rfl
         . simp at h
       . simp at h
     . simp at h
 simp only [gD.map,jY,b8] at h
 unfold jm at h
 split at h
 . split at h
   . split at h
     . simp only [Option.map_eq_some_iff] at h;obtain ⟨v,_,rfl⟩:=h;rfl
     . simp at h
   . simp at h
 . simp only [Option.map_eq_some_iff] at h;obtain ⟨v,_,rfl⟩:=h;rfl
 . simp at h
end Go.VL
end
