/- For the claim of HistoryUndoAll: parts VL9, VL2S, VL10, VL11, VL12, VL13, VL14. -/
import Derived.Test.YtcomlgfjnjpebaaGreatDoorC01
import Derived.Lib.AppendZeros
import Derived.Laws.BytesArg
import Derived.Laws.Externs
import Derived.Lib.Bytealg
import Derived.Lib.Overlaps
import Derived.Orders
set_option linter.unusedSimpArgs false
set_option linter.unusedVariables false
section
namespace Go.VL
section
variable {P:Program} {G:Nat->Option (List AV)} {own:Nat->Prop} {E:Env} {w:World} {σ : aa} {p:Id}
theorem F4 {len l r:Nat} {lo hi:Option AV} (hb:cJ len lo hi=some (l,r)):dV len len hi=some r/\dV 0 r lo=some l:=by
 unfold cJ at hb
 split at hb
 . simp at hb
 . rename_i h1 e1
   split at hb
   . simp at hb
   . rename_i l1 e2
     simp only [Option.some.injEq,Prod.mk.injEq] at hb
     obtain ⟨rfl,rfl⟩:=hb
     exact ⟨e1,e2⟩
theorem Eb (s:List UInt8) (l r:Nat):(ByteArray.mk s.toArray).extract l r=⟨((s.take r).drop l).toArray⟩:=by
 apply ByteArray.ext
 rw [ByteArray.data_extract]
 apply Array.ext'
 simp [List.extract_eq_take_drop,List.drop_take]
theorem Ec (hi:Inv G own E w σ) {t:TypeId} (hu:P.underlying t=some .string) {x:AV} {v:Value} (hx:aL E w x v)
   {lo jc:Option AV} {Ns Lu:Option Value} (uV:mW E w lo Ns) (Ah:mW E w jc Lu) {c:AV} (h:qT x lo jc=some c):Sound P G own E w σ p (Instr.sliceAt t v Ns Lu none) { val:=c }:=by
 unfold qT at h
 split at h
 . rename_i s
   simp only [aL] at hx;subst hx
   split at h
   . rename_i l r hb
     obtain ⟨zY,wX⟩:=F4 hb
     simp only [Option.some.injEq] at h;subst h
     obtain ⟨qF,G0,G1⟩:=iQ (P:=P) (isSlice:=false) (mx:=none) (vmx:=none) (m:=s.length) uV Ah trivial (Nat.le_refl _) zY wX (.inl ⟨rfl,rfl⟩)
     refine Sound.same (v := .string ⟨((s.take r).drop l).toArray⟩) hi ?_ (by simp [aL])
     have hsz:(ByteArray.mk s.toArray).size=s.length:=by simp [ByteArray.size]
     simp [Instr.sliceAt,Instr.slice,run_underlying hu,hsz,qF,Eb]
   . simp at h
 . simp at h
theorem F5 {b o k:Nat} {es:List AV} (hk:∀ e∈es,e.size=k) (h:iO E w b o es) {i:Nat} {e:AV} (he:es[i]? = some e):cm E w b (o+i*k) e.cells :=
 gA.2 (G7 hk (dG.1 h) he)
theorem F6 (hi:Inv G own E w σ) {t e:TypeId} {i:TypeInfo} (hu:P.underlying t=some (.slice e)) (dt:P.info? e=some i) {x j:AV} {v u:Value} (hx:aL E w x v) (hj:aL E w j u) {c:AV}
   (h:br i.size x j=some c):Sound P G own E w σ p (Instr.indexAt t v u) { val:=c }:=by
 have hrun:∀ (a:Addr) (len cap:Nat) (k:IntKind) (n:Int),0<=n->n<len->(Instr.indexAt t (.slice (some a) len cap) (.int k n)).run P w = .ok (.pointer (some (a.add (n.toNat*i.size)))) w:=by
   intro a len cap k n h0 h1
   simp [Instr.indexAt,run_underlying hu,asIntOf,h0,h1,eO dt]
 unfold br at h
 split at h
 . rename_i kk n
   simp only [aL] at hj;subst hj
   have row:∀ {es:List AV} {a:Option Addr} {cap:Nat},(∀ e∈es,e.size=i.size)->(es=[]∨∃ b o,a=some ⟨b,o,none⟩/\E.ok b/\iO E w b o es)->0<=n ->
       (es[n.toNat]?).map (fun e=>AV.ep e.cells 0)=some c->Sound P G own E w σ p (Instr.indexAt t (.slice a es.length cap) (.int kk n)) { val:=c }:=by
     intro es a cap hk rr h0 h
     simp only [Option.map_eq_some_iff] at h
     obtain ⟨el,vz,rfl⟩:=h
     have hlt:n.toNat<es.length:=(List.getElem?_eq_some_iff.1 vz).1
     rcases rr with rfl | ⟨b,o,rfl,hb,hr⟩
     . simp at hlt
     . refine Sound.same hi (hrun _ _ cap kk n h0 (by omega)) ?_
       rw [Addr.add_lit]
       simp only [aL]
       exact ⟨b,o+n.toNat*i.size,by simp,hb,F5 hk hr vz⟩
   split at h
   . rename_i k' es
     simp only [aL] at hx
     obtain ⟨a,cap,rfl,_,_,hk,rr⟩:=hx
     split at h
     . rename_i hh
       obtain ⟨rfl,h0⟩:=hh
       exact row hk rr h0 h
     . simp at h
   . rename_i k' es
     simp only [aL] at hx
     obtain ⟨a,rfl,_,hk,rr⟩:=hx
     split at h
     . rename_i hh
       obtain ⟨rfl,h0⟩:=hh
       exact row hk rr h0 h
     . simp at h
   . rename_i id k' off len tt
     simp only [aL] at hx
     obtain ⟨g,N,cap,hm,rfl,_⟩:=hx
     split at h
     . rename_i hh
       obtain ⟨rfl,h0,h1⟩:=hh
       simp only [Option.some.injEq] at h;subst h
       refine Sound.same hi (hrun _ _ cap kk n h0 h1) ?_
       rw [Addr.add_lit]
       simp only [aL]
       exact ⟨g,i.size,N,hm,by simp [Nat.add_mul]⟩
     . simp at h
   . simp at h
 . simp at h
theorem F7 (hi:Inv G own E w σ) {t e:TypeId} {n:Nat} {i:TypeInfo} (hu:P.underlying t=some (.array n e)) (dt:P.info? e=some i) {x j:AV} {v u:Value} (hx:aL E w x v) (hj:aL E w j u) {c:AV}
   (h:ig n i.size x j=some c):Sound P G own E w σ p (Instr.indexAt t v u) { val:=c }:=by
 unfold ig at h
 split at h
 . rename_i kk m
   simp only [aL] at hj;subst hj
   split at h
   . rename_i hh
     have hrun:∀ a:Addr,(Instr.indexAt t (.pointer (some a)) (.int kk m)).run P w = .ok (.pointer (some (a.add (m.toNat*i.size)))) w:=by
       intro a
       simp [Instr.indexAt,run_underlying hu,asIntOf,hh,eO dt,Instr.sureAddr]
     split at h
     . simp only [Option.some.injEq] at h;subst h
       simp only [aL] at hx
       obtain ⟨g,k,N,hm,rfl⟩:=hx
       refine Sound.same hi (hrun _) ?_
       rw [Addr.add_lit]
       simp only [aL]
       exact ⟨g,k,N,hm,by simp [Nat.add_assoc]⟩
     . simp only [Option.some.injEq] at h;subst h
       simp only [aL] at hx
       obtain ⟨b,q,rfl,hb,hr⟩:=hx
       refine Sound.same hi (hrun _) ?_
       rw [Addr.add_lit]
       simp only [aL]
       exact ⟨b,q,by simp [Nat.add_assoc],hb,hr⟩
     . simp at h
   . simp at h
 . simp at h
theorem He (hi:Inv G own E w σ) {s:TypeId} {fs:Array Field} {f:Nat} {fd:Field} {i:TypeInfo} (hu:P.underlying s=some (.struct fs)) (hf:fs[f]? = some fd) (dt:P.info? fd.type=some i) (h0:i.size≠0)
   {x:AV} {v:Value} (hx:aL E w x v) {r:dN} (h:b8 σ p (.faddr fd.offset x)=some r):Sound P G own E w σ p (Instr.fieldAt s v f) r:=by
 have hrun:∀ a:Addr,(Instr.fieldAt s (.pointer (some a)) f).run P w = .ok (.pointer (some (a.add fd.offset))) w:=by
   intro a
   simp [Instr.fieldAt,run_underlying hu,hf,Instr.sureAddr,fieldPlace,eO dt,h0]
 simp only [b8] at h
 split at h
 . simp only [bI,Option.map_some,Option.some.injEq] at h;subst h
   simp only [aL] at hx
   obtain ⟨g,k,N,hm,rfl⟩:=hx
   refine Sound.same hi (hrun _) ?_
   rw [Addr.add_lit]
   simp only [aL]
   exact ⟨g,k,N,hm,by simp [Nat.add_assoc]⟩
 . simp only [bI,Option.map_some,Option.some.injEq] at h;subst h
   simp only [aL] at hx
   obtain ⟨b,q,rfl,hb,hr⟩:=hx
   refine Sound.same hi (hrun _) ?_
   rw [Addr.add_lit]
   simp only [aL]
   exact ⟨b,q,by simp [Nat.add_assoc],hb,hr⟩
 . simp at h
theorem Hf {t:TypeId} {agg:Bool} {i:TypeInfo} (ha:nO P t=some agg) (dt:P.info? t=some i) {cs:List AV} {xs:Array Value} (hr:aM E w cs xs.toList) {o:Nat} {c:AV} (h:VL.part agg cs o i.size=some c) :
   ∃ v,(Go.part t xs o).run P w = .ok v w/\aL E w c v:=by
 obtain ⟨h1,h2,h3⟩:=Pq h hr
 refine ⟨_, ?_,h1⟩
 cases agg with
 | true=>simp [Go.part,tw ha,eO dt]
 | false =>
   have Lm:=h3 rfl
   have:o<xs.size:=by omega
   simp [Go.part,tw ha,this]
theorem wK (hi:Inv G own E w σ) {k:Nat} {x:AV} {v:Value} (hx:aL E w x v) {ys:List AV} {rd:List Id} (h:dA σ k x=some (ys,rd)) :
   (∀ e∈ys,e.size=k)/\∃ a cap,v = .slice a ys.length cap/\ys.length<=cap/\(ys=[]∨∃ b o,a=some ⟨b,o,none⟩/\gP E w b o (flat ys)):=by
 unfold dA at h
 split at h
 . simp only [Option.some.injEq,Prod.mk.injEq] at h
   obtain ⟨rfl,rfl⟩:=h
   simp only [aL] at hx;subst hx
   exact ⟨by simp,none,0,rfl,Nat.le_refl _, .inl rfl⟩
 . rename_i k' es
   split at h
   . rename_i hk
     simp only [Option.some.injEq,Prod.mk.injEq] at h
     obtain ⟨rfl,rfl⟩:=h
     subst hk
     simp only [aL] at hx
     obtain ⟨a,cap,rfl,hl,_,hk,rr⟩:=hx
     exact ⟨hk,a,cap,rfl,hl,rr.imp id fun ⟨b,o,e,_,r⟩=>⟨b,o,e,dG.1 r⟩⟩
   . simp at h
 . rename_i k' es
   split at h
   . rename_i hk
     simp only [Option.some.injEq,Prod.mk.injEq] at h
     obtain ⟨rfl,rfl⟩:=h
     subst hk
     simp only [aL] at hx
     obtain ⟨a,rfl,_,hk,rr⟩:=hx
     exact ⟨hk,a,_,rfl,Nat.le_refl _,rr.imp id fun ⟨b,o,e,_,r⟩=>⟨b,o,e,dG.1 r⟩⟩
   . simp at h
 . rename_i id k' off len tt
   split at h
   . rename_i bk hσ
     split at h
     . rename_i hh
       obtain ⟨rfl,J8,hle⟩:=hh
       simp only [Option.some.injEq,Prod.mk.injEq] at h
       obtain ⟨rfl,rfl⟩:=h
       obtain ⟨g,N,cur,ty,hB⟩:=hi.blk id bk hσ
       simp only [aL] at hx
       obtain ⟨g',N',cap,hm,rfl,F2,_⟩:=hx
       rw [hB.μ] at hm
       simp only [Option.some.injEq,Prod.mk.injEq] at hm
       obtain ⟨rfl,_,rfl⟩:=hm
       have F3:∀ e∈(bk.els.drop off).take len,e.size=k':=fun e he=>by rw [<- J8];exact hB.k e (List.mem_of_mem_drop (List.mem_of_mem_take he))
       have hlen:((bk.els.drop off).take len).length=len:=by simp;omega
       refine ⟨F3,some ⟨g,off*k',none⟩,cap,by rw [hlen],by omega, .inr ⟨g,off*k',rfl, ?_⟩⟩
       have:=pM (l:=off) (r:=off+len) hB.k hB.row (by omega) hle
       rw [Nat.zero_add,J8] at this
       have e:(bk.els.take (off+len)).drop off=(bk.els.drop off).take len:=by rw [List.drop_take];congr 1;omega
       rwa [e] at this
     . simp at h
   . simp at h
 . simp at h
theorem F8 {b o:Nat} {cs:List AV} (h:gP E w b o cs):∃ vs:List Value,aM E w cs vs/\∀ j v,vs[j]? = some v->w.cell? ((⟨b,o,none⟩:Addr).add j)=some v:=by
 refine ⟨(List.range cs.length).map fun j=>(w.cell? ⟨b,o+j,none⟩).getD undef,bz.2 ⟨by simp,fun j c hj => ?_⟩,fun j v hj => ?_⟩
 . obtain ⟨v,hv,hr⟩:=h j c hj
   have hlt:j<cs.length:=(List.getElem?_eq_some_iff.1 hj).1
   exact ⟨v,by simp [hlt,hv],hr⟩
 . have hlt:j<cs.length:=by have:=(List.getElem?_eq_some_iff.1 hj).1;simpa using this
   obtain ⟨v',hv',_⟩:=h j cs[j] (by simp [hlt])
   simp only [List.getElem?_map,hlt,List.getElem?_range,Option.map_some,Option.some.injEq] at hj
   rw [Addr.add_lit,hv', <- hj,hv']
   rfl
theorem Cu {cs:List AV} {vs:List Value} (h:aM E w cs vs) (h1:∀ c∈cs,c.one=true):∀ v∈vs,v.oneCell'=true:=by
 intro v hv
 obtain ⟨j,hj⟩:=List.mem_iff_getElem?.1 hv
 obtain ⟨hl,hp⟩:=bz.1 h
 have nL:j<cs.length:=by have:=(List.getElem?_eq_some_iff.1 hj).1;omega
 obtain ⟨u,hu,hru⟩:=hp j cs[j] (by simp [nL])
 have:u=v:=by rw [hj] at hu;simpa using hu.symm
 subst this
 exact aL.one hru (h1 _ (by simp))
theorem yu (hi:Inv G own E w σ) (hμ : E.μ p=none) (hσ : σ p=none) {k n N:Nat} {els:List AV} (hk:∀ e∈els,e.size=k) (hn:els.length=n) {vs:List Value} (hv:aM E w (flat els) vs)
   {rest:Array Value} (hr:rest.size=(N-n)*k) (hnN:n<=N) (hN:N<=maxLen) (ty:TypeId) {rd:List Id} :
   kY G own E w σ p { val := .osl p k 0 n false,rd:=rd,up:=[(p,some ⟨els,k,false⟩)] } (.slice (some ⟨w.heap.size,0,none⟩) n N) (E.bind p w.heap.size k N) (w.drew.alloc (.cells (vs.toArray++rest) ty)):=by
 have hd:=hi.drew
 obtain ⟨hl,hp⟩:=bz.1 hv
 have Cp:=cC hk
 have hstep:Step E E w w.drew:=(Adv.drew (own:=own) E w).step
 have hlen:(vs++rest.toList).length=N*k:=by
   simp only [List.length_append,Array.length_toList,hl,Cp,hn,hr, <- Nat.add_mul]
   congr 1;omega
 have:=wJ (p:=p) (rd:=rd) hd hμ hσ (els:=els) (k:=k) (N:=N) (vs:=vs++rest.toList) ty hk
   (fun j c hj=>by
     obtain ⟨v,px,tr⟩:=hp j c hj
     exact ⟨v,by rw [List.getElem?_append_left (List.getElem?_eq_some_iff.1 px).1];exact px,aL.keep hstep c v tr⟩) hlen (by omega) hN
   (c := .osl p k 0 n false) (v := .slice (some ⟨w.heap.size,0,none⟩) n N)
   (by simp only [aL];exact ⟨w.heap.size,N,N,Env.ji _ _ _ _ _,by simp,hnN,by omega,hN,by simp⟩)
 have he:(vs++rest.toList).toArray=vs.toArray++rest:=by apply Array.ext';simp
 rw [he] at this
 exact ⟨(Adv.drew E w).trans this.Cr,this.inv,this.rep,this.ids⟩
theorem Ty (hi:Inv G own E w σ) (id:Id):Inv G own E w (σ.put id none) where
 okb:=hi.okb
 blk:=fun i bk h=>by
   by_cases e:i=id
   . subst e;simp [aa.put] at h
   . rw [aa.bg _ _ _ e] at h;exact hi.blk i bk h
 inj:=fun i j x y hx hy hne h1 h2=>by
   have ei:i≠id:=by rintro rfl;simp [aa.put] at hx
   have ej:j≠id:=by rintro rfl;simp [aa.put] at hy
   rw [aa.bg _ _ _ ei] at hx
   rw [aa.bg _ _ _ ej] at hy
   exact hi.inj i j x y hx hy hne h1 h2
 glob:=hi.glob
 new:=hi.new
end
end Go.VL
end

section
namespace Go.VL
theorem Aj {k:Nat}:∀ {es:List AV} {n:Nat},(∀ x∈es,x.size=k)->flat (es.take n)=(flat es).take (n*k)
 | [],n,_=>by simp [flat]
 | x::es,0,_=>by simp [flat]
 | x::es,n+1,h=>by
   have hx:x.cells.length=k:=h x (by simp)
   have ih:=Aj (es:=es) (n:=n) (fun y hy=>h y (by simp [hy]))
   have hf:flat (x::es)=x.cells++flat es:=by simp [flat]
   have Tr:flat ((x::es).take (n+1))=x.cells++flat (es.take n):=by simp [flat]
   rw [hf,Tr,ih,show (n+1)*k=x.cells.length+n*k from by rw [hx,Nat.add_mul];omega,List.take_length_add_append]
theorem EF {k:Nat}:∀ {es:List AV} {n:Nat},(∀ x∈es,x.size=k)->flat (es.drop n)=(flat es).drop (n*k)
 | [],n,_=>by simp [flat]
 | x::es,0,_=>by simp
 | x::es,n+1,h=>by
   have hx:x.cells.length=k:=h x (by simp)
   have ih:=EF (es:=es) (n:=n) (fun y hy=>h y (by simp [hy]))
   have hf:flat (x::es)=x.cells++flat es:=by simp [flat]
   rw [List.drop_succ_cons,ih,hf,show (n+1)*k=x.cells.length+n*k from by rw [hx,Nat.add_mul];omega,List.drop_length_add_append]
theorem Be {G:Nat->Option (List AV)} {own:Nat->Prop} {E:Env} {w:World} {σ : aa} (h:Inv G own E w σ) {id:Id} {bk:dC} (hσ : σ id=some bk) (D8:bk.fr=false)
   {g N:Nat} {cur:Array Value} {ty:TypeId} (hB:xl E own w id bk g N cur ty)
   {e:Nat} {news:List AV} {vs:List Value} (hle:e+news.length<=bk.els.length) (hk:∀ x∈news,x.size=bk.k) (hv:aM E w (flat news) vs) :
   e*bk.k+vs.length<=cur.size /\
   Adv own E E w (w.setRow g (cur.toList.take (e*bk.k)++vs++cur.toList.drop (e*bk.k+vs.length)).toArray) /\
   Inv G own E (w.setRow g (cur.toList.take (e*bk.k)++vs++cur.toList.drop (e*bk.k+vs.length)).toArray) (σ.put id (some { bk with els:=bk.els.take e++news++bk.els.drop (e+news.length) })):=by
 obtain ⟨uG,hvp⟩:=bz.1 hv
 have F9:=cC hk
 have hbound:e*bk.k+vs.length<=cur.size:=by
   rw [hB.size,uG,F9, <- Nat.add_mul]
   exact Nat.mul_le_mul_right _ (by have:=hB.len;omega)
 refine ⟨hbound, ?_⟩
 generalize Ts:(cur.toList.take (e*bk.k)++vs++cur.toList.drop (e*bk.k+vs.length)).toArray=nv
 have hg:=dH hB.heap
 have uT:(w.setRow g nv).heap[g]? = some (.cells nv ty (0,0)):=setRow_heap w g cur nv ty _ hB.heap
 have hs:Step E E w (w.setRow g nv):=⟨fun _ _ h=>h,fun _ h=>h,fun b hb=>setRow_other w g b nv (fun e=>hB.no D8 (e▸hb))⟩
 have gr:Adv own E E w (w.setRow g nv) :=
   ⟨hs,rfl,rfl,rfl,by simp,fun k _ hk=>setRow_other w g k nv (fun e=>hk (e▸hB.own)),fun _ h => .inl h⟩
 refine ⟨gr, ?_, ?_, ?_, ?_, ?_⟩
 . intro b hb;simpa using h.okb b hb
 . intro i BM hi
   by_cases dt:i=id
   . subst dt
     rw [aa.a8] at hi
     simp only [Option.some.injEq] at hi
     subst hi
     have xu:(bk.els.take e++news++bk.els.drop (e+news.length)).length=bk.els.length:=by simp;omega
     have yv:∀ x∈bk.els.take e++news++bk.els.drop (e+news.length),x.size=bk.k:=by
       intro x hx
       simp only [List.append_assoc,List.mem_append] at hx
       rcases hx with hx | hx | hx
       . exact hB.k x (List.mem_of_mem_take hx)
       . exact hk x hx
       . exact hB.k x (List.mem_of_mem_drop hx)
     refine ⟨g,N,nv,ty,hB.μ,uT, ?_,by rw [xu];exact hB.len,hB.most,hB.own,by simp [D8],hB.no,yv, ?_⟩
     . rw [<- Ts]
       simp only [List.size_toArray,List.length_append,List.length_take,List.length_drop,Array.length_toList]
       rw [<- hB.size];omega
     . show gP E (w.setRow g nv) g 0 (flat (bk.els.take e++news++bk.els.drop (e+news.length)))
       rw [mH,mH,Aj hB.k,EF hB.k]
       have hlen:(flat bk.els).length=bk.els.length*bk.k:=cC hB.k
       have hcz:bk.els.length*bk.k<=cur.size:=by rw [hB.size];exact Nat.mul_le_mul_right _ hB.len
       have hmul:(e+news.length)*bk.k<=bk.els.length*bk.k:=Nat.mul_le_mul_right _ hle
       rw [Nat.add_mul] at hmul
       intro j c hj
       have hcell:(w.setRow g nv).cell? ⟨g,0+j,none⟩=nv[j]? := by rw [Nat.zero_add];exact cell_of_row _ _ _ _ _ _ uT
       rw [hcell]
       suffices WG:∃ v,nv[j]? = some v/\aL E w c v by
         obtain ⟨v,px,tr⟩:=WG;exact ⟨v,px,aL.keep hs c v tr⟩
       rw [<- Ts]
       have hold:∀ (j:Nat) (c:AV),(flat bk.els)[j]? = some c->∃ v:Value,cur[j]? = some v/\aL E w c v:=by
         intro j c hj
         obtain ⟨v,px,tr⟩:=hB.row j c hj
         rw [Nat.zero_add,cell_of_row _ _ _ _ _ _ hB.heap] at px
         exact ⟨v,px,tr⟩
       simp only [List.getElem?_toArray]
       have ha:(cur.toList.take (e*bk.k)).length=e*bk.k:=by simp;omega
       have hb:((flat bk.els).take (e*bk.k)).length=e*bk.k:=by simp;omega
       rw [List.append_assoc] at hj ⊢
       by_cases c1:j<e*bk.k
       . rw [List.getElem?_append_left (by omega),List.getElem?_take_of_lt c1] at hj
         rw [List.getElem?_append_left (by omega),List.getElem?_take_of_lt c1]
         obtain ⟨v,px,tr⟩:=hold j c hj
         exact ⟨v,by simpa using px,tr⟩
       . rw [List.getElem?_append_right (by omega),hb] at hj
         rw [List.getElem?_append_right (by omega),ha]
         by_cases c2:j-e*bk.k<(flat news).length
         . rw [List.getElem?_append_left c2] at hj
           rw [List.getElem?_append_left (by omega)]
           obtain ⟨v,px,tr⟩:=hvp _ c hj
           exact ⟨v,px,tr⟩
         . rw [List.getElem?_append_right (by omega),List.getElem?_drop] at hj
           rw [List.getElem?_append_right (by omega),List.getElem?_drop,uG]
           rw [F9] at hj c2 ⊢
           have e1:(e+news.length)*bk.k+(j-e*bk.k-news.length*bk.k)=j:=by rw [Nat.add_mul];omega
           have e2:e*bk.k+news.length*bk.k+(j-e*bk.k-news.length*bk.k)=j:=by omega
           rw [e1] at hj;rw [e2]
           obtain ⟨v,px,tr⟩:=hold _ c hj
           exact ⟨v,by simpa using px,tr⟩
   . rw [aa.bg _ _ _ dt] at hi
     obtain ⟨g',N',Ab,Ll,Pk⟩:=h.blk i BM hi
     have hne:g'≠g:=h.inj i id _ _ (by simp [hi]) (by simp [hσ]) dt Pk.μ hB.μ
     exact ⟨g',N',Ab,Ll,Pk.keep hs (setRow_other w g g' nv hne) Pk.no⟩
 . intro i j x y hi hj hne hx hy
   refine h.inj i j x y ?_ ?_ hne hx hy
   . intro hn;by_cases dt:i=id
     . subst dt;simp [hσ] at hn
     . rw [aa.bg _ _ _ dt] at hi;exact hi hn
   . intro hn;by_cases dt:j=id
     . subst dt;simp [hσ] at hn
     . rw [aa.bg _ _ _ dt] at hj;exact hj hn
 . intro g' cs JZ
   obtain ⟨Lm,Vx⟩:=h.glob g' cs JZ
   exact ⟨Lm,cm.keep hs.bare (hs.same g' Lm) cs 0 Vx⟩
 . intro k hk;simp at hk;exact h.new k hk
end Go.VL
end

section
namespace Go.VL
section
variable {P:Program} {G:Nat->Option (List AV)} {own:Nat->Prop} {E:Env} {w:World} {σ : aa} {p:Id}
theorem Tz (hi:Inv G own E w σ) (hμ : E.μ p=none) (hσ : σ p=none) {id:Id} {bk:dC} (hid : σ id=some bk) (D8:bk.fr=false) {g N:Nat} {cur:Array Value} {ty:TypeId} (hB:xl E own w id bk g N cur ty)
   {ys:List AV} (hk:∀ e∈ys,e.size=bk.k) {news:List Value} (hv:aM E w (flat ys) news) (J2:bk.els.length+ys.length<=N) {rd:List Id} :
   kY G own E w σ p { val := .osl p bk.k 0 (bk.els.length+ys.length) false,rd:=rd,up:=[(id,none),(p,some ⟨bk.els++ys,bk.k,false⟩)] }
     (.slice (some ⟨g,0,none⟩) (bk.els.length+ys.length) N) (E.bind p g bk.k N)
     (w.setRow g (cur.toList.take (bk.els.length*bk.k)++news++cur.toList.drop (bk.els.length*bk.k+news.length)).toArray):=by
 obtain ⟨uG,hvp⟩:=bz.1 hv
 have hy:=cC hk
 have he:=cC hB.k
 have hle:bk.els.length*bk.k+news.length<=cur.size:=by
   rw [uG,hy,hB.size, <- Nat.add_mul];exact Nat.mul_le_mul_right _ J2
 generalize Ts:(cur.toList.take (bk.els.length*bk.k)++news++cur.toList.drop (bk.els.length*bk.k+news.length)).toArray=nv
 have uT:(w.setRow g nv).heap[g]? = some (.cells nv ty (0,0)):=setRow_heap w g cur nv ty _ hB.heap
 have Zk:id≠p:=by rintro rfl;simp [hid] at hσ
 have hs:Step E (E.bind p g bk.k N) w (w.setRow g nv) :=
   ⟨fun i x h=>by rw [Env.iP];exact h;rintro rfl;simp [hμ] at h,fun _ h=>h,fun b hb=>setRow_other w g b nv (fun e=>hB.no D8 (e▸hb))⟩
 have gr:Adv own E (E.bind p g bk.k N) w (w.setRow g nv) :=
   ⟨hs,rfl,rfl,rfl,by simp,fun k _ hk=>setRow_other w g k nv (fun e=>hk (e▸hB.own)),fun _ h => .inl h⟩
 have hsz:nv.size=cur.size:=by
   rw [<- Ts]
   simp only [List.size_toArray,List.length_append,List.length_take,List.length_drop,Array.length_toList]
   omega
 refine ⟨gr,⟨?_, ?_, ?_, ?_, ?_⟩, ?_,fun i hne=>Env.iP _ _ _ _ _ (fun e=>hne (by rw [e];exact List.suffix_refl _))⟩
 . intro b hb;simpa using hi.okb b hb
 . intro i BM h
   simp only [aa.app] at h
   by_cases e1:i=p
   . subst e1
     rw [aa.a8] at h
     simp only [Option.some.injEq] at h;subst h
     refine ⟨g,N,nv,ty,Env.ji _ _ _ _ _,uT,by rw [hsz];exact hB.size,by simpa using J2,hB.most,hB.own,by simp,fun _ hb=>hB.no D8 hb, ?_, ?_⟩
     . intro e he
       rcases List.mem_append.1 he with h | h
       . exact hB.k e h
       . exact hk e h
     . show gP _ _ g 0 (flat (bk.els++ys))
       rw [mH]
       have hcell:∀ j,(w.setRow g nv).cell? ⟨g,j,none⟩=nv[j]? := fun j=>cell_of_row _ _ _ _ _ _ uT
       have ht:(cur.toList.take (bk.els.length*bk.k)).length=bk.els.length*bk.k:=by simp;omega
       refine tq.2 ⟨fun j c hj => ?_,fun j c hj => ?_⟩
       . have nL:j<bk.els.length*bk.k:=by rw [<- he];exact (List.getElem?_eq_some_iff.1 hj).1
         obtain ⟨v,px,tr⟩:=hB.row j c hj
         rw [Nat.zero_add,cell_of_row _ _ _ _ _ _ hB.heap] at px
         refine ⟨v, ?_,aL.keep hs c v tr⟩
         rw [Nat.zero_add,hcell, <- Ts]
         simp only [List.getElem?_toArray,List.append_assoc]
         rw [List.getElem?_append_left (by omega),List.getElem?_take_of_lt nL]
         simpa using px
       . obtain ⟨v,px,tr⟩:=hvp j c hj
         have nL:j<news.length:=(List.getElem?_eq_some_iff.1 px).1
         refine ⟨v, ?_,aL.keep hs c v tr⟩
         rw [Nat.zero_add,hcell, <- Ts,he]
         simp only [List.getElem?_toArray,List.append_assoc]
         rw [List.getElem?_append_right (by omega),ht,Nat.add_sub_cancel_left,List.getElem?_append_left nL]
         exact px
   . rw [aa.bg _ _ _ e1] at h
     by_cases e2:i=id
     . subst e2;simp [aa.put] at h
     . rw [aa.bg _ _ _ e2] at h
       obtain ⟨g',N',Ab,Ll,Pk⟩:=hi.blk i BM h
       have hne:g'≠g:=hi.inj i id _ _ (by simp [h]) (by simp [hid]) e2 Pk.μ hB.μ
       exact ⟨g',N',Ab,Ll,Pk.keep hs (setRow_other w g g' nv hne) Pk.no⟩
 . intro i j x y hx hy hne h1 h2
   simp only [aa.app] at hx hy
   have other:∀ i,i≠p->((σ.put id none).put p (some ⟨bk.els++ys,bk.k,false⟩)) i≠none->i≠id /\ σ i≠none:=by
     intro i e h
     rw [aa.bg _ _ _ e] at h
     have e2:i≠id:=by rintro rfl;simp [aa.put] at h
     rw [aa.bg _ _ _ e2] at h
     exact ⟨e2,h⟩
   by_cases e1:i=p
   . have e1:=e1.symm
     subst e1
     have e2:j≠p:=fun e=>hne e.symm
     obtain ⟨h3,h4⟩:=other j e2 hy
     rw [Env.ji] at h1
     rw [Env.iP _ _ _ _ _ e2] at h2
     have:=hi.inj id j (g,bk.k,N) y (by simp [hid]) h4 (fun e=>h3 e.symm) hB.μ h2
     simp only [Option.some.injEq] at h1
     rw [<- h1];exact this
   . obtain ⟨h3,h4⟩:=other i e1 hx
     rw [Env.iP _ _ _ _ _ e1] at h1
     by_cases e2:j=p
     . subst e2
       rw [Env.ji] at h2
       have:=hi.inj i id x (g,bk.k,N) h4 (by simp [hid]) h3 h1 hB.μ
       simp only [Option.some.injEq] at h2
       rw [<- h2];exact this
     . obtain ⟨h5,h6⟩:=other j e2 hy
       rw [Env.iP _ _ _ _ _ e2] at h2
       exact hi.inj i j x y h4 h6 hne h1 h2
 . intro g' cs JZ
   obtain ⟨h1,h2⟩:=hi.glob g' cs JZ
   exact ⟨h1,cm.keep hs.bare (hs.same g' h1) cs 0 h2⟩
 . intro k hk;simp at hk;exact hi.new k hk
 . simp only [aL]
   exact ⟨g,N,N,Env.ji _ _ _ _ _,by simp,J2,by omega,hB.most,by simp⟩
def Lw (c:AV) (val:Value):Prop:=∀ E w,aL E w c val
theorem Ga {ys:List AV} (h:(ys.all fun e=>e.cells.all AV.one)=true):∀ c∈flat ys,c.one=true:=by
 intro c hc
 simp only [flat,List.mem_flatMap] at hc
 obtain ⟨e,he,hce⟩:=hc
 have:=List.all_eq_true.1 h e he
 exact List.all_eq_true.1 this c hce
theorem pA (t ty e bt:TypeId) (i:TypeInfo) (ht:P.underlying t=some (.slice e)) (hi:P.info? e=some i)
   (g J9 WI:Nat) (cur:Array Value) (hg:w.heap[g]? = some (.cells cur bt (0,0)))
   (a:Addr) (m c:Nat) (news:List Value) (hl:news.length=m*i.size) (Zl:∀ j u,news[j]? = some u->w.cell? (a.add j)=some u) (h1:∀ u∈news,u.oneCell'=true)
   (hroom:J9+m<=WI) (J2:J9*i.size+news.length<=cur.size) :
   (Builtin.append_ #[t,t] ty #[.slice (some ⟨g,0,none⟩) J9 WI, .slice (some a) m c]).run P w =
     .ok (.slice (some ⟨g,0,none⟩) (J9+m) WI) (w.setRow g (cur.toList.take (J9*i.size)++news++cur.toList.drop (J9*i.size+news.length)).toArray):=by
 have hf:=run_firstCells_some (P:=P) w i.size m a m c news hl Zl
 have hst:=run_storeCells_at P g (J9*i.size) bt news 0 cur w hg (by simpa using J2) h1
 simp only [Nat.add_zero] at hst
 simp [Builtin.append_,run_underlying ht,sizeOf,typeInfo,hi,Builtin.lenOf,hroom,hf,Addr.add_lit,hst]
theorem xv {z:AV} {zv:Value} (hz:aM E w z.cells zv.cells.toList) (n:Nat) (hp:0<z.size):aM E w (flat (List.replicate n z)) (Builtin.zeroCells zv.cells n).toList:=by
 obtain ⟨hl,Zf⟩:=bz.1 hz
 have hk:∀ e∈List.replicate n z,e.size=z.size:=fun e he=>by rw [List.eq_of_mem_replicate he]
 have Cp:=cC hk
 have hs:zv.cells.size=z.size:=by simpa [AV.size] using hl
 refine bz.2 ⟨by rw [Cp];simp [Builtin.zeroCells,hs],fun j c hj => ?_⟩
 have nL:j<n*z.size:=by have:=(List.getElem?_eq_some_iff.1 hj).1;rw [Cp] at this;simpa using this
 have hdm:j/z.size*z.size+j%z.size=j:=by rw [Nat.mul_comm];exact Nat.div_add_mod j z.size
 have PC:=Nat.mod_lt j hp
 have hdiv:j/z.size<n:=Nat.div_lt_of_lt_mul (by rwa [Nat.mul_comm] at nL)
 have hg:=flat_get (i:=j/z.size) (e:=z) hk (by simp [hdiv]) PC
 rw [hdm,hj] at hg
 obtain ⟨v,hv,hr⟩:=Zf (j%z.size) c hg.symm
 refine ⟨v, ?_,hr⟩
 have hv':zv.cells[j%z.size]? = some v:=by simpa using hv
 simp only [Builtin.zeroCells,Array.toList_map,Array.toList_range,List.getElem?_map,hs,List.getElem?_range nL,Option.map_some]
 rw [getElem!_def,hv']
theorem Cv (hi:Inv G own E w σ) {id:Id} {off k len:Nat} {tt:Bool} {news:List AV} {v:AV} {rd:List Id} {r:dN} (h:uH σ id off k news v rd=some r) {a:Value} (hs:aL E w (.osl id k off len tt) a)
   (hk:∀ e∈news,e.size=k) {vs:List Value} (hv:aM E w (flat news) vs) {val:Value} (hval:Lw v val) :
   ∃ g cap,a = .slice (some ⟨g,off*k,none⟩) len cap/\∃ w',(storeCells ⟨g,off*k,none⟩ vs).run P w = .ok () w'/\kY G own E w σ p r val E w':=by
 unfold uH at h
 split at h
 . rename_i bk hid
   split at h
   . rename_i hh
     obtain ⟨J8,hle,D8,JV⟩:=hh
     simp only [Option.some.injEq] at h;subst h
     obtain ⟨g,N,cur,ety,hB⟩:=hi.blk id bk hid
     simp only [aL] at hs
     obtain ⟨g',N',cap,EG,rfl,F2,PB,YP,J7⟩:=hs
     rw [hB.μ] at EG
     simp only [Option.some.injEq,Prod.mk.injEq] at EG
     obtain ⟨rfl,_,rfl⟩:=EG
     obtain ⟨B9,had,EH⟩:=Be hi hid D8 hB (e:=off) (news:=news) (vs:=vs) hle (fun e he=>by rw [J8];exact hk e he) hv
     have e0:off*bk.k=off*k:=by rw [J8]
     rw [e0] at B9 had EH
     have hst:=run_storeCells_at P g (off*k) ety vs 0 cur w hB.heap (by simpa using B9) (Cu hv (Ga JV))
     simp only [Nat.add_zero] at hst
     exact ⟨g,cap,rfl,_,hst,had,EH,hval E _,fun _ _=>rfl⟩
   . simp at h
 . simp at h
theorem Hg (hi:Inv G own E w σ) {t e ty:TypeId} {z:AV} (hu:P.underlying t=some (.slice e)) (hz:lS P e=some z) (oy:0<z.size) {x:AV} {a:Value} (hx:aL E w x a) {r:dN} (h:xH σ z.size z x=some r) :
   Sound P G own E w σ p (Builtin.clear_ #[t] ty #[a]) r:=by
 obtain ⟨it,zv,hit,JU,Nq,Lr,Ls⟩:=kZ hz
 have hzr:=aL.cells (iC (E:=E) (w:=w) Nq) (jN Ls)
 unfold xH at h
 split at h
 . simp only [Option.some.injEq] at h;subst h
   simp only [aL] at hx;subst hx
   exact Sound.same (v := .tuple #[]) hi (by simp [Builtin.clear_,run_underlying hu]) (by simp only [aL];exact ⟨#[],rfl,by simp [aM]⟩)
 . rename_i id k' off len tt
   split at h
   . rename_i h0
     subst h0
     simp only [Option.some.injEq] at h;subst h
     simp only [aL] at hx
     obtain ⟨g',N',cap,EG,rfl,_⟩:=hx
     exact Sound.same (v := .tuple #[]) hi (by simp [Builtin.clear_,run_underlying hu]) (by simp only [aL];exact ⟨#[],rfl,by simp [aM]⟩)
   . rename_i h0
     split at h
     . rename_i hh
       obtain ⟨rfl,_⟩:=hh
       obtain ⟨g,cap,rfl,w',hst,hp⟩:=Cv (P:=P) (p:=p) (val := .tuple #[]) hi h hx (fun e he=>by rw [List.eq_of_mem_replicate he]) (xv hzr len oy) (fun E w=>by simp only [aL];exact ⟨#[],rfl,by simp [aM]⟩)
       refine ⟨_,w',E, ?_,hp⟩
       obtain ⟨m,rfl⟩:∃ m,len=m+1:=⟨len-1,by omega⟩
       simp [Builtin.clear_,run_underlying hu,xq hit JU,hst]
     . simp at h
 . simp at h
theorem Ka (hi:Inv G own E w σ) {t t2 e ty:TypeId} {i:TypeInfo} (hu:P.underlying t=some (.slice e)) (dt:P.info? e=some i) {d x:AV} {a b:Value} (hd:aL E w d a) (hx:aL E w x b) {r:dN} (h:yn σ i.size d x=some r) :
   Sound P G own E w σ p (Builtin.copy_ #[t,t2] ty #[a,b]) r:=by
 unfold yn at h
 split at h
 . simp at h
 . rename_i ys rd vz
   obtain ⟨Ez,xa,Ed,rfl,Nt,rr⟩:=wK hi hx vz
   have zero:∀ (ba:Option Addr) (n cap:Nat),Nat.min ys.length n=0->(Builtin.copy_ #[t,t2] ty #[.slice ba n cap, .slice xa ys.length Ed]).run P w = .ok (.int .i64 0) w:=by
     intro ba n cap h0
     cases ba<;>cases xa<;>simp [Builtin.copy_,run_underlying hu,eO dt,Builtin.lenOf,h0,Builtin.firstCells,loadCells,loadCellsFrom,storeCells,goInt]
   split at h
   . simp only [Option.some.injEq] at h;subst h
     simp only [aL] at hd;subst hd
     exact Sound.same hi (zero none 0 0 (by simp)) (by simp only [aL])
   . rename_i id k' off len tt
     split at h
     . rename_i h0
       simp only [Option.some.injEq] at h;subst h
       simp only [aL] at hd
       obtain ⟨g',N',cap,EG,rfl,_⟩:=hd
       have h0':Nat.min ys.length len=0:=by
         have:=congrArg List.length (List.isEmpty_iff.1 h0)
         simp only [List.length_take,List.length_nil] at this
         rw [Nat.min_comm] at this;exact this
       exact Sound.same hi (zero _ len cap h0') (by simp only [aL])
     . rename_i h0
       split at h
       . rename_i hk
         subst hk
         have hne:ys≠[]:=by rintro rfl;simp at h0
         obtain ⟨xb,xo,rfl,hxr⟩:=rr.resolve_left hne
         have hkt:∀ e∈ys.take len,e.size=i.size:=fun e he=>Ez e (List.mem_of_mem_take he)
         have acL:gP E w xb xo (flat (ys.take len)):=by
           rw [Aj Ez]
           exact (tq.1 (by rw [List.take_append_drop];exact hxr:gP E w xb xo ((flat ys).take (len*i.size)++(flat ys).drop (len*i.size)))).1
         obtain ⟨news,Nr,VC⟩:=F8 acL
         have yw:news.length=(ys.take len).length*i.size:=by rw [aM.len Nr,cC hkt]
         obtain ⟨g,cap,rfl,w',hst,hp⟩:=Cv (P:=P) (p:=p) (val := .int .i64 (ys.take len).length) hi h hd hkt Nr (fun E w=>by simp only [aL])
         refine ⟨_,w',E, ?_,hp⟩
         have Zm:Nat.min ys.length len=(ys.take len).length:=by rw [List.length_take,Nat.min_comm]
         have hf:=run_firstCells_some (P:=P) w i.size (ys.take len).length ⟨xb,xo,none⟩ ys.length Ed news yw VC
         generalize (ys.take len).length=m at Zm hf hp ⊢
         simp [Builtin.copy_,run_underlying hu,eO dt,Builtin.lenOf,Zm,hf,hst,goInt]
       . simp at h
   . simp at h
theorem Ee {d:Option TypeDesc} (h:Ad d=true):∃ e,d=some (.slice e):=by
 unfold Ad at h
 split at h
 . exact ⟨_,rfl⟩
 . cases h
theorem Ak {t t' e e' ty:TypeId} (hu:P.underlying t=some (.slice e)) (JW:P.underlying t'=some (.slice e')) (a b:Value) (w:World) :
   (Builtin.append_ #[t,t'] ty #[a,b]).run P w=(Builtin.append_ #[t,t] ty #[a,b]).run P w:=by
 cases a<;>simp [Builtin.append_,run_underlying hu,run_underlying JW]
theorem Gb (hi:Inv G own E w σ) (hμ : E.μ p=none) (hσ : σ p=none) {t e ty:TypeId} {i:TypeInfo} (hu:P.underlying t=some (.slice e)) (dt:P.info? e=some i)
   (hz:(lS P e).isSome=true) {s x:AV} {a b:Value} (hs:aL E w s a) (hx:aL E w x b) {r:dN} (h:b6 σ p i.size i.bytes s x=some r) :
   Sound P G own E w σ p (Builtin.append_ #[t,t] ty #[a,b]) r:=by
 obtain ⟨z,hz⟩:=Option.isSome_iff_exists.1 hz
 obtain ⟨it,zv,hit,JU,Nq,Lr,Ls⟩:=kZ hz
 rw [dt] at hit
 simp only [Option.some.injEq] at hit;subst hit
 have PD:zv.cells.size=i.size:=by
   have:=aM.len (aL.cells (iC (E:=E) (w:=w) Nq) (jN Ls))
   simp at this;unfold AV.size at Lr;omega
 unfold b6 at h
 split at h
 . simp at h
 . rename_i ys rd vz
   obtain ⟨Ez,xa,Ed,rfl,Nt,rr⟩:=wK hi hx vz
   split at h
   . rename_i Kb
     have hys:ys=[]:=by simpa using Kb
     subst hys
     have hrun:∀ (base:Option Addr) (n cap:Nat),n<=cap->(Builtin.append_ #[t,t] ty #[.slice base n cap, .slice xa ([]:List AV).length Ed]).run P w = .ok (.slice base n cap) w:=by
       intro base n cap hn
       cases base<;>cases xa<;>simp [Builtin.append_,run_underlying hu,eO dt,Builtin.lenOf,hn,Builtin.firstCells,loadCells,loadCellsFrom,storeCells]
     split at h
     . simp only [Option.some.injEq] at h;subst h
       have l8:=hs
       simp only [aL] at hs;subst hs
       exact Sound.same hi (hrun none 0 0 (Nat.le_refl _)) l8
     . simp only [Option.some.injEq] at h;subst h
       have l8:=hs
       simp only [aL] at hs;obtain ⟨q,rfl,_⟩:=hs
       exact Sound.same hi (hrun q _ _ (Nat.le_refl _)) l8
     . simp only [Option.some.injEq] at h;subst h
       have l8:=hs
       simp only [aL] at hs;obtain ⟨g,N,cap,_,rfl,hle,_⟩:=hs
       exact Sound.same hi (hrun _ _ _ hle) l8
     . simp at h
   . rename_i Kb
     have hne:ys≠[]:=by simpa using Kb
     have oy:0<ys.length:=List.length_pos_iff.2 hne
     obtain ⟨xb,xo,rfl,hxr⟩:=rr.resolve_left hne
     obtain ⟨news,Nr,VC⟩:=F8 hxr
     have Cp:=cC Ez
     have yw:news.length=ys.length*i.size:=by rw [aM.len Nr,Cp]
     -- an append to a row that has no room
     have grow:∀ (ba:Addr) (q:Nat) (es:List AV) (cap:Nat),(∀ e∈es,e.size=i.size)->(es=[]∨∃ b o,ba=⟨b,o,none⟩/\gP E w b o (flat es))->q=es.length->cap<q+ys.length ->
         (q+ys.length)*i.bytes<=140737488355328->q+ys.length<=maxLen->∀ rd,
         ∃ v w' E',(Builtin.append_ #[t,t] ty #[.slice (some ba) q cap, .slice (some ⟨xb,xo,none⟩) ys.length Ed]).run P w = .ok v w' /\
           kY G own E w σ p { val := .osl p i.size 0 (q+ys.length) false,rd:=rd,up:=[(p,some ⟨es++ys,i.size,false⟩)] } v E' w':=by
       intro ba q es cap hk hr hq Cw hb hm rd
       have Hd:=cC hk
       obtain ⟨PE,Td,PB⟩:∃ vs:List Value,aM E w (flat es) vs/\∀ j v,vs[j]? = some v->w.cell? (ba.add j)=some v:=by
         rcases hr with rfl | ⟨b,o,rfl,hr⟩
         . exact ⟨[],by simp [flat,aM],by simp⟩
         . exact F8 hr
       have Te:PE.length=q*i.size:=by rw [aM.len Td,Hd,hq]
       have hrun:=run_append_grow (P:=P) w t ty e i zv hu dt JU ba q cap PE Te PB ⟨xb,xo,none⟩ ys.length Ed news yw VC Cw (by unfold maxLen at hm;omega) (growslice_fits Cw hb)
       have tk:=grownCap_ge w (q+ys.length) cap e
       have Lt:=grownCap_le_maxLen w (q+ys.length) cap e hm
       refine ⟨_,_,E.bind p w.heap.size i.size (grownCap w (q+ys.length) cap e),hrun, ?_⟩
       have:=yu (p:=p) (rd:=rd) hi hμ hσ (k:=i.size) (n:=q+ys.length) (N:=grownCap w (q+ys.length) cap e) (els:=es++ys) (fun e he=>(List.mem_append.1 he).elim (hk e) (Ez e)) (by simp [hq])
         (vs:=PE++news) (by rw [mH];exact aM.append Td Nr) (rest:=Builtin.zeroCells zv.cells (grownCap w (q+ys.length) cap e-(q+ys.length))) (by rw [size_zeroCells,PD]) tk Lt e
       have hee:(PE++news).toArray=PE.toArray++news.toArray:=by simp
       rw [hee] at this
       exact this
     split at h
     . -- onto nil
       split at h
       . rename_i hh
         obtain ⟨hb,hm,_⟩:=hh
         simp only [Option.some.injEq] at h;subst h
         simp only [aL] at hs;subst hs
         have hrun:=run_append_nil (P:=P) w t ty e i zv hu dt JU ⟨xb,xo,none⟩ ys.length Ed news yw VC oy (by unfold maxLen at hm;omega) (by omega)
         have tk:=grownCap_ge w ys.length 0 e
         have Lt:=grownCap_le_maxLen w ys.length 0 e hm
         refine ⟨_,_,E.bind p w.heap.size i.size (grownCap w ys.length 0 e),hrun, ?_⟩
         exact yu (p:=p) (rd:=rd) hi hμ hσ (k:=i.size) (n:=ys.length) (N:=grownCap w ys.length 0 e) (els:=ys) Ez rfl Nr (by rw [size_zeroCells,PD]) tk Lt e
       . simp at h
     . -- onto a row without room
       rename_i k' es
       split at h
       . rename_i hh
         obtain ⟨rfl,hb,hm,_⟩:=hh
         simp only [Option.some.injEq] at h;subst h
         simp only [aL] at hs
         obtain ⟨q,rfl,_,hk,hr⟩:=hs
         cases q with
         | none =>
           have hes:es=[]:=by rcases hr with h | ⟨b,o,h,_⟩;exact h;simp at h
           subst hes
           simp only [List.length_nil,Nat.zero_add,List.nil_append] at hb hm ⊢
           have hrun:=run_append_nil (P:=P) w t ty e i zv hu dt JU ⟨xb,xo,none⟩ ys.length Ed news yw VC oy (by unfold maxLen at hm;omega) (by omega)
           have tk:=grownCap_ge w ys.length 0 e
           have Lt:=grownCap_le_maxLen w ys.length 0 e hm
           refine ⟨_,_,E.bind p w.heap.size i.size (grownCap w ys.length 0 e),hrun, ?_⟩
           exact yu (p:=p) (rd:=rd) hi hμ hσ (k:=i.size) (n:=ys.length) (N:=grownCap w ys.length 0 e) (els:=ys) Ez rfl Nr (by rw [size_zeroCells,PD]) tk Lt e
         | some ba =>
           exact grow ba es.length es es.length hk (hr.imp id fun ⟨b,o,e,_,r⟩=>⟨b,o,by simpa using e,dG.1 r⟩) rfl (by omega) hb hm rd
       . simp at h
     . -- onto a block of the store
       rename_i id k' off len tt
       split at h
       . rename_i bk hid
         split at h
         . rename_i hh
           obtain ⟨rfl,J8,rfl,hle,hb,hm,JV⟩:=hh
           obtain ⟨g,N,cur,ety,hB⟩:=hi.blk id bk hid
           simp only [aL] at hs
           obtain ⟨g',N',cap,EG,rfl,F2,PB,YP,J7⟩:=hs
           rw [hB.μ] at EG
           simp only [Option.some.injEq,Prod.mk.injEq] at EG
           obtain ⟨rfl,_,rfl⟩:=EG
           have F3:∀ e∈bk.els,e.size=i.size:=fun e he=>by rw [<- J8];exact hB.k e he
           simp only [Nat.zero_mul]
           split at h
           . split at h
             . rename_i ht _
               simp only [Option.some.injEq] at h;subst h
               rw [if_pos ht] at J7
               have xK:=pM (l:=0) (r:=len) hB.k hB.row (Nat.zero_le _) hle
               simp only [Nat.zero_mul,Nat.add_zero,List.drop_zero] at xK
               exact grow ⟨g,0,none⟩ len (bk.els.take len) cap (fun e he=>F3 e (List.mem_of_mem_take he)) (.inr ⟨g,0,rfl,xK⟩) (by simp;omega) (by omega) hb hm (id::rd)
             . simp at h
           . split at h
             . rename_i ht hh2
               obtain ⟨TA,D8,qF⟩:=hh2
               simp only [Option.some.injEq] at h;subst h
               simp only [ht,Bool.false_eq_true,if_false,Nat.zero_add] at J7
               subst TA
               by_cases hroom:bk.els.length+ys.length<=cap
               . have hrun:=pA (P:=P) (w:=w) t ty e ety i hu dt g bk.els.length cap cur hB.heap ⟨xb,xo,none⟩ ys.length Ed news yw VC (Cu Nr (Ga JV)) hroom
                   (by rw [yw,hB.size,J8, <- Nat.add_mul];exact Nat.mul_le_mul_right _ (by omega))
                 obtain rfl:cap=N:=J7
                 refine ⟨_,_,E.bind p g i.size cap,hrun, ?_⟩
                 have:=Tz (p:=p) (rd:=id::rd) hi hμ hσ hid D8 hB (ys:=ys) (fun e he=>by rw [J8];exact Ez e he) Nr hroom
                 rw [J8] at this
                 exact this
               . obtain ⟨v,w',E',hrun,Lx⟩:=grow ⟨g,0,none⟩ bk.els.length bk.els cap F3 (.inr ⟨g,0,rfl,hB.row⟩) rfl (by omega) hb hm (id::rd)
                 refine ⟨v,w',E',hrun,Lx.Cr, ?_,Lx.rep,Lx.ids⟩
                 have Zk:id≠p:=by rintro rfl;simp [hid] at hσ
                 have:=Ty Lx.inv id
                 have he:(σ.app [(p,some ⟨bk.els++ys,i.size,false⟩)]).put id none = σ.app [(id,none),(p,some ⟨bk.els++ys,i.size,false⟩)]:=by
                   funext j
                   simp only [aa.app,aa.put]
                   by_cases e1:j=id
                   . subst e1;simp [Zk]
                   . simp [e1]
                 rw [he] at this
                 exact this
             . split at h
               . -- over elements that lie behind
                 rename_i ht _ hh2
                 obtain ⟨TA,D8⟩:=hh2
                 simp only [Option.some.injEq] at h;subst h
                 simp only [ht,Bool.false_eq_true,if_false,Nat.zero_add] at J7
                 obtain rfl:cap=N:=J7
                 have hroom:len+ys.length<=cap:=Nat.le_trans TA hB.len
                 obtain ⟨B9,had,EH⟩:=Be hi hid D8 hB (e:=len) (news:=ys) (vs:=news) TA (fun e he=>by rw [J8];exact Ez e he) Nr
                 have e0:len*bk.k=len*i.size:=by rw [J8]
                 rw [e0] at B9 had EH
                 have hrun:=pA (P:=P) (w:=w) t ty e ety i hu dt g len cap cur hB.heap ⟨xb,xo,none⟩ ys.length Ed news yw VC (Cu Nr (Ga JV)) hroom B9
                 refine ⟨_,_,E,hrun,had,EH, ?_,fun _ _=>rfl⟩
                 simp only [aL]
                 exact ⟨g,cap,cap,by rw [hB.μ,J8],by simp,hroom,by omega,YP,by simp⟩
               . simp at h
         . simp at h
       . simp at h
     . simp at h
theorem Kc (hi:Inv G own E w σ) (hμ : E.μ p=none) (hσ : σ p=none) {t tn e ty:TypeId} {i:TypeInfo} {kn:IntKind} (hu:P.underlying t=some (.slice e)) (dt:P.info? e=some i) (htn:P.underlying tn=some (.int kn)) {z:AV}
   (hz:lS P e=some z) (oy:0<i.size) {s x:AV} {a b:Value} (hs:aL E w s a) (hx:aL E w x b) {r:dN} (h:Lp p i.size i.bytes z s x=some r) :
   Sound P G own E w σ p (Builtin.append_ #[t,tn] ty #[a,b]) r:=by
 obtain ⟨it,zv,hit,JU,Nq,Lr,Ls⟩:=kZ hz
 rw [dt] at hit
 simp only [Option.some.injEq] at hit;subst hit
 have hzr:=aL.cells (iC (E:=E) (w:=w) Nq) (jN Ls)
 have PD:zv.cells.size=i.size:=by have:=aM.len hzr;simp at this;unfold AV.size at Lr;omega
 unfold Lp at h
 split at h
 . rename_i kk n
   split at h
   . rename_i hh
     obtain ⟨h0,hb,hm,hzk,_⟩:=hh
     simp only [Option.some.injEq] at h;subst h
     simp only [aL] at hs hx;subst hs;subst hx
     obtain ⟨m,rfl⟩:∃ m:Nat,n=m:=⟨n.toNat,by omega⟩
     have VD:m*i.bytes<=140737488355328:=by rw [<- Int.natCast_mul] at hb;omega
     have sw:m<=maxLen:=by omega
     have tk:=grownCap_ge w m 0 e
     have Lt:=grownCap_le_maxLen w m 0 e sw
     have hrun:=Lib.run_append_nil_zeros (P:=P) w t tn ty e i zv kk kn hu htn dt JU m (by omega) oy (by unfold maxLen at sw;omega) (by omega)
     refine ⟨_,_,E.bind p w.heap.size i.size (grownCap w m 0 e),hrun, ?_⟩
     have:=yu (p:=p) (rd:=[]) hi hμ hσ (k:=i.size) (n:=m) (N:=grownCap w m 0 e) (els:=List.replicate m z) (fun e he=>by rw [List.eq_of_mem_replicate he];exact hzk) (by simp)
       (vs:=(Builtin.zeroCells zv.cells m).toList) (xv hzr m (by omega)) (rest:=Builtin.zeroCells zv.cells (grownCap w m 0 e-m)) (by rw [size_zeroCells,PD]) tk Lt e
     simpa using this
   . simp at h
 . simp at h
end
end Go.VL
end

section
namespace Go.VL
section
variable {P:Program} {G:Nat->Option (List AV)} {own:Nat->Prop} {E:Env} {w:World} {σ : aa} {p:Id}
def eF (P:Program) (G:Nat->Option (List AV)) (own:Nat->Prop) (E:Env) (w:World) (σ : aa) (p:Id) (r:dN) (s:Sem Next):Prop :=
 ∃ v w' E',(s.run P w = .ok (.value v) w'∨(s.run P w = .ok .skip w'/\v=undef))/\kY G own E w σ p r v E' w'
theorem eF.of {s:Sem Value} {r:dN} (h:Sound P G own E w σ p s r):eF P G own E w σ p r (do pure (.value (<- s))):=by
 obtain ⟨v,w',E',hr,hp⟩:=h
 exact ⟨v,w',E', .inl (by simp [hr]),hp⟩
theorem eF.ofU {s:Sem Unit} {r:dN} (h:∃ w',s.run P w = .ok () w'/\kY G own E w σ p r undef E w'):eF P G own E w σ p r (do s;pure .skip):=by
 obtain ⟨w',hr,hp⟩:=h
 exact ⟨undef,w',E, .inr ⟨by simp [hr],rfl⟩,hp⟩
theorem vC {t:List AV} {a:Act} (hf:cn E w t a) (hi:Inv G own E w σ) {x:Option Operand} {vx:Option aT} (h:Ac x=some vx):mW E w (vx.map (aT.ev G t)) (x.map a.eval):=by
 cases x with
 | none=>simp only [Ac,Option.some.injEq] at h;subst h;trivial
 | some x =>
   simp only [Ac,Option.map_eq_some_iff] at h
   obtain ⟨va,zX,rfl⟩:=h
   exact aZ hf hi zX
theorem Kd {σ : aa} {x:AV} {oc:Option AV} {r:dN} (h:yo σ x oc=some r):bI oc=some r∨∃ id k off len bk,x = .osl id k off len false /\ σ id=some bk/\off<=bk.els.length/\r={ val := .ige (bk.els.length-off),rd:=[id] }:=by
 unfold yo at h
 split at h
 . exact .inl h
 . split at h
   . rename_i id k off len
     split at h
     . rename_i bk hb
       split at h
       . rename_i ho
         simp only [Option.some.injEq] at h
         exact .inr ⟨id,k,off,len,bk,rfl,hb,ho,h.symm⟩
       . simp at h
     . simp at h
   . simp at h
theorem Ef (hi : Inv G own E w σ) {t e:TypeId} {i:TypeInfo} (hu:P.underlying t=some (.slice e)) (dt:P.info? e=some i) {x:AV} {v:Value} (hx:aL E w x v)
   {lo jc mx:Option AV} {Ns Lu vmx:Option Value} (uV:mW E w lo Ns) (Ah:mW E w jc Lu) (hmx:mW E w mx vmx) (hmh:mx.isSome->jc.isSome) {r:dN}
   (h:kM σ i.size x lo jc mx (bU i.size x lo jc mx)=some r):Sound P G own E w σ p (Instr.sliceAt t v Ns Lu vmx) r:=by
 cases hs:bU i.size x lo jc mx with
 | some c =>
   rw [hs] at h
   refine Sound.fD (oc:=some c) h fun c' hc' => ?_
   simp only [Option.some.injEq] at hc';subst hc'
   exact yt hi hu dt hx uV Ah hmx hmh hs
 | none =>
   rw [hs] at h
   simp only [kM] at h
   split at h
   . rename_i id k' off len hh
     split at h
     . rename_i bk hb
       split at h
       . rename_i hc
         obtain ⟨ho,hk⟩:=hc
         simp only [Option.map_eq_some_iff] at h
         obtain ⟨c,hc,rfl⟩:=h
         simp only [aL] at hx
         obtain ⟨g,N,cap,hm,rfl,h1,h2,h3,h4⟩:=hx
         obtain ⟨g',N',cur,Ll,hB⟩:=hi.blk id bk hb
         have hμ := hB.μ
         rw [hμ] at hm
         simp only [Option.some.injEq,Prod.mk.injEq] at hm
         obtain ⟨rfl,rfl,rfl⟩:=hm
         simp only [Bool.false_eq_true,if_false] at h4
         have hl:=hB.len
         have hx':aL E w (.osl id bk.k off (bk.els.length-off) false) (.slice (some ⟨g',off*bk.k,none⟩) (bk.els.length-off) cap):=by
           simp only [aL]
           exact ⟨g',N',cap,hμ,rfl,by omega,h2,h3,by simpa using h4⟩
         have acO:vmx=none:=by cases vmx with | none=>rfl | some _=>exact (hmx:False).elim
         subst acO
         obtain ⟨v,w',E',hrun,hp⟩:=yt (p:=p) hi hu dt hx' uV Ah (mx:=none) (vmx:=none) hmx (by simp) hc
         cases Lu with
         | none=>exact (Ah:False).elim
         | some u =>
           refine ⟨v,w',E', ?_,⟨hp.Cr,hp.inv,hp.rep,hp.ids⟩⟩
           rw [<- hrun]
           simp [Instr.sliceAt,Instr.slice,run_underlying hu,Instr.sliceBounds]
       . simp at h
     . simp at h
   . rename_i hh km m
     split at h
     . rename_i n hn
       split at h
       . rename_i l r' hb
         split at h
         . rename_i hc
           simp only [Option.some.injEq] at h;subst h
           obtain ⟨h1,h2⟩:=hc
           have TB:m=((m.toNat:Nat):Int):=by omega
           obtain ⟨a,cap,rfl,F2⟩:∃ a cap,v = .slice a n cap/\n<=cap:=by
             unfold Pn at hn
             split at hn
             . simp only [Option.some.injEq] at hn;subst hn
               simp only [aL] at hx;exact ⟨_,_,hx,Nat.le_refl _⟩
             . split at hn
               . simp only [Option.some.injEq] at hn;subst hn
                 simp only [aL] at hx;obtain ⟨a,cap,rfl,h,_⟩:=hx;exact ⟨_,_,rfl,h⟩
               . simp at hn
             . split at hn
               . simp only [Option.some.injEq] at hn;subst hn
                 simp only [aL] at hx;obtain ⟨a,rfl,_⟩:=hx;exact ⟨_,_,rfl,Nat.le_refl _⟩
               . simp at hn
             . split at hn
               . simp only [Option.some.injEq] at hn;subst hn
                 simp only [aL] at hx;obtain ⟨g,N,cap,_,rfl,h,_⟩:=hx;exact ⟨_,_,rfl,h⟩
               . simp at hn
             . simp at hn
           unfold cJ at hb
           split at hb
           . simp at hb
           . rename_i Lm e1
             split at hb
             . simp at hb
             . rename_i l1 e2
               simp only [Option.some.injEq,Prod.mk.injEq] at hb
               obtain ⟨rfl,rfl⟩:=hb
               obtain ⟨qF,_,_⟩:=iQ (P:=P) (isSlice:=true) (len:=n) (cap:=cap) (m:=m.toNat) uV Ah hmx F2 e1 e2 (.inr ⟨km,by rw [<- TB],by simp,by omega,by omega⟩)
               refine ⟨.slice (if m.toNat=l1 then a else a.map (·.add (l1*i.size))) (Lm-l1) (m.toNat-l1),w,E, ?_,⟨Adv.refl own E w,hi,by simp only [aL],fun _ _=>rfl⟩⟩
               simp [Instr.sliceAt,Instr.slice,run_underlying hu,qF,eO dt]
         . simp at h
       . simp at h
     . simp at h
   . simp at h
theorem Ly {f:FuncId} {fn:Func} {e:Array Value->Sem Value} {c:Call} {a:Act} {o:Oper} (hop:o.op = .call c) (vD:c.callee = .value (.func f)) (hf:P.funcs[f]? = some fn) (sC:(fn.name == "runtime.NumGoroutine")=false)
   (hb:fn.body.isNone=true) (hn:Extern.findNext fn=none) (he:Extern.find fn=some e) {v:Value} {w':World} (hrun:(e (c.args.map a.eval)).run P w = .ok v w') :
   (execOp a.eval o).run P w = .ok (.value v) w':=by
 have h1:=run_callFunc_extern hf sC hb hn he (c.args.map a.eval) w
 rw [hrun] at h1
 simp only [Result.andThen] at h1
 have e0:a.eval (.func f) = .func (.func f) #[] #[]:=rfl
 simp [execOp,hop,resolve,vD,e0,Deferred.ofValue,invoke,h1]
theorem EI {fo : Operand} {k:Tt} (h:Po P fo=some k):∃ f fn,fo = .func f/\P.funcs[f]? = some fn/\fn.body.isNone=true /\
   ((k = .idx/\fn.name = "internal/bytealg.IndexByteString" /\ fn.origin = "")∨(k = .ovl/\fn.origin = "slices.overlaps" /\ vB fn.name=true/\∃ t e i,fn.params[0]? = some t/\P.underlying t=some (.slice e)/\P.info? e=some i)):=by
 unfold Po at h
 split at h
 . rename_i f
   split at h
   . rename_i fn F9
     split at h
     . rename_i hb
       refine ⟨f,fn,rfl,F9,hb, ?_⟩
       split at h
       . rename_i hn
         simp only [Option.some.injEq] at h
         simp only [Bool.and_eq_true,beq_iff_eq] at hn
         exact .inl ⟨h.symm,hn.1,hn.2⟩
       . split at h
         . rename_i ho
           simp only [Bool.and_eq_true,beq_iff_eq] at ho
           split at h
           . rename_i t ht
             split at h
             . rename_i e he
               split at h
               . rename_i hi
                 simp only [Option.some.injEq] at h
                 obtain ⟨i,hi⟩:=Option.isSome_iff_exists.1 hi
                 exact .inr ⟨h.symm,ho.1,ho.2,t,e,i,ht,he,hi⟩
               . simp at h
             . simp at h
           . simp at h
         . simp at h
     . simp at h
   . simp at h
 . simp at h
theorem Nu {fn:Func} (hf:vB fn.name=true) (ho:fn.origin = "slices.overlaps"):Extern.findNext fn=none/\Extern.find fn=some (Extern.SlicesOverlaps.overlaps fn.params fn.resultTypes):=by
 unfold vB at hf
 simp only [Bool.and_eq_true,Option.isNone_iff_eq_none] at hf
 obtain ⟨⟨⟨⟨h1,h2⟩,h3⟩,h4⟩,_⟩:=hf
 have o1:Extern.allGenericRows.lookup "slices.overlaps" = none:=by kernel_rfl
 have o2:Extern.allTypedRows.lookup "slices.overlaps" = some Extern.SlicesOverlaps.overlaps:=by kernel_rfl
 have o4:Extern.allNextRows.lookup "slices.overlaps" = none:=by kernel_rfl
 constructor
 . simp [Extern.findNext,h4,ho,o4]
 . simp [Extern.find,h1,h2,h3,ho,o1,o2]
theorem PF {fn:Func} (hn:fn.name = "internal/bytealg.IndexByteString") (ho:fn.origin = ""):Extern.findNext fn=none/\Extern.find fn=some Extern.BytealgIndexByte.indexByte:=by
 have o1:Extern.allGenericRows.lookup "internal/bytealg.IndexByteString" = none:=by kernel_rfl
 have o2:Extern.allTypedRows.lookup "internal/bytealg.IndexByteString" = none:=by kernel_rfl
 have o3:Extern.allRows.lookup "internal/bytealg.IndexByteString" = some Extern.BytealgIndexByte.indexByte:=by kernel_rfl
 have o4:Extern.allNextRows.lookup "internal/bytealg.IndexByteString" = none:=by kernel_rfl
 have o5:Extern.allNextRows.lookup "" = none:=by kernel_rfl
 constructor
 . simp [Extern.findNext,hn,ho,o4,o5]
 . simp [Extern.find,hn,o1,o2,o3]
theorem Cx:∀ (l:List UInt8) (c:UInt8),Lib.indexByte l c=qU l c
 | [],_=>rfl
 | b::l,c=>by simp only [Lib.indexByte,qU,Cx l c]
theorem Nv {c:Call} {a:Act} {o:Oper} {fo x y:Operand} (hop:o.op = .call c) (vD:c.callee = .value fo) (hk:Po P fo=some .idx) (kO:c.args.toList=[x,y]) (hi:Inv G own E w σ) {vx vy:AV}
   (hx:aL E w vx (a.eval x)) (hy:aL E w vy (a.eval y)) {r:dN} (h:bI (Pm vx vy)=some r):eF P G own E w σ p r (execOp a.eval o):=by
 obtain ⟨f,fn,rfl,F9,hb,hh⟩:=EI hk
 rcases hh with ⟨_,hn,ho⟩ | ⟨h0,_⟩
 case inr=>simp at h0
 have key:∃ s n,vx = .str s/\vy = .int .u8 n/\r={ val := .int .i64 (qU s n.toNat.toUInt8) }:=by
   unfold Pm at h
   split at h
   . simp only [bI,Option.map_some,Option.some.injEq] at h
     exact ⟨_,_,rfl,rfl,h.symm⟩
   . simp [bI] at h
 clear h
 obtain ⟨s,n,rfl,rfl,rfl⟩:=key
 . simp only [aL] at hx hy
   obtain ⟨WJ,PG⟩:=PF hn ho
   have Zn:c.args.map a.eval = #[.string ⟨s.toArray⟩, .int .u8 n]:=by
     apply Array.ext'
     simp [kO,hx,hy]
   refine ⟨.int .i64 (qU s n.toNat.toUInt8),w,E, .inl (Ly hop vD F9 (by rw [hn];rfl) hb WJ PG ?_),⟨Adv.refl own E w,hi,by simp only [aL],fun _ _=>rfl⟩⟩
   rw [Zn,Lib.run_indexByteString,Cx]
theorem TC (params res:Array TypeId) {tS e:TypeId} {i:TypeInfo} (hp:params[0]? = some tS) (ht:P.underlying tS=some (.slice e)) (dt:P.info? e=some i)
   (a b:Addr) (la ca lb cb:Nat) (hne:a.block≠b.block) {WK TD:Array Value} {tA tB:TypeId} (ha:w.heap[a.block]? = some (.cells WK tA (0,0))) (hb:w.heap[b.block]? = some (.cells TD tB (0,0))) (hkB:TD.size≠0) :
   (Extern.SlicesOverlaps.overlaps params res #[.slice (some a) la ca, .slice (some b) lb cb]).run P w = .ok (.bool false) w:=by
 have Tf:(a.block != b.block)=true:=by simpa using hne
 have acP:(a.block==b.block)=false:=by simpa using hne
 have hsa:w.shape? a.block=some (tA,WK.size):=by simp [World.shape?,ha]
 have hsb:w.shape? b.block=some (tB,TD.size):=by simp [World.shape?,hb]
 have hfa:w.frozen? a=false:=by simp [World.frozen?,ha]
 have Hd:w.frozen? { block:=a.block,off:=WK.size }=false:=by simp [World.frozen?,ha]
 have hz:(Go.sizeOf e).run P w = .ok i.size w:=eO dt w
 change Sem.run P (α := Value) (do
   let some t:=params[0]? | stuck "slices.overlaps: no parameter types"
   let .slice elem <- underlying t | stuck "slices.overlaps: slice type expected"
   let size <- sizeOf elem
   match (some a:Option Addr),(some b:Option Addr) with
   | some a,some b =>
     if la=0∨lb=0∨size=0 then pure (Value.bool false)
     else if a.block != b.block&&(<- frozen a)&&(<- frozen b) then unsupported .addressObserved
     else do
       if a.block != b.block then do
         noView a;noView b
         if <- mayBeOne a b then return Value.bool ((<- choose (.extern "sameAddr.stringBytes" 2))==1)
       pure (Value.bool (a.block==b.block&&a.off<b.off+lb*size&&b.off<a.off+la*size))
   | _,_=>pure (Value.bool false)) w=_
 rw [hp]
 by_cases h0:la=0∨lb=0∨i.size=0
 . simp [run_underlying ht,hz,h0]
 . cases hk:TD.size with
   | zero=>exact absurd hk hkB
   | succ kB =>
     simp [run_underlying ht,hz,h0,Tf,acP,frozen,noView,viewAt,mayBeOne,stringish,shape,Sem.run,hsa,hsb,hfa,Hd,hk]
theorem Nw {c:Call} {a:Act} {o:Oper} {fo x y:Operand} (hop:o.op = .call c) (vD:c.callee = .value fo) (hk:Po P fo=some .ovl) (kO:c.args.toList=[x,y]) (hi:Inv G own E w σ) {vx vy:AV}
   (hx:aL E w vx (a.eval x)) (hy:aL E w vy (a.eval y)) {r:dN} (h:G8 σ vx vy=some r):eF P G own E w σ p r (execOp a.eval o):=by
 obtain ⟨f,fn,rfl,F9,hb,hh⟩:=EI hk
 rcases hh with ⟨h0,_⟩ | ⟨_,ho,hnf,tS,e,i,hp,ht,dt⟩
 case inl=>simp at h0
 unfold G8 at h
 split at h
 . rename_i id1 k1 o1 l1 t1 VE k2 o2 l2 t2
   split at h
   . simp at h
   . rename_i hne
     split at h
     . rename_i b1 b2 h1 h2
       split at h
       . rename_i oy
         simp only [Option.some.injEq] at h;subst h
         simp only [aL] at hx hy
         obtain ⟨g1,N1,c1,G2,px,_⟩:=hx
         obtain ⟨g2,N2,c2,tp,tr,_⟩:=hy
         obtain ⟨g1',N1',agl,ty1,hB1⟩:=hi.blk id1 b1 h1
         obtain ⟨g2',N2',WL,ty2,uJ⟩:=hi.blk VE b2 h2
         have hg:g1≠g2:=hi.inj id1 VE _ _ (by simp [h1]) (by simp [h2]) hne G2 tp
         rw [hB1.μ] at G2
         rw [uJ.μ] at tp
         simp only [Option.some.injEq,Prod.mk.injEq] at G2 tp
         obtain ⟨rfl,_,_⟩:=G2
         obtain ⟨rfl,_,_⟩:=tp
         obtain ⟨WJ,PG⟩:=Nu hnf ho
         have sC:(fn.name == "runtime.NumGoroutine")=false:=by
           unfold vB at hnf
           simp only [Bool.and_eq_true,Bool.not_eq_true'] at hnf
           exact hnf.2
         have Zn:c.args.map a.eval = #[.slice (some ⟨g1',o1*k1,none⟩) l1 c1, .slice (some ⟨g2',o2*k2,none⟩) l2 c2]:=by
           apply Array.ext'
           simp [kO,px,tr]
         have hsz:WL.size≠0:=by
           rw [uJ.size]
           have hl:=uJ.len
           exact Nat.ne_of_gt (Nat.mul_pos (by omega) oy.1)
         refine ⟨.bool false,w,E, .inl (Ly hop vD F9 sC hb WJ PG ?_),⟨Adv.refl own E w,hi,by simp only [aL],fun _ _=>rfl⟩⟩
         rw [Zn]
         exact TC fn.params fn.resultTypes hp ht dt _ _ _ _ _ _ hg hB1.heap uJ.heap hsz
       . simp at h
     . simp at h
 . simp at h
theorem Eg (hi:Inv G own E w σ) (hμ : E.μ p=none) (hσ : σ p=none) {t:List AV} {a:Act} (hf:cn E w t a) {b:Builtin} {args:Array Operand} {ts:Array TypeId} {ty:TypeId} {cs:Array Bool} {vo:gB aT}
   (hc:yp P b args ts=some vo) {r:dN} (h:b8 σ p (vo.map (aT.ev G t))=some r) {R:Prop}
   (fin:∀ {s:Sem Value},builtin b ts ty cs (args.map a.eval)=(do pure (.value (<- s)))->Sound P G own E w σ p s r->R):R:=by
 unfold yp at hc
 split at hc
 . -- len
   rename_i x tx kO TE
   have nP:args = #[x]:=by apply Array.ext';simpa using kO
   have Gc:ts = #[tx]:=by apply Array.ext';simpa using TE
   refine fin (s:=Builtin.len_ ts ty (args.map a.eval)) rfl ?_
   rw [nP,Gc]
   split at hc
   . rename_i hu
     simp only [Option.map_eq_some_iff] at hc;obtain ⟨va,zX,rfl⟩:=hc
     simp only [gB.map,b8] at h
     have hr:=aZ hf hi zX
     refine Sound.fD h fun cc hcc => ?_
     cases hx:va.ev G t<;>simp only [hx,jM,Option.some.injEq,reduceCtorEq] at hcc
     rename_i l
     rw [hx] at hr
     simp only [aL] at hr
     subst hcc
     refine Sound.same (v := .int .i64 l.length) hi ?_ (by simp only [aL])
     have hsz:(ByteArray.mk l.toArray).size=l.length:=by show l.toArray.size=l.length;simp
     simp [Builtin.len_,run_underlying hu,hr,goInt,hsz]
   . rename_i e hu
     simp only [Option.map_eq_some_iff] at hc;obtain ⟨va,zX,rfl⟩:=hc
     simp only [gB.map,b8] at h
     have hr:=aZ hf hi zX
     refine Sound.fD h fun cc hcc => ?_
     have hrun:∀ (ad:Option Addr) (n c:Nat),a.eval x = .slice ad n c->(Builtin.len_ #[tx] ty (#[x].map a.eval)).run P w = .ok (.int .i64 n) w:=by
       intro ad n c he
       simp [Builtin.len_,run_underlying hu,he,goInt]
     cases hx:va.ev G t<;>simp only [hx,jM,Option.some.injEq,reduceCtorEq] at hcc<;>rw [hx] at hr<;>simp only [aL] at hr<;>subst hcc
     . obtain ⟨ad,cap,he,_⟩:=hr
       exact Sound.same hi (hrun _ _ _ he) (by simp only [aL])
     . obtain ⟨ad,he,_⟩:=hr
       exact Sound.same hi (hrun _ _ _ he) (by simp only [aL])
     . exact Sound.same hi (hrun _ _ _ hr) (by simp only [aL];rfl)
     . obtain ⟨g,N,cap,_,he,_⟩:=hr
       exact Sound.same hi (hrun _ _ _ he) (by simp only [aL])
   . rename_i n e hu
     simp only [Option.map_eq_some_iff] at hc;obtain ⟨va,zX,rfl⟩:=hc
     simp only [gB.map,b8] at h
     refine Sound.fD h fun cc hcc => ?_
     simp only [Option.some.injEq] at hcc;subst hcc
     refine Sound.same (v := .int .i64 n) hi ?_ (by simp only [aL])
     simp [Builtin.len_,run_underlying hu,goInt]
   . simp at hc
 . -- append
   rename_i s x t1 t2 kO TE
   have nP:args = #[s,x]:=by apply Array.ext';simpa using kO
   have Gc:ts = #[t1,t2]:=by apply Array.ext';simpa using TE
   refine fin (s:=Builtin.append_ ts ty (args.map a.eval)) rfl ?_
   rw [nP,Gc]
   split at hc
   . rename_i e hu
     split at hc
     . rename_i i dt
       split at hc
       . rename_i hh
         obtain ⟨Cy,_,_,hz⟩:=hh
         obtain ⟨e',JW⟩:=Ee Cy
         split at hc
         . rename_i vs vx Lz ku
           simp only [Option.some.injEq] at hc;subst hc
           simp only [gB.map,b8] at h
           obtain ⟨v,w',E',hr,hp⟩:=Gb (ty:=ty) hi hμ hσ hu dt hz (aZ hf hi Lz) (aZ hf hi ku) h
           refine ⟨v,w',E', ?_,hp⟩
           rw [<- hr, <- Ak (ty:=ty) hu JW]
           simp
         . simp at hc
       . split at hc
         . rename_i kn z vs vx TF hz Lz ku
           split at hc
           . rename_i oy
             simp only [Option.some.injEq] at hc;subst hc
             simp only [gB.map,b8] at h
             have:=Kc (P:=P) (ty:=ty) hi hμ hσ hu dt TF hz oy (aZ hf hi Lz) (aZ hf hi ku) h
             simpa using this
           . simp at hc
         . simp at hc
     . simp at hc
   . simp at hc
 . -- cap
   rename_i x tx kO TE
   have nP:args = #[x]:=by apply Array.ext';simpa using kO
   have Gc:ts = #[tx]:=by apply Array.ext';simpa using TE
   refine fin (s:=Builtin.cap_ ts ty (args.map a.eval)) rfl ?_
   rw [nP,Gc]
   split at hc
   . rename_i e hu
     simp only [Option.map_eq_some_iff] at hc;obtain ⟨va,zX,rfl⟩:=hc
     simp only [gB.map,b8] at h
     have hr:=aZ hf hi zX
     rcases Kd h with h | ⟨id,k,off,len,bk,hx,hid,agn,rfl⟩
     case inr =>
       rw [hx] at hr;simp only [aL] at hr
       obtain ⟨g,N,cap,EG,hv,h1,h2,h3,h4⟩:=hr
       obtain ⟨g',N',cur,Ll,hB⟩:=hi.blk id bk hid
       rw [hB.μ] at EG
       simp only [Option.some.injEq,Prod.mk.injEq] at EG
       obtain ⟨rfl,_,rfl⟩:=EG
       refine Sound.same (v := .int .i64 cap) hi (by simp [Builtin.cap_,run_underlying hu,hv,goInt]) ?_
       simp only [aL]
       have:=hB.len
       simp only [Bool.false_eq_true,if_false] at h4
       exact ⟨cap,by omega,rfl⟩
     refine Sound.fD h fun cc hcc => ?_
     have hrun:∀ (ad:Option Addr) (n c:Nat),a.eval x = .slice ad n c->(Builtin.cap_ #[tx] ty (#[x].map a.eval)).run P w = .ok (.int .i64 c) w:=by
       intro ad n c he
       simp [Builtin.cap_,run_underlying hu,he,goInt]
     unfold Nh at hcc
     split at hcc
     . rename_i hx
       rw [hx] at hr;simp only [aL] at hr
       simp only [Option.some.injEq] at hcc;subst hcc
       exact Sound.same hi (hrun _ _ _ hr) (by simp only [aL];rfl)
     . rename_i hx
       rw [hx] at hr;simp only [aL] at hr
       simp only [Option.some.injEq] at hcc;subst hcc
       obtain ⟨ad,he,_⟩:=hr
       exact Sound.same hi (hrun _ _ _ he) (by simp only [aL])
     . rename_i hx
       rw [hx] at hr;simp only [aL,if_true] at hr
       simp only [Option.some.injEq] at hcc;subst hcc
       obtain ⟨g,N,cap,_,he,_,_,_,Cw⟩:=hr
       subst Cw
       exact Sound.same hi (hrun _ _ _ he) (by simp only [aL])
     . simp at hcc
   . simp at hc
 . -- clear
   rename_i x tx kO TE
   have nP:args = #[x]:=by apply Array.ext';simpa using kO
   have Gc:ts = #[tx]:=by apply Array.ext';simpa using TE
   refine fin (s:=Builtin.clear_ ts ty (args.map a.eval)) rfl ?_
   rw [nP,Gc]
   split at hc
   . rename_i e hu
     split at hc
     . rename_i z vx hz ku
       split at hc
       . rename_i oy
         simp only [Option.some.injEq] at hc;subst hc
         simp only [gB.map,b8] at h
         have:=Hg (P:=P) (p:=p) (ty:=ty) hi hu hz oy (aZ hf hi ku) h
         simpa using this
       . simp at hc
     . simp at hc
   . simp at hc
 . -- copy
   rename_i d x t1 t2 kO TE
   have nP:args = #[d,x]:=by apply Array.ext';simpa using kO
   have Gc:ts = #[t1,t2]:=by apply Array.ext';simpa using TE
   refine fin (s:=Builtin.copy_ ts ty (args.map a.eval)) rfl ?_
   rw [nP,Gc]
   split at hc
   . rename_i e hu
     split at hc
     . rename_i i dt
       split at hc
       . split at hc
         . rename_i vd vx hvd ku
           simp only [Option.some.injEq] at hc;subst hc
           simp only [gB.map,b8] at h
           have:=Ka (P:=P) (p:=p) (ty:=ty) (t2:=t2) hi hu dt (aZ hf hi hvd) (aZ hf hi ku) h
           simpa using this
         . simp at hc
       . simp at hc
     . simp at hc
   . simp at hc
 . -- min
   rename_i x y kO
   have nP:args = #[x,y]:=by apply Array.ext';simpa using kO
   refine fin (s:=Builtin.min_ ts ty (args.map a.eval)) rfl ?_
   rw [nP]
   split at hc
   . rename_i vx vy ku Gd
     simp only [Option.some.injEq] at hc;subst hc
     simp only [gB.map,b8] at h
     have TG:=aZ hf hi ku
     have TH:=aZ hf hi Gd
     split at h
     . rename_i k n k' m hx hy
       rw [hx] at TG;rw [hy] at TH
       simp only [aL] at TG TH
       refine Sound.fD h fun cc hcc => ?_
       simp only [Option.some.injEq] at hcc;subst hcc
       refine Sound.same (v := .int k (if m<n then m else n)) hi ?_ (by simp only [aL])
       simp [Builtin.min_,TG,TH,Builtin.min2]
     . simp at h
   . simp at hc
 . -- max
   rename_i x y kO
   have nP:args = #[x,y]:=by apply Array.ext';simpa using kO
   refine fin (s:=Builtin.max_ ts ty (args.map a.eval)) rfl ?_
   rw [nP]
   split at hc
   . rename_i vx vy ku Gd
     simp only [Option.some.injEq] at hc;subst hc
     simp only [gB.map,b8] at h
     have TG:=aZ hf hi ku
     have TH:=aZ hf hi Gd
     split at h
     . rename_i k n k' m hx hy
       rw [hx] at TG;rw [hy] at TH
       simp only [aL] at TG TH
       refine Sound.fD h fun cc hcc => ?_
       simp only [Option.some.injEq] at hcc;subst hcc
       refine Sound.same (v := .int k (if m>n then m else n)) hi ?_ (by simp only [aL])
       simp [Builtin.max_,TG,TH,Builtin.max2]
     . simp at h
   . simp at hc
 . simp at hc
theorem yx:∀ {ys:List AV} {l:List UInt8},bytesOf ys=some l->∃ zs:List Int,ys=zs.map (AV.int .u8)/\l=zs.map fun n=>UInt8.ofNat n.toNat
 | [],l,h=>by simp only [bytesOf,Option.some.injEq] at h;subst h;exact ⟨[],rfl,rfl⟩
 | .int .u8 n::r,l,h=>by
   simp only [bytesOf,Option.map_eq_some_iff] at h
   obtain ⟨l',h1,rfl⟩:=h
   obtain ⟨zs,rfl,rfl⟩:=yx h1
   exact ⟨n::zs,rfl,rfl⟩
theorem EJ (k:IntKind):∀ zs:List Int,flat (zs.map (AV.int k))=zs.map (AV.int k)
 | []=>rfl
 | z::zs=>by have:=EJ k zs;simp only [List.map_cons,flat,List.flatMap_cons,AV.cells] at this ⊢;rw [this];rfl
theorem Cz (hi:Inv G own E w σ) {src dst e:TypeId} (hs:P.underlying src=some (.slice e)) (he:P.underlying e=some (.int .u8)) (hd:P.underlying dst=some .string) {x:AV} {v:Value} (hx:aL E w x v) {r:dN} (h:mI σ x=some r) :
   Sound P G own E w σ p (convert src dst v) r:=by
 unfold mI at h
 split at h
 . rename_i ys rd vz
   simp only [Option.map_eq_some_iff] at h
   obtain ⟨l,hl,rfl⟩:=h
   obtain ⟨zs,rfl,rfl⟩:=yx hl
   obtain ⟨_,a,cap,rfl,hle,hr⟩:=wK hi hx vz
   refine Sound.same (v := .string ⟨(zs.map fun n=>UInt8.ofNat n.toNat).toArray⟩) hi ?_ (by simp [aL])
   rcases hr with hr | ⟨b,o,rfl,hr⟩
   . have hz:zs=[]:=by simpa using hr
     subst hz
     rw [run_convert_bytes_string w src dst e _ _ _ hs he hd]
     cases a with
     | none=>simp [Conv.bytesToString];rfl
     | some a =>
       rw [run_bytesToString w a _ _ [] (by simp [loadCells,loadCellsFrom])]
       rfl
   . rw [EJ] at hr
     have:=run_convert_bytes_arg (P:=P) w src e hs he b o zs.length cap zs rfl (fun i LA=>by
       obtain ⟨v,h1,h2⟩:=hr i (.int .u8 zs[i]) (by rw [List.getElem?_map,List.getElem?_eq_getElem LA];rfl)
       simp only [aL] at h2
       subst h2
       have WM:(⟨b,o,none⟩:Addr).add i=⟨b,o+i,none⟩:=by simp [Addr.add]
       first | rw [WM] at h1 | skip
       rw [h1,List.getD_eq_getElem?_getD,List.getElem?_eq_getElem LA];rfl) dst hd
     simpa [strOfNums] using this
 . simp at h
theorem Nx (hi:Inv G own E w σ) (hμ : E.μ p=none) (hσ : σ p=none) {t:List AV} {a:Act} (hf:cn E w t a) {o:Oper} {vo:gB aT} (hc:mP P o.op=some vo) {r:dN}
   (h:b8 σ p (vo.map (aT.ev G t))=some r):eF P G own E w σ p r (execOp a.eval o):=by
 unfold execOp
 cases ho:o.op<;>rw [ho] at hc<;>simp only []
 case move x =>
   simp only [mP,Option.map_eq_some_iff] at hc;obtain ⟨va,zX,rfl⟩:=hc
   simp only [gB.map,b8,bI,Option.map_some,Option.some.injEq] at h;subst h
   exact ⟨a.eval x,w,E, .inl rfl,Adv.refl own E w,hi,aZ hf hi zX,fun _ _=>rfl⟩
 case assign x =>
   simp only [mP,Option.map_eq_some_iff] at hc;obtain ⟨va,zX,rfl⟩:=hc
   simp only [gB.map,b8,bI,Option.map_some,Option.some.injEq] at h;subst h
   exact ⟨a.eval x,w,E, .inl rfl,Adv.refl own E w,hi,aZ hf hi zX,fun _ _=>rfl⟩
 case pick c x y =>
   simp only [mP] at hc
   cases TI:cL c with
   | none=>simp [TI] at hc
   | some vc =>
   cases ku:cL x with
   | none=>simp [TI,ku] at hc
   | some vx =>
   cases Gd:cL y with
   | none=>simp [TI,ku,Gd] at hc
   | some vy =>
     simp only [TI,ku,Gd,Option.some.injEq] at hc;subst hc
     simp only [gB.map,b8] at h
     have Tw:=aZ hf hi TI
     have TG:=aZ hf hi ku
     have TH:=aZ hf hi Gd
     split at h
     . rename_i b hb
       rw [hb] at Tw
       simp only [aL] at Tw
       simp only [bI,Option.map_some,Option.some.injEq] at h;subst h
       refine ⟨if b then a.eval x else a.eval y,w,E, .inl (by simp [Tw,asBool]),Adv.refl own E w,hi, ?_,fun _ _=>rfl⟩
       cases b
       . exact TH
       . exact TG
     . simp at h
 case alloc ty =>
   simp only [mP,Option.map_eq_some_iff] at hc;obtain ⟨z,hz,rfl⟩:=hc
   simp only [gB.map,b8,aT.ev] at h
   obtain ⟨it,zv,hit,JU,Nq,Lr,Ls⟩:=kZ hz
   split at h
   . simp only [Option.some.injEq] at h;subst h
     have:=EE (P:=P) (p:=p) hi hμ hσ (iC Nq) Ls ty
     refine eF.of ?_
     obtain ⟨v,w',E',hr,hp⟩:=this
     refine ⟨v,w',E', ?_,hp⟩
     simp only [Instr.alloc,Sem.run_bind,xq hit JU,Result.andThen_ok]
     exact hr
   . rename_i hno;exact absurd Ls hno
 case box ty x =>
   simp only [mP,Option.map_eq_some_iff] at hc;obtain ⟨va,zX,rfl⟩:=hc
   simp only [gB.map,b8] at h
   split at h
   . rename_i xJ
     simp only [Option.some.injEq] at h;subst h
     exact eF.of (EE hi hμ hσ (aZ hf hi zX) xJ ty)
   . simp at h
 case build ty ps=>exact eF.of (Hb hi hf hc h)
 case buildSlice ty n ps=>exact eF.of (Ea hi hμ hσ hf hc h)
 case load ty x =>
   simp only [mP] at hc
   cases ha:nO P ty with
   | none=>simp [ha] at hc
   | some g =>
   cases BO:P.info? ty with
   | none=>simp [ha,BO] at hc
   | some i =>
   cases ku:cL x with
   | none=>simp [ha,BO,ku] at hc
   | some vx =>
     simp only [ha,BO,ku] at hc
     split at hc
     . simp only [Option.some.injEq] at hc;subst hc
       simp only [gB.map,b8] at h
       exact eF.of (Ha hi ha BO (aZ hf hi ku) h)
     . simp at hc
 case store ty x y =>
   simp only [mP] at hc
   cases BO:P.info? ty with
   | none=>simp [BO] at hc
   | some i =>
   cases ku:cL x with
   | none=>simp [BO,ku] at hc
   | some vx =>
   cases Gd:cL y with
   | none=>simp [BO,ku,Gd] at hc
   | some vy =>
     simp only [BO,ku,Gd,Option.some.injEq] at hc;subst hc
     simp only [gB.map,b8] at h
     exact eF.ofU (FZ hi BO (aZ hf hi ku) (aZ hf hi Gd) h)
 case nilCheck x =>
   simp only [mP,Option.map_eq_some_iff] at hc;obtain ⟨va,zX,rfl⟩:=hc
   simp only [gB.map,b8] at h
   have hr:=aZ hf hi zX
   split at h
   . rename_i id e q hx
     simp only [bI,Option.map_some,Option.some.injEq] at h;subst h
     rw [hx] at hr ⊢
     have Ag:=hr
     simp only [aL] at hr
     obtain ⟨g,k,N,hm,he⟩:=hr
     exact ⟨a.eval x,w,E, .inl (by rw [he];rfl),Adv.refl own E w,hi,Ag,fun _ _=>rfl⟩
   . rename_i cs q hx
     simp only [bI,Option.map_some,Option.some.injEq] at h;subst h
     rw [hx] at hr ⊢
     have Ag:=hr
     simp only [aL] at hr
     obtain ⟨b,q,he,_⟩:=hr
     exact ⟨a.eval x,w,E, .inl (by rw [he];rfl),Adv.refl own E w,hi,Ag,fun _ _=>rfl⟩
   . rename_i f l1 l2 hx
     simp only [bI,Option.map_some,Option.some.injEq] at h;subst h
     rw [hx] at hr ⊢
     have Ag:=hr
     simp only [aL] at hr
     obtain ⟨xs,ys,he,_⟩:=hr
     exact ⟨a.eval x,w,E, .inl (by rw [he];rfl),Adv.refl own E w,hi,Ag,fun _ _=>rfl⟩
   . simp at h
 case binOp op ty x y Ll =>
   simp only [mP] at hc
   cases BN:Ni P ty with
   | none=>simp [BN] at hc
   | some sh =>
   cases ku:cL x with
   | none=>simp [BN,ku] at hc
   | some vx =>
   cases Gd:cL y with
   | none=>simp [BN,ku,Gd] at hc
   | some vy =>
     simp only [BN,ku,Gd,Option.some.injEq] at hc;subst hc
     simp only [gB.map,b8] at h
     refine eF.of (Sound.fD h fun c hcc => ?_)
     unfold bo at hcc
     split at hcc
     . rename_i c' acR
       simp only [Option.some.injEq] at hcc;subst hcc
       obtain ⟨h1,h2,h3,h4⟩:=Py (P:=P) BN acR (aZ hf hi ku) (aZ hf hi Gd)
       refine Sound.same hi ?_ (EA h2)
       simp only [Sem.run_bind,yr op ty x y _ _ h3 h4,Result.andThen_ok]
       exact h1
     . obtain ⟨⟨q,h1,h2⟩,h3,h4⟩:=Nn (P:=P) BN hcc (aZ hf hi ku) (aZ hf hi Gd)
       refine Sound.same (v := .bool q) hi ?_ h1
       simp only [Sem.run_bind,yr op ty x y _ _ h3 h4,Result.andThen_ok]
       exact h2
 case unOp op ty x =>
   simp only [mP,Option.map_eq_some_iff] at hc;obtain ⟨va,zX,rfl⟩:=hc
   simp only [gB.map,b8] at h
   refine eF.of (Sound.fD h fun c hcc => ?_)
   obtain ⟨h1,h2⟩:=Tv (P:=P) hcc (aZ hf hi zX)
   exact Sound.same hi h1 (EA h2)
 case convert src dst x =>
   simp only [mP] at hc
   split at hc
   . rename_i k1 k2 h1 h2
     simp only [Option.map_eq_some_iff] at hc;obtain ⟨va,zX,rfl⟩:=hc
     simp only [gB.map,b8] at h
     have hr:=aZ hf hi zX
     split at h
     . rename_i k n hx
       rw [hx] at hr
       simp only [aL] at hr
       simp only [bI,Option.map_some,Option.some.injEq] at h;subst h
       refine eF.of (Sound.same (v := .int k2 (k2.wrap n)) hi ?_ (by simp [aL]))
       rw [hr]
       simp [convert,run_underlying h1,run_underlying h2,Conv.intToInt]
     . simp at h
   . rename_i h1 h2
     simp only [Option.map_eq_some_iff] at hc;obtain ⟨va,zX,rfl⟩:=hc
     simp only [gB.map,b8] at h
     have hr:=aZ hf hi zX
     split at h
     . rename_i l hx
       rw [hx] at hr h
       have Ag:=hr
       simp only [aL] at hr
       simp only [bI,Option.map_some,Option.some.injEq] at h;subst h
       refine eF.of (Sound.same hi ?_ Ag)
       rw [hr]
       simp [convert,run_underlying h1,run_underlying h2]
     . simp at h
   . rename_i e h1 h2
     split at hc
     . rename_i he
       simp only [Option.map_eq_some_iff] at hc;obtain ⟨va,zX,rfl⟩:=hc
       simp only [gB.map,b8] at h
       exact eF.of (Cz hi h1 he h2 (aZ hf hi zX) h)
     . simp at hc
   . simp at hc
 case makeFunc fn first cap =>
   simp only [mP] at hc
   cases h1:Cq first with
   | none=>simp [h1] at hc
   | some va =>
   cases h2:Cq cap with
   | none=>simp [h1,h2] at hc
   | some vc =>
     simp only [h1,h2,Option.some.injEq] at hc;subst hc
     simp only [gB.map,b8,bI,Option.map_some,Option.some.injEq] at h;subst h
     refine eF.of (Sound.same (v := .func fn (first.map a.eval) (cap.map a.eval)) hi (by simp [Instr.makeFunc]) ?_)
     simp only [aL]
     exact ⟨_,_,rfl,Ae hf hi h1,Ae hf hi h2⟩
 case makeSlice ty l c =>
   simp only [mP] at hc
   cases hu:P.underlying ty with
   | none=>simp [hu] at hc
   | some d =>
   cases d<;>simp only [hu,reduceCtorEq] at hc
   rename_i e
   cases dt:P.info? e with
   | none=>simp [dt] at hc
   | some i =>
   cases hz:lS P e with
   | none=>simp [dt,hz] at hc
   | some z =>
   cases uG:cL l with
   | none=>simp [dt,hz,uG] at hc
   | some vl =>
   cases TI:cL c with
   | none=>simp [dt,hz,uG,TI] at hc
   | some vc =>
     simp only [dt,hz,uG,TI] at hc
     split at hc
     . rename_i hh
       simp only [Option.some.injEq] at hc;subst hc
       simp only [gB.map,b8] at h
       exact eF.of (J6 hi hμ hσ hu dt hz hh.1 (aZ hf hi uG) (aZ hf hi TI) h)
     . simp at hc
 case slice ty x lo jc mx =>
   simp only [mP] at hc
   cases hu:P.underlying ty with
   | none=>simp [hu] at hc
   | some d =>
   cases d<;>simp only [hu,reduceCtorEq] at hc
   case string =>
     cases ku:cL x with
     | none=>simp [ku] at hc
     | some vx =>
     cases uG:Ac lo with
     | none=>simp [ku,uG] at hc
     | some vl =>
     cases TJ:Ac jc with
     | none=>simp [ku,uG,TJ] at hc
     | some vh =>
     cases mx with
     | some _=>simp [ku,uG,TJ] at hc
     | none =>
       simp only [ku,uG,TJ,Option.some.injEq] at hc;subst hc
       simp only [gB.map,b8] at h
       refine eF.of (Sound.fD h fun c hcc => ?_)
       exact Ec hi hu (aZ hf hi ku) (vC hf hi uG) (vC hf hi TJ) hcc
   case slice e =>
     cases dt:P.info? e with
     | none=>simp [dt] at hc
     | some i =>
     cases ku:cL x with
     | none=>simp [dt,ku] at hc
     | some vx =>
     cases uG:Ac lo with
     | none=>simp [dt,ku,uG] at hc
     | some vl =>
     cases TJ:Ac jc with
     | none=>simp [dt,ku,uG,TJ] at hc
     | some vh =>
     cases Zj:Ac mx with
     | none=>simp [dt,ku,uG,TJ,Zj] at hc
     | some vm =>
       simp only [dt,ku,uG,TJ,Zj] at hc
       split at hc
       . rename_i hh
         simp only [Option.some.injEq] at hc;subst hc
         simp only [gB.map,b8] at h
         exact eF.of (Ef hi hu dt (aZ hf hi ku) (vC hf hi uG) (vC hf hi TJ) (vC hf hi Zj) (by simpa using hh) h)
       . simp at hc
 case fieldAddr s x f =>
   simp only [mP] at hc
   cases hu:P.underlying s with
   | none=>simp [hu] at hc
   | some d =>
   cases d<;>simp only [hu,reduceCtorEq] at hc
   rename_i fs
   cases WN:fs[f]? with
   | none=>simp [WN] at hc
   | some fd =>
   simp only [WN] at hc
   cases dt:P.info? fd.type with
   | none=>simp [dt] at hc
   | some i =>
   cases ku:cL x with
   | none=>simp [dt,ku] at hc
   | some vx =>
     simp only [dt,ku] at hc
     split at hc
     . simp at hc
     . rename_i h0
       simp only [Option.some.injEq] at hc;subst hc
       exact eF.of (He hi hu WN dt h0 (aZ hf hi ku) h)
 case field s x f =>
   simp only [mP] at hc
   cases hu:P.underlying s with
   | none=>simp [hu] at hc
   | some d =>
   cases d<;>simp only [hu,reduceCtorEq] at hc
   rename_i fs
   cases WN:fs[f]? with
   | none=>simp [WN] at hc
   | some fd =>
   simp only [WN] at hc
   cases Pa:nO P fd.type with
   | none=>simp [Pa] at hc
   | some g =>
   cases dt:P.info? fd.type with
   | none=>simp [Pa,dt] at hc
   | some i =>
   cases ku:cL x with
   | none=>simp [Pa,dt,ku] at hc
   | some vx =>
     simp only [Pa,dt,ku,Option.some.injEq] at hc;subst hc
     simp only [gB.map,b8] at h
     have hr:=aZ hf hi ku
     split at h
     . rename_i cs hx
       rw [hx] at hr
       simp only [aL] at hr
       obtain ⟨xs,he,hr⟩:=hr
       refine eF.of (Sound.fD h fun c hcc => ?_)
       obtain ⟨v,hv,wW⟩:=Hf (P:=P) Pa dt hr hcc
       refine Sound.same hi ?_ wW
       rw [he]
       simp [Instr.field,run_underlying hu,WN,asAgg,hv]
     . simp at h
 case indexAddr ty x ix =>
   simp only [mP] at hc
   cases hu:P.underlying ty with
   | none=>simp [hu] at hc
   | some d =>
   cases d<;>simp only [hu,reduceCtorEq] at hc
   case slice e =>
     cases dt:P.info? e with
     | none=>simp [dt] at hc
     | some i =>
     cases ku:cL x with
     | none=>simp [dt,ku] at hc
     | some vx =>
     cases Ke:cL ix with
     | none=>simp [dt,ku,Ke] at hc
     | some vi =>
       simp only [dt,ku,Ke,Option.some.injEq] at hc;subst hc
       simp only [gB.map,b8] at h
       refine eF.of (Sound.fD h fun c hcc => ?_)
       exact F6 hi hu dt (aZ hf hi ku) (aZ hf hi Ke) hcc
   case array n e =>
     cases dt:P.info? e with
     | none=>simp [dt] at hc
     | some i =>
     cases ku:cL x with
     | none=>simp [dt,ku] at hc
     | some vx =>
     cases Ke:cL ix with
     | none=>simp [dt,ku,Ke] at hc
     | some vi =>
       simp only [dt,ku,Ke,Option.some.injEq] at hc;subst hc
       simp only [gB.map,b8] at h
       refine eF.of (Sound.fD h fun c hcc => ?_)
       exact F7 hi hu dt (aZ hf hi ku) (aZ hf hi Ke) hcc
 case index ty x ix =>
   simp only [mP] at hc
   cases hu:P.underlying ty with
   | none=>simp [hu] at hc
   | some d =>
   cases d<;>simp only [hu,reduceCtorEq] at hc
   case string =>
     cases ku:cL x with
     | none=>simp [ku] at hc
     | some vx =>
     cases Ke:cL ix with
     | none=>simp [ku,Ke] at hc
     | some vi =>
       simp only [ku,Ke,Option.some.injEq] at hc;subst hc
       simp only [gB.map,b8] at h
       have hr:=aZ hf hi ku
       have PI:=aZ hf hi Ke
       split at h
       . rename_i s k n hx hn
         rw [hx] at hr;rw [hn] at PI
         simp only [aL] at hr PI
         split at h
         . rename_i h0
           refine eF.of (Sound.fD h fun c hcc => ?_)
           simp only [Option.map_eq_some_iff] at hcc
           obtain ⟨b,hb,rfl⟩:=hcc
           refine Sound.same (v := .int .u8 b.toNat) hi ?_ (by simp [aL])
           rw [hr,PI]
           have VD:(ByteArray.mk s.toArray)[n.toNat]? = some b:=by
             have hlt:=(List.getElem?_eq_some_iff.1 hb)
             obtain ⟨h1,h2⟩:=hlt
             rw [getElem?_pos (ByteArray.mk s.toArray) n.toNat (by simpa [ByteArray.size] using h1)]
             congr 1
           simp [Instr.index,run_underlying hu,asIntOf,h0,VD]
         . simp at h
       . simp at h
   case array n e =>
     cases Pa:nO P e with
     | none=>simp [Pa] at hc
     | some g =>
     cases dt:P.info? e with
     | none=>simp [Pa,dt] at hc
     | some i =>
     cases ku:cL x with
     | none=>simp [Pa,dt,ku] at hc
     | some vx =>
     cases Ke:cL ix with
     | none=>simp [Pa,dt,ku,Ke] at hc
     | some vi =>
       simp only [Pa,dt,ku,Ke,Option.some.injEq] at hc;subst hc
       simp only [gB.map,b8] at h
       have hr:=aZ hf hi ku
       have PI:=aZ hf hi Ke
       split at h
       . rename_i cs k m hx hn
         rw [hx] at hr;rw [hn] at PI
         simp only [aL] at hr PI
         obtain ⟨xs,he,hr⟩:=hr
         split at h
         . rename_i h0
           refine eF.of (Sound.fD h fun c hcc => ?_)
           obtain ⟨v,hv,wW⟩:=Hf (P:=P) Pa dt hr hcc
           refine Sound.same hi ?_ wW
           rw [he,PI]
           simp [Instr.index,run_underlying hu,asIntOf,h0,eO dt,hv]
         . simp at h
       . simp at h
 case extract x i =>
   simp only [mP,Option.map_eq_some_iff] at hc;obtain ⟨va,zX,rfl⟩:=hc
   simp only [gB.map,b8] at h
   have hr:=aZ hf hi zX
   split at h
   . rename_i vs hx
     rw [hx] at hr
     simp only [aL] at hr
     obtain ⟨xs,he,hr⟩:=hr
     refine eF.of (Sound.fD h fun c hcc => ?_)
     obtain ⟨v,hv,wW⟩:=(bz.1 hr).2 i c hcc
     refine Sound.same hi ?_ wW
     rw [he]
     simp at hv
     simp [Instr.extract,hv]
   . simp at h
 case call c =>
   simp only [mP] at hc
   cases vD:c.callee with
   | value f =>
     simp only [vD] at hc
     split at hc
     . split at hc
       . simp only [Option.some.injEq] at hc;subst hc
         simp [gB.map,b8] at h
       . simp at hc
     . rename_i k hk
       unfold Tu at hc
       split at hc
       . rename_i x y kO
         split at hc
         . rename_i vx vy ku Gd
           simp only [Option.some.injEq] at hc;subst hc
           cases k with
           | idx =>
             simp only [gB.map,b8] at h
             have hh:=Nv (p:=p) ho vD hk kO hi (aZ hf hi ku) (aZ hf hi Gd) h
             unfold execOp at hh;simp only [ho] at hh;exact hh
           | ovl =>
             simp only [gB.map,b8] at h
             have hh:=Nw (p:=p) ho vD hk kO hi (aZ hf hi ku) (aZ hf hi Gd) h
             unfold execOp at hh;simp only [ho] at hh;exact hh
         . simp at hc
       . simp at hc
   | invoke _ _=>simp [vD] at hc
   | builtin b =>
     simp only [vD] at hc
     have BP:∀ w,(do let d <- resolve a.eval c o.type;invoke d.target d.args:Sem Next).run P w =
         (builtin b c.argTypes o.type (c.args.map fun | .const _=>true | _=>false) (c.args.map a.eval)).run P w:=by
       intro w;simp [resolve,vD,invoke];rfl
     have fin:∀ {s:Sem Value},builtin b c.argTypes o.type (c.args.map fun | .const _=>true | _=>false) (c.args.map a.eval)=(do pure (.value (<- s)))->Sound P G own E w σ p s r ->
         eF P G own E w σ p r (do let d <- resolve a.eval c o.type;invoke d.target d.args):=by
       intro s he hs
       obtain ⟨v,w',E',hr,hp⟩:=hs
       exact ⟨v,w',E', .inl (by rw [BP,he];simp [hr]),hp⟩
     exact Eg hi hμ hσ hf hc h fin
 all_goals simp [mP] at hc
theorem PJ (hi:Inv G own E w σ) (hμ : E.μ p=none) (hσ : σ p=none) {t:List AV} {a:Act} (hf:cn E w t a) {o:Oper} {vo:gB aT} (hc:Vy P o.op=some vo) {r:dN}
   (h:b8 σ p (vo.map (aT.ev G t))=some r):eF P G own E w σ p r (execOp a.eval o):=by
 unfold Vy at hc
 split at hc
 . rename_i v hv
   simp only [Option.some.injEq] at hc;subst hc
   exact Nx hi hμ hσ hf hv h
 . simp only [Option.some.injEq] at hc;subst hc
   simp [gB.map,b8] at h
end
end Go.VL
end

section
namespace Go.VL
def aB (P:Program) (G:Nat->Option (List AV)) (f:FuncId) (args:List AV) (p:Id) (S:List (Id × dC)) (r:dN):Prop :=
 (∃ fn,P.funcs[f]? = some fn/\(fn.name == "runtime.NumGoroutine")=false/\fn.body.isSome=true) /\
 ∀ own E w σ vs,(∀ x∈S, σ x.1=some x.2)->Inv G own E w σ -> aM E w args vs->(∀ j,p <:+ j->E.μ j=none) ->
   Calls P f vs.toArray w fun e w'=>∃ v E',e = .returned v/\kY G own E w σ p r v E' w'
def jO (P:Program) (G:Nat->Option (List AV)) (σ : aa) (p:Id) (op:gB AV) (r:dN):Prop :=
 match op with
 | .call f as=>match f with
   | .fn (.func f) first cap=>∃ S,aB P G f (first++as++cap) p S r/\(∀ x∈S, σ x.1=some x.2)/\∀ x∈S,x.1∈r.rd
   | _=>False
 | op=>b8 σ p op=some r
def fK (t:List AV) (d:Option Nat) (v:AV):List AV:=match d with | some d=>t.set d v | none=>t
def eP (t:List AV):Option (Nat × Bool)->Option Bool
 | none=>some true
 | some (d,want)=>match t[d]? with
   | some (.bool b)=>some (b==want)
   | some .top | some .anyb=>none
   | _=>some false
section
variable {P:Program} {G:Nat->Option (List AV)} {own:Nat->Prop} {E:Env} {w:World} {σ : aa} {p:Id}
theorem cn.keep {E':Env} {w':World} {t:List AV} {a:Act} (h:cn E w t a) (s:Step E E' w w'):cn E' w' t a:=aM.keep s t _ h
theorem cn.put {t:List AV} {a:Act} (h:cn E w t a) {c:AV} {v:Value} (hv:aL E w c v) (d:Option Nat):cn E w (fK t d c) (a.put d v):=by
 cases d with
 | none=>exact h
 | some d =>
   obtain ⟨hl,hp⟩:=bz.1 h
   refine bz.2 ⟨by simpa [fK,Act.put] using hl,fun j c' hj => ?_⟩
   simp only [fK,List.getElem?_set] at hj
   simp only [Act.put,Array.toList_setIfInBounds,List.getElem?_set]
   split at hj
   . rename_i e
     subst e
     split at hj
     . rename_i hlt
       simp only [Option.some.injEq] at hj;subst hj
       exact ⟨v,by rw [if_pos rfl,if_pos (by omega)],hv⟩
     . simp at hj
   . rename_i e
     rw [if_neg e]
     exact hp j c' hj
theorem cn.at? {t:List AV} {a:Act} (h:cn E w t a) (d:Nat):(t[d]? = none/\a.tmps[d]? = none)∨∃ c v,t[d]? = some c/\a.tmps[d]? = some v/\aL E w c v:=by
 obtain ⟨hl,hp⟩:=bz.1 h
 by_cases hd:d<t.length
 . right
   obtain ⟨v,hv,hr⟩:=hp d t[d] (by simp [hd])
   exact ⟨t[d],v,by simp [hd],by simpa using hv,hr⟩
 . left
   have:a.tmps.size<=d:=by have:=hl;simp at this;omega
   exact ⟨by simp;omega,by simp;omega⟩
theorem Ge {c:AV} {v:Value} (h:aL E w c v) (h1:∀ b,c ≠ .bool b) (h2:c ≠ .top) (h3:c ≠ .anyb):∀ b,v ≠ .bool b:=by
 intro b e
 subst e
 cases c<;>simp only [aL,reduceCtorEq,exists_const,false_and,and_false] at h
 . exact h1 _ rfl
 all_goals first
   | exact h2 rfl
   | exact h3 rfl
   | (obtain ⟨_,_,h,_⟩:=h;cases h)
   | (obtain ⟨_,h,_⟩:=h;cases h)
   | (obtain ⟨_,_,h⟩:=h;cases h)
theorem tD {ops:Array Oper} {o:Oper} {vo:bp} (hc:xn P ops o=some vo) {t:List AV} {a:Act} (hf:cn E w t a) {b:Bool} (h:eP t vo.guard=some b):Region.wanted o (yielded ops a.tmps)=b:=by
 unfold xn at hc
 cases hop:Vy P o.op with
 | none=>simp [hop] at hc
 | some op =>
   simp only [hop] at hc
   cases hg:o.guard with
   | none =>
     simp only [hg,Option.some.injEq] at hc;subst hc
     simp only [eP,Option.some.injEq] at h;subst h
     simp [Region.wanted,hg]
   | some jw =>
     obtain ⟨j,want⟩:=jw
     simp only [hg] at hc
     cases hd:(ops[j]?).bind (·.dst) with
     | none=>simp [hd] at hc
     | some d =>
       simp only [hd,Option.some.injEq] at hc;subst hc
       simp only [eP] at h
       simp only [Region.wanted,hg,yielded,hd,Option.bind_some]
       rcases hf.at? d with ⟨h1,h2⟩ | ⟨c,v,h1,h2,hr⟩
       . simp only [h1,Option.some.injEq] at h;subst h
         simp [h2]
       . simp only [h1] at h
         simp only [h2]
         cases c with
         | bool b' =>
           simp only [Option.some.injEq] at h;subst h
           simp only [aL] at hr;subst hr
           simp
         | top=>simp at h
         | anyb=>simp at h
         | _ =>
           simp only [Option.some.injEq] at h;subst h
           have Tf:=Ge hr (by simp) (by simp) (by simp)
           cases v<;>simp at Tf ⊢
theorem Hh {ops:Array Oper} {o:Oper} {vo:bp} (hc:xn P ops o=some vo):Vy P o.op=some vo.op/\vo.dst=o.dst:=by
 unfold xn at hc
 cases hop:Vy P o.op with
 | none=>simp [hop] at hc
 | some op =>
   simp only [hop] at hc
   split at hc
   . simp only [Option.some.injEq] at hc;subst hc;simp_all
   . split at hc
     . simp only [Option.some.injEq] at hc;subst hc;simp_all
     . simp at hc
   . simp_all
theorem TK {k:Tt} {l:List Operand} (f:aT) (as:List aT):Tu k l≠some (.call f as):=by
 unfold Tu
 split
 . split
   . cases k<;>simp
   . simp
 . simp
theorem CA (hi:Inv G own E w σ) (hμ : ∀ j,p <:+ j->E.μ j=none) {t:List AV} {a:Act} (hf:cn E w t a) {o:Oper} {vo:gB aT} (hc:Vy P o.op=some vo) {r:dN}
   (h:jO P G σ p (vo.map (aT.ev G t)) r) {K:Act->World->Prop} {Q:Exit->Act->World->Prop} (hK:∀ v w' E',kY G own E w σ p r v E' w'->K (a.put o.dst v) w'):o.wp P a w K Q:=by
 have hσ : σ p=none:=by
   cases hs : σ p with
   | none=>rfl
   | some bk=>obtain ⟨g,N,cur,ty,hB⟩:=hi.blk _ _ hs;have:=hB.μ;rw [hμ _ (List.suffix_refl _)] at this;simp at this
 have plain:b8 σ p (vo.map (aT.ev G t))=some r->o.wp P a w K Q:=by
   intro hv
   obtain ⟨v,w',E',hrun,hp⟩:=PJ hi (hμ p (List.suffix_refl _)) hσ hf hc hv
   unfold Oper.wp
   rcases hrun with hrun | ⟨hrun,rfl⟩
   . rw [hrun];exact hK v w' E' hp
   . rw [hrun];exact hK undef w' E' hp
 cases vo with
 | call f as =>
   replace hc:mP P o.op=some (.call f as):=by
     unfold Vy at hc
     split at hc
     . rename_i v hv;rw [hv];exact hc
     . simp at hc
   simp only [gB.map,jO] at h
   split at h
   . rename_i f' fid first cap Hd
     obtain ⟨S,PK,hS,_⟩:=h
     obtain ⟨⟨fn,F9,sC,Zo⟩,PK⟩:=PK
     cases hop:o.op with
     | call c =>
       rw [hop] at hc
       simp only [mP] at hc
       cases vD:c.callee with
       | value fo =>
         simp only [vD] at hc
         split at hc
         case h_2=>exact absurd hc (TK _ _)
         split at hc
         . rename_i vf vas h1 h2
           simp only [Option.some.injEq,gB.call.injEq] at hc
           obtain ⟨rfl,rfl⟩:=hc
           have hrf:=aZ hf hi h1
           rw [Hd] at hrf
           simp only [aL] at hrf
           obtain ⟨xs,ys,hfv,hx,hy⟩:=hrf
           have hra:=Ae hf hi h2
           have kO:aM E w (first++vas.map (aT.ev G t)++cap) (xs.toList++(c.args.map a.eval).toList++ys.toList):=aM.append (aM.append hx hra) hy
           have uU:=PK own E w σ _ hS hi kO hμ
           have hrun:(execOp a.eval o).run P w = .ok (.enter fid (xs++c.args.map a.eval++ys)) w:=by
             have Tf : ¬ fn.body=none:=by intro e;simp [e] at Zo
             have TL : ¬ fn.name = "runtime.NumGoroutine" := by intro e;simp [e] at sC
             simp [execOp,hop,resolve,vD,hfv,Deferred.ofValue,invoke,callFunc,F9,TL,Tf]
           unfold Oper.wp
           rw [hrun,Oper.upon_enter]
           have Zn:(xs.toList++(c.args.map a.eval).toList++ys.toList).toArray=xs++c.args.map a.eval++ys:=by apply Array.ext';simp
           rw [Zn] at uU
           refine uU.mono fun e w' he => ?_
           obtain ⟨v,E',rfl,hp⟩:=he
           exact hK v w' E' hp
         . simp at hc
       | invoke _ _=>simp [vD] at hc
       | builtin b =>
         simp only [vD] at hc
         unfold yp at hc
         split at hc<;>(try split at hc)<;>(try split at hc)<;>(try split at hc)<;>(try split at hc)<;>simp at hc
     | _ =>
       rw [hop] at hc
       simp only [mP] at hc
       exfalso
       revert hc
       clear plain Hd
       intro hc
       first
         | simp at hc
         | (simp only [Option.map_eq_some_iff] at hc;obtain ⟨_,_,hc⟩:=hc;cases hc)
         | ((repeat' split at hc)<;>first | (simp at hc;done) | (simp only [Option.map_eq_some_iff] at hc;obtain ⟨_,_,hc⟩:=hc;cases hc) | (cases hc))
   . exact h.elim
 | _=>exact plain h
end
end Go.VL
end

section
namespace Go.VL
abbrev Done:=Option Nat × dN
def eQ (X:Nat->Bool):List Done->Nat->List AV->List AV
 | [],_,t=>t
 | (d,r)::L,i,t=>eQ X L (i+1) (if X i then fK t d r.val else t)
def gu (X:Nat->Bool):List Done->Nat->aa->aa
 | [],_, σ => σ
 | (_,r)::L,i, σ => gu X L (i+1) (if X i then σ.app r.up else σ)
theorem sD (t:List AV) (d:Option Nat) (v:AV) (s:Nat):(fK t d v)[s]? = if d=some s then (if s<t.length then some v else none) else t[s]? := by
 cases d with
 | none=>simp [fK]
 | some d =>
   simp only [fK,List.getElem?_set,Option.some.injEq]
   by_cases e:d=s
   . subst e;simp
   . simp [e]
theorem Hi (t:List AV) (d:Option Nat) (v:AV):(fK t d v).length=t.length:=by cases d<;>simp [fK]
theorem EK (X:Nat->Bool):∀ (L:List Done) (i:Nat) (t:List AV),(eQ X L i t).length=t.length
 | [],_,_=>rfl
 | (d,r)::L,i,t=>by
   simp only [eQ];rw [EK X L]
   split
   . exact Hi t d r.val
   . rfl
theorem Ny {t t':List AV} {s:Nat} (h:t[s]? = t'[s]?):(s<t.length)=(s<t'.length):=by
 have h1:s<t.length↔t[s]? ≠ none:=by simp
 have h2:s<t'.length↔t'[s]? ≠ none:=by simp
 exact propext (h1.trans ((by rw [h]:t[s]? ≠ none↔t'[s]? ≠ none).trans h2.symm))
theorem qV {X Y:Nat->Bool} {s:Nat}:∀ (L:List Done) (i:Nat) (t t':List AV),t[s]? = t'[s]? -> (∀ k d r,L[k]? = some (d,r)->X (i+k)≠Y (i+k)->d≠some s)->(eQ X L i t)[s]? = (eQ Y L i t')[s]?
 | [],_,_,_,h,_=>h
 | (d,r)::L,i,t,t',h,hd=>by
   simp only [eQ]
   refine qV L (i+1) _ _ ?_ (fun k d' r' hk hne=>hd (k+1) d' r' (by simpa using hk) (by rwa [show i+(k+1)=i+1+k from by omega]))
   by_cases hx:X i=Y i
   . rw [hx]
     split
     . rw [sD,sD];simp only [Ny h,h]
     . exact h
   . have:=hd 0 d r rfl hx
     have e1:(fK t d r.val)[s]? = t[s]? := by rw [sD,if_neg this]
     have e2:(fK t' d r.val)[s]? = t'[s]? := by rw [sD,if_neg this]
     split<;>split<;>simp only [e1,e2,h]
theorem aa.Nz {σ σ':aa} {id:Id} (h : σ id = σ' id):∀ (up:List (Id × Option dC)),(σ.app up) id=(σ'.app up) id:=by
 intro up
 induction up generalizing σ σ' with
 | nil=>exact h
 | cons x up ih =>
   obtain ⟨i,b⟩:=x
   simp only [aa.app]
   refine ih ?_
   simp only [aa.put]
   split<;>first | rfl | exact h
theorem aa.wL {σ : aa} {id:Id}:∀ {up:List (Id × Option dC)},id ∉ up.map (·.1)->(σ.app up) id = σ id:=by
 intro up
 induction up generalizing σ with
 | nil=>intro _;rfl
 | cons x up ih =>
   obtain ⟨i,b⟩:=x
   intro h
   simp only [List.map_cons,List.mem_cons,not_or] at h
   simp only [aa.app]
   rw [ih h.2,aa.bg _ _ _ h.1]
theorem aa.Kf {σ σ':aa} {id:Id}:∀ {up:List (Id × Option dC)},id∈up.map (·.1)->(σ.app up) id=(σ'.app up) id:=by
 intro up
 induction up generalizing σ σ' with
 | nil=>intro h;simp at h
 | cons x up ih =>
   obtain ⟨i,b⟩:=x
   intro h
   simp only [aa.app]
   by_cases vA:id∈up.map (·.1)
   . exact ih vA
   . have he:id=i:=by simpa [vA] using h
     subst he
     rw [aa.wL vA,aa.wL vA,aa.a8,aa.a8]
theorem qW {X Y:Nat->Bool} {id:Id}:∀ (L:List Done) (i:Nat) (σ σ':aa), σ id = σ' id->(∀ k d r,L[k]? = some (d,r)->X (i+k)≠Y (i+k)->id ∉ r.up.map (·.1))->gu X L i σ id=gu Y L i σ' id
 | [],_,_,_,h,_=>h
 | (d,r)::L,i, σ, σ',h,hd=>by
   simp only [gu]
   refine qW L (i+1) _ _ ?_ (fun k d' r' hk hne=>hd (k+1) d' r' (by simpa using hk) (by rwa [show i+(k+1)=i+1+k from by omega]))
   by_cases hx:X i=Y i
   . rw [hx]
     split
     . exact aa.Nz h _
     . exact h
   . have:=hd 0 d r rfl hx
     split<;>split<;>simp only [aa.wL this,h]
theorem CB {X:Nat->Bool} {s:Nat} {r:dN}:∀ (L:List Done) (i j:Nat) (t:List AV),L[j]? = some (some s,r)->X (i+j)=true->(∀ k d r',L[k]? = some (d,r')->j<k->X (i+k)=true->d≠some s) ->
   (eQ X L i t)[s]? = if s<t.length then some r.val else none
 | [],_,_,_,h,_,_=>by simp at h
 | (d,r')::L,i,0,t,h,hx,hd=>by
   simp only [List.getElem?_cons_zero,Option.some.injEq,Prod.mk.injEq] at h
   obtain ⟨rfl,rfl⟩:=h
   simp only [eQ]
   rw [Nat.add_zero] at hx
   rw [if_pos hx]
   have:=qV (X:=X) (Y:=fun _=>false) (s:=s) L (i+1) (fK t (some s) r'.val) (fK t (some s) r'.val) rfl (fun k d r2 hk hne=>hd (k+1) d r2 (by simpa using hk) (by omega) (by
     rw [show i+(k+1)=i+1+k from by omega]
     cases hh:X (i+1+k) with
     | true=>rfl
     | false=>simp [hh] at hne))
   rw [this]
   have none:∀ (L:List Done) (i:Nat) (t:List AV),eQ (fun _=>false) L i t=t:=by
     intro L
     induction L with
     | nil=>intro _ _;rfl
     | cons x L ih=>intro i t;obtain ⟨d,r⟩:=x;simp only [eQ];rw [ih];simp
   rw [none,sD,if_pos rfl]
 | (d,r')::L,i,j+1,t,h,hx,hd=>by
   simp only [eQ]
   have:=CB L (i+1) j (if X i then fK t d r'.val else t) (by simpa using h) (by rwa [show i+1+j=i+(j+1) from by omega])
     (fun k d r2 hk hlt BQ=>hd (k+1) d r2 (by simpa using hk) (by omega) (by rwa [show i+(k+1)=i+1+k from by omega]))
   rw [this]
   split<;>simp [Hi]
theorem CC {X:Nat->Bool} {id:Id} {d:Option Nat} {r:dN} {σ':aa}:∀ (L:List Done) (i j:Nat) (σ : aa),L[j]? = some (d,r)->X (i+j)=true->id∈r.up.map (·.1) ->
   (∀ k d r',L[k]? = some (d,r')->j<k->X (i+k)=true->id ∉ r'.up.map (·.1))->gu X L i σ id=(σ'.app r.up) id
 | [],_,_,_,h,_,_,_=>by simp at h
 | (d',r')::L,i,0, σ,h,hx,vA,hd=>by
   simp only [List.getElem?_cons_zero,Option.some.injEq,Prod.mk.injEq] at h
   obtain ⟨rfl,rfl⟩:=h
   simp only [gu]
   rw [Nat.add_zero] at hx
   rw [if_pos hx]
   have:=qW (X:=X) (Y:=fun _=>false) (id:=id) L (i+1) (σ.app r'.up) (σ.app r'.up) rfl (fun k d r2 hk hne=>hd (k+1) d r2 (by simpa using hk) (by omega) (by
     rw [show i+(k+1)=i+1+k from by omega]
     cases hh:X (i+1+k) with
     | true=>rfl
     | false=>simp [hh] at hne))
   rw [this]
   have none:∀ (L:List Done) (i:Nat) (σ : aa),gu (fun _=>false) L i σ = σ := by
     intro L
     induction L with
     | nil=>intro _ _;rfl
     | cons x L ih=>intro i t;obtain ⟨d,r⟩:=x;simp only [gu];rw [ih];simp
   rw [none]
   exact aa.Kf vA
 | (d',r')::L,i,j+1, σ,h,hx,vA,hd=>by
   simp only [gu]
   exact CC L (i+1) j _ (by simpa using h) (by rwa [show i+1+j=i+(j+1) from by omega]) vA
     (fun k d r2 hk hlt BQ=>hd (k+1) d r2 (by simpa using hk) (by omega) (by rwa [show i+(k+1)=i+1+k from by omega]))
theorem ru {X:Nat->Bool}:∀ (L:List Done) (i:Nat) (t:List AV),(∀ k,k<L.length->X (i+k)=false)->eQ X L i t=t
 | [],_,_,_=>rfl
 | (d,r)::L,i,t,h=>by
   simp only [eQ]
   have:=h 0 (by simp)
   rw [Nat.add_zero] at this
   rw [this]
   exact ru L (i+1) t (fun k hk=>by rw [show i+1+k=i+(k+1) from by omega];exact h (k+1) (by simpa using hk))
theorem ry {X:Nat->Bool}:∀ (L:List Done) (i:Nat) (σ : aa),(∀ k,k<L.length->X (i+k)=false)->gu X L i σ = σ
 | [],_,_,_=>rfl
 | (d,r)::L,i,t,h=>by
   simp only [gu]
   have:=h 0 (by simp)
   rw [Nat.add_zero] at this
   rw [this]
   exact ry L (i+1) t (fun k hk=>by rw [show i+1+k=i+(k+1) from by omega];exact h (k+1) (by simpa using hk))
section
variable (P:Program) (G:Nat->Option (List AV)) (π : Id)
def yy (σ : aa) (p:Id) (op:gB AV) (K:dN->Prop):Prop :=
 match op with
 | .call f as=>match f with
   | .fn (.func f) first cap=>∃ S r,aB P G f (first++as++cap) p S r/\(∀ x∈S, σ x.1=some x.2)/\(∀ x∈S,x.1∈r.rd)/\K r
   | _=>False
 | op=>match b8 σ p op with
   | some r=>K r
   | none=>False
def yz (base:Nat) (K:List AV->aa->Prop):List bp->Nat->List AV->aa->Prop
 | [],_,t, σ => K t σ
 | o::os,i,t, σ => match eP t o.guard with
   | none=>False
   | some false=>yz base K os (i+1) (fK t o.dst (.tup [])) σ
   | some true=>yy P G σ ((base+i) :: π) (o.op.map (aT.ev G t)) fun r=>yz base K os (i+1) (fK t o.dst r.val) (σ.app r.up)
def yA (base:Nat) (K:List dN->List AV->aa->Prop):List bp->Nat->List dN->List AV->aa->Prop
 | [],_,acc,t, σ => K acc.reverse t σ
 | o::os,i,acc,t, σ => match eP t o.guard with
   | none=>False
   | some false=>yA base K os (i+1) ({ val := .tup [] }::acc) (fK t o.dst (.tup [])) σ
   | some true=>yy P G σ ((base+i) :: π) (o.op.map (aT.ev G t)) fun r=>yA base K os (i+1) (r::acc) (fK t o.dst r.val) (σ.app r.up)
def apart (a b:dN):Prop:=(∀ x∈a.up,x.1 ∉ b.rd/\x.1 ∉ b.up.map (·.1))/\∀ x∈b.up,x.1 ∉ a.rd
def ar (rs:List dN) (ps:List (Nat × Nat)):Prop:=∀ q∈ps,∀ a b,rs[q.1]? = some a->rs[q.2]? = some b->apart a b
def yB (base:Nat) (o:bp) (k:Nat) (t:List AV) (σ : aa) (r:dN):Prop :=
 (eP t o.guard=some false/\r={ val := .tup [] })∨(eP t o.guard=some true/\jO P G σ ((base+k) :: π) (o.op.map (aT.ev G t)) r)
end
section
variable {P:Program} {G:Nat->Option (List AV)} {π : Id} {own:Nat->Prop} {E:Env} {w:World} {σ : aa}
theorem CD {σ : aa} {p:Id} {op:gB AV} {K:dN->Prop} (h:yy P G σ p op K):∃ r,jO P G σ p op r/\K r:=by
 unfold yy at h
 cases op with
 | call f as =>
   simp only [] at h
   split at h
   . obtain ⟨S,r,h1,h2,h3,h4⟩:=h
     exact ⟨r,⟨S,h1,h2,h3⟩,h4⟩
   . exact h.elim
 | _ =>
   simp only [] at h
   split at h
   . rename_i r hr;exact ⟨r,hr,h⟩
   . exact h.elim
theorem EL {base:Nat} {K:List dN->List AV->aa->Prop}:∀ {os:List bp} {i:Nat} {acc:List dN} {t:List AV} {σ : aa},yA P G π base K os i acc t σ ->
   ∃ rs:List dN,rs.length=os.length /\
     (∀ k o r,os[k]? = some o->rs[k]? = some r->yB P G π base o (i+k) (eQ (fun m=>m<i+k) ((os.map (·.dst)).zip rs) i t) (gu (fun m=>m<i+k) ((os.map (·.dst)).zip rs) i σ) r) /\
     K (acc.reverse++rs) (eQ (fun _=>true) ((os.map (·.dst)).zip rs) i t) (gu (fun _=>true) ((os.map (·.dst)).zip rs) i σ)
 | [],i,acc,t, σ,h=>⟨[],rfl,by simp,by simpa [yA,eQ,gu] using h⟩
 | o :: os,i,acc,t, σ,h=>by
   have go:∀ r,yB P G π base o i t σ r->yA P G π base K os (i+1) (r::acc) (fK t o.dst r.val) (σ.app r.up) ->
       ∃ rs:List dN,rs.length=(o::os).length /\
         (∀ k o' r,(o::os)[k]? = some o'->rs[k]? = some r->yB P G π base o' (i+k) (eQ (fun m=>m<i+k) (((o::os).map (·.dst)).zip rs) i t) (gu (fun m=>m<i+k) (((o::os).map (·.dst)).zip rs) i σ) r) /\
         K (acc.reverse++rs) (eQ (fun _=>true) (((o::os).map (·.dst)).zip rs) i t) (gu (fun _=>true) (((o::os).map (·.dst)).zip rs) i σ):=by
     intro r hr hv
     obtain ⟨rs,h1,h2,h3⟩:=EL hv
     refine ⟨r::rs,by simp [h1], ?_, ?_⟩
     . intro k o' r' ho Ag
       cases k with
       | zero =>
         simp only [List.getElem?_cons_zero,Option.some.injEq] at ho Ag
         subst ho;subst Ag
         rw [ru _ _ _ (fun k _=>by simp),ry _ _ _ (fun k _=>by simp),Nat.add_zero]
         exact hr
       | succ k =>
         have:=h2 k o' r' (by simpa using ho) (by simpa using Ag)
         simp only [List.map_cons,List.zip_cons_cons,eQ,gu]
         have hd:decide (i<i+(k+1))=true:=by simp
         rw [if_pos hd,if_pos hd]
         rw [show i+(k+1)=i+1+k from by omega]
         exact this
     . simpa [eQ,gu] using h3
   simp only [yA] at h
   split at h
   . exact h.elim
   . rename_i hw
     exact go { val := .tup [] } (.inl ⟨hw,rfl⟩) h
   . rename_i hw
     obtain ⟨r,hr,hk⟩:=CD h
     exact go r (.inr ⟨hw,hr⟩) hk
theorem Hj {q q':Nat} {π j:Id} (h:(q :: π) <:+ j) (hne:q≠q') : ¬ (q' :: π) <:+ j:=by
 intro h'
 have:=List.suffix_of_suffix_length_le h h' (by simp)
 obtain ⟨l,hl⟩:=this
 have Lv:l=[]:=by
   have:=congrArg List.length hl
   simp at this;exact this
 subst Lv
 simp at hl
 exact hne hl
theorem kY.frame {p:Id} {r:dN} {v:Value} {E':Env} {w':World} (h:kY G own E w σ p r v E' w') {t:List AV} {a:Act} (hf:cn E w t a) (d:Option Nat):cn E' w' (fK t d r.val) (a.put d v) :=
 (hf.keep h.Cr.step).put h.rep d
theorem EM {t:List AV} {a:Act} (hf:cn E w t a) (d:Option Nat):cn E w (fK t d (.tup [])) (a.put d undef) :=
 hf.put (by simp only [aL,undef];exact ⟨#[],rfl,by simp [aM]⟩) d
theorem qX (a:Act) (d:Option Nat) (v:Value):(a.put d v).defers=a.defers:=by cases d<;>rfl
def xL (E:Env) (π : Id) (n:Nat):Prop:=∀ j, π <:+ j->(∀ q,q<n -> ¬ (q :: π) <:+ j)->E.μ j=none
theorem xL.at {π : Id} {n q:Nat} (h:xL E π n) (hq:n<=q) {j:Id} (hj:(q :: π) <:+ j):E.μ j=none :=
 h j ((List.suffix_cons q π).trans hj) fun q' hq'=>Hj hj (by omega)
theorem xL.mono {π : Id} {n n':Nat} (h:xL E π n) (hn:n<=n'):xL E π n':=fun j hj hq=>h j hj fun q hq'=>hq q (by omega)
theorem xL.step {π : Id} {n:Nat} {E':Env} (h:xL E π n) (TM:∀ i:Id, ¬ (n :: π) <:+ i->E'.μ i=E.μ i):xL E' π (n+1):=fun j hj hq=>by
 rw [TM j (hq n (by omega))];exact h j hj fun q hq'=>hq q (by omega)
theorem xL.self {π : Id} {n:Nat} (h:xL E π n):E.μ π = none :=
 h π (List.suffix_refl _) fun q _ hs=>by have:=hs.length_le;simp at this;omega
structure kC (own:Nat->Prop) (π : Id) (E E':Env) (w w':World):Prop extends Adv own E E' w w' where
 ids:∀ i:Id, ¬ π <:+ i->E'.μ i=E.μ i
theorem kC.refl (own:Nat->Prop) (π : Id) (E:Env) (w:World):kC own π E E w w:=⟨Adv.refl own E w,fun _ _=>rfl⟩
theorem kC.trans {π : Id} {E' Vw:Env} {w' w'':World} (a:kC own π E E' w w') (b:kC own π E' Vw w' w''):kC own π E Vw w w'' :=
 ⟨a.toAdv.trans b.toAdv,fun i hi=>(b.ids i hi).trans (a.ids i hi)⟩
theorem kY.Zp {π : Id} {q:Nat} {r:dN} {v:Value} {E':Env} {w':World} (h:kY G own E w σ (q :: π) r v E' w'):kC own π E E' w w' :=
 ⟨h.Cr,fun i hi=>h.ids i fun hs=>hi ((List.suffix_cons q π).trans hs)⟩
theorem CE {ops:Array Oper} {base:Nat} {K:List AV->aa->Prop} {Q:Exit->Act->World->Prop} :
   ∀ (l:List Oper) (i:Nat),(∀ k,l[k]? = ops[i+k]?)->∀ (vs:List bp),l.mapM (xn P ops)=some vs->∀ (t:List AV) (σ : aa) (a:Act) (E:Env) (w:World),yz P G π base K vs i t σ ->
   cn E w t a->Inv G own E w σ -> xL E π (base+i) ->
   (∀ t' σ' a' E' w',K t' σ'->kC own π E E' w w'->cn E' w' t' a'->Inv G own E' w' σ'->xL E' π (base+i+l.length)->a'.defers=a.defers->Q .normal a' w') ->
   wpOps P ops Q ((List.range' i l.length)) a w
 | [],i,_,vs,hm,t, σ,a,E,w,hv,hf,hi,yC,hQ=>by
   simp at hm;subst hm
   simp only [yz] at hv
   simp only [List.length_nil,List.range'_zero,wpOps]
   exact hQ t σ a E w hv (kC.refl own π E w) hf hi yC rfl
 | o :: l,i,hl,vs,hm,t, σ,a,E,w,hv,hf,hi,yC,hQ=>by
   simp only [List.mapM_cons,Option.pure_def,Option.bind_eq_bind,Option.bind_eq_some_iff] at hm
   obtain ⟨vo,xM,vs',Lz,he⟩:=hm
   simp only [Option.some.injEq] at he;subst he
   obtain ⟨hop,PL⟩:=Hh xM
   have hoi:ops[i]? = some o:=by have:=hl 0;simpa using this.symm
   simp only [List.length_cons,List.range'_succ]
   rw [wpOps_cons]
   unfold wpOp
   rw [hoi]
   simp only []
   have rest:∀ (t':List AV) (σ':aa) (a':Act) (E':Env) (w':World),yz P G π base K vs' (i+1) t' σ'->kC own π E E' w w'->cn E' w' t' a'->Inv G own E' w' σ'->xL E' π (base+i+1)->a'.defers=a.defers ->
       wpOps P ops Q (List.range' (i+1) l.length) a' w':=by
     intro t' σ' a' E' w' hv' had Tr jc WO Zq
     refine CE l (i+1) (fun k=>by rw [show i+1+k=i+(k+1) from by omega, <- hl];simp) vs' Lz t' σ' a' E' w' hv' Tr jc (by rw [<- Nat.add_assoc];exact WO) ?_
     intro t2 σ2 a2 E2 w2 hk Gf hf2 EH WQ tE
     exact hQ t2 σ2 a2 E2 w2 hk (had.trans Gf) hf2 EH (by rw [List.length_cons,show base+i+(l.length+1)=base+(i+1)+l.length from by omega];exact WQ) (tE.trans Zq)
   simp only [yz] at hv
   split at hv
   . exact hv.elim
   . rename_i hw
     rw [tD xM hf hw]
     simp only [Bool.false_eq_true,if_false]
     rw [<- PL]
     exact rest _ _ _ E w hv (kC.refl own π E w) (EM hf _) hi (yC.mono (by omega)) (qX _ _ _)
   . rename_i hw
     rw [tD xM hf hw]
     simp only [if_true]
     obtain ⟨r,hr,hk⟩:=CD hv
     left
     refine CA hi (fun j hj=>yC.at (Nat.le_refl _) hj) hf hop hr ?_
     intro v w' E' hp
     rw [<- PL]
     exact rest _ _ _ E' w' hk hp.Zp (hp.frame hf _) hp.inv (yC.step hp.ids) (qX _ _ _)
end
end Go.VL
end

section
namespace Go.VL
theorem EN (f:Nat->Nat) (b:Nat):∀ (l:List Nat) (s:Nat),(l.foldl (fun s i=>s ||| 2 ^ i ||| f i) s).testBit b=true->s.testBit b=true∨∃ e∈l,b=e∨(f e).testBit b=true
 | [],s,h => .inl h
 | i :: l,s,h=>by
   simp only [List.foldl_cons] at h
   rcases EN f b l _ h with h | ⟨e,he,h⟩
   . simp only [Nat.testBit_or,Bool.or_eq_true,Nat.testBit_two_pow,decide_eq_true_eq] at h
     rcases h with (h | h) | h
     . exact .inl h
     . exact .inr ⟨i,by simp, .inl h.symm⟩
     . exact .inr ⟨i,by simp, .inr h⟩
   . exact .inr ⟨e,by simp [he],h⟩
theorem EO:∀ (pz:List (List Nat)) (acc:List Nat),(jG pz acc).length=acc.length+pz.length
 | [],acc=>by simp [jG]
 | l::r,acc=>by simp only [jG];rw [EO r];simp;omega
theorem Al:∀ (pz:List (List Nat)) (acc:List Nat) (k:Nat),k<acc.length->(jG pz acc)[k]? = acc[k]?
 | [],acc,k,_=>by simp [jG]
 | l::r,acc,k,h=>by
   simp only [jG]
   rw [Al r _ k (by simp;omega),List.getElem?_append_left h]
theorem Hk:∀ (pz:List (List Nat)) (acc:List Nat) (j:Nat) (l:List Nat),pz[j]? = some l->∃ NA:List Nat,NA.length=acc.length+j/\(∀ k,k<NA.length->(jG pz acc)[k]? = NA[k]?) /\
   (jG pz acc)[acc.length+j]? = some (l.foldl (fun s i=>s ||| 2 ^ i ||| NA.getD i 0) 0)
 | [],_,_,_,h=>by simp at h
 | l'::r,acc,0,l,h=>by
   simp only [List.getElem?_cons_zero,Option.some.injEq] at h;subst h
   refine ⟨acc,rfl,fun k hk=>Al _ _ k hk, ?_⟩
   simp only [jG]
   rw [Al r _ _ (by simp),List.getElem?_append_right (by omega)]
   simp
 | l'::r,acc,j+1,l,h=>by
   simp only [jG]
   obtain ⟨NA,h1,h2,h3⟩:=Hk r (acc++[l'.foldl (fun s i=>s ||| 2 ^ i ||| acc.getD i 0) 0]) j l (by simpa using h)
   refine ⟨NA,by simp at h1;omega,h2, ?_⟩
   simp only [List.length_append,List.length_singleton] at h3
   rw [show acc.length+(j+1)=acc.length+1+j from by omega]
   exact h3
theorem NB {pz:List (List Nat)} {j b:Nat} (hlt:∀ e∈pz.getD j [],e<j) (h:((jG pz []).getD j 0).testBit b=true):∃ e∈pz.getD j [],b=e∨((jG pz []).getD e 0).testBit b=true:=by
 by_cases hj:j<pz.length
 . obtain ⟨acc,h1,h2,h3⟩:=Hk pz [] j pz[j] (by simp [hj])
   simp only [List.length_nil,Nat.zero_add] at h1 h3
   have hg:(jG pz []).getD j 0=pz[j].foldl (fun s i=>s ||| 2 ^ i ||| acc.getD i 0) 0:=by simp [List.getD,h3]
   rw [hg] at h
   have ho:pz.getD j []=pz[j]:=by simp [List.getD,hj]
   rw [ho] at hlt ⊢
   rcases EN _ b _ _ h with h | ⟨e,he,h⟩
   . simp at h
   . refine ⟨e,he,h.imp id fun h => ?_⟩
     have:(jG pz []).getD e 0=acc.getD e 0:=by
       simp only [List.getD]
       rw [h2 e (by rw [h1];exact hlt e he)]
     rw [this];exact h
 . have:(jG pz []).getD j 0=0:=by
     have:=EO pz []
     simp only [List.getD]
     rw [List.getElem?_eq_none (by simp at this;omega)]
     rfl
   rw [this] at h
   simp at h
theorem Bf {pz:List (List Nat)} {X:Nat->Bool} {n:Nat} (hlt:∀ j,j<n->∀ e∈pz.getD j [],e<j) (hX:∀ k,k<n->X k=true->∀ e∈pz.getD k [],X e=true) :
   ∀ j,j<n->(∀ e∈pz.getD j [],X e=true)->∀ b,((jG pz []).getD j 0).testBit b=true->X b=true:=by
 intro j
 induction j using Nat.strongRecOn with
 | _ j ih =>
   intro hj he b hb
   obtain ⟨e,he1,h⟩:=NB (hlt j hj) hb
   have hej:=hlt j hj e he1
   rcases h with rfl | h
   . exact he b he1
   . exact ih e hej (by omega) (hX e (by omega) (he e he1)) b h
theorem gB.map_congr {α β : Type} {g h : α -> β}:∀ (op:gB α),(∀ x∈op.args,g x=h x)->op.map g=op.map h:=by
 intro op hx
 have hl:∀ (l:List α),(∀ x∈l,x∈op.args)->l.map g=l.map h:=fun l hl=>List.map_congr_left fun x Nt=>hx x (hl x Nt)
 have ho:∀ (l:Option α),(∀ x,l=some x->x∈op.args)->l.map g=l.map h:=by
   intro l hl;cases l with
   | none=>rfl
   | some x=>simp [hx x (hl x rfl)]
 cases op<;>simp only [gB.map,gB.args] at hx hl ho ⊢
 case build z ps=>congr 1;apply List.map_congr_left;intro q hq;rw [hx q.2.2 (List.mem_map.2 ⟨q,hq,rfl⟩)]
 case buildSl k n z ps=>congr 1;apply List.map_congr_left;intro q hq;rw [hx q.2 (List.mem_map.2 ⟨q,hq,rfl⟩)]
 case mkfn fn a c=>rw [hl a (by simp +contextual),hl c (by simp +contextual)]
 case call f as=>rw [hx f (by simp),hl as (by simp +contextual)]
 case slice k x lo hi mx=>rw [hx x (by simp),ho lo (by simp +contextual),ho hi (by simp +contextual),ho mx (by simp +contextual)]
 case sliceS x lo hi=>rw [hx x (by simp),ho lo (by simp +contextual),ho hi (by simp +contextual)]
 all_goals try simp only [List.mem_cons,List.not_mem_nil,or_false,forall_eq_or_imp,forall_eq] at hx
 all_goals simp only [hx]
theorem PM {G:Nat->Option (List AV)} {t t':List AV}:∀ (x:aT),(∀ s,x.Ze=some s->t[s]? = t'[s]?)->x.ev G t=x.ev G t'
 | .t n,h=>by have:=h n rfl;simp [aT.ev,List.getD,this]
 | .c _,_=>rfl
 | .g _,_=>rfl
 | .f _,_=>rfl
theorem rz {σ σ':aa} {k:Nat} {x:AV} {ys:List AV} {rd:List Id} (h:dA σ k x=some (ys,rd)) (hr:∀ id∈rd, σ' id = σ id):dA σ' k x=some (ys,rd):=by
 unfold dA at h ⊢
 split at h
 . exact h
 . exact h
 . exact h
 . rename_i id k' off len t
   skip
   split at h
   . rename_i bk hb
     split at h
     . rename_i hh
       simp only [Option.some.injEq,Prod.mk.injEq] at h
       obtain ⟨rfl,rfl⟩:=h
       have:=hr id (by simp)
       rw [this,hb]
       simp [hh]
     . simp at h
   . simp at h
 . simp at h
theorem Hl {σ : aa} {id:Id} {off k:Nat} {news:List AV} {v:AV} {rd:List Id} {r:dN} (h:uH σ id off k news v rd=some r):r.rd=id::rd:=by
 unfold uH at h
 split at h
 . split at h
   . simp only [Option.some.injEq] at h;subst h;rfl
   . simp at h
 . simp at h
theorem Bg {σ σ':aa} {id:Id} {off k:Nat} {news:List AV} {v:AV} {rd:List Id} {r:dN} (h:uH σ id off k news v rd=some r) (hr:∀ id∈r.rd, σ' id = σ id):uH σ' id off k news v rd=some r:=by
 have Np:=Hl h
 unfold uH at h ⊢
 rw [hr id (by rw [Np];simp)]
 exact h
theorem NC {σ σ':aa} {p:Id} {op:gB AV} {r:dN} (h:b8 σ p op=some r) (hr:∀ id∈r.rd, σ' id = σ id):b8 σ' p op=some r:=by
 cases op with
 | load agg n x =>
   simp only [b8] at h ⊢
   unfold gh at h ⊢
   split at h
   . rename_i id e o
     skip
     cases hb : σ id with
     | none=>simp [hb] at h
     | some bk =>
       simp only [hb] at h
       cases he:bk.els[e]? with
       | none=>simp [he] at h
       | some el =>
         simp only [he,Option.map_eq_some_iff] at h
         obtain ⟨v,hv,rfl⟩:=h
         rw [hr id (by simp),hb]
         simp [he,hv]
   . exact h
   . simp at h
 | store n x v =>
   simp only [b8] at h ⊢
   unfold eL at h ⊢
   split at h
   . rename_i id e o
     skip
     cases hb : σ id with
     | none=>simp [hb] at h
     | some bk =>
       simp only [hb] at h
       cases he:bk.els[e]? with
       | none=>simp [he] at h
       | some el =>
         simp only [he] at h
         split at h
         . rename_i hh
           simp only [Option.some.injEq] at h;subst h
           rw [hr id (by simp),hb]
           simp [he,hh]
         . simp at h
   . simp at h
 | append k bytes s x =>
   simp only [b8] at h ⊢
   unfold b6 at h ⊢
   cases vz:dA σ k x with
   | none=>simp [vz] at h
   | some q =>
     obtain ⟨ys,rd⟩:=q
     simp only [vz] at h
     have xK : ∀ id∈rd,id∈r.rd:=by
       intro id hid
       split at h
       . split at h<;>first | (simp only [Option.some.injEq] at h;subst h;exact hid) | simp at h
       . split at h
         . split at h<;>first | (simp only [Option.some.injEq] at h;subst h;exact hid) | simp at h
         . split at h<;>first | (simp only [Option.some.injEq] at h;subst h;exact hid) | simp at h
         . split at h
           . split at h
             . split at h
               . split at h<;>first | (simp only [Option.some.injEq] at h;subst h;exact List.mem_cons_of_mem _ hid) | (simp at h;done)
               . split at h<;>first | (simp only [Option.some.injEq] at h;subst h;exact List.mem_cons_of_mem _ hid) | (split at h<;>first | (simp only [Option.some.injEq] at h;subst h;exact List.mem_cons_of_mem _ hid) | (simp at h;done))
             . simp at h
           . simp at h
         . simp at h
     rw [rz vz (fun id hid=>hr id (xK id hid))]
     simp only []
     split at h
     . rename_i Kb
       rw [if_pos Kb];exact h
     . rename_i Kb
       rw [if_neg Kb]
       split at h
       . exact h
       . exact h
       . rename_i id k' off len t
         skip
         cases hb : σ id with
         | none=>simp [hb] at h
         | some bk =>
           simp only [hb] at h
           have hid:id∈r.rd:=by
             split at h
             . split at h
               . split at h<;>first | (simp only [Option.some.injEq] at h;subst h;simp;done) | (simp at h;done)
               . split at h<;>first | (simp only [Option.some.injEq] at h;subst h;simp;done) | (split at h<;>first | (simp only [Option.some.injEq] at h;subst h;simp;done) | (simp at h;done))
             . simp at h
           rw [hr id hid,hb]
           exact h
       . simp at h
 | bytesStr x =>
   simp only [b8] at h ⊢
   unfold mI at h ⊢
   cases vz:dA σ 1 x with
   | none=>simp [vz] at h
   | some q =>
     obtain ⟨ys,rd⟩:=q
     simp only [vz,Option.map_eq_some_iff] at h
     obtain ⟨l,hl,rfl⟩:=h
     rw [rz vz hr]
     simp [hl]
 | slice k x lo hi mx =>
   simp only [b8] at h ⊢
   cases hs:bU k x lo hi mx with
   | some v=>rw [hs] at h;exact h
   | none =>
     rw [hs] at h
     simp only [kM] at h ⊢
     split at h
     . rename_i id k' off len hh
       cases hb : σ id with
       | none=>simp [hb] at h
       | some bk =>
         simp only [hb] at h
         split at h
         . rename_i hc
           simp only [Option.map_eq_some_iff] at h
           obtain ⟨v,hv,rfl⟩:=h
           rw [hr id (by simp),hb]
           simp [hc,hv]
         . simp at h
     . exact h
     . simp at h
 | cap x =>
   simp only [b8] at h ⊢
   cases hs:Nh x with
   | some v=>rw [hs] at h;exact h
   | none =>
     rw [hs] at h
     simp only [yo] at h ⊢
     split at h
     . rename_i id k' off len
       cases hb : σ id with
       | none=>simp [hb] at h
       | some bk =>
         simp only [hb] at h
         split at h
         . rename_i hc
           simp only [Option.some.injEq] at h;subst h
           rw [hr id (by simp),hb]
           simp [hc]
         . simp at h
     . simp at h
 | ovl x y =>
   simp only [b8] at h ⊢
   unfold G8 at h ⊢
   split at h
   . rename_i i1 _ _ _ _ i2 _ _ _ _
     split at h
     . simp at h
     . rename_i hne
       cases h1 : σ i1 with
       | none=>simp [h1] at h
       | some b1 =>
         cases h2 : σ i2 with
         | none=>simp [h1,h2] at h
         | some b2 =>
           simp only [h1,h2] at h
           split at h
           . rename_i hp
             simp only [Option.some.injEq] at h;subst h
             simp only [hr i1 (by simp),hr i2 (by simp),h1,h2]
             rw [if_neg hne,if_pos hp]
           . simp at h
   . simp at h
 | clear k z x =>
   simp only [b8] at h ⊢
   unfold xH at h ⊢
   split at h
   . exact h
   . rename_i id k' off len tt
     split at h
     . rename_i h0;simp only [h0,if_true];exact h
     . rename_i h0
       simp only [h0,if_false]
       split at h
       . rename_i hh;rw [if_pos hh];exact Bg h hr
       . simp at h
   . simp at h
 | copy k d x =>
   simp only [b8] at h ⊢
   unfold yn at h ⊢
   cases vz:dA σ k x with
   | none=>simp [vz] at h
   | some q =>
     obtain ⟨ys,rd⟩:=q
     simp only [vz] at h
     have xK:∀ id∈rd,id∈r.rd:=by
       intro id hid
       split at h
       . simp only [Option.some.injEq] at h;subst h;exact hid
       . split at h
         . simp only [Option.some.injEq] at h;subst h;exact hid
         . split at h
           . have:=Hl h;rw [this];exact List.mem_cons_of_mem _ hid
           . simp at h
       . simp at h
     rw [rz vz (fun id hid=>hr id (xK id hid))]
     simp only []
     split at h
     . exact h
     . split at h
       . rename_i h0;rw [if_pos h0];exact h
       . rename_i h0
         rw [if_neg h0]
         split at h
         . rename_i hk;rw [if_pos hk];exact Bg h hr
         . simp at h
     . simp at h
 | _=>exact h
theorem Eh {P:Program} {G:Nat->Option (List AV)} {σ σ':aa} {p:Id} {op:gB AV} {r:dN} (h:jO P G σ p op r) (hr:∀ id∈r.rd, σ' id = σ id):jO P G σ' p op r:=by
 cases op with
 | call f as =>
   simp only [jO] at h ⊢
   split at h
   . obtain ⟨S,h1,h2,h3⟩:=h
     exact ⟨S,h1,fun x hx=>by rw [hr _ (h3 x hx)];exact h2 x hx,h3⟩
   . exact h
 | _=>exact NC h hr
theorem pS {oc:Option AV} {r:dN} (h:bI oc=some r):r.rd=[]/\r.up=[]:=by
 cases oc with
 | none=>simp [bI] at h
 | some c=>simp only [bI,Option.map_some,Option.some.injEq] at h;subst h;exact ⟨rfl,rfl⟩
theorem ND {P:Program} {G:Nat->Option (List AV)} {σ : aa} {p:Id} {op:gB aT} (hp:op.pure=true) {t:List AV} {r:dN} (h:jO P G σ p (op.map (aT.ev G t)) r):r.rd=[]/\r.up=[]:=by
 cases op<;>simp only [gB.pure,Bool.false_eq_true] at hp<;>simp only [gB.map,jO,b8] at h
 all_goals first
   | exact pS h
   | (simp at h;done)
   | (split at h<;>first | exact pS h | (simp at h;done) | (split at h<;>first | exact pS h | (simp at h;done)))
theorem NF {P:Program} {G:Nat->Option (List AV)} {σ : aa} {p:Id} {op:gB aT} (hp:op.rq=true) {t:List AV} {r:dN} (h:jO P G σ p (op.map (aT.ev G t)) r):r.up=[]:=by
 cases op<;>simp only [gB.rq,Bool.false_eq_true] at hp
 case bytesStr =>
   simp only [gB.map,jO,b8] at h
   unfold mI at h
   split at h
   . simp only [Option.map_eq_some_iff] at h;obtain ⟨v,_,rfl⟩:=h;rfl
   . simp at h
 case ovl =>
   simp only [gB.map,jO,b8] at h
   unfold G8 at h
   split at h
   . split at h
     . simp at h
     . split at h
       . split at h
         . simp only [Option.some.injEq] at h;subst h;rfl
         . simp at h
       . simp at h
   . simp at h
 case slice =>
   simp only [gB.map,jO,b8] at h
   unfold kM at h
   split at h
   . exact (pS h).2
   . split at h
     . split at h
       . split at h
         . simp only [Option.map_eq_some_iff] at h;obtain ⟨v,_,rfl⟩:=h;rfl
         . simp at h
       . simp at h
     . split at h
       . split at h
         . split at h
           . simp only [Option.some.injEq] at h;subst h;rfl
           . simp at h
         . simp at h
       . simp at h
     . simp at h
 case cap =>
   simp only [gB.map,jO,b8] at h
   unfold yo at h
   split at h
   . exact (pS h).2
   . split at h
     . split at h
       . split at h
         . simp only [Option.some.injEq] at h;subst h;rfl
         . simp at h
       . simp at h
     . simp at h
 simp only [gB.map,jO,b8] at h
 unfold gh at h
 split at h
 . split at h
   . split at h
     . simp only [Option.map_eq_some_iff] at h;obtain ⟨v,_,rfl⟩:=h;rfl
     . simp at h
   . simp at h
 . simp only [Option.map_eq_some_iff] at h;obtain ⟨v,_,rfl⟩:=h;rfl
 . simp at h
end Go.VL
end
