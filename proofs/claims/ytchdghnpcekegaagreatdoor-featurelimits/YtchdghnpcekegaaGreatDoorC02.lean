/- For the claim of FeatureLimits: parts VL9, VL2S, VL10, VL11, VL12, VL13, VL14. -/
import Derived.Test.YtchdghnpcekegaaGreatDoorC01
import Derived.Lib.AppendZeros
import Derived.Laws.BytesArg
import Derived.Laws.Externs
import Derived.Lib.Bytealg
import Derived.Lib.Overlaps
import Derived.Orders
set_option linter.unusedSimpArgs false
set_option linter.unusedVariables false
section
namespace Go.VL
section
variable {P:Program} {G:Nat->Option (List AV)} {own:Nat->Prop} {E:Env} {w:World} {σ : af} {p:Id}
theorem Jq {len l r:Nat} {lo hi:Option AV} (hb:gO len lo hi=some (l,r)):kN len len hi=some r/\kN 0 r lo=some l:=by
 unfold gO at hb
 split at hb
 . simp at hb
 . rename_i h1 e1
   split at hb
   . simp at hb
   . rename_i l1 e2
     simp only [Option.some.injEq,Prod.mk.injEq] at hb
     obtain ⟨rfl,rfl⟩:=hb
     exact ⟨e1,e2⟩
theorem Hx (s:List UInt8) (l r:Nat):(ByteArray.mk s.toArray).extract l r=⟨((s.take r).drop l).toArray⟩:=by
 apply ByteArray.ext
 rw [ByteArray.data_extract]
 apply Array.ext'
 simp [List.extract_eq_take_drop,List.drop_take]
theorem Hy (hi:Inv G own E w σ) {t:TypeId} (hu:P.underlying t=some .string) {x:AV} {v:Value} (hx:aT E w x v)
   {lo pM:Option AV} {QK OS:Option Value} (yi:nZ E w lo QK) (EE:nZ E w pM OS) {c:AV} (h:vA x lo pM=some c):Sound P G own E w σ p (Instr.sliceAt t v QK OS none) { val:=c }:=by
 unfold vA at h
 split at h
 . rename_i s
   simp only [aT] at hx;subst hx
   split at h
   . rename_i l r hb
     obtain ⟨C0,Bl⟩:=Jq hb
     simp only [Option.some.injEq] at h;subst h
     obtain ⟨ye,C1,Nk⟩:=iY (P:=P) (isSlice:=false) (mx:=none) (vmx:=none) (m:=s.length) yi EE trivial (Nat.le_refl _) C0 Bl (.inl ⟨rfl,rfl⟩)
     refine Sound.same (v := .string ⟨((s.take r).drop l).toArray⟩) hi ?_ (by simp [aT])
     have hsz:(ByteArray.mk s.toArray).size=s.length:=by simp [ByteArray.size]
     simp [Instr.sliceAt,Instr.slice,run_underlying hu,hsz,ye,Hx]
   . simp at h
 . simp at h
theorem Jr {b o k:Nat} {es:List AV} (hk:∀ e∈es,e.size=k) (h:bj E w b o es) {i:Nat} {e:AV} (he:es[i]? = some e):bm E w b (o+i*k) e.cells :=
 eR.2 (Kz hk (dI.1 h) he)
theorem Js (hi:Inv G own E w σ) {t e:TypeId} {i:TypeInfo} (hu:P.underlying t=some (.slice e)) (dD:P.info? e=some i) {x j:AV} {v u:Value} (hx:aT E w x v) (hj:aT E w j u) {c:AV}
   (h:cn i.size x j=some c):Sound P G own E w σ p (Instr.indexAt t v u) { val:=c }:=by
 have hrun:∀ (a:Addr) (len cap:Nat) (k:IntKind) (n:Int),0<=n->n<len->(Instr.indexAt t (.slice (some a) len cap) (.int k n)).run P w = .ok (.pointer (some (a.add (n.toNat*i.size)))) w:=by
   intro a len cap k n h0 h1
   simp [Instr.indexAt,run_underlying hu,asIntOf,h0,h1,eS dD]
 unfold cn at h
 split at h
 . rename_i kk n
   simp only [aT] at hj;subst hj
   have row:∀ {es:List AV} {a:Option Addr} {cap:Nat},(∀ e∈es,e.size=i.size)->(es=[]∨∃ b o,a=some ⟨b,o,none⟩/\E.ok b/\bj E w b o es)->0<=n ->
       (es[n.toNat]?).map (fun e=>AV.ep e.cells 0)=some c->Sound P G own E w σ p (Instr.indexAt t (.slice a es.length cap) (.int kk n)) { val:=c }:=by
     intro es a cap hk vF h0 h
     simp only [Option.map_eq_some_iff] at h
     obtain ⟨el,Bj,rfl⟩:=h
     have hlt:n.toNat<es.length:=(List.getElem?_eq_some_iff.1 Bj).1
     rcases vF with rfl | ⟨b,o,rfl,hb,hr⟩
     . simp at hlt
     . refine Sound.same hi (hrun _ _ cap kk n h0 (by omega)) ?_
       rw [Addr.add_lit]
       simp only [aT]
       exact ⟨b,o+n.toNat*i.size,by simp,hb,Jr hk hr Bj⟩
   split at h
   . rename_i k' es
     simp only [aT] at hx
     obtain ⟨a,cap,rfl,_,_,hk,vF⟩:=hx
     split at h
     . rename_i hh
       obtain ⟨rfl,h0⟩:=hh
       exact row hk vF h0 h
     . simp at h
   . rename_i k' es
     simp only [aT] at hx
     obtain ⟨a,rfl,_,hk,vF⟩:=hx
     split at h
     . rename_i hh
       obtain ⟨rfl,h0⟩:=hh
       exact row hk vF h0 h
     . simp at h
   . rename_i id k' off len tt
     simp only [aT] at hx
     obtain ⟨g,N,cap,hm,rfl,_⟩:=hx
     split at h
     . rename_i hh
       obtain ⟨rfl,h0,h1⟩:=hh
       simp only [Option.some.injEq] at h;subst h
       refine Sound.same hi (hrun _ _ cap kk n h0 h1) ?_
       rw [Addr.add_lit]
       simp only [aT]
       exact ⟨g,i.size,N,hm,by simp [Nat.add_mul]⟩
     . simp at h
   . simp at h
 . simp at h
theorem Jt (hi:Inv G own E w σ) {t e:TypeId} {n:Nat} {i:TypeInfo} (hu:P.underlying t=some (.array n e)) (dD:P.info? e=some i) {x j:AV} {v u:Value} (hx:aT E w x v) (hj:aT E w j u) {c:AV}
   (h:nY n i.size x j=some c):Sound P G own E w σ p (Instr.indexAt t v u) { val:=c }:=by
 unfold nY at h
 split at h
 . rename_i kk m
   simp only [aT] at hj;subst hj
   split at h
   . rename_i hh
     have hrun:∀ a:Addr,(Instr.indexAt t (.pointer (some a)) (.int kk m)).run P w = .ok (.pointer (some (a.add (m.toNat*i.size)))) w:=by
       intro a
       simp [Instr.indexAt,run_underlying hu,asIntOf,hh,eS dD,Instr.sureAddr]
     split at h
     . simp only [Option.some.injEq] at h;subst h
       simp only [aT] at hx
       obtain ⟨g,k,N,hm,rfl⟩:=hx
       refine Sound.same hi (hrun _) ?_
       rw [Addr.add_lit]
       simp only [aT]
       exact ⟨g,k,N,hm,by simp [Nat.add_assoc]⟩
     . simp only [Option.some.injEq] at h;subst h
       simp only [aT] at hx
       obtain ⟨b,q,rfl,hb,hr⟩:=hx
       refine Sound.same hi (hrun _) ?_
       rw [Addr.add_lit]
       simp only [aT]
       exact ⟨b,q,by simp [Nat.add_assoc],hb,hr⟩
     . simp at h
   . simp at h
 . simp at h
theorem KI (hi:Inv G own E w σ) {s:TypeId} {fs:Array Field} {f:Nat} {fd:Field} {i:TypeInfo} (hu:P.underlying s=some (.struct fs)) (hf:fs[f]? = some fd) (dD:P.info? fd.type=some i) (h0:i.size≠0)
   {x:AV} {v:Value} (hx:aT E w x v) {r:eP} (h:bU σ p (.faddr fd.offset x)=some r):Sound P G own E w σ p (Instr.fieldAt s v f) r:=by
 have hrun:∀ a:Addr,(Instr.fieldAt s (.pointer (some a)) f).run P w = .ok (.pointer (some (a.add fd.offset))) w:=by
   intro a
   simp [Instr.fieldAt,run_underlying hu,hf,Instr.sureAddr,fieldPlace,eS dD,h0]
 simp only [bU] at h
 split at h
 . simp only [bu,Option.map_some,Option.some.injEq] at h;subst h
   simp only [aT] at hx
   obtain ⟨g,k,N,hm,rfl⟩:=hx
   refine Sound.same hi (hrun _) ?_
   rw [Addr.add_lit]
   simp only [aT]
   exact ⟨g,k,N,hm,by simp [Nat.add_assoc]⟩
 . simp only [bu,Option.map_some,Option.some.injEq] at h;subst h
   simp only [aT] at hx
   obtain ⟨b,q,rfl,hb,hr⟩:=hx
   refine Sound.same hi (hrun _) ?_
   rw [Addr.add_lit]
   simp only [aT]
   exact ⟨b,q,by simp [Nat.add_assoc],hb,hr⟩
 . simp at h
theorem KJ {t:TypeId} {agg:Bool} {i:TypeInfo} (ha:pa P t=some agg) (dD:P.info? t=some i) {cs:List AV} {xs:Array Value} (hr:bd E w cs xs.toList) {o:Nat} {c:AV} (h:VL.part agg cs o i.size=some c) :
   ∃ v,(Go.part t xs o).run P w = .ok v w/\aT E w c v:=by
 obtain ⟨h1,h2,h3⟩:=S4 h hr
 refine ⟨_, ?_,h1⟩
 cases agg with
 | true=>simp [Go.part,vD ha,eS dD]
 | false =>
   have h1':=h3 rfl
   have:o<xs.size:=by omega
   simp [Go.part,vD ha,this]
theorem zD (hi:Inv G own E w σ) {k:Nat} {x:AV} {v:Value} (hx:aT E w x v) {ys:List AV} {rd:List Id} (h:fT σ k x=some (ys,rd)) :
   (∀ e∈ys,e.size=k)/\∃ a cap,v = .slice a ys.length cap/\ys.length<=cap/\(ys=[]∨∃ b o,a=some ⟨b,o,none⟩/\eH E w b o (flat ys)):=by
 unfold fT at h
 split at h
 . simp only [Option.some.injEq,Prod.mk.injEq] at h
   obtain ⟨rfl,rfl⟩:=h
   simp only [aT] at hx;subst hx
   exact ⟨by simp,none,0,rfl,Nat.le_refl _, .inl rfl⟩
 . rename_i k' es
   split at h
   . rename_i hk
     simp only [Option.some.injEq,Prod.mk.injEq] at h
     obtain ⟨rfl,rfl⟩:=h
     subst hk
     simp only [aT] at hx
     obtain ⟨a,cap,rfl,hl,_,hk,vF⟩:=hx
     exact ⟨hk,a,cap,rfl,hl,vF.imp id fun ⟨b,o,e,_,r⟩=>⟨b,o,e,dI.1 r⟩⟩
   . simp at h
 . rename_i k' es
   split at h
   . rename_i hk
     simp only [Option.some.injEq,Prod.mk.injEq] at h
     obtain ⟨rfl,rfl⟩:=h
     subst hk
     simp only [aT] at hx
     obtain ⟨a,rfl,_,hk,vF⟩:=hx
     exact ⟨hk,a,_,rfl,Nat.le_refl _,vF.imp id fun ⟨b,o,e,_,r⟩=>⟨b,o,e,dI.1 r⟩⟩
   . simp at h
 . rename_i id k' off len tt
   split at h
   . rename_i bk hσ
     split at h
     . rename_i hh
       obtain ⟨rfl,Nl,hle⟩:=hh
       simp only [Option.some.injEq,Prod.mk.injEq] at h
       obtain ⟨rfl,rfl⟩:=h
       obtain ⟨g,N,cur,ty,hB⟩:=hi.blk id bk hσ
       simp only [aT] at hx
       obtain ⟨g',N',cap,hm,rfl,Kt,_⟩:=hx
       rw [hB.μ] at hm
       simp only [Option.some.injEq,Prod.mk.injEq] at hm
       obtain ⟨rfl,_,rfl⟩:=hm
       have Jp:∀ e∈(bk.els.drop off).take len,e.size=k':=fun e he=>by rw [<- Nl];exact hB.k e (List.mem_of_mem_drop (List.mem_of_mem_take he))
       have hlen:((bk.els.drop off).take len).length=len:=by simp;omega
       refine ⟨Jp,some ⟨g,off*k',none⟩,cap,by rw [hlen],by omega, .inr ⟨g,off*k',rfl, ?_⟩⟩
       have:=qQ (l:=off) (r:=off+len) hB.k hB.row (by omega) hle
       rw [Nat.zero_add,Nl] at this
       have e:(bk.els.take (off+len)).drop off=(bk.els.drop off).take len:=by rw [List.drop_take];congr 1;omega
       rwa [e] at this
     . simp at h
   . simp at h
 . simp at h
theorem Ju {b o:Nat} {cs:List AV} (h:eH E w b o cs):∃ vs:List Value,bd E w cs vs/\∀ j v,vs[j]? = some v->w.cell? ((⟨b,o,none⟩:Addr).add j)=some v:=by
 refine ⟨(List.range cs.length).map fun j=>(w.cell? ⟨b,o+j,none⟩).getD undef,bI.2 ⟨by simp,fun j c hj => ?_⟩,fun j v hj => ?_⟩
 . obtain ⟨v,hv,hr⟩:=h j c hj
   have hlt:j<cs.length:=(List.getElem?_eq_some_iff.1 hj).1
   exact ⟨v,by simp [hlt,hv],hr⟩
 . have hlt:j<cs.length:=by have:=(List.getElem?_eq_some_iff.1 hj).1;simpa using this
   obtain ⟨v',hv',_⟩:=h j cs[j] (by simp [hlt])
   simp only [List.getElem?_map,hlt,List.getElem?_range,Option.map_some,Option.some.injEq] at hj
   rw [Addr.add_lit,hv', <- hj,hv']
   rfl
theorem FJ {cs:List AV} {vs:List Value} (h:bd E w cs vs) (h1:∀ c∈cs,c.one=true):∀ v∈vs,v.oneCell'=true:=by
 intro v hv
 obtain ⟨j,hj⟩:=List.mem_iff_getElem?.1 hv
 obtain ⟨hl,hp⟩:=bI.1 h
 have yd:j<cs.length:=by have:=(List.getElem?_eq_some_iff.1 hj).1;omega
 obtain ⟨u,hu,hru⟩:=hp j cs[j] (by simp [yd])
 have:u=v:=by rw [hj] at hu;simpa using hu.symm
 subst this
 exact aT.one hru (h1 _ (by simp))
theorem Bt (hi:Inv G own E w σ) (hμ : E.μ p=none) (hσ : σ p=none) {k n N:Nat} {els:List AV} (hk:∀ e∈els,e.size=k) (hn:els.length=n) {vs:List Value} (hv:bd E w (flat els) vs)
   {rest:Array Value} (hr:rest.size=(N-n)*k) (hnN:n<=N) (hN:N<=maxLen) (ty:TypeId) {rd:List Id} :
   lD G own E w σ p { val := .osl p k 0 n false,rd:=rd,up:=[(p,some ⟨els,k,false⟩)] } (.slice (some ⟨w.heap.size,0,none⟩) n N) (E.bind p w.heap.size k N) (w.drew.alloc (.cells (vs.toArray++rest) ty)):=by
 have hd:=hi.drew
 obtain ⟨hl,hp⟩:=bI.1 hv
 have FB:=cC hk
 have hstep:Step E E w w.drew:=(Adv.drew (own:=own) E w).step
 have hlen:(vs++rest.toList).length=N*k:=by
   simp only [List.length_append,Array.length_toList,hl,FB,hn,hr, <- Nat.add_mul]
   congr 1;omega
 have:=zA (p:=p) (rd:=rd) hd hμ hσ (els:=els) (k:=k) (N:=N) (vs:=vs++rest.toList) ty hk
   (fun j c hj=>by
     obtain ⟨v,qT,yg⟩:=hp j c hj
     exact ⟨v,by rw [List.getElem?_append_left (List.getElem?_eq_some_iff.1 qT).1];exact qT,aT.keep hstep c v yg⟩) hlen (by omega) hN
   (c := .osl p k 0 n false) (v := .slice (some ⟨w.heap.size,0,none⟩) n N)
   (by simp only [aT];exact ⟨w.heap.size,N,N,Env.ju _ _ _ _ _,by simp,hnN,by omega,hN,by simp⟩)
 have he:(vs++rest.toList).toArray=vs.toArray++rest:=by apply Array.ext';simp
 rw [he] at this
 exact ⟨(Adv.drew E w).trans this.Hq,this.inv,this.rep,this.ids⟩
theorem WR (hi:Inv G own E w σ) (id:Id):Inv G own E w (σ.put id none) where
 okb:=hi.okb
 blk:=fun i bk h=>by
   by_cases e:i=id
   . subst e;simp [af.put] at h
   . rw [af.cB _ _ _ e] at h;exact hi.blk i bk h
 inj:=fun i j x y hx hy hne h1 h2=>by
   have ei:i≠id:=by rintro rfl;simp [af.put] at hx
   have ej:j≠id:=by rintro rfl;simp [af.put] at hy
   rw [af.cB _ _ _ ei] at hx
   rw [af.cB _ _ _ ej] at hy
   exact hi.inj i j x y hx hy hne h1 h2
 glob:=hi.glob
 new:=hi.new
end
end Go.VL
end

section
namespace Go.VL
theorem Da {k:Nat}:∀ {es:List AV} {n:Nat},(∀ x∈es,x.size=k)->flat (es.take n)=(flat es).take (n*k)
 | [],n,_=>by simp [flat]
 | x::es,0,_=>by simp [flat]
 | x::es,n+1,h=>by
   have hx:x.cells.length=k:=h x (by simp)
   have ih:=Da (es:=es) (n:=n) (fun y hy=>h y (by simp [hy]))
   have hf:flat (x::es)=x.cells++flat es:=by simp [flat]
   have WH:flat ((x::es).take (n+1))=x.cells++flat (es.take n):=by simp [flat]
   rw [hf,WH,ih,show (n+1)*k=x.cells.length+n*k from by rw [hx,Nat.add_mul];omega,List.take_length_add_append]
theorem Ij {k:Nat}:∀ {es:List AV} {n:Nat},(∀ x∈es,x.size=k)->flat (es.drop n)=(flat es).drop (n*k)
 | [],n,_=>by simp [flat]
 | x::es,0,_=>by simp
 | x::es,n+1,h=>by
   have hx:x.cells.length=k:=h x (by simp)
   have ih:=Ij (es:=es) (n:=n) (fun y hy=>h y (by simp [hy]))
   have hf:flat (x::es)=x.cells++flat es:=by simp [flat]
   rw [List.drop_succ_cons,ih,hf,show (n+1)*k=x.cells.length+n*k from by rw [hx,Nat.add_mul];omega,List.drop_length_add_append]
theorem D8 {G:Nat->Option (List AV)} {own:Nat->Prop} {E:Env} {w:World} {σ : af} (h:Inv G own E w σ) {id:Id} {bk:da} (hσ : σ id=some bk) (Hp:bk.fr=false)
   {g N:Nat} {cur:Array Value} {ty:TypeId} (hB:xt E own w id bk g N cur ty)
   {e:Nat} {news:List AV} {vs:List Value} (hle:e+news.length<=bk.els.length) (hk:∀ x∈news,x.size=bk.k) (hv:bd E w (flat news) vs) :
   e*bk.k+vs.length<=cur.size /\
   Adv own E E w (w.setRow g (cur.toList.take (e*bk.k)++vs++cur.toList.drop (e*bk.k+vs.length)).toArray) /\
   Inv G own E (w.setRow g (cur.toList.take (e*bk.k)++vs++cur.toList.drop (e*bk.k+vs.length)).toArray) (σ.put id (some { bk with els:=bk.els.take e++news++bk.els.drop (e+news.length) })):=by
 obtain ⟨xJ,hvp⟩:=bI.1 hv
 have Ik:=cC hk
 have hbound:e*bk.k+vs.length<=cur.size:=by
   rw [hB.size,xJ,Ik, <- Nat.add_mul]
   exact Nat.mul_le_mul_right _ (by have:=hB.len;omega)
 refine ⟨hbound, ?_⟩
 generalize WI:(cur.toList.take (e*bk.k)++vs++cur.toList.drop (e*bk.k+vs.length)).toArray=nv
 have hg:=gC hB.heap
 have C4:(w.setRow g nv).heap[g]? = some (.cells nv ty (0,0)):=setRow_heap w g cur nv ty _ hB.heap
 have hs:Step E E w (w.setRow g nv):=⟨fun _ _ h=>h,fun _ h=>h,fun b hb=>setRow_other w g b nv (fun e=>hB.no Hp (e▸hb))⟩
 have gD:Adv own E E w (w.setRow g nv) :=
   ⟨hs,rfl,rfl,rfl,by simp,fun k _ hk=>setRow_other w g k nv (fun e=>hk (e▸hB.own)),fun _ h => .inl h⟩
 refine ⟨gD, ?_, ?_, ?_, ?_, ?_⟩
 . intro b hb;simpa using h.okb b hb
 . intro i FA hi
   by_cases dD:i=id
   . subst dD
     rw [af.dA] at hi
     simp only [Option.some.injEq] at hi
     subst hi
     have KL:(bk.els.take e++news++bk.els.drop (e+news.length)).length=bk.els.length:=by simp;omega
     have ac1:∀ x∈bk.els.take e++news++bk.els.drop (e+news.length),x.size=bk.k:=by
       intro x hx
       simp only [List.append_assoc,List.mem_append] at hx
       rcases hx with hx | hx | hx
       . exact hB.k x (List.mem_of_mem_take hx)
       . exact hk x hx
       . exact hB.k x (List.mem_of_mem_drop hx)
     refine ⟨g,N,nv,ty,hB.μ,C4, ?_,by rw [KL];exact hB.len,hB.most,hB.own,by simp [Hp],hB.no,ac1, ?_⟩
     . rw [<- WI]
       simp only [List.size_toArray,List.length_append,List.length_take,List.length_drop,Array.length_toList]
       rw [<- hB.size];omega
     . show eH E (w.setRow g nv) g 0 (flat (bk.els.take e++news++bk.els.drop (e+news.length)))
       rw [nJ,nJ,Da hB.k,Ij hB.k]
       have hlen:(flat bk.els).length=bk.els.length*bk.k:=cC hB.k
       have hcz:bk.els.length*bk.k<=cur.size:=by rw [hB.size];exact Nat.mul_le_mul_right _ hB.len
       have hmul:(e+news.length)*bk.k<=bk.els.length*bk.k:=Nat.mul_le_mul_right _ hle
       rw [Nat.add_mul] at hmul
       intro j c hj
       have hcell:(w.setRow g nv).cell? ⟨g,0+j,none⟩=nv[j]? := by rw [Nat.zero_add];exact cell_of_row _ _ _ _ _ _ C4
       rw [hcell]
       suffices aar:∃ v,nv[j]? = some v/\aT E w c v by
         obtain ⟨v,qT,yg⟩:=aar;exact ⟨v,qT,aT.keep hs c v yg⟩
       rw [<- WI]
       have hold:∀ (j:Nat) (c:AV),(flat bk.els)[j]? = some c->∃ v:Value,cur[j]? = some v/\aT E w c v:=by
         intro j c hj
         obtain ⟨v,qT,yg⟩:=hB.row j c hj
         rw [Nat.zero_add,cell_of_row _ _ _ _ _ _ hB.heap] at qT
         exact ⟨v,qT,yg⟩
       simp only [List.getElem?_toArray]
       have ha:(cur.toList.take (e*bk.k)).length=e*bk.k:=by simp;omega
       have hb:((flat bk.els).take (e*bk.k)).length=e*bk.k:=by simp;omega
       rw [List.append_assoc] at hj ⊢
       by_cases c1:j<e*bk.k
       . rw [List.getElem?_append_left (by omega),List.getElem?_take_of_lt c1] at hj
         rw [List.getElem?_append_left (by omega),List.getElem?_take_of_lt c1]
         obtain ⟨v,qT,yg⟩:=hold j c hj
         exact ⟨v,by simpa using qT,yg⟩
       . rw [List.getElem?_append_right (by omega),hb] at hj
         rw [List.getElem?_append_right (by omega),ha]
         by_cases c2:j-e*bk.k<(flat news).length
         . rw [List.getElem?_append_left c2] at hj
           rw [List.getElem?_append_left (by omega)]
           obtain ⟨v,qT,yg⟩:=hvp _ c hj
           exact ⟨v,qT,yg⟩
         . rw [List.getElem?_append_right (by omega),List.getElem?_drop] at hj
           rw [List.getElem?_append_right (by omega),List.getElem?_drop,xJ]
           rw [Ik] at hj c2 ⊢
           have e1:(e+news.length)*bk.k+(j-e*bk.k-news.length*bk.k)=j:=by rw [Nat.add_mul];omega
           have e2:e*bk.k+news.length*bk.k+(j-e*bk.k-news.length*bk.k)=j:=by omega
           rw [e1] at hj;rw [e2]
           obtain ⟨v,qT,yg⟩:=hold _ c hj
           exact ⟨v,by simpa using qT,yg⟩
   . rw [af.cB _ _ _ dD] at hi
     obtain ⟨g',N',KB,Ng,H8⟩:=h.blk i FA hi
     have hne:g'≠g:=h.inj i id _ _ (by simp [hi]) (by simp [hσ]) dD H8.μ hB.μ
     exact ⟨g',N',KB,Ng,H8.keep hs (setRow_other w g g' nv hne) H8.no⟩
 . intro i j x y hi hj hne hx hy
   refine h.inj i j x y ?_ ?_ hne hx hy
   . intro hn;by_cases dD:i=id
     . subst dD;simp [hσ] at hn
     . rw [af.cB _ _ _ dD] at hi;exact hi hn
   . intro hn;by_cases dD:j=id
     . subst dD;simp [hσ] at hn
     . rw [af.cB _ _ _ dD] at hj;exact hj hn
 . intro g' cs Nh
   obtain ⟨h1',Y7⟩:=h.glob g' cs Nh
   exact ⟨h1',bm.keep hs.bare (hs.same g' h1') cs 0 Y7⟩
 . intro k hk;simp at hk;exact h.new k hk
end Go.VL
end

section
namespace Go.VL
section
variable {P:Program} {G:Nat->Option (List AV)} {own:Nat->Prop} {E:Env} {w:World} {σ : af} {p:Id}
theorem WS (hi:Inv G own E w σ) (hμ : E.μ p=none) (hσ : σ p=none) {id:Id} {bk:da} (jS : σ id=some bk) (Hp:bk.fr=false) {g N:Nat} {cur:Array Value} {ty:TypeId} (hB:xt E own w id bk g N cur ty)
   {ys:List AV} (hk:∀ e∈ys,e.size=bk.k) {news:List Value} (hv:bd E w (flat ys) news) (Ni:bk.els.length+ys.length<=N) {rd:List Id} :
   lD G own E w σ p { val := .osl p bk.k 0 (bk.els.length+ys.length) false,rd:=rd,up:=[(id,none),(p,some ⟨bk.els++ys,bk.k,false⟩)] }
     (.slice (some ⟨g,0,none⟩) (bk.els.length+ys.length) N) (E.bind p g bk.k N)
     (w.setRow g (cur.toList.take (bk.els.length*bk.k)++news++cur.toList.drop (bk.els.length*bk.k+news.length)).toArray):=by
 obtain ⟨xJ,hvp⟩:=bI.1 hv
 have hy:=cC hk
 have he:=cC hB.k
 have hle:bk.els.length*bk.k+news.length<=cur.size:=by
   rw [xJ,hy,hB.size, <- Nat.add_mul];exact Nat.mul_le_mul_right _ Ni
 generalize WI:(cur.toList.take (bk.els.length*bk.k)++news++cur.toList.drop (bk.els.length*bk.k+news.length)).toArray=nv
 have C4:(w.setRow g nv).heap[g]? = some (.cells nv ty (0,0)):=setRow_heap w g cur nv ty _ hB.heap
 have ac2:id≠p:=by rintro rfl;simp [jS] at hσ
 have hs:Step E (E.bind p g bk.k N) w (w.setRow g nv) :=
   ⟨fun i x h=>by rw [Env.iX];exact h;rintro rfl;simp [hμ] at h,fun _ h=>h,fun b hb=>setRow_other w g b nv (fun e=>hB.no Hp (e▸hb))⟩
 have gD:Adv own E (E.bind p g bk.k N) w (w.setRow g nv) :=
   ⟨hs,rfl,rfl,rfl,by simp,fun k _ hk=>setRow_other w g k nv (fun e=>hk (e▸hB.own)),fun _ h => .inl h⟩
 have hsz:nv.size=cur.size:=by
   rw [<- WI]
   simp only [List.size_toArray,List.length_append,List.length_take,List.length_drop,Array.length_toList]
   omega
 refine ⟨gD,⟨?_, ?_, ?_, ?_, ?_⟩, ?_,fun i hne=>Env.iX _ _ _ _ _ (fun e=>hne (by rw [e];exact List.suffix_refl _))⟩
 . intro b hb;simpa using hi.okb b hb
 . intro i FA h
   simp only [af.app] at h
   by_cases e1:i=p
   . subst e1
     rw [af.dA] at h
     simp only [Option.some.injEq] at h;subst h
     refine ⟨g,N,nv,ty,Env.ju _ _ _ _ _,C4,by rw [hsz];exact hB.size,by simpa using Ni,hB.most,hB.own,by simp,fun _ hb=>hB.no Hp hb, ?_, ?_⟩
     . intro e he
       rcases List.mem_append.1 he with h | h
       . exact hB.k e h
       . exact hk e h
     . show eH _ _ g 0 (flat (bk.els++ys))
       rw [nJ]
       have hcell:∀ j,(w.setRow g nv).cell? ⟨g,j,none⟩=nv[j]? := fun j=>cell_of_row _ _ _ _ _ _ C4
       have ht:(cur.toList.take (bk.els.length*bk.k)).length=bk.els.length*bk.k:=by simp;omega
       refine vv.2 ⟨fun j c hj => ?_,fun j c hj => ?_⟩
       . have yd:j<bk.els.length*bk.k:=by rw [<- he];exact (List.getElem?_eq_some_iff.1 hj).1
         obtain ⟨v,qT,yg⟩:=hB.row j c hj
         rw [Nat.zero_add,cell_of_row _ _ _ _ _ _ hB.heap] at qT
         refine ⟨v, ?_,aT.keep hs c v yg⟩
         rw [Nat.zero_add,hcell, <- WI]
         simp only [List.getElem?_toArray,List.append_assoc]
         rw [List.getElem?_append_left (by omega),List.getElem?_take_of_lt yd]
         simpa using qT
       . obtain ⟨v,qT,yg⟩:=hvp j c hj
         have yd:j<news.length:=(List.getElem?_eq_some_iff.1 qT).1
         refine ⟨v, ?_,aT.keep hs c v yg⟩
         rw [Nat.zero_add,hcell, <- WI,he]
         simp only [List.getElem?_toArray,List.append_assoc]
         rw [List.getElem?_append_right (by omega),ht,Nat.add_sub_cancel_left,List.getElem?_append_left yd]
         exact qT
   . rw [af.cB _ _ _ e1] at h
     by_cases e2:i=id
     . subst e2;simp [af.put] at h
     . rw [af.cB _ _ _ e2] at h
       obtain ⟨g',N',KB,Ng,H8⟩:=hi.blk i FA h
       have hne:g'≠g:=hi.inj i id _ _ (by simp [h]) (by simp [jS]) e2 H8.μ hB.μ
       exact ⟨g',N',KB,Ng,H8.keep hs (setRow_other w g g' nv hne) H8.no⟩
 . intro i j x y hx hy hne h1 h2
   simp only [af.app] at hx hy
   have other:∀ i,i≠p->((σ.put id none).put p (some ⟨bk.els++ys,bk.k,false⟩)) i≠none->i≠id /\ σ i≠none:=by
     intro i e h
     rw [af.cB _ _ _ e] at h
     have e2:i≠id:=by rintro rfl;simp [af.put] at h
     rw [af.cB _ _ _ e2] at h
     exact ⟨e2,h⟩
   by_cases e1:i=p
   . have e1:=e1.symm
     subst e1
     have e2:j≠p:=fun e=>hne e.symm
     obtain ⟨h3,h4⟩:=other j e2 hy
     rw [Env.ju] at h1
     rw [Env.iX _ _ _ _ _ e2] at h2
     have:=hi.inj id j (g,bk.k,N) y (by simp [jS]) h4 (fun e=>h3 e.symm) hB.μ h2
     simp only [Option.some.injEq] at h1
     rw [<- h1];exact this
   . obtain ⟨h3,h4⟩:=other i e1 hx
     rw [Env.iX _ _ _ _ _ e1] at h1
     by_cases e2:j=p
     . subst e2
       rw [Env.ju] at h2
       have:=hi.inj i id x (g,bk.k,N) h4 (by simp [jS]) h3 h1 hB.μ
       simp only [Option.some.injEq] at h2
       rw [<- h2];exact this
     . obtain ⟨h5,h6⟩:=other j e2 hy
       rw [Env.iX _ _ _ _ _ e2] at h2
       exact hi.inj i j x y h4 h6 hne h1 h2
 . intro g' cs Nh
   obtain ⟨h1,h2⟩:=hi.glob g' cs Nh
   exact ⟨h1,bm.keep hs.bare (hs.same g' h1) cs 0 h2⟩
 . intro k hk;simp at hk;exact hi.new k hk
 . simp only [aT]
   exact ⟨g,N,N,Env.ju _ _ _ _ _,by simp,Ni,by omega,hB.most,by simp⟩
def OT (c:AV) (val:Value):Prop:=∀ E w,aT E w c val
theorem Jv {ys:List AV} (h:(ys.all fun e=>e.cells.all AV.one)=true):∀ c∈flat ys,c.one=true:=by
 intro c hc
 simp only [flat,List.mem_flatMap] at hc
 obtain ⟨e,he,hce⟩:=hc
 have:=List.all_eq_true.1 h e he
 exact List.all_eq_true.1 this c hce
theorem qz (t ty e bt:TypeId) (i:TypeInfo) (ht:P.underlying t=some (.slice e)) (hi:P.info? e=some i)
   (g Nn aau:Nat) (cur:Array Value) (hg:w.heap[g]? = some (.cells cur bt (0,0)))
   (a:Addr) (m c:Nat) (news:List Value) (hl:news.length=m*i.size) (ac3:∀ j u,news[j]? = some u->w.cell? (a.add j)=some u) (h1:∀ u∈news,u.oneCell'=true)
   (hroom:Nn+m<=aau) (Ni:Nn*i.size+news.length<=cur.size) :
   (Builtin.append_ #[t,t] ty #[.slice (some ⟨g,0,none⟩) Nn aau, .slice (some a) m c]).run P w =
     .ok (.slice (some ⟨g,0,none⟩) (Nn+m) aau) (w.setRow g (cur.toList.take (Nn*i.size)++news++cur.toList.drop (Nn*i.size+news.length)).toArray):=by
 have hf:=run_firstCells_some (P:=P) w i.size m a m c news hl ac3
 have hst:=run_storeCells_at P g (Nn*i.size) bt news 0 cur w hg (by simpa using Ni) h1
 simp only [Nat.add_zero] at hst
 simp [Builtin.append_,run_underlying ht,sizeOf,typeInfo,hi,Builtin.lenOf,hroom,hf,Addr.add_lit,hst]
theorem Ai {z:AV} {zv:Value} (hz:bd E w z.cells zv.cells.toList) (n:Nat) (hp:0<z.size):bd E w (flat (List.replicate n z)) (Builtin.zeroCells zv.cells n).toList:=by
 obtain ⟨hl,hp2⟩:=bI.1 hz
 have hk:∀ e∈List.replicate n z,e.size=z.size:=fun e he=>by rw [List.eq_of_mem_replicate he]
 have FB:=cC hk
 have hs:zv.cells.size=z.size:=by simpa [AV.size] using hl
 refine bI.2 ⟨by rw [FB];simp [Builtin.zeroCells,hs],fun j c hj => ?_⟩
 have yd:j<n*z.size:=by have:=(List.getElem?_eq_some_iff.1 hj).1;rw [FB] at this;simpa using this
 have hdm:j/z.size*z.size+j%z.size=j:=by rw [Nat.mul_comm];exact Nat.div_add_mod j z.size
 have aav:=Nat.mod_lt j hp
 have hdiv:j/z.size<n:=Nat.div_lt_of_lt_mul (by rwa [Nat.mul_comm] at yd)
 have hg:=flat_get (i:=j/z.size) (e:=z) hk (by simp [hdiv]) aav
 rw [hdm,hj] at hg
 obtain ⟨v,hv,hr⟩:=hp2 (j%z.size) c hg.symm
 refine ⟨v, ?_,hr⟩
 have hv':zv.cells[j%z.size]? = some v:=by simpa using hv
 simp only [Builtin.zeroCells,Array.toList_map,Array.toList_range,List.getElem?_map,hs,List.getElem?_range yd,Option.map_some]
 rw [getElem!_def,hv']
theorem FK (hi:Inv G own E w σ) {id:Id} {off k len:Nat} {tt:Bool} {news:List AV} {v:AV} {rd:List Id} {r:eP} (h:Bn σ id off k news v rd=some r) {a:Value} (hs:aT E w (.osl id k off len tt) a)
   (hk:∀ e∈news,e.size=k) {vs:List Value} (hv:bd E w (flat news) vs) {val:Value} (hval:OT v val) :
   ∃ g cap,a = .slice (some ⟨g,off*k,none⟩) len cap/\∃ w',(storeCells ⟨g,off*k,none⟩ vs).run P w = .ok () w'/\lD G own E w σ p r val E w':=by
 unfold Bn at h
 split at h
 . rename_i bk jS
   split at h
   . rename_i hh
     obtain ⟨Nl,hle,Hp,OU⟩:=hh
     simp only [Option.some.injEq] at h;subst h
     obtain ⟨g,N,cur,ety,hB⟩:=hi.blk id bk jS
     simp only [aT] at hs
     obtain ⟨g',N',cap,Jw,rfl,Kt,hoc,hNm,Tg⟩:=hs
     rw [hB.μ] at Jw
     simp only [Option.some.injEq,Prod.mk.injEq] at Jw
     obtain ⟨rfl,_,rfl⟩:=Jw
     obtain ⟨Fe,had,QL⟩:=D8 hi jS Hp hB (e:=off) (news:=news) (vs:=vs) hle (fun e he=>by rw [Nl];exact hk e he) hv
     have e0:off*bk.k=off*k:=by rw [Nl]
     rw [e0] at Fe had QL
     have hst:=run_storeCells_at P g (off*k) ety vs 0 cur w hB.heap (by simpa using Fe) (FJ hv (Jv OU))
     simp only [Nat.add_zero] at hst
     exact ⟨g,cap,rfl,_,hst,had,QL,hval E _,fun _ _=>rfl⟩
   . simp at h
 . simp at h
theorem KM (hi:Inv G own E w σ) {t e ty:TypeId} {z:AV} (hu:P.underlying t=some (.slice e)) (hz:mP P e=some z) (p8:0<z.size) {x:AV} {a:Value} (hx:aT E w x a) {r:eP} (h:FC σ z.size z x=some r) :
   Sound P G own E w σ p (Builtin.clear_ #[t] ty #[a]) r:=by
 obtain ⟨it,zv,hit,M7,QH,M8,OQ⟩:=lE hz
 have hzr:=aT.cells (iO (E:=E) (w:=w) QH) (jX OQ)
 unfold FC at h
 split at h
 . simp only [Option.some.injEq] at h;subst h
   simp only [aT] at hx;subst hx
   exact Sound.same (v := .tuple #[]) hi (by simp [Builtin.clear_,run_underlying hu]) (by simp only [aT];exact ⟨#[],rfl,by simp [bd]⟩)
 . rename_i id k' off len tt
   split at h
   . rename_i h0
     subst h0
     simp only [Option.some.injEq] at h;subst h
     simp only [aT] at hx
     obtain ⟨g',N',cap,Jw,rfl,_⟩:=hx
     exact Sound.same (v := .tuple #[]) hi (by simp [Builtin.clear_,run_underlying hu]) (by simp only [aT];exact ⟨#[],rfl,by simp [bd]⟩)
   . rename_i h0
     split at h
     . rename_i hh
       obtain ⟨rfl,_⟩:=hh
       obtain ⟨g,cap,rfl,w',hst,hp⟩:=FK (P:=P) (p:=p) (val := .tuple #[]) hi h hx (fun e he=>by rw [List.eq_of_mem_replicate he]) (Ai hzr len p8) (fun E w=>by simp only [aT];exact ⟨#[],rfl,by simp [bd]⟩)
       refine ⟨_,w',E, ?_,hp⟩
       obtain ⟨m,rfl⟩:∃ m,len=m+1:=⟨len-1,by omega⟩
       simp [Builtin.clear_,run_underlying hu,Af hit M7,hst]
     . simp at h
 . simp at h
theorem Np (hi:Inv G own E w σ) {t t2 e ty:TypeId} {i:TypeInfo} (hu:P.underlying t=some (.slice e)) (dD:P.info? e=some i) {d x:AV} {a b:Value} (hd:aT E w d a) (hx:aT E w x b) {r:eP} (h:KC σ i.size d x=some r) :
   Sound P G own E w σ p (Builtin.copy_ #[t,t2] ty #[a,b]) r:=by
 unfold KC at h
 split at h
 . simp at h
 . rename_i ys rd Bj
   obtain ⟨H7,xa,Hz,rfl,hxl,vF⟩:=zD hi hx Bj
   have zero:∀ (ba:Option Addr) (n cap:Nat),Nat.min ys.length n=0->(Builtin.copy_ #[t,t2] ty #[.slice ba n cap, .slice xa ys.length Hz]).run P w = .ok (.int .i64 0) w:=by
     intro ba n cap h0
     cases ba<;>cases xa<;>simp [Builtin.copy_,run_underlying hu,eS dD,Builtin.lenOf,h0,Builtin.firstCells,loadCells,loadCellsFrom,storeCells,goInt]
   split at h
   . simp only [Option.some.injEq] at h;subst h
     simp only [aT] at hd;subst hd
     exact Sound.same hi (zero none 0 0 (by simp)) (by simp only [aT])
   . rename_i id k' off len tt
     split at h
     . rename_i h0
       simp only [Option.some.injEq] at h;subst h
       simp only [aT] at hd
       obtain ⟨g',N',cap,Jw,rfl,_⟩:=hd
       have h0':Nat.min ys.length len=0:=by
         have:=congrArg List.length (List.isEmpty_iff.1 h0)
         simp only [List.length_take,List.length_nil] at this
         rw [Nat.min_comm] at this;exact this
       exact Sound.same hi (zero _ len cap h0') (by simp only [aT])
     . rename_i h0
       split at h
       . rename_i hk
         subst hk
         have hne:ys≠[]:=by rintro rfl;simp at h0
         obtain ⟨xb,xo,rfl,hxr⟩:=vF.resolve_left hne
         have hkt:∀ e∈ys.take len,e.size=i.size:=fun e he=>H7 e (List.mem_of_mem_take he)
         have agx:eH E w xb xo (flat (ys.take len)):=by
           rw [Da H7]
           exact (vv.1 (by rw [List.take_append_drop];exact hxr:eH E w xb xo ((flat ys).take (len*i.size)++(flat ys).drop (len*i.size)))).1
         obtain ⟨news,QJ,Zc⟩:=Ju agx
         have Zd:news.length=(ys.take len).length*i.size:=by rw [bd.len QJ,cC hkt]
         obtain ⟨g,cap,rfl,w',hst,hp⟩:=FK (P:=P) (p:=p) (val := .int .i64 (ys.take len).length) hi h hd hkt QJ (fun E w=>by simp only [aT])
         refine ⟨_,w',E, ?_,hp⟩
         have ac4:Nat.min ys.length len=(ys.take len).length:=by rw [List.length_take,Nat.min_comm]
         have hf:=run_firstCells_some (P:=P) w i.size (ys.take len).length ⟨xb,xo,none⟩ ys.length Hz news Zd Zc
         generalize (ys.take len).length=m at ac4 hf hp ⊢
         simp [Builtin.copy_,run_underlying hu,eS dD,Builtin.lenOf,ac4,hf,hst,goInt]
       . simp at h
   . simp at h
theorem HA {d:Option TypeDesc} (h:C6 d=true):∃ e,d=some (.slice e):=by
 unfold C6 at h
 split at h
 . exact ⟨_,rfl⟩
 . cases h
theorem Db {t t' e e' ty:TypeId} (hu:P.underlying t=some (.slice e)) (M9:P.underlying t'=some (.slice e')) (a b:Value) (w:World) :
   (Builtin.append_ #[t,t'] ty #[a,b]).run P w=(Builtin.append_ #[t,t] ty #[a,b]).run P w:=by
 cases a<;>simp [Builtin.append_,run_underlying hu,run_underlying M9]
theorem Jy (hi:Inv G own E w σ) (hμ : E.μ p=none) (hσ : σ p=none) {t e ty:TypeId} {i:TypeInfo} (hu:P.underlying t=some (.slice e)) (dD:P.info? e=some i)
   (hz:(mP P e).isSome=true) {s x:AV} {a b:Value} (hs:aT E w s a) (hx:aT E w x b) {r:eP} (h:eh σ p i.size i.bytes s x=some r) :
   Sound P G own E w σ p (Builtin.append_ #[t,t] ty #[a,b]) r:=by
 obtain ⟨z,hz⟩:=Option.isSome_iff_exists.1 hz
 obtain ⟨it,zv,hit,M7,QH,M8,OQ⟩:=lE hz
 rw [dD] at hit
 simp only [Option.some.injEq] at hit;subst hit
 have Th:zv.cells.size=i.size:=by
   have:=bd.len (aT.cells (iO (E:=E) (w:=w) QH) (jX OQ))
   simp at this;unfold AV.size at M8;omega
 unfold eh at h
 split at h
 . simp at h
 . rename_i ys rd Bj
   obtain ⟨H7,xa,Hz,rfl,hxl,vF⟩:=zD hi hx Bj
   split at h
   . rename_i Nq
     have hys:ys=[]:=by simpa using Nq
     subst hys
     have hrun:∀ (base:Option Addr) (n cap:Nat),n<=cap->(Builtin.append_ #[t,t] ty #[.slice base n cap, .slice xa ([]:List AV).length Hz]).run P w = .ok (.slice base n cap) w:=by
       intro base n cap hn
       cases base<;>cases xa<;>simp [Builtin.append_,run_underlying hu,eS dD,Builtin.lenOf,hn,Builtin.firstCells,loadCells,loadCellsFrom,storeCells]
     split at h
     . simp only [Option.some.injEq] at h;subst h
       have eE:=hs
       simp only [aT] at hs;subst hs
       exact Sound.same hi (hrun none 0 0 (Nat.le_refl _)) eE
     . simp only [Option.some.injEq] at h;subst h
       have eE:=hs
       simp only [aT] at hs;obtain ⟨q,rfl,_⟩:=hs
       exact Sound.same hi (hrun q _ _ (Nat.le_refl _)) eE
     . simp only [Option.some.injEq] at h;subst h
       have eE:=hs
       simp only [aT] at hs;obtain ⟨g,N,cap,_,rfl,hle,_⟩:=hs
       exact Sound.same hi (hrun _ _ _ hle) eE
     . simp at h
   . rename_i Nq
     have hne:ys≠[]:=by simpa using Nq
     have p8:0<ys.length:=List.length_pos_iff.2 hne
     obtain ⟨xb,xo,rfl,hxr⟩:=vF.resolve_left hne
     obtain ⟨news,QJ,Zc⟩:=Ju hxr
     have FB:=cC H7
     have Zd:news.length=ys.length*i.size:=by rw [bd.len QJ,FB]
     -- an append to a row that has no room
     have grow:∀ (ba:Addr) (q:Nat) (es:List AV) (cap:Nat),(∀ e∈es,e.size=i.size)->(es=[]∨∃ b o,ba=⟨b,o,none⟩/\eH E w b o (flat es))->q=es.length->cap<q+ys.length ->
         (q+ys.length)*i.bytes<=140737488355328->q+ys.length<=maxLen->∀ rd,
         ∃ v w' E',(Builtin.append_ #[t,t] ty #[.slice (some ba) q cap, .slice (some ⟨xb,xo,none⟩) ys.length Hz]).run P w = .ok v w' /\
           lD G own E w σ p { val := .osl p i.size 0 (q+ys.length) false,rd:=rd,up:=[(p,some ⟨es++ys,i.size,false⟩)] } v E' w':=by
       intro ba q es cap hk hr hq WT hb hm rd
       have Tf:=cC hk
       obtain ⟨Ti,Wu,hoc⟩:∃ vs:List Value,bd E w (flat es) vs/\∀ j v,vs[j]? = some v->w.cell? (ba.add j)=some v:=by
         rcases hr with rfl | ⟨b,o,rfl,hr⟩
         . exact ⟨[],by simp [flat,bd],by simp⟩
         . exact Ju hr
       have Ze:Ti.length=q*i.size:=by rw [bd.len Wu,Tf,hq]
       have hrun:=run_append_grow (P:=P) w t ty e i zv hu dD M7 ba q cap Ti Ze hoc ⟨xb,xo,none⟩ ys.length Hz news Zd Zc WT (by unfold maxLen at hm;omega) (growslice_fits WT hb)
       have KN:=grownCap_ge w (q+ys.length) cap e
       have OR:=grownCap_le_maxLen w (q+ys.length) cap e hm
       refine ⟨_,_,E.bind p w.heap.size i.size (grownCap w (q+ys.length) cap e),hrun, ?_⟩
       have:=Bt (p:=p) (rd:=rd) hi hμ hσ (k:=i.size) (n:=q+ys.length) (N:=grownCap w (q+ys.length) cap e) (els:=es++ys) (fun e he=>(List.mem_append.1 he).elim (hk e) (H7 e)) (by simp [hq])
         (vs:=Ti++news) (by rw [nJ];exact bd.append Wu QJ) (rest:=Builtin.zeroCells zv.cells (grownCap w (q+ys.length) cap e-(q+ys.length))) (by rw [size_zeroCells,Th]) KN OR e
       have hee:(Ti++news).toArray=Ti.toArray++news.toArray:=by simp
       rw [hee] at this
       exact this
     split at h
     . -- onto nil
       split at h
       . rename_i hh
         obtain ⟨hb,hm,_⟩:=hh
         simp only [Option.some.injEq] at h;subst h
         simp only [aT] at hs;subst hs
         have hrun:=run_append_nil (P:=P) w t ty e i zv hu dD M7 ⟨xb,xo,none⟩ ys.length Hz news Zd Zc p8 (by unfold maxLen at hm;omega) (by omega)
         have KN:=grownCap_ge w ys.length 0 e
         have OR:=grownCap_le_maxLen w ys.length 0 e hm
         refine ⟨_,_,E.bind p w.heap.size i.size (grownCap w ys.length 0 e),hrun, ?_⟩
         exact Bt (p:=p) (rd:=rd) hi hμ hσ (k:=i.size) (n:=ys.length) (N:=grownCap w ys.length 0 e) (els:=ys) H7 rfl QJ (by rw [size_zeroCells,Th]) KN OR e
       . simp at h
     . -- onto a row without room
       rename_i k' es
       split at h
       . rename_i hh
         obtain ⟨rfl,hb,hm,_⟩:=hh
         simp only [Option.some.injEq] at h;subst h
         simp only [aT] at hs
         obtain ⟨q,rfl,_,hk,hr⟩:=hs
         cases q with
         | none =>
           have hes:es=[]:=by rcases hr with h | ⟨b,o,h,_⟩;exact h;simp at h
           subst hes
           simp only [List.length_nil,Nat.zero_add,List.nil_append] at hb hm ⊢
           have hrun:=run_append_nil (P:=P) w t ty e i zv hu dD M7 ⟨xb,xo,none⟩ ys.length Hz news Zd Zc p8 (by unfold maxLen at hm;omega) (by omega)
           have KN:=grownCap_ge w ys.length 0 e
           have OR:=grownCap_le_maxLen w ys.length 0 e hm
           refine ⟨_,_,E.bind p w.heap.size i.size (grownCap w ys.length 0 e),hrun, ?_⟩
           exact Bt (p:=p) (rd:=rd) hi hμ hσ (k:=i.size) (n:=ys.length) (N:=grownCap w ys.length 0 e) (els:=ys) H7 rfl QJ (by rw [size_zeroCells,Th]) KN OR e
         | some ba =>
           exact grow ba es.length es es.length hk (hr.imp id fun ⟨b,o,e,_,r⟩=>⟨b,o,by simpa using e,dI.1 r⟩) rfl (by omega) hb hm rd
       . simp at h
     . -- onto a block of the store
       rename_i id k' off len tt
       split at h
       . rename_i bk jS
         split at h
         . rename_i hh
           obtain ⟨rfl,Nl,rfl,hle,hb,hm,OU⟩:=hh
           obtain ⟨g,N,cur,ety,hB⟩:=hi.blk id bk jS
           simp only [aT] at hs
           obtain ⟨g',N',cap,Jw,rfl,Kt,hoc,hNm,Tg⟩:=hs
           rw [hB.μ] at Jw
           simp only [Option.some.injEq,Prod.mk.injEq] at Jw
           obtain ⟨rfl,_,rfl⟩:=Jw
           have Jp:∀ e∈bk.els,e.size=i.size:=fun e he=>by rw [<- Nl];exact hB.k e he
           simp only [Nat.zero_mul]
           split at h
           . split at h
             . rename_i ht _
               simp only [Option.some.injEq] at h;subst h
               rw [if_pos ht] at Tg
               have FL:=qQ (l:=0) (r:=len) hB.k hB.row (Nat.zero_le _) hle
               simp only [Nat.zero_mul,Nat.add_zero,List.drop_zero] at FL
               exact grow ⟨g,0,none⟩ len (bk.els.take len) cap (fun e he=>Jp e (List.mem_of_mem_take he)) (.inr ⟨g,0,rfl,FL⟩) (by simp;omega) (by omega) hb hm (id::rd)
             . simp at h
           . split at h
             . rename_i ht hh2
               obtain ⟨WU,Hp,ye⟩:=hh2
               simp only [Option.some.injEq] at h;subst h
               simp only [ht,Bool.false_eq_true,if_false,Nat.zero_add] at Tg
               subst WU
               by_cases hroom:bk.els.length+ys.length<=cap
               . have hrun:=qz (P:=P) (w:=w) t ty e ety i hu dD g bk.els.length cap cur hB.heap ⟨xb,xo,none⟩ ys.length Hz news Zd Zc (FJ QJ (Jv OU)) hroom
                   (by rw [Zd,hB.size,Nl, <- Nat.add_mul];exact Nat.mul_le_mul_right _ (by omega))
                 obtain rfl:cap=N:=Tg
                 refine ⟨_,_,E.bind p g i.size cap,hrun, ?_⟩
                 have:=WS (p:=p) (rd:=id::rd) hi hμ hσ jS Hp hB (ys:=ys) (fun e he=>by rw [Nl];exact H7 e he) QJ hroom
                 rw [Nl] at this
                 exact this
               . obtain ⟨v,w',E',hrun,OV⟩:=grow ⟨g,0,none⟩ bk.els.length bk.els cap Jp (.inr ⟨g,0,rfl,hB.row⟩) rfl (by omega) hb hm (id::rd)
                 refine ⟨v,w',E',hrun,OV.Hq, ?_,OV.rep,OV.ids⟩
                 have ac2:id≠p:=by rintro rfl;simp [jS] at hσ
                 have:=WR OV.inv id
                 have he:(σ.app [(p,some ⟨bk.els++ys,i.size,false⟩)]).put id none = σ.app [(id,none),(p,some ⟨bk.els++ys,i.size,false⟩)]:=by
                   funext j
                   simp only [af.app,af.put]
                   by_cases e1:j=id
                   . subst e1;simp [ac2]
                   . simp [e1]
                 rw [he] at this
                 exact this
             . split at h
               . -- over elements that lie behind
                 rename_i ht _ hh2
                 obtain ⟨WU,Hp⟩:=hh2
                 simp only [Option.some.injEq] at h;subst h
                 simp only [ht,Bool.false_eq_true,if_false,Nat.zero_add] at Tg
                 obtain rfl:cap=N:=Tg
                 have hroom:len+ys.length<=cap:=Nat.le_trans WU hB.len
                 obtain ⟨Fe,had,QL⟩:=D8 hi jS Hp hB (e:=len) (news:=ys) (vs:=news) WU (fun e he=>by rw [Nl];exact H7 e he) QJ
                 have e0:len*bk.k=len*i.size:=by rw [Nl]
                 rw [e0] at Fe had QL
                 have hrun:=qz (P:=P) (w:=w) t ty e ety i hu dD g len cap cur hB.heap ⟨xb,xo,none⟩ ys.length Hz news Zd Zc (FJ QJ (Jv OU)) hroom Fe
                 refine ⟨_,_,E,hrun,had,QL, ?_,fun _ _=>rfl⟩
                 simp only [aT]
                 exact ⟨g,cap,cap,by rw [hB.μ,Nl],by simp,hroom,by omega,hNm,by simp⟩
               . simp at h
         . simp at h
       . simp at h
     . simp at h
theorem Nr (hi:Inv G own E w σ) (hμ : E.μ p=none) (hσ : σ p=none) {t tn e ty:TypeId} {i:TypeInfo} {kn:IntKind} (hu:P.underlying t=some (.slice e)) (dD:P.info? e=some i) (htn:P.underlying tn=some (.int kn)) {z:AV}
   (hz:mP P e=some z) (p8:0<i.size) {s x:AV} {a b:Value} (hs:aT E w s a) (hx:aT E w x b) {r:eP} (h:H9 p i.size i.bytes z s x=some r) :
   Sound P G own E w σ p (Builtin.append_ #[t,tn] ty #[a,b]) r:=by
 obtain ⟨it,zv,hit,M7,QH,M8,OQ⟩:=lE hz
 rw [dD] at hit
 simp only [Option.some.injEq] at hit;subst hit
 have hzr:=aT.cells (iO (E:=E) (w:=w) QH) (jX OQ)
 have Th:zv.cells.size=i.size:=by have:=bd.len hzr;simp at this;unfold AV.size at M8;omega
 unfold H9 at h
 split at h
 . rename_i kk n
   split at h
   . rename_i hh
     obtain ⟨h0,hb,hm,hzk,_⟩:=hh
     simp only [Option.some.injEq] at h;subst h
     simp only [aT] at hs hx;subst hs;subst hx
     obtain ⟨m,rfl⟩:∃ m:Nat,n=m:=⟨n.toNat,by omega⟩
     have QM:m*i.bytes<=140737488355328:=by rw [<- Int.natCast_mul] at hb;omega
     have qG:m<=maxLen:=by omega
     have KN:=grownCap_ge w m 0 e
     have OR:=grownCap_le_maxLen w m 0 e qG
     have hrun:=Lib.run_append_nil_zeros (P:=P) w t tn ty e i zv kk kn hu htn dD M7 m (by omega) p8 (by unfold maxLen at qG;omega) (by omega)
     refine ⟨_,_,E.bind p w.heap.size i.size (grownCap w m 0 e),hrun, ?_⟩
     have:=Bt (p:=p) (rd:=[]) hi hμ hσ (k:=i.size) (n:=m) (N:=grownCap w m 0 e) (els:=List.replicate m z) (fun e he=>by rw [List.eq_of_mem_replicate he];exact hzk) (by simp)
       (vs:=(Builtin.zeroCells zv.cells m).toList) (Ai hzr m (by omega)) (rest:=Builtin.zeroCells zv.cells (grownCap w m 0 e-m)) (by rw [size_zeroCells,Th]) KN OR e
     simpa using this
   . simp at h
 . simp at h
end
end Go.VL
end

section
namespace Go.VL
section
variable {P:Program} {G:Nat->Option (List AV)} {own:Nat->Prop} {E:Env} {w:World} {σ : af} {p:Id}
def dR (P:Program) (G:Nat->Option (List AV)) (own:Nat->Prop) (E:Env) (w:World) (σ : af) (p:Id) (r:eP) (s:Sem Next):Prop :=
 ∃ v w' E',(s.run P w = .ok (.value v) w'∨(s.run P w = .ok .skip w'/\v=undef))/\lD G own E w σ p r v E' w'
theorem dR.of {s:Sem Value} {r:eP} (h:Sound P G own E w σ p s r):dR P G own E w σ p r (do pure (.value (<- s))):=by
 obtain ⟨v,w',E',hr,hp⟩:=h
 exact ⟨v,w',E', .inl (by simp [hr]),hp⟩
theorem dR.ofU {s:Sem Unit} {r:eP} (h:∃ w',s.run P w = .ok () w'/\lD G own E w σ p r undef E w'):dR P G own E w σ p r (do s;pure .skip):=by
 obtain ⟨w',hr,hp⟩:=h
 exact ⟨undef,w',E, .inr ⟨by simp [hr],rfl⟩,hp⟩
theorem yj {t:List AV} {a:Act} (hf:cj E w t a) (hi:Inv G own E w σ) {x:Option Operand} {vx:Option a6} (h:C5 x=some vx):nZ E w (vx.map (a6.ev G t)) (x.map a.eval):=by
 cases x with
 | none=>simp only [C5,Option.some.injEq] at h;subst h;trivial
 | some x =>
   simp only [C5,Option.map_eq_some_iff] at h
   obtain ⟨va,Bk,rfl⟩:=h
   exact bc hf hi Bk
theorem Ns {σ : af} {x:AV} {oc:Option AV} {r:eP} (h:FD σ x oc=some r):bu oc=some r∨∃ id k off len bk,x = .osl id k off len false /\ σ id=some bk/\off<=bk.els.length/\r={ val := .ige (bk.els.length-off),rd:=[id] }:=by
 unfold FD at h
 split at h
 . exact .inl h
 . split at h
   . rename_i id k off len
     split at h
     . rename_i bk hb
       split at h
       . rename_i ho
         simp only [Option.some.injEq] at h
         exact .inr ⟨id,k,off,len,bk,rfl,hb,ho,h.symm⟩
       . simp at h
     . simp at h
   . simp at h
theorem HB (hi : Inv G own E w σ) {t e:TypeId} {i:TypeInfo} (hu:P.underlying t=some (.slice e)) (dD:P.info? e=some i) {x:AV} {v:Value} (hx:aT E w x v)
   {lo pM mx:Option AV} {QK OS vmx:Option Value} (yi:nZ E w lo QK) (EE:nZ E w pM OS) (hmx:nZ E w mx vmx) (hmh:mx.isSome->pM.isSome) {r:eP}
   (h:vC σ i.size x lo pM mx (gP i.size x lo pM mx)=some r):Sound P G own E w σ p (Instr.sliceAt t v QK OS vmx) r:=by
 cases hs:gP i.size x lo pM mx with
 | some c =>
   rw [hs] at h
   refine Sound.fG (oc:=some c) h fun c' hc' => ?_
   simp only [Option.some.injEq] at hc';subst hc'
   exact Br hi hu dD hx yi EE hmx hmh hs
 | none =>
   rw [hs] at h
   simp only [vC] at h
   split at h
   . rename_i id k' off len hh
     split at h
     . rename_i bk hb
       split at h
       . rename_i hc
         obtain ⟨ho,hk⟩:=hc
         simp only [Option.map_eq_some_iff] at h
         obtain ⟨c,hc,rfl⟩:=h
         simp only [aT] at hx
         obtain ⟨g,N,cap,hm,rfl,h1,h2,h3,h4⟩:=hx
         obtain ⟨g',N',cur,Ng,hB⟩:=hi.blk id bk hb
         have hμ := hB.μ
         rw [hμ] at hm
         simp only [Option.some.injEq,Prod.mk.injEq] at hm
         obtain ⟨rfl,rfl,rfl⟩:=hm
         simp only [Bool.false_eq_true,if_false] at h4
         have hl:=hB.len
         have hx':aT E w (.osl id bk.k off (bk.els.length-off) false) (.slice (some ⟨g',off*bk.k,none⟩) (bk.els.length-off) cap):=by
           simp only [aT]
           exact ⟨g',N',cap,hμ,rfl,by omega,h2,h3,by simpa using h4⟩
         have agz:vmx=none:=by cases vmx with | none=>rfl | some _=>exact (hmx:False).elim
         subst agz
         obtain ⟨v,w',E',hrun,hp⟩:=Br (p:=p) hi hu dD hx' yi EE (mx:=none) (vmx:=none) hmx (by simp) hc
         cases OS with
         | none=>exact (EE:False).elim
         | some u =>
           refine ⟨v,w',E', ?_,⟨hp.Hq,hp.inv,hp.rep,hp.ids⟩⟩
           rw [<- hrun]
           simp [Instr.sliceAt,Instr.slice,run_underlying hu,Instr.sliceBounds]
       . simp at h
     . simp at h
   . rename_i hh km m
     split at h
     . rename_i n hn
       split at h
       . rename_i l r' hb
         split at h
         . rename_i hc
           simp only [Option.some.injEq] at h;subst h
           obtain ⟨h1,h2⟩:=hc
           have hm0:m=((m.toNat:Nat):Int):=by omega
           obtain ⟨a,cap,rfl,Kt⟩:∃ a cap,v = .slice a n cap/\n<=cap:=by
             unfold Y8 at hn
             split at hn
             . simp only [Option.some.injEq] at hn;subst hn
               simp only [aT] at hx;exact ⟨_,_,hx,Nat.le_refl _⟩
             . split at hn
               . simp only [Option.some.injEq] at hn;subst hn
                 simp only [aT] at hx;obtain ⟨a,cap,rfl,h,_⟩:=hx;exact ⟨_,_,rfl,h⟩
               . simp at hn
             . split at hn
               . simp only [Option.some.injEq] at hn;subst hn
                 simp only [aT] at hx;obtain ⟨a,rfl,_⟩:=hx;exact ⟨_,_,rfl,Nat.le_refl _⟩
               . simp at hn
             . split at hn
               . simp only [Option.some.injEq] at hn;subst hn
                 simp only [aT] at hx;obtain ⟨g,N,cap,_,rfl,h,_⟩:=hx;exact ⟨_,_,rfl,h⟩
               . simp at hn
             . simp at hn
           unfold gO at hb
           split at hb
           . simp at hb
           . rename_i h1' e1
             split at hb
             . simp at hb
             . rename_i l1 e2
               simp only [Option.some.injEq,Prod.mk.injEq] at hb
               obtain ⟨rfl,rfl⟩:=hb
               obtain ⟨ye,_,_⟩:=iY (P:=P) (isSlice:=true) (len:=n) (cap:=cap) (m:=m.toNat) yi EE hmx Kt e1 e2 (.inr ⟨km,by rw [<- hm0],by simp,by omega,by omega⟩)
               refine ⟨.slice (if m.toNat=l1 then a else a.map (·.add (l1*i.size))) (h1'-l1) (m.toNat-l1),w,E, ?_,⟨Adv.refl own E w,hi,by simp only [aT],fun _ _=>rfl⟩⟩
               simp [Instr.sliceAt,Instr.slice,run_underlying hu,ye,eS dD]
         . simp at h
       . simp at h
     . simp at h
   . simp at h
theorem OW {f:FuncId} {fn:Func} {e:Array Value->Sem Value} {c:Call} {a:Act} {o:Oper} (hop:o.op = .call c) (yk:c.callee = .value (.func f)) (hf:P.funcs[f]? = some fn) (ui:(fn.name == "runtime.NumGoroutine")=false)
   (hb:fn.body.isNone=true) (hn:Extern.findNext fn=none) (he:Extern.find fn=some e) {v:Value} {w':World} (hrun:(e (c.args.map a.eval)).run P w = .ok v w') :
   (execOp a.eval o).run P w = .ok (.value v) w':=by
 have h1:=run_callFunc_extern hf ui hb hn he (c.args.map a.eval) w
 rw [hrun] at h1
 simp only [Result.andThen] at h1
 have e0:a.eval (.func f) = .func (.func f) #[] #[]:=rfl
 simp [execOp,hop,resolve,yk,e0,Deferred.ofValue,invoke,h1]
theorem Il {fo : Operand} {k:WK} (h:S2 P fo=some k):∃ f fn,fo = .func f/\P.funcs[f]? = some fn/\fn.body.isNone=true /\
   ((k = .idx/\fn.name = "internal/bytealg.IndexByteString" /\ fn.origin = "")∨(k = .ovl/\fn.origin = "slices.overlaps" /\ yh fn.name=true/\∃ t e i,fn.params[0]? = some t/\P.underlying t=some (.slice e)/\P.info? e=some i)):=by
 unfold S2 at h
 split at h
 . rename_i f
   split at h
   . rename_i fn Ik
     split at h
     . rename_i hb
       refine ⟨f,fn,rfl,Ik,hb, ?_⟩
       split at h
       . rename_i hn
         simp only [Option.some.injEq] at h
         simp only [Bool.and_eq_true,beq_iff_eq] at hn
         exact .inl ⟨h.symm,hn.1,hn.2⟩
       . split at h
         . rename_i ho
           simp only [Bool.and_eq_true,beq_iff_eq] at ho
           split at h
           . rename_i t ht
             split at h
             . rename_i e he
               split at h
               . rename_i hi
                 simp only [Option.some.injEq] at h
                 obtain ⟨i,hi⟩:=Option.isSome_iff_exists.1 hi
                 exact .inr ⟨h.symm,ho.1,ho.2,t,e,i,ht,he,hi⟩
               . simp at h
             . simp at h
           . simp at h
         . simp at h
     . simp at h
   . simp at h
 . simp at h
theorem QN {fn:Func} (hf:yh fn.name=true) (ho:fn.origin = "slices.overlaps"):Extern.findNext fn=none/\Extern.find fn=some (Extern.SlicesOverlaps.overlaps fn.params fn.resultTypes):=by
 unfold yh at hf
 simp only [Bool.and_eq_true,Option.isNone_iff_eq_none] at hf
 obtain ⟨⟨⟨⟨h1,h2⟩,h3⟩,h4⟩,_⟩:=hf
 have o1:Extern.allGenericRows.lookup "slices.overlaps" = none:=by kernel_rfl
 have o2:Extern.allTypedRows.lookup "slices.overlaps" = some Extern.SlicesOverlaps.overlaps:=by kernel_rfl
 have o4:Extern.allNextRows.lookup "slices.overlaps" = none:=by kernel_rfl
 constructor
 . simp [Extern.findNext,h4,ho,o4]
 . simp [Extern.find,h1,h2,h3,ho,o1,o2]
theorem Tj {fn:Func} (hn:fn.name = "internal/bytealg.IndexByteString") (ho:fn.origin = ""):Extern.findNext fn=none/\Extern.find fn=some Extern.BytealgIndexByte.indexByte:=by
 have o1:Extern.allGenericRows.lookup "internal/bytealg.IndexByteString" = none:=by kernel_rfl
 have o2:Extern.allTypedRows.lookup "internal/bytealg.IndexByteString" = none:=by kernel_rfl
 have o3:Extern.allRows.lookup "internal/bytealg.IndexByteString" = some Extern.BytealgIndexByte.indexByte:=by kernel_rfl
 have o4:Extern.allNextRows.lookup "internal/bytealg.IndexByteString" = none:=by kernel_rfl
 have o5:Extern.allNextRows.lookup "" = none:=by kernel_rfl
 constructor
 . simp [Extern.findNext,hn,ho,o4,o5]
 . simp [Extern.find,hn,o1,o2,o3]
theorem FM:∀ (l:List UInt8) (c:UInt8),Lib.indexByte l c=sx l c
 | [],_=>rfl
 | b::l,c=>by simp only [Lib.indexByte,sx,FM l c]
theorem QO {c:Call} {a:Act} {o:Oper} {fo x y:Operand} (hop:o.op = .call c) (yk:c.callee = .value fo) (hk:S2 P fo=some .idx) (mL:c.args.toList=[x,y]) (hi:Inv G own E w σ) {vx vy:AV}
   (hx:aT E w vx (a.eval x)) (hy:aT E w vy (a.eval y)) {r:eP} (h:bu (SZ vx vy)=some r):dR P G own E w σ p r (execOp a.eval o):=by
 obtain ⟨f,fn,rfl,Ik,hb,hh⟩:=Il hk
 rcases hh with ⟨_,hn,ho⟩ | ⟨h0,_⟩
 case inr=>simp at h0
 have key:∃ s n,vx = .str s/\vy = .int .u8 n/\r={ val := .int .i64 (sx s n.toNat.toUInt8) }:=by
   unfold SZ at h
   split at h
   . simp only [bu,Option.map_some,Option.some.injEq] at h
     exact ⟨_,_,rfl,rfl,h.symm⟩
   . simp [bu] at h
 clear h
 obtain ⟨s,n,rfl,rfl,rfl⟩:=key
 . simp only [aT] at hx hy
   obtain ⟨hn1,WV⟩:=Tj hn ho
   have hae:c.args.map a.eval = #[.string ⟨s.toArray⟩, .int .u8 n]:=by
     apply Array.ext'
     simp [mL,hx,hy]
   refine ⟨.int .i64 (sx s n.toNat.toUInt8),w,E, .inl (OW hop yk Ik (by rw [hn];rfl) hb hn1 WV ?_),⟨Adv.refl own E w,hi,by simp only [aT],fun _ _=>rfl⟩⟩
   rw [hae,Lib.run_indexByteString,FM]
theorem WW (params res:Array TypeId) {tS e:TypeId} {i:TypeInfo} (hp:params[0]? = some tS) (ht:P.underlying tS=some (.slice e)) (dD:P.info? e=some i)
   (a b:Addr) (la ca lb cb:Nat) (hne:a.block≠b.block) {aaw WX:Array Value} {tA tB:TypeId} (ha:w.heap[a.block]? = some (.cells aaw tA (0,0))) (hb:w.heap[b.block]? = some (.cells WX tB (0,0))) (hkB:WX.size≠0) :
   (Extern.SlicesOverlaps.overlaps params res #[.slice (some a) la ca, .slice (some b) lb cb]).run P w = .ok (.bool false) w:=by
 have Wv:(a.block != b.block)=true:=by simpa using hne
 have agC:(a.block==b.block)=false:=by simpa using hne
 have hsa:w.shape? a.block=some (tA,aaw.size):=by simp [World.shape?,ha]
 have hsb:w.shape? b.block=some (tB,WX.size):=by simp [World.shape?,hb]
 have hfa:w.frozen? a=false:=by simp [World.frozen?,ha]
 have Tf:w.frozen? { block:=a.block,off:=aaw.size }=false:=by simp [World.frozen?,ha]
 have hz:(Go.sizeOf e).run P w = .ok i.size w:=eS dD w
 change Sem.run P (α := Value) (do
   let some t:=params[0]? | stuck "slices.overlaps: no parameter types"
   let .slice elem <- underlying t | stuck "slices.overlaps: slice type expected"
   let size <- sizeOf elem
   match (some a:Option Addr),(some b:Option Addr) with
   | some a,some b =>
     if la=0∨lb=0∨size=0 then pure (Value.bool false)
     else if a.block != b.block&&(<- frozen a)&&(<- frozen b) then unsupported .addressObserved
     else do
       if a.block != b.block then do
         noView a;noView b
         if <- mayBeOne a b then return Value.bool ((<- choose (.extern "sameAddr.stringBytes" 2))==1)
       pure (Value.bool (a.block==b.block&&a.off<b.off+lb*size&&b.off<a.off+la*size))
   | _,_=>pure (Value.bool false)) w=_
 rw [hp]
 by_cases h0:la=0∨lb=0∨i.size=0
 . simp [run_underlying ht,hz,h0]
 . cases hk:WX.size with
   | zero=>exact absurd hk hkB
   | succ kB =>
     simp [run_underlying ht,hz,h0,Wv,agC,frozen,noView,viewAt,mayBeOne,stringish,shape,Sem.run,hsa,hsb,hfa,Tf,hk]
theorem QP {c:Call} {a:Act} {o:Oper} {fo x y:Operand} (hop:o.op = .call c) (yk:c.callee = .value fo) (hk:S2 P fo=some .ovl) (mL:c.args.toList=[x,y]) (hi:Inv G own E w σ) {vx vy:AV}
   (hx:aT E w vx (a.eval x)) (hy:aT E w vy (a.eval y)) {r:eP} (h:Qz σ vx vy=some r):dR P G own E w σ p r (execOp a.eval o):=by
 obtain ⟨f,fn,rfl,Ik,hb,hh⟩:=Il hk
 rcases hh with ⟨h0,_⟩ | ⟨_,ho,hnf,tS,e,i,hp,ht,dD⟩
 case inl=>simp at h0
 unfold Qz at h
 split at h
 . rename_i id1 k1 o1 l1 t1 D9 k2 o2 l2 t2
   split at h
   . simp at h
   . rename_i hne
     split at h
     . rename_i b1 b2 h1 h2
       split at h
       . rename_i p8
         simp only [Option.some.injEq] at h;subst h
         simp only [aT] at hx hy
         obtain ⟨g1,N1,c1,Zf,qT,_⟩:=hx
         obtain ⟨g2,N2,c2,Bu,yg,_⟩:=hy
         obtain ⟨g1',N1',akX,ty1,hB1⟩:=hi.blk id1 b1 h1
         obtain ⟨g2',N2',agD,ty2,OX⟩:=hi.blk D9 b2 h2
         have hg:g1≠g2:=hi.inj id1 D9 _ _ (by simp [h1]) (by simp [h2]) hne Zf Bu
         rw [hB1.μ] at Zf
         rw [OX.μ] at Bu
         simp only [Option.some.injEq,Prod.mk.injEq] at Zf Bu
         obtain ⟨rfl,_,_⟩:=Zf
         obtain ⟨rfl,_,_⟩:=Bu
         obtain ⟨hn1,WV⟩:=QN hnf ho
         have ui:(fn.name == "runtime.NumGoroutine")=false:=by
           unfold yh at hnf
           simp only [Bool.and_eq_true,Bool.not_eq_true'] at hnf
           exact hnf.2
         have hae:c.args.map a.eval = #[.slice (some ⟨g1',o1*k1,none⟩) l1 c1, .slice (some ⟨g2',o2*k2,none⟩) l2 c2]:=by
           apply Array.ext'
           simp [mL,qT,yg]
         have hsz:agD.size≠0:=by
           rw [OX.size]
           have hl:=OX.len
           exact Nat.ne_of_gt (Nat.mul_pos (by omega) p8.1)
         refine ⟨.bool false,w,E, .inl (OW hop yk Ik ui hb hn1 WV ?_),⟨Adv.refl own E w,hi,by simp only [aT],fun _ _=>rfl⟩⟩
         rw [hae]
         exact WW fn.params fn.resultTypes hp ht dD _ _ _ _ _ _ hg hB1.heap OX.heap hsz
       . simp at h
     . simp at h
 . simp at h
theorem HD (hi:Inv G own E w σ) (hμ : E.μ p=none) (hσ : σ p=none) {t:List AV} {a:Act} (hf:cj E w t a) {b:Builtin} {args:Array Operand} {ts:Array TypeId} {ty:TypeId} {cs:Array Bool} {vo:gv a6}
   (hc:Bo P b args ts=some vo) {r:eP} (h:bU σ p (vo.map (a6.ev G t))=some r) {R:Prop}
   (fin:∀ {s:Sem Value},builtin b ts ty cs (args.map a.eval)=(do pure (.value (<- s)))->Sound P G own E w σ p s r->R):R:=by
 unfold Bo at hc
 split at hc
 . -- len
   rename_i x tx mL WY
   have pb:args = #[x]:=by apply Array.ext';simpa using mL
   have Jz:ts = #[tx]:=by apply Array.ext';simpa using WY
   refine fin (s:=Builtin.len_ ts ty (args.map a.eval)) rfl ?_
   rw [pb,Jz]
   split at hc
   . rename_i hu
     simp only [Option.map_eq_some_iff] at hc;obtain ⟨va,Bk,rfl⟩:=hc
     simp only [gv.map,bU] at h
     have hr:=bc hf hi Bk
     refine Sound.fG h fun cc hcc => ?_
     cases hx:va.ev G t<;>simp only [hx,sX,Option.some.injEq,reduceCtorEq] at hcc
     rename_i l
     rw [hx] at hr
     simp only [aT] at hr
     subst hcc
     refine Sound.same (v := .int .i64 l.length) hi ?_ (by simp only [aT])
     have hsz:(ByteArray.mk l.toArray).size=l.length:=by show l.toArray.size=l.length;simp
     simp [Builtin.len_,run_underlying hu,hr,goInt,hsz]
   . rename_i e hu
     simp only [Option.map_eq_some_iff] at hc;obtain ⟨va,Bk,rfl⟩:=hc
     simp only [gv.map,bU] at h
     have hr:=bc hf hi Bk
     refine Sound.fG h fun cc hcc => ?_
     have hrun:∀ (ad:Option Addr) (n c:Nat),a.eval x = .slice ad n c->(Builtin.len_ #[tx] ty (#[x].map a.eval)).run P w = .ok (.int .i64 n) w:=by
       intro ad n c he
       simp [Builtin.len_,run_underlying hu,he,goInt]
     cases hx:va.ev G t<;>simp only [hx,sX,Option.some.injEq,reduceCtorEq] at hcc<;>rw [hx] at hr<;>simp only [aT] at hr<;>subst hcc
     . obtain ⟨ad,cap,he,_⟩:=hr
       exact Sound.same hi (hrun _ _ _ he) (by simp only [aT])
     . obtain ⟨ad,he,_⟩:=hr
       exact Sound.same hi (hrun _ _ _ he) (by simp only [aT])
     . exact Sound.same hi (hrun _ _ _ hr) (by simp only [aT];rfl)
     . obtain ⟨g,N,cap,_,he,_⟩:=hr
       exact Sound.same hi (hrun _ _ _ he) (by simp only [aT])
   . rename_i n e hu
     simp only [Option.map_eq_some_iff] at hc;obtain ⟨va,Bk,rfl⟩:=hc
     simp only [gv.map,bU] at h
     refine Sound.fG h fun cc hcc => ?_
     simp only [Option.some.injEq] at hcc;subst hcc
     refine Sound.same (v := .int .i64 n) hi ?_ (by simp only [aT])
     simp [Builtin.len_,run_underlying hu,goInt]
   . simp at hc
 . -- append
   rename_i s x t1 t2 mL WY
   have pb:args = #[s,x]:=by apply Array.ext';simpa using mL
   have Jz:ts = #[t1,t2]:=by apply Array.ext';simpa using WY
   refine fin (s:=Builtin.append_ ts ty (args.map a.eval)) rfl ?_
   rw [pb,Jz]
   split at hc
   . rename_i e hu
     split at hc
     . rename_i i dD
       split at hc
       . rename_i hh
         obtain ⟨hsl,_,_,hz⟩:=hh
         obtain ⟨e',M9⟩:=HA hsl
         split at hc
         . rename_i vs vx Na kK
           simp only [Option.some.injEq] at hc;subst hc
           simp only [gv.map,bU] at h
           obtain ⟨v,w',E',hr,hp⟩:=Jy (ty:=ty) hi hμ hσ hu dD hz (bc hf hi Na) (bc hf hi kK) h
           refine ⟨v,w',E', ?_,hp⟩
           rw [<- hr, <- Db (ty:=ty) hu M9]
           simp
         . simp at hc
       . split at hc
         . rename_i kn z vs vx WZ hz Na kK
           split at hc
           . rename_i p8
             simp only [Option.some.injEq] at hc;subst hc
             simp only [gv.map,bU] at h
             have:=Nr (P:=P) (ty:=ty) hi hμ hσ hu dD WZ hz p8 (bc hf hi Na) (bc hf hi kK) h
             simpa using this
           . simp at hc
         . simp at hc
     . simp at hc
   . simp at hc
 . -- cap
   rename_i x tx mL WY
   have pb:args = #[x]:=by apply Array.ext';simpa using mL
   have Jz:ts = #[tx]:=by apply Array.ext';simpa using WY
   refine fin (s:=Builtin.cap_ ts ty (args.map a.eval)) rfl ?_
   rw [pb,Jz]
   split at hc
   . rename_i e hu
     simp only [Option.map_eq_some_iff] at hc;obtain ⟨va,Bk,rfl⟩:=hc
     simp only [gv.map,bU] at h
     have hr:=bc hf hi Bk
     rcases Ns h with h | ⟨id,k,off,len,bk,hx,jS,akZ,rfl⟩
     case inr =>
       rw [hx] at hr;simp only [aT] at hr
       obtain ⟨g,N,cap,Jw,hv,h1,h2,h3,h4⟩:=hr
       obtain ⟨g',N',cur,Ng,hB⟩:=hi.blk id bk jS
       rw [hB.μ] at Jw
       simp only [Option.some.injEq,Prod.mk.injEq] at Jw
       obtain ⟨rfl,_,rfl⟩:=Jw
       refine Sound.same (v := .int .i64 cap) hi (by simp [Builtin.cap_,run_underlying hu,hv,goInt]) ?_
       simp only [aT]
       have:=hB.len
       simp only [Bool.false_eq_true,if_false] at h4
       exact ⟨cap,by omega,rfl⟩
     refine Sound.fG h fun cc hcc => ?_
     have hrun:∀ (ad:Option Addr) (n c:Nat),a.eval x = .slice ad n c->(Builtin.cap_ #[tx] ty (#[x].map a.eval)).run P w = .ok (.int .i64 c) w:=by
       intro ad n c he
       simp [Builtin.cap_,run_underlying hu,he,goInt]
     unfold SY at hcc
     split at hcc
     . rename_i hx
       rw [hx] at hr;simp only [aT] at hr
       simp only [Option.some.injEq] at hcc;subst hcc
       exact Sound.same hi (hrun _ _ _ hr) (by simp only [aT];rfl)
     . rename_i hx
       rw [hx] at hr;simp only [aT] at hr
       simp only [Option.some.injEq] at hcc;subst hcc
       obtain ⟨ad,he,_⟩:=hr
       exact Sound.same hi (hrun _ _ _ he) (by simp only [aT])
     . rename_i hx
       rw [hx] at hr;simp only [aT,if_true] at hr
       simp only [Option.some.injEq] at hcc;subst hcc
       obtain ⟨g,N,cap,_,he,_,_,_,WT⟩:=hr
       subst WT
       exact Sound.same hi (hrun _ _ _ he) (by simp only [aT])
     . simp at hcc
   . simp at hc
 . -- clear
   rename_i x tx mL WY
   have pb:args = #[x]:=by apply Array.ext';simpa using mL
   have Jz:ts = #[tx]:=by apply Array.ext';simpa using WY
   refine fin (s:=Builtin.clear_ ts ty (args.map a.eval)) rfl ?_
   rw [pb,Jz]
   split at hc
   . rename_i e hu
     split at hc
     . rename_i z vx hz kK
       split at hc
       . rename_i p8
         simp only [Option.some.injEq] at hc;subst hc
         simp only [gv.map,bU] at h
         have:=KM (P:=P) (p:=p) (ty:=ty) hi hu hz p8 (bc hf hi kK) h
         simpa using this
       . simp at hc
     . simp at hc
   . simp at hc
 . -- copy
   rename_i d x t1 t2 mL WY
   have pb:args = #[d,x]:=by apply Array.ext';simpa using mL
   have Jz:ts = #[t1,t2]:=by apply Array.ext';simpa using WY
   refine fin (s:=Builtin.copy_ ts ty (args.map a.eval)) rfl ?_
   rw [pb,Jz]
   split at hc
   . rename_i e hu
     split at hc
     . rename_i i dD
       split at hc
       . split at hc
         . rename_i vd vx hvd kK
           simp only [Option.some.injEq] at hc;subst hc
           simp only [gv.map,bU] at h
           have:=Np (P:=P) (p:=p) (ty:=ty) (t2:=t2) hi hu dD (bc hf hi hvd) (bc hf hi kK) h
           simpa using this
         . simp at hc
       . simp at hc
     . simp at hc
   . simp at hc
 . -- min
   rename_i x y mL
   have pb:args = #[x,y]:=by apply Array.ext';simpa using mL
   refine fin (s:=Builtin.min_ ts ty (args.map a.eval)) rfl ?_
   rw [pb]
   split at hc
   . rename_i vx vy kK JA
     simp only [Option.some.injEq] at hc;subst hc
     simp only [gv.map,bU] at h
     have W0:=bc hf hi kK
     have W4:=bc hf hi JA
     split at h
     . rename_i k n k' m hx hy
       rw [hx] at W0;rw [hy] at W4
       simp only [aT] at W0 W4
       refine Sound.fG h fun cc hcc => ?_
       simp only [Option.some.injEq] at hcc;subst hcc
       refine Sound.same (v := .int k (if m<n then m else n)) hi ?_ (by simp only [aT])
       simp [Builtin.min_,W0,W4,Builtin.min2]
     . simp at h
   . simp at hc
 . -- max
   rename_i x y mL
   have pb:args = #[x,y]:=by apply Array.ext';simpa using mL
   refine fin (s:=Builtin.max_ ts ty (args.map a.eval)) rfl ?_
   rw [pb]
   split at hc
   . rename_i vx vy kK JA
     simp only [Option.some.injEq] at hc;subst hc
     simp only [gv.map,bU] at h
     have W0:=bc hf hi kK
     have W4:=bc hf hi JA
     split at h
     . rename_i k n k' m hx hy
       rw [hx] at W0;rw [hy] at W4
       simp only [aT] at W0 W4
       refine Sound.fG h fun cc hcc => ?_
       simp only [Option.some.injEq] at hcc;subst hcc
       refine Sound.same (v := .int k (if m>n then m else n)) hi ?_ (by simp only [aT])
       simp [Builtin.max_,W0,W4,Builtin.max2]
     . simp at h
   . simp at hc
 . simp at hc
theorem Bv:∀ {ys:List AV} {l:List UInt8},bytesOf ys=some l->∃ zs:List Int,ys=zs.map (AV.int .u8)/\l=zs.map fun n=>UInt8.ofNat n.toNat
 | [],l,h=>by simp only [bytesOf,Option.some.injEq] at h;subst h;exact ⟨[],rfl,rfl⟩
 | .int .u8 n::r,l,h=>by
   simp only [bytesOf,Option.map_eq_some_iff] at h
   obtain ⟨l',h1,rfl⟩:=h
   obtain ⟨zs,rfl,rfl⟩:=Bv h1
   exact ⟨n::zs,rfl,rfl⟩
theorem Im (k:IntKind):∀ zs:List Int,flat (zs.map (AV.int k))=zs.map (AV.int k)
 | []=>rfl
 | z::zs=>by have:=Im k zs;simp only [List.map_cons,flat,List.flatMap_cons,AV.cells] at this ⊢;rw [this];rfl
theorem FN (hi:Inv G own E w σ) {src dst e:TypeId} (hs:P.underlying src=some (.slice e)) (he:P.underlying e=some (.int .u8)) (hd:P.underlying dst=some .string) {x:AV} {v:Value} (hx:aT E w x v) {r:eP} (h:nK σ x=some r) :
   Sound P G own E w σ p (convert src dst v) r:=by
 unfold nK at h
 split at h
 . rename_i ys rd Bj
   simp only [Option.map_eq_some_iff] at h
   obtain ⟨l,hl,rfl⟩:=h
   obtain ⟨zs,rfl,rfl⟩:=Bv hl
   obtain ⟨_,a,cap,rfl,hle,hr⟩:=zD hi hx Bj
   refine Sound.same (v := .string ⟨(zs.map fun n=>UInt8.ofNat n.toNat).toArray⟩) hi ?_ (by simp [aT])
   rcases hr with hr | ⟨b,o,rfl,hr⟩
   . have hz:zs=[]:=by simpa using hr
     subst hz
     rw [run_convert_bytes_string w src dst e _ _ _ hs he hd]
     cases a with
     | none=>simp [Conv.bytesToString];rfl
     | some a =>
       rw [run_bytesToString w a _ _ [] (by simp [loadCells,loadCellsFrom])]
       rfl
   . rw [Im] at hr
     have:=run_convert_bytes_arg (P:=P) w src e hs he b o zs.length cap zs rfl (fun i hil=>by
       obtain ⟨v,h1,h2⟩:=hr i (.int .u8 zs[i]) (by rw [List.getElem?_map,List.getElem?_eq_getElem hil];rfl)
       simp only [aT] at h2
       subst h2
       have aay:(⟨b,o,none⟩:Addr).add i=⟨b,o+i,none⟩:=by simp [Addr.add]
       first | rw [aay] at h1 | skip
       rw [h1,List.getD_eq_getElem?_getD,List.getElem?_eq_getElem hil];rfl) dst hd
     simpa [strOfNums] using this
 . simp at h
theorem Bw {n:Int} (hn:0<=n/\n<128):Utf8.encode n=⟨[UInt8.ofNat n.toNat].toArray⟩:=by
 have hv:Utf8.valid n=true:=by unfold Utf8.valid;simp;omega
 unfold Utf8.encode
 simp only [hv,if_true]
 rw [if_pos (by omega)]
theorem QQ (hi:Inv G own E w σ) (hμ : E.μ p=none) (hσ : σ p=none) {t:List AV} {a:Act} (hf:cj E w t a) {o:Oper} {vo:gv a6} (hc:nU P o.op=some vo) {r:eP}
   (h:bU σ p (vo.map (a6.ev G t))=some r):dR P G own E w σ p r (execOp a.eval o):=by
 unfold execOp
 cases ho:o.op<;>rw [ho] at hc<;>simp only []
 case move x =>
   simp only [nU,Option.map_eq_some_iff] at hc;obtain ⟨va,Bk,rfl⟩:=hc
   simp only [gv.map,bU,bu,Option.map_some,Option.some.injEq] at h;subst h
   exact ⟨a.eval x,w,E, .inl rfl,Adv.refl own E w,hi,bc hf hi Bk,fun _ _=>rfl⟩
 case assign x =>
   simp only [nU,Option.map_eq_some_iff] at hc;obtain ⟨va,Bk,rfl⟩:=hc
   simp only [gv.map,bU,bu,Option.map_some,Option.some.injEq] at h;subst h
   exact ⟨a.eval x,w,E, .inl rfl,Adv.refl own E w,hi,bc hf hi Bk,fun _ _=>rfl⟩
 case pick c x y =>
   simp only [nU] at hc
   cases W5:cH c with
   | none=>simp [W5] at hc
   | some vc =>
   cases kK:cH x with
   | none=>simp [W5,kK] at hc
   | some vx =>
   cases JA:cH y with
   | none=>simp [W5,kK,JA] at hc
   | some vy =>
     simp only [W5,kK,JA,Option.some.injEq] at hc;subst hc
     simp only [gv.map,bU] at h
     have WN:=bc hf hi W5
     have W0:=bc hf hi kK
     have W4:=bc hf hi JA
     split at h
     . rename_i b hb
       rw [hb] at WN
       simp only [aT] at WN
       simp only [bu,Option.map_some,Option.some.injEq] at h;subst h
       refine ⟨if b then a.eval x else a.eval y,w,E, .inl (by simp [WN,asBool]),Adv.refl own E w,hi, ?_,fun _ _=>rfl⟩
       cases b
       . exact W4
       . exact W0
     . simp at h
 case alloc ty =>
   simp only [nU,Option.map_eq_some_iff] at hc;obtain ⟨z,hz,rfl⟩:=hc
   simp only [gv.map,bU,a6.ev] at h
   obtain ⟨it,zv,hit,M7,QH,M8,OQ⟩:=lE hz
   split at h
   . simp only [Option.some.injEq] at h;subst h
     have:=Ih (P:=P) (p:=p) hi hμ hσ (iO QH) OQ ty
     refine dR.of ?_
     obtain ⟨v,w',E',hr,hp⟩:=this
     refine ⟨v,w',E', ?_,hp⟩
     simp only [Instr.alloc,Sem.run_bind,Af hit M7,Result.andThen_ok]
     exact hr
   . rename_i hno;exact absurd OQ hno
 case box ty x =>
   simp only [nU,Option.map_eq_some_iff] at hc;obtain ⟨va,Bk,rfl⟩:=hc
   simp only [gv.map,bU] at h
   split at h
   . rename_i vE
     simp only [Option.some.injEq] at h;subst h
     exact dR.of (Ih hi hμ hσ (bc hf hi Bk) vE ty)
   . simp at h
 case build ty ps=>exact dR.of (KG hi hf hc h)
 case buildSlice ty n ps=>exact dR.of (Hw hi hμ hσ hf hc h)
 case load ty x =>
   simp only [nU] at hc
   cases ha:pa P ty with
   | none=>simp [ha] at hc
   | some g =>
   cases ED:P.info? ty with
   | none=>simp [ha,ED] at hc
   | some i =>
   cases kK:cH x with
   | none=>simp [ha,ED,kK] at hc
   | some vx =>
     simp only [ha,ED,kK] at hc
     split at hc
     . simp only [Option.some.injEq] at hc;subst hc
       simp only [gv.map,bU] at h
       exact dR.of (KF hi ha ED (bc hf hi kK) h)
     . simp at hc
 case store ty x y =>
   simp only [nU] at hc
   cases ED:P.info? ty with
   | none=>simp [ED] at hc
   | some i =>
   cases kK:cH x with
   | none=>simp [ED,kK] at hc
   | some vx =>
   cases JA:cH y with
   | none=>simp [ED,kK,JA] at hc
   | some vy =>
     simp only [ED,kK,JA,Option.some.injEq] at hc;subst hc
     simp only [gv.map,bU] at h
     exact dR.ofU (Jm hi ED (bc hf hi kK) (bc hf hi JA) h)
 case nilCheck x =>
   simp only [nU,Option.map_eq_some_iff] at hc;obtain ⟨va,Bk,rfl⟩:=hc
   simp only [gv.map,bU] at h
   have hr:=bc hf hi Bk
   split at h
   . rename_i id e q hx
     simp only [bu,Option.map_some,Option.some.injEq] at h;subst h
     rw [hx] at hr ⊢
     have FH:=hr
     simp only [aT] at hr
     obtain ⟨g,k,N,hm,he⟩:=hr
     exact ⟨a.eval x,w,E, .inl (by rw [he];rfl),Adv.refl own E w,hi,FH,fun _ _=>rfl⟩
   . rename_i cs q hx
     simp only [bu,Option.map_some,Option.some.injEq] at h;subst h
     rw [hx] at hr ⊢
     have FH:=hr
     simp only [aT] at hr
     obtain ⟨b,q,he,_⟩:=hr
     exact ⟨a.eval x,w,E, .inl (by rw [he];rfl),Adv.refl own E w,hi,FH,fun _ _=>rfl⟩
   . rename_i f l1 l2 hx
     simp only [bu,Option.map_some,Option.some.injEq] at h;subst h
     rw [hx] at hr ⊢
     have FH:=hr
     simp only [aT] at hr
     obtain ⟨xs,ys,he,_⟩:=hr
     exact ⟨a.eval x,w,E, .inl (by rw [he];rfl),Adv.refl own E w,hi,FH,fun _ _=>rfl⟩
   . simp at h
 case binOp op ty x y Ng =>
   simp only [nU] at hc
   cases KE:QA P ty with
   | none=>simp [KE] at hc
   | some sh =>
   cases kK:cH x with
   | none=>simp [KE,kK] at hc
   | some vx =>
   cases JA:cH y with
   | none=>simp [KE,kK,JA] at hc
   | some vy =>
     simp only [KE,kK,JA,Option.some.injEq] at hc;subst hc
     simp only [gv.map,bU] at h
     refine dR.of (Sound.fG h fun c hcc => ?_)
     unfold bM at hcc
     split at hcc
     . rename_i c' agE
       simp only [Option.some.injEq] at hcc;subst hcc
       obtain ⟨h1,h2,h3,h4⟩:=Tb (P:=P) KE agE (bc hf hi kK) (bc hf hi JA)
       refine Sound.same hi ?_ (Ib h2)
       simp only [Sem.run_bind,Bq op ty x y _ _ h3 h4,Result.andThen_ok]
       exact h1
     . obtain ⟨⟨q,h1,h2⟩,h3,h4⟩:=QF (P:=P) KE hcc (bc hf hi kK) (bc hf hi JA)
       refine Sound.same (v := .bool q) hi ?_ h1
       simp only [Sem.run_bind,Bq op ty x y _ _ h3 h4,Result.andThen_ok]
       exact h2
 case unOp op ty x =>
   simp only [nU,Option.map_eq_some_iff] at hc;obtain ⟨va,Bk,rfl⟩:=hc
   simp only [gv.map,bU] at h
   refine dR.of (Sound.fG h fun c hcc => ?_)
   obtain ⟨h1,h2⟩:=WM (P:=P) hcc (bc hf hi Bk)
   exact Sound.same hi h1 (Ib h2)
 case convert src dst x =>
   simp only [nU] at hc
   split at hc
   . rename_i k1 k2 h1 h2
     simp only [Option.map_eq_some_iff] at hc;obtain ⟨va,Bk,rfl⟩:=hc
     simp only [gv.map,bU] at h
     have hr:=bc hf hi Bk
     split at h
     . rename_i k n hx
       rw [hx] at hr
       simp only [aT] at hr
       simp only [bu,Option.map_some,Option.some.injEq] at h;subst h
       refine dR.of (Sound.same (v := .int k2 (k2.wrap n)) hi ?_ (by simp [aT]))
       rw [hr]
       simp [convert,run_underlying h1,run_underlying h2,Conv.intToInt]
     . simp at h
   . rename_i h1 h2
     simp only [Option.map_eq_some_iff] at hc;obtain ⟨va,Bk,rfl⟩:=hc
     simp only [gv.map,bU] at h
     have hr:=bc hf hi Bk
     split at h
     . rename_i l hx
       rw [hx] at hr h
       have FH:=hr
       simp only [aT] at hr
       simp only [bu,Option.map_some,Option.some.injEq] at h;subst h
       refine dR.of (Sound.same hi ?_ FH)
       rw [hr]
       simp [convert,run_underlying h1,run_underlying h2]
     . rename_i k n hx
       rw [hx] at hr
       simp only [aT] at hr
       split at h
       . rename_i hn
         simp only [bu,Option.map_some,Option.some.injEq] at h;subst h
         refine dR.of (Sound.same (v := .string (Utf8.encode n)) hi ?_ (by simp [aT,Bw hn]))
         rw [hr]
         simp [convert,run_underlying h1,run_underlying h2,Conv.intToString]
       . simp at h
     . simp at h
   . rename_i k1 h1 h2
     simp only [Option.map_eq_some_iff] at hc;obtain ⟨va,Bk,rfl⟩:=hc
     simp only [gv.map,bU] at h
     have hr:=bc hf hi Bk
     split at h
     . rename_i l hx
       rw [hx] at hr h
       have FH:=hr
       simp only [aT] at hr
       simp only [bu,Option.map_some,Option.some.injEq] at h;subst h
       refine dR.of (Sound.same hi ?_ FH)
       rw [hr]
       simp [convert,run_underlying h1,run_underlying h2]
     . rename_i k n hx
       rw [hx] at hr
       simp only [aT] at hr
       split at h
       . rename_i hn
         simp only [bu,Option.map_some,Option.some.injEq] at h;subst h
         refine dR.of (Sound.same (v := .string (Utf8.encode n)) hi ?_ (by simp [aT,Bw hn]))
         rw [hr]
         simp [convert,run_underlying h1,run_underlying h2,Conv.intToString]
       . simp at h
     . simp at h
   . rename_i e h1 h2
     split at hc
     . rename_i he
       simp only [Option.map_eq_some_iff] at hc;obtain ⟨va,Bk,rfl⟩:=hc
       simp only [gv.map,bU] at h
       exact dR.of (FN hi h1 he h2 (bc hf hi Bk) h)
     . simp at hc
   . simp at hc
 case makeFunc fn first cap =>
   simp only [nU] at hc
   cases h1:FE first with
   | none=>simp [h1] at hc
   | some va =>
   cases h2:FE cap with
   | none=>simp [h1,h2] at hc
   | some vc =>
     simp only [h1,h2,Option.some.injEq] at hc;subst hc
     simp only [gv.map,bU,bu,Option.map_some,Option.some.injEq] at h;subst h
     refine dR.of (Sound.same (v := .func fn (first.map a.eval) (cap.map a.eval)) hi (by simp [Instr.makeFunc]) ?_)
     simp only [aT]
     exact ⟨_,_,rfl,C7 hf hi h1,C7 hf hi h2⟩
 case makeSlice ty l c =>
   simp only [nU] at hc
   cases hu:P.underlying ty with
   | none=>simp [hu] at hc
   | some d =>
   cases d<;>simp only [hu,reduceCtorEq] at hc
   rename_i e
   cases dD:P.info? e with
   | none=>simp [dD] at hc
   | some i =>
   cases hz:mP P e with
   | none=>simp [dD,hz] at hc
   | some z =>
   cases xJ:cH l with
   | none=>simp [dD,hz,xJ] at hc
   | some vl =>
   cases W5:cH c with
   | none=>simp [dD,hz,xJ,W5] at hc
   | some vc =>
     simp only [dD,hz,xJ,W5] at hc
     split at hc
     . rename_i hh
       simp only [Option.some.injEq] at hc;subst hc
       simp only [gv.map,bU] at h
       exact dR.of (Nj hi hμ hσ hu dD hz hh.1 (bc hf hi xJ) (bc hf hi W5) h)
     . simp at hc
 case slice ty x lo pM mx =>
   simp only [nU] at hc
   cases hu:P.underlying ty with
   | none=>simp [hu] at hc
   | some d =>
   cases d<;>simp only [hu,reduceCtorEq] at hc
   case string =>
     cases kK:cH x with
     | none=>simp [kK] at hc
     | some vx =>
     cases xJ:C5 lo with
     | none=>simp [kK,xJ] at hc
     | some vl =>
     cases W6:C5 pM with
     | none=>simp [kK,xJ,W6] at hc
     | some vh =>
     cases mx with
     | some _=>simp [kK,xJ,W6] at hc
     | none =>
       simp only [kK,xJ,W6,Option.some.injEq] at hc;subst hc
       simp only [gv.map,bU] at h
       refine dR.of (Sound.fG h fun c hcc => ?_)
       exact Hy hi hu (bc hf hi kK) (yj hf hi xJ) (yj hf hi W6) hcc
   case slice e =>
     cases dD:P.info? e with
     | none=>simp [dD] at hc
     | some i =>
     cases kK:cH x with
     | none=>simp [dD,kK] at hc
     | some vx =>
     cases xJ:C5 lo with
     | none=>simp [dD,kK,xJ] at hc
     | some vl =>
     cases W6:C5 pM with
     | none=>simp [dD,kK,xJ,W6] at hc
     | some vh =>
     cases hvm:C5 mx with
     | none=>simp [dD,kK,xJ,W6,hvm] at hc
     | some vm =>
       simp only [dD,kK,xJ,W6,hvm] at hc
       split at hc
       . rename_i hh
         simp only [Option.some.injEq] at hc;subst hc
         simp only [gv.map,bU] at h
         exact dR.of (HB hi hu dD (bc hf hi kK) (yj hf hi xJ) (yj hf hi W6) (yj hf hi hvm) (by simpa using hh) h)
       . simp at hc
 case fieldAddr s x f =>
   simp only [nU] at hc
   cases hu:P.underlying s with
   | none=>simp [hu] at hc
   | some d =>
   cases d<;>simp only [hu,reduceCtorEq] at hc
   rename_i fs
   cases hfd:fs[f]? with
   | none=>simp [hfd] at hc
   | some fd =>
   simp only [hfd] at hc
   cases dD:P.info? fd.type with
   | none=>simp [dD] at hc
   | some i =>
   cases kK:cH x with
   | none=>simp [dD,kK] at hc
   | some vx =>
     simp only [dD,kK] at hc
     split at hc
     . simp at hc
     . rename_i h0
       simp only [Option.some.injEq] at hc;subst hc
       exact dR.of (KI hi hu hfd dD h0 (bc hf hi kK) h)
 case field s x f =>
   simp only [nU] at hc
   cases hu:P.underlying s with
   | none=>simp [hu] at hc
   | some d =>
   cases d<;>simp only [hu,reduceCtorEq] at hc
   rename_i fs
   cases hfd:fs[f]? with
   | none=>simp [hfd] at hc
   | some fd =>
   simp only [hfd] at hc
   cases SN:pa P fd.type with
   | none=>simp [SN] at hc
   | some g =>
   cases dD:P.info? fd.type with
   | none=>simp [SN,dD] at hc
   | some i =>
   cases kK:cH x with
   | none=>simp [SN,dD,kK] at hc
   | some vx =>
     simp only [SN,dD,kK,Option.some.injEq] at hc;subst hc
     simp only [gv.map,bU] at h
     have hr:=bc hf hi kK
     split at h
     . rename_i cs hx
       rw [hx] at hr
       simp only [aT] at hr
       obtain ⟨xs,he,hr⟩:=hr
       refine dR.of (Sound.fG h fun c hcc => ?_)
       obtain ⟨v,hv,FG⟩:=KJ (P:=P) SN dD hr hcc
       refine Sound.same hi ?_ FG
       rw [he]
       simp [Instr.field,run_underlying hu,hfd,asAgg,hv]
     . simp at h
 case indexAddr ty x ix =>
   simp only [nU] at hc
   cases hu:P.underlying ty with
   | none=>simp [hu] at hc
   | some d =>
   cases d<;>simp only [hu,reduceCtorEq] at hc
   case slice e =>
     cases dD:P.info? e with
     | none=>simp [dD] at hc
     | some i =>
     cases kK:cH x with
     | none=>simp [dD,kK] at hc
     | some vx =>
     cases Nt:cH ix with
     | none=>simp [dD,kK,Nt] at hc
     | some vi =>
       simp only [dD,kK,Nt,Option.some.injEq] at hc;subst hc
       simp only [gv.map,bU] at h
       refine dR.of (Sound.fG h fun c hcc => ?_)
       exact Js hi hu dD (bc hf hi kK) (bc hf hi Nt) hcc
   case array n e =>
     cases dD:P.info? e with
     | none=>simp [dD] at hc
     | some i =>
     cases kK:cH x with
     | none=>simp [dD,kK] at hc
     | some vx =>
     cases Nt:cH ix with
     | none=>simp [dD,kK,Nt] at hc
     | some vi =>
       simp only [dD,kK,Nt,Option.some.injEq] at hc;subst hc
       simp only [gv.map,bU] at h
       refine dR.of (Sound.fG h fun c hcc => ?_)
       exact Jt hi hu dD (bc hf hi kK) (bc hf hi Nt) hcc
 case index ty x ix =>
   simp only [nU] at hc
   cases hu:P.underlying ty with
   | none=>simp [hu] at hc
   | some d =>
   cases d<;>simp only [hu,reduceCtorEq] at hc
   case string =>
     cases kK:cH x with
     | none=>simp [kK] at hc
     | some vx =>
     cases Nt:cH ix with
     | none=>simp [kK,Nt] at hc
     | some vi =>
       simp only [kK,Nt,Option.some.injEq] at hc;subst hc
       simp only [gv.map,bU] at h
       have hr:=bc hf hi kK
       have W7:=bc hf hi Nt
       split at h
       . rename_i s k n hx hn
         rw [hx] at hr;rw [hn] at W7
         simp only [aT] at hr W7
         split at h
         . rename_i h0
           refine dR.of (Sound.fG h fun c hcc => ?_)
           simp only [Option.map_eq_some_iff] at hcc
           obtain ⟨b,hb,rfl⟩:=hcc
           refine Sound.same (v := .int .u8 b.toNat) hi ?_ (by simp [aT])
           rw [hr,W7]
           have QM:(ByteArray.mk s.toArray)[n.toNat]? = some b:=by
             have hlt:=(List.getElem?_eq_some_iff.1 hb)
             obtain ⟨h1,h2⟩:=hlt
             rw [getElem?_pos (ByteArray.mk s.toArray) n.toNat (by simpa [ByteArray.size] using h1)]
             congr 1
           simp [Instr.index,run_underlying hu,asIntOf,h0,QM]
         . simp at h
       . simp at h
   case array n e =>
     cases SN:pa P e with
     | none=>simp [SN] at hc
     | some g =>
     cases dD:P.info? e with
     | none=>simp [SN,dD] at hc
     | some i =>
     cases kK:cH x with
     | none=>simp [SN,dD,kK] at hc
     | some vx =>
     cases Nt:cH ix with
     | none=>simp [SN,dD,kK,Nt] at hc
     | some vi =>
       simp only [SN,dD,kK,Nt,Option.some.injEq] at hc;subst hc
       simp only [gv.map,bU] at h
       have hr:=bc hf hi kK
       have W7:=bc hf hi Nt
       split at h
       . rename_i cs k m hx hn
         rw [hx] at hr;rw [hn] at W7
         simp only [aT] at hr W7
         obtain ⟨xs,he,hr⟩:=hr
         split at h
         . rename_i h0
           refine dR.of (Sound.fG h fun c hcc => ?_)
           obtain ⟨v,hv,FG⟩:=KJ (P:=P) SN dD hr hcc
           refine Sound.same hi ?_ FG
           rw [he,W7]
           simp [Instr.index,run_underlying hu,asIntOf,h0,eS dD,hv]
         . simp at h
       . simp at h
 case extract x i =>
   simp only [nU,Option.map_eq_some_iff] at hc;obtain ⟨va,Bk,rfl⟩:=hc
   simp only [gv.map,bU] at h
   have hr:=bc hf hi Bk
   split at h
   . rename_i vs hx
     rw [hx] at hr
     simp only [aT] at hr
     obtain ⟨xs,he,hr⟩:=hr
     refine dR.of (Sound.fG h fun c hcc => ?_)
     obtain ⟨v,hv,FG⟩:=(bI.1 hr).2 i c hcc
     refine Sound.same hi ?_ FG
     rw [he]
     simp at hv
     simp [Instr.extract,hv]
   . simp at h
 case call c =>
   simp only [nU] at hc
   cases yk:c.callee with
   | value f =>
     simp only [yk] at hc
     split at hc
     . split at hc
       . simp only [Option.some.injEq] at hc;subst hc
         simp [gv.map,bU] at h
       . simp at hc
     . rename_i k hk
       unfold WL at hc
       split at hc
       . rename_i x y mL
         split at hc
         . rename_i vx vy kK JA
           simp only [Option.some.injEq] at hc;subst hc
           cases k with
           | idx =>
             simp only [gv.map,bU] at h
             have hh:=QO (p:=p) ho yk hk mL hi (bc hf hi kK) (bc hf hi JA) h
             unfold execOp at hh;simp only [ho] at hh;exact hh
           | ovl =>
             simp only [gv.map,bU] at h
             have hh:=QP (p:=p) ho yk hk mL hi (bc hf hi kK) (bc hf hi JA) h
             unfold execOp at hh;simp only [ho] at hh;exact hh
         . simp at hc
       . simp at hc
   | invoke _ _=>simp [yk] at hc
   | builtin b =>
     simp only [yk] at hc
     have KO:∀ w,(do let d <- resolve a.eval c o.type;invoke d.target d.args:Sem Next).run P w =
         (builtin b c.argTypes o.type (c.args.map fun | .const _=>true | _=>false) (c.args.map a.eval)).run P w:=by
       intro w;simp [resolve,yk,invoke];rfl
     have fin:∀ {s:Sem Value},builtin b c.argTypes o.type (c.args.map fun | .const _=>true | _=>false) (c.args.map a.eval)=(do pure (.value (<- s)))->Sound P G own E w σ p s r ->
         dR P G own E w σ p r (do let d <- resolve a.eval c o.type;invoke d.target d.args):=by
       intro s he hs
       obtain ⟨v,w',E',hr,hp⟩:=hs
       exact ⟨v,w',E', .inl (by rw [KO,he];simp [hr]),hp⟩
     exact HD hi hμ hσ hf hc h fin
 all_goals simp [nU] at hc
theorem Tk (hi:Inv G own E w σ) (hμ : E.μ p=none) (hσ : σ p=none) {t:List AV} {a:Act} (hf:cj E w t a) {o:Oper} {vo:gv a6} (hc:Y9 P o.op=some vo) {r:eP}
   (h:bU σ p (vo.map (a6.ev G t))=some r):dR P G own E w σ p r (execOp a.eval o):=by
 unfold Y9 at hc
 split at hc
 . rename_i v hv
   simp only [Option.some.injEq] at hc;subst hc
   exact QQ hi hμ hσ hf hv h
 . simp only [Option.some.injEq] at hc;subst hc
   simp [gv.map,bU] at h
end
end Go.VL
end

section
namespace Go.VL
def aW (P:Program) (G:Nat->Option (List AV)) (f:FuncId) (args:List AV) (p:Id) (S:List (Id × da)) (r:eP):Prop :=
 (∃ fn,P.funcs[f]? = some fn/\(fn.name == "runtime.NumGoroutine")=false/\fn.body.isSome=true) /\
 ∀ own E w σ vs,(∀ x∈S, σ x.1=some x.2)->Inv G own E w σ -> bd E w args vs->(∀ j,p <:+ j->E.μ j=none) ->
   Calls P f vs.toArray w fun e w'=>∃ v E',e = .returned v/\lD G own E w σ p r v E' w'
def jY (P:Program) (G:Nat->Option (List AV)) (σ : af) (p:Id) (op:gv AV) (r:eP):Prop :=
 match op with
 | .call f as=>match f with
   | .fn (.func f) first cap=>∃ S,aW P G f (first++as++cap) p S r/\(∀ x∈S, σ x.1=some x.2)/\∀ x∈S,x.1∈r.rd
   | _=>False
 | op=>bU σ p op=some r
def fU (t:List AV) (d:Option Nat) (v:AV):List AV:=match d with | some d=>t.set d v | none=>t
def eT (t:List AV):Option (Nat × Bool)->Option Bool
 | none=>some true
 | some (d,want)=>match t[d]? with
   | some (.bool b)=>some (b==want)
   | some .top | some .anyb=>none
   | _=>some false
section
variable {P:Program} {G:Nat->Option (List AV)} {own:Nat->Prop} {E:Env} {w:World} {σ : af} {p:Id}
theorem cj.keep {E':Env} {w':World} {t:List AV} {a:Act} (h:cj E w t a) (s:Step E E' w w'):cj E' w' t a:=bd.keep s t _ h
theorem cj.put {t:List AV} {a:Act} (h:cj E w t a) {c:AV} {v:Value} (hv:aT E w c v) (d:Option Nat):cj E w (fU t d c) (a.put d v):=by
 cases d with
 | none=>exact h
 | some d =>
   obtain ⟨hl,hp⟩:=bI.1 h
   refine bI.2 ⟨by simpa [fU,Act.put] using hl,fun j c' hj => ?_⟩
   simp only [fU,List.getElem?_set] at hj
   simp only [Act.put,Array.toList_setIfInBounds,List.getElem?_set]
   split at hj
   . rename_i e
     subst e
     split at hj
     . rename_i hlt
       simp only [Option.some.injEq] at hj;subst hj
       exact ⟨v,by rw [if_pos rfl,if_pos (by omega)],hv⟩
     . simp at hj
   . rename_i e
     rw [if_neg e]
     exact hp j c' hj
theorem cj.at? {t:List AV} {a:Act} (h:cj E w t a) (d:Nat):(t[d]? = none/\a.tmps[d]? = none)∨∃ c v,t[d]? = some c/\a.tmps[d]? = some v/\aT E w c v:=by
 obtain ⟨hl,hp⟩:=bI.1 h
 by_cases hd:d<t.length
 . right
   obtain ⟨v,hv,hr⟩:=hp d t[d] (by simp [hd])
   exact ⟨t[d],v,by simp [hd],by simpa using hv,hr⟩
 . left
   have:a.tmps.size<=d:=by have:=hl;simp at this;omega
   exact ⟨by simp;omega,by simp;omega⟩
theorem JB {c:AV} {v:Value} (h:aT E w c v) (h1:∀ b,c ≠ .bool b) (h2:c ≠ .top) (h3:c ≠ .anyb):∀ b,v ≠ .bool b:=by
 intro b e
 subst e
 cases c<;>simp only [aT,reduceCtorEq,exists_const,false_and,and_false] at h
 . exact h1 _ rfl
 all_goals first
   | exact h2 rfl
   | exact h3 rfl
   | (obtain ⟨_,_,h,_⟩:=h;cases h)
   | (obtain ⟨_,h,_⟩:=h;cases h)
   | (obtain ⟨_,_,h⟩:=h;cases h)
theorem vG {ops:Array Oper} {o:Oper} {vo:bq} (hc:Ad P ops o=some vo) {t:List AV} {a:Act} (hf:cj E w t a) {b:Bool} (h:eT t vo.guard=some b):Region.wanted o (yielded ops a.tmps)=b:=by
 unfold Ad at hc
 cases hop:Y9 P o.op with
 | none=>simp [hop] at hc
 | some op =>
   simp only [hop] at hc
   cases hg:o.guard with
   | none =>
     simp only [hg,Option.some.injEq] at hc;subst hc
     simp only [eT,Option.some.injEq] at h;subst h
     simp [Region.wanted,hg]
   | some jw =>
     obtain ⟨j,want⟩:=jw
     simp only [hg] at hc
     cases hd:(ops[j]?).bind (·.dst) with
     | none=>simp [hd] at hc
     | some d =>
       simp only [hd,Option.some.injEq] at hc;subst hc
       simp only [eT] at h
       simp only [Region.wanted,hg,yielded,hd,Option.bind_some]
       rcases hf.at? d with ⟨h1,h2⟩ | ⟨c,v,h1,h2,hr⟩
       . simp only [h1,Option.some.injEq] at h;subst h
         simp [h2]
       . simp only [h1] at h
         simp only [h2]
         cases c with
         | bool b' =>
           simp only [Option.some.injEq] at h;subst h
           simp only [aT] at hr;subst hr
           simp
         | top=>simp at h
         | anyb=>simp at h
         | _ =>
           simp only [Option.some.injEq] at h;subst h
           have Wv:=JB hr (by simp) (by simp) (by simp)
           cases v<;>simp at Wv ⊢
theorem KP {ops:Array Oper} {o:Oper} {vo:bq} (hc:Ad P ops o=some vo):Y9 P o.op=some vo.op/\vo.dst=o.dst:=by
 unfold Ad at hc
 cases hop:Y9 P o.op with
 | none=>simp [hop] at hc
 | some op =>
   simp only [hop] at hc
   split at hc
   . simp only [Option.some.injEq] at hc;subst hc;simp_all
   . split at hc
     . simp only [Option.some.injEq] at hc;subst hc;simp_all
     . simp at hc
   . simp_all
theorem W8 {k:WK} {l:List Operand} (f:a6) (as:List a6):WL k l≠some (.call f as):=by
 unfold WL
 split
 . split
   . cases k<;>simp
   . simp
 . simp
theorem FO (hi:Inv G own E w σ) (hμ : ∀ j,p <:+ j->E.μ j=none) {t:List AV} {a:Act} (hf:cj E w t a) {o:Oper} {vo:gv a6} (hc:Y9 P o.op=some vo) {r:eP}
   (h:jY P G σ p (vo.map (a6.ev G t)) r) {K:Act->World->Prop} {Q:Exit->Act->World->Prop} (hK:∀ v w' E',lD G own E w σ p r v E' w'->K (a.put o.dst v) w'):o.wp P a w K Q:=by
 have hσ : σ p=none:=by
   cases hs : σ p with
   | none=>rfl
   | some bk=>obtain ⟨g,N,cur,ty,hB⟩:=hi.blk _ _ hs;have:=hB.μ;rw [hμ _ (List.suffix_refl _)] at this;simp at this
 have plain:bU σ p (vo.map (a6.ev G t))=some r->o.wp P a w K Q:=by
   intro hv
   obtain ⟨v,w',E',hrun,hp⟩:=Tk hi (hμ p (List.suffix_refl _)) hσ hf hc hv
   unfold Oper.wp
   rcases hrun with hrun | ⟨hrun,rfl⟩
   . rw [hrun];exact hK v w' E' hp
   . rw [hrun];exact hK undef w' E' hp
 cases vo with
 | call f as =>
   replace hc:nU P o.op=some (.call f as):=by
     unfold Y9 at hc
     split at hc
     . rename_i v hv;rw [hv];exact hc
     . simp at hc
   simp only [gv.map,jY] at h
   split at h
   . rename_i f' fid first cap Tf
     obtain ⟨S,Tl,hS,_⟩:=h
     obtain ⟨⟨fn,Ik,ui,ac6⟩,Tl⟩:=Tl
     cases hop:o.op with
     | call c =>
       rw [hop] at hc
       simp only [nU] at hc
       cases yk:c.callee with
       | value fo =>
         simp only [yk] at hc
         split at hc
         case h_2=>exact absurd hc (W8 _ _)
         split at hc
         . rename_i vf vas h1 h2
           simp only [Option.some.injEq,gv.call.injEq] at hc
           obtain ⟨rfl,rfl⟩:=hc
           have hrf:=bc hf hi h1
           rw [Tf] at hrf
           simp only [aT] at hrf
           obtain ⟨xs,ys,hfv,hx,hy⟩:=hrf
           have hra:=C7 hf hi h2
           have mL:bd E w (first++vas.map (a6.ev G t)++cap) (xs.toList++(c.args.map a.eval).toList++ys.toList):=bd.append (bd.append hx hra) hy
           have Hu:=Tl own E w σ _ hS hi mL hμ
           have hrun:(execOp a.eval o).run P w = .ok (.enter fid (xs++c.args.map a.eval++ys)) w:=by
             have Wv : ¬ fn.body=none:=by intro e;simp [e] at ac6
             have hnn : ¬ fn.name = "runtime.NumGoroutine" := by intro e;simp [e] at ui
             simp [execOp,hop,resolve,yk,hfv,Deferred.ofValue,invoke,callFunc,Ik,hnn,Wv]
           unfold Oper.wp
           rw [hrun,Oper.upon_enter]
           have hae:(xs.toList++(c.args.map a.eval).toList++ys.toList).toArray=xs++c.args.map a.eval++ys:=by apply Array.ext';simp
           rw [hae] at Hu
           refine Hu.mono fun e w' he => ?_
           obtain ⟨v,E',rfl,hp⟩:=he
           exact hK v w' E' hp
         . simp at hc
       | invoke _ _=>simp [yk] at hc
       | builtin b =>
         simp only [yk] at hc
         unfold Bo at hc
         split at hc<;>(try split at hc)<;>(try split at hc)<;>(try split at hc)<;>(try split at hc)<;>simp at hc
     | _ =>
       rw [hop] at hc
       simp only [nU] at hc
       exfalso
       revert hc
       clear plain Tf
       intro hc
       first
         | simp at hc
         | (simp only [Option.map_eq_some_iff] at hc;obtain ⟨_,_,hc⟩:=hc;cases hc)
         | ((repeat' split at hc)<;>first | (simp at hc;done) | (simp only [Option.map_eq_some_iff] at hc;obtain ⟨_,_,hc⟩:=hc;cases hc) | (cases hc))
   . exact h.elim
 | _=>exact plain h
end
end Go.VL
end

section
namespace Go.VL
abbrev Done:=Option Nat × eP
def eW (X:Nat->Bool):List Done->Nat->List AV->List AV
 | [],_,t=>t
 | (d,r)::L,i,t=>eW X L (i+1) (if X i then fU t d r.val else t)
def gG (X:Nat->Bool):List Done->Nat->af->af
 | [],_, σ => σ
 | (_,r)::L,i, σ => gG X L (i+1) (if X i then σ.app r.up else σ)
theorem uj (t:List AV) (d:Option Nat) (v:AV) (s:Nat):(fU t d v)[s]? = if d=some s then (if s<t.length then some v else none) else t[s]? := by
 cases d with
 | none=>simp [fU]
 | some d =>
   simp only [fU,List.getElem?_set,Option.some.injEq]
   by_cases e:d=s
   . subst e;simp
   . simp [e]
theorem KQ (t:List AV) (d:Option Nat) (v:AV):(fU t d v).length=t.length:=by cases d<;>simp [fU]
theorem Io (X:Nat->Bool):∀ (L:List Done) (i:Nat) (t:List AV),(eW X L i t).length=t.length
 | [],_,_=>rfl
 | (d,r)::L,i,t=>by
   simp only [eW];rw [Io X L]
   split
   . exact KQ t d r.val
   . rfl
theorem QR {t t':List AV} {s:Nat} (h:t[s]? = t'[s]?):(s<t.length)=(s<t'.length):=by
 have h1:s<t.length↔t[s]? ≠ none:=by simp
 have h2:s<t'.length↔t'[s]? ≠ none:=by simp
 exact propext (h1.trans ((by rw [h]:t[s]? ≠ none↔t'[s]? ≠ none).trans h2.symm))
theorem sy {X Y:Nat->Bool} {s:Nat}:∀ (L:List Done) (i:Nat) (t t':List AV),t[s]? = t'[s]? -> (∀ k d r,L[k]? = some (d,r)->X (i+k)≠Y (i+k)->d≠some s)->(eW X L i t)[s]? = (eW Y L i t')[s]?
 | [],_,_,_,h,_=>h
 | (d,r)::L,i,t,t',h,hd=>by
   simp only [eW]
   refine sy L (i+1) _ _ ?_ (fun k d' r' hk hne=>hd (k+1) d' r' (by simpa using hk) (by rwa [show i+(k+1)=i+1+k from by omega]))
   by_cases hx:X i=Y i
   . rw [hx]
     split
     . rw [uj,uj];simp only [QR h,h]
     . exact h
   . have:=hd 0 d r rfl hx
     have e1:(fU t d r.val)[s]? = t[s]? := by rw [uj,if_neg this]
     have e2:(fU t' d r.val)[s]? = t'[s]? := by rw [uj,if_neg this]
     split<;>split<;>simp only [e1,e2,h]
theorem af.QS {σ σ':af} {id:Id} (h : σ id = σ' id):∀ (up:List (Id × Option da)),(σ.app up) id=(σ'.app up) id:=by
 intro up
 induction up generalizing σ σ' with
 | nil=>exact h
 | cons x up ih =>
   obtain ⟨i,b⟩:=x
   simp only [af.app]
   refine ih ?_
   simp only [af.put]
   split<;>first | rfl | exact h
theorem af.zE {σ : af} {id:Id}:∀ {up:List (Id × Option da)},id ∉ up.map (·.1)->(σ.app up) id = σ id:=by
 intro up
 induction up generalizing σ with
 | nil=>intro _;rfl
 | cons x up ih =>
   obtain ⟨i,b⟩:=x
   intro h
   simp only [List.map_cons,List.mem_cons,not_or] at h
   simp only [af.app]
   rw [ih h.2,af.cB _ _ _ h.1]
theorem af.JC {σ σ':af} {id:Id}:∀ {up:List (Id × Option da)},id∈up.map (·.1)->(σ.app up) id=(σ'.app up) id:=by
 intro up
 induction up generalizing σ σ' with
 | nil=>intro h;simp at h
 | cons x up ih =>
   obtain ⟨i,b⟩:=x
   intro h
   simp only [af.app]
   by_cases p9:id∈up.map (·.1)
   . exact ih p9
   . have he:id=i:=by simpa [p9] using h
     subst he
     rw [af.zE p9,af.zE p9,af.dA,af.dA]
theorem sC {X Y:Nat->Bool} {id:Id}:∀ (L:List Done) (i:Nat) (σ σ':af), σ id = σ' id->(∀ k d r,L[k]? = some (d,r)->X (i+k)≠Y (i+k)->id ∉ r.up.map (·.1))->gG X L i σ id=gG Y L i σ' id
 | [],_,_,_,h,_=>h
 | (d,r)::L,i, σ, σ',h,hd=>by
   simp only [gG]
   refine sC L (i+1) _ _ ?_ (fun k d' r' hk hne=>hd (k+1) d' r' (by simpa using hk) (by rwa [show i+(k+1)=i+1+k from by omega]))
   by_cases hx:X i=Y i
   . rw [hx]
     split
     . exact af.QS h _
     . exact h
   . have:=hd 0 d r rfl hx
     split<;>split<;>simp only [af.zE this,h]
theorem FP {X:Nat->Bool} {s:Nat} {r:eP}:∀ (L:List Done) (i j:Nat) (t:List AV),L[j]? = some (some s,r)->X (i+j)=true->(∀ k d r',L[k]? = some (d,r')->j<k->X (i+k)=true->d≠some s) ->
   (eW X L i t)[s]? = if s<t.length then some r.val else none
 | [],_,_,_,h,_,_=>by simp at h
 | (d,r')::L,i,0,t,h,hx,hd=>by
   simp only [List.getElem?_cons_zero,Option.some.injEq,Prod.mk.injEq] at h
   obtain ⟨rfl,rfl⟩:=h
   simp only [eW]
   rw [Nat.add_zero] at hx
   rw [if_pos hx]
   have:=sy (X:=X) (Y:=fun _=>false) (s:=s) L (i+1) (fU t (some s) r'.val) (fU t (some s) r'.val) rfl (fun k d r2 hk hne=>hd (k+1) d r2 (by simpa using hk) (by omega) (by
     rw [show i+(k+1)=i+1+k from by omega]
     cases hh:X (i+1+k) with
     | true=>rfl
     | false=>simp [hh] at hne))
   rw [this]
   have none:∀ (L:List Done) (i:Nat) (t:List AV),eW (fun _=>false) L i t=t:=by
     intro L
     induction L with
     | nil=>intro _ _;rfl
     | cons x L ih=>intro i t;obtain ⟨d,r⟩:=x;simp only [eW];rw [ih];simp
   rw [none,uj,if_pos rfl]
 | (d,r')::L,i,j+1,t,h,hx,hd=>by
   simp only [eW]
   have:=FP L (i+1) j (if X i then fU t d r'.val else t) (by simpa using h) (by rwa [show i+1+j=i+(j+1) from by omega])
     (fun k d r2 hk hlt EF=>hd (k+1) d r2 (by simpa using hk) (by omega) (by rwa [show i+(k+1)=i+1+k from by omega]))
   rw [this]
   split<;>simp [KQ]
theorem FQ {X:Nat->Bool} {id:Id} {d:Option Nat} {r:eP} {σ':af}:∀ (L:List Done) (i j:Nat) (σ : af),L[j]? = some (d,r)->X (i+j)=true->id∈r.up.map (·.1) ->
   (∀ k d r',L[k]? = some (d,r')->j<k->X (i+k)=true->id ∉ r'.up.map (·.1))->gG X L i σ id=(σ'.app r.up) id
 | [],_,_,_,h,_,_,_=>by simp at h
 | (d',r')::L,i,0, σ,h,hx,p9,hd=>by
   simp only [List.getElem?_cons_zero,Option.some.injEq,Prod.mk.injEq] at h
   obtain ⟨rfl,rfl⟩:=h
   simp only [gG]
   rw [Nat.add_zero] at hx
   rw [if_pos hx]
   have:=sC (X:=X) (Y:=fun _=>false) (id:=id) L (i+1) (σ.app r'.up) (σ.app r'.up) rfl (fun k d r2 hk hne=>hd (k+1) d r2 (by simpa using hk) (by omega) (by
     rw [show i+(k+1)=i+1+k from by omega]
     cases hh:X (i+1+k) with
     | true=>rfl
     | false=>simp [hh] at hne))
   rw [this]
   have none:∀ (L:List Done) (i:Nat) (σ : af),gG (fun _=>false) L i σ = σ := by
     intro L
     induction L with
     | nil=>intro _ _;rfl
     | cons x L ih=>intro i t;obtain ⟨d,r⟩:=x;simp only [gG];rw [ih];simp
   rw [none]
   exact af.JC p9
 | (d',r')::L,i,j+1, σ,h,hx,p9,hd=>by
   simp only [gG]
   exact FQ L (i+1) j _ (by simpa using h) (by rwa [show i+1+j=i+(j+1) from by omega]) p9
     (fun k d r2 hk hlt EF=>hd (k+1) d r2 (by simpa using hk) (by omega) (by rwa [show i+(k+1)=i+1+k from by omega]))
theorem sZ {X:Nat->Bool}:∀ (L:List Done) (i:Nat) (t:List AV),(∀ k,k<L.length->X (i+k)=false)->eW X L i t=t
 | [],_,_,_=>rfl
 | (d,r)::L,i,t,h=>by
   simp only [eW]
   have:=h 0 (by simp)
   rw [Nat.add_zero] at this
   rw [this]
   exact sZ L (i+1) t (fun k hk=>by rw [show i+1+k=i+(k+1) from by omega];exact h (k+1) (by simpa using hk))
theorem s4 {X:Nat->Bool}:∀ (L:List Done) (i:Nat) (σ : af),(∀ k,k<L.length->X (i+k)=false)->gG X L i σ = σ
 | [],_,_,_=>rfl
 | (d,r)::L,i,t,h=>by
   simp only [gG]
   have:=h 0 (by simp)
   rw [Nat.add_zero] at this
   rw [this]
   exact s4 L (i+1) t (fun k hk=>by rw [show i+1+k=i+(k+1) from by omega];exact h (k+1) (by simpa using hk))
section
variable (P:Program) (G:Nat->Option (List AV)) (π : Id)
def yl (σ : af) (p:Id) (op:gv AV) (K:eP->Prop):Prop :=
 match op with
 | .call f as=>match f with
   | .fn (.func f) first cap=>∃ S r,aW P G f (first++as++cap) p S r/\(∀ x∈S, σ x.1=some x.2)/\(∀ x∈S,x.1∈r.rd)/\K r
   | _=>False
 | op=>match bU σ p op with
   | some r=>K r
   | none=>False
def Bx (base:Nat) (K:List AV->af->Prop):List bq->Nat->List AV->af->Prop
 | [],_,t, σ => K t σ
 | o::os,i,t, σ => match eT t o.guard with
   | none=>False
   | some false=>Bx base K os (i+1) (fU t o.dst (.tup [])) σ
   | some true=>yl P G σ ((base+i) :: π) (o.op.map (a6.ev G t)) fun r=>Bx base K os (i+1) (fU t o.dst r.val) (σ.app r.up)
def Bz (base:Nat) (K:List eP->List AV->af->Prop):List bq->Nat->List eP->List AV->af->Prop
 | [],_,acc,t, σ => K acc.reverse t σ
 | o::os,i,acc,t, σ => match eT t o.guard with
   | none=>False
   | some false=>Bz base K os (i+1) ({ val := .tup [] }::acc) (fU t o.dst (.tup [])) σ
   | some true=>yl P G σ ((base+i) :: π) (o.op.map (a6.ev G t)) fun r=>Bz base K os (i+1) (r::acc) (fU t o.dst r.val) (σ.app r.up)
def apart (a b:eP):Prop:=(∀ x∈a.up,x.1 ∉ b.rd/\x.1 ∉ b.up.map (·.1))/\∀ x∈b.up,x.1 ∉ a.rd
def ab (rs:List eP) (ps:List (Nat × Nat)):Prop:=∀ q∈ps,∀ a b,rs[q.1]? = some a->rs[q.2]? = some b->apart a b
def BA (base:Nat) (o:bq) (k:Nat) (t:List AV) (σ : af) (r:eP):Prop :=
 (eT t o.guard=some false/\r={ val := .tup [] })∨(eT t o.guard=some true/\jY P G σ ((base+k) :: π) (o.op.map (a6.ev G t)) r)
end
section
variable {P:Program} {G:Nat->Option (List AV)} {π : Id} {own:Nat->Prop} {E:Env} {w:World} {σ : af}
theorem FR {σ : af} {p:Id} {op:gv AV} {K:eP->Prop} (h:yl P G σ p op K):∃ r,jY P G σ p op r/\K r:=by
 unfold yl at h
 cases op with
 | call f as =>
   simp only [] at h
   split at h
   . obtain ⟨S,r,h1,h2,h3,h4⟩:=h
     exact ⟨r,⟨S,h1,h2,h3⟩,h4⟩
   . exact h.elim
 | _ =>
   simp only [] at h
   split at h
   . rename_i r hr;exact ⟨r,hr,h⟩
   . exact h.elim
theorem Ip {base:Nat} {K:List eP->List AV->af->Prop}:∀ {os:List bq} {i:Nat} {acc:List eP} {t:List AV} {σ : af},Bz P G π base K os i acc t σ ->
   ∃ rs:List eP,rs.length=os.length /\
     (∀ k o r,os[k]? = some o->rs[k]? = some r->BA P G π base o (i+k) (eW (fun m=>m<i+k) ((os.map (·.dst)).zip rs) i t) (gG (fun m=>m<i+k) ((os.map (·.dst)).zip rs) i σ) r) /\
     K (acc.reverse++rs) (eW (fun _=>true) ((os.map (·.dst)).zip rs) i t) (gG (fun _=>true) ((os.map (·.dst)).zip rs) i σ)
 | [],i,acc,t, σ,h=>⟨[],rfl,by simp,by simpa [Bz,eW,gG] using h⟩
 | o :: os,i,acc,t, σ,h=>by
   have go:∀ r,BA P G π base o i t σ r->Bz P G π base K os (i+1) (r::acc) (fU t o.dst r.val) (σ.app r.up) ->
       ∃ rs:List eP,rs.length=(o::os).length /\
         (∀ k o' r,(o::os)[k]? = some o'->rs[k]? = some r->BA P G π base o' (i+k) (eW (fun m=>m<i+k) (((o::os).map (·.dst)).zip rs) i t) (gG (fun m=>m<i+k) (((o::os).map (·.dst)).zip rs) i σ) r) /\
         K (acc.reverse++rs) (eW (fun _=>true) (((o::os).map (·.dst)).zip rs) i t) (gG (fun _=>true) (((o::os).map (·.dst)).zip rs) i σ):=by
     intro r hr hv
     obtain ⟨rs,h1,h2,h3⟩:=Ip hv
     refine ⟨r::rs,by simp [h1], ?_, ?_⟩
     . intro k o' r' ho FH
       cases k with
       | zero =>
         simp only [List.getElem?_cons_zero,Option.some.injEq] at ho FH
         subst ho;subst FH
         rw [sZ _ _ _ (fun k _=>by simp),s4 _ _ _ (fun k _=>by simp),Nat.add_zero]
         exact hr
       | succ k =>
         have:=h2 k o' r' (by simpa using ho) (by simpa using FH)
         simp only [List.map_cons,List.zip_cons_cons,eW,gG]
         have hd:decide (i<i+(k+1))=true:=by simp
         rw [if_pos hd,if_pos hd]
         rw [show i+(k+1)=i+1+k from by omega]
         exact this
     . simpa [eW,gG] using h3
   simp only [Bz] at h
   split at h
   . exact h.elim
   . rename_i hw
     exact go { val := .tup [] } (.inl ⟨hw,rfl⟩) h
   . rename_i hw
     obtain ⟨r,hr,hk⟩:=FR h
     exact go r (.inr ⟨hw,hr⟩) hk
theorem KR {q q':Nat} {π j:Id} (h:(q :: π) <:+ j) (hne:q≠q') : ¬ (q' :: π) <:+ j:=by
 intro h'
 have:=List.suffix_of_suffix_length_le h h' (by simp)
 obtain ⟨l,hl⟩:=this
 have Ku:l=[]:=by
   have:=congrArg List.length hl
   simp at this;exact this
 subst Ku
 simp at hl
 exact hne hl
theorem lD.frame {p:Id} {r:eP} {v:Value} {E':Env} {w':World} (h:lD G own E w σ p r v E' w') {t:List AV} {a:Act} (hf:cj E w t a) (d:Option Nat):cj E' w' (fU t d r.val) (a.put d v) :=
 (hf.keep h.Hq.step).put h.rep d
theorem Iq {t:List AV} {a:Act} (hf:cj E w t a) (d:Option Nat):cj E w (fU t d (.tup [])) (a.put d undef) :=
 hf.put (by simp only [aT,undef];exact ⟨#[],rfl,by simp [bd]⟩) d
theorem sD (a:Act) (d:Option Nat) (v:Value):(a.put d v).defers=a.defers:=by cases d<;>rfl
def zT (E:Env) (π : Id) (n:Nat):Prop:=∀ j, π <:+ j->(∀ q,q<n -> ¬ (q :: π) <:+ j)->E.μ j=none
theorem zT.at {π : Id} {n q:Nat} (h:zT E π n) (hq:n<=q) {j:Id} (hj:(q :: π) <:+ j):E.μ j=none :=
 h j ((List.suffix_cons q π).trans hj) fun q' hq'=>KR hj (by omega)
theorem zT.mono {π : Id} {n n':Nat} (h:zT E π n) (hn:n<=n'):zT E π n':=fun j hj hq=>h j hj fun q hq'=>hq q (by omega)
theorem zT.step {π : Id} {n:Nat} {E':Env} (h:zT E π n) (W9:∀ i:Id, ¬ (n :: π) <:+ i->E'.μ i=E.μ i):zT E' π (n+1):=fun j hj hq=>by
 rw [W9 j (hq n (by omega))];exact h j hj fun q hq'=>hq q (by omega)
theorem zT.self {π : Id} {n:Nat} (h:zT E π n):E.μ π = none :=
 h π (List.suffix_refl _) fun q _ hs=>by have:=hs.length_le;simp at this;omega
structure mQ (own:Nat->Prop) (π : Id) (E E':Env) (w w':World):Prop extends Adv own E E' w w' where
 ids:∀ i:Id, ¬ π <:+ i->E'.μ i=E.μ i
theorem mQ.refl (own:Nat->Prop) (π : Id) (E:Env) (w:World):mQ own π E E w w:=⟨Adv.refl own E w,fun _ _=>rfl⟩
theorem mQ.trans {π : Id} {E' Y6:Env} {w' w'':World} (a:mQ own π E E' w w') (b:mQ own π E' Y6 w' w''):mQ own π E Y6 w w'' :=
 ⟨a.toAdv.trans b.toAdv,fun i hi=>(b.ids i hi).trans (a.ids i hi)⟩
theorem lD.ac7 {π : Id} {q:Nat} {r:eP} {v:Value} {E':Env} {w':World} (h:lD G own E w σ (q :: π) r v E' w'):mQ own π E E' w w' :=
 ⟨h.Hq,fun i hi=>h.ids i fun hs=>hi ((List.suffix_cons q π).trans hs)⟩
theorem FT {ops:Array Oper} {base:Nat} {K:List AV->af->Prop} {Q:Exit->Act->World->Prop} :
   ∀ (l:List Oper) (i:Nat),(∀ k,l[k]? = ops[i+k]?)->∀ (vs:List bq),l.mapM (Ad P ops)=some vs->∀ (t:List AV) (σ : af) (a:Act) (E:Env) (w:World),Bx P G π base K vs i t σ ->
   cj E w t a->Inv G own E w σ -> zT E π (base+i) ->
   (∀ t' σ' a' E' w',K t' σ'->mQ own π E E' w w'->cj E' w' t' a'->Inv G own E' w' σ'->zT E' π (base+i+l.length)->a'.defers=a.defers->Q .normal a' w') ->
   wpOps P ops Q ((List.range' i l.length)) a w
 | [],i,_,vs,hm,t, σ,a,E,w,hv,hf,hi,pS,hQ=>by
   simp at hm;subst hm
   simp only [Bx] at hv
   simp only [List.length_nil,List.range'_zero,wpOps]
   exact hQ t σ a E w hv (mQ.refl own π E w) hf hi pS rfl
 | o :: l,i,hl,vs,hm,t, σ,a,E,w,hv,hf,hi,pS,hQ=>by
   simp only [List.mapM_cons,Option.pure_def,Option.bind_eq_bind,Option.bind_eq_some_iff] at hm
   obtain ⟨vo,AA,vs',Na,he⟩:=hm
   simp only [Option.some.injEq] at he;subst he
   obtain ⟨hop,Tm⟩:=KP AA
   have hoi:ops[i]? = some o:=by have:=hl 0;simpa using this.symm
   simp only [List.length_cons,List.range'_succ]
   rw [wpOps_cons]
   unfold wpOp
   rw [hoi]
   simp only []
   have rest:∀ (t':List AV) (σ':af) (a':Act) (E':Env) (w':World),Bx P G π base K vs' (i+1) t' σ'->mQ own π E E' w w'->cj E' w' t' a'->Inv G own E' w' σ'->zT E' π (base+i+1)->a'.defers=a.defers ->
       wpOps P ops Q (List.range' (i+1) l.length) a' w':=by
     intro t' σ' a' E' w' hv' had WH pM Nu hde
     refine FT l (i+1) (fun k=>by rw [show i+1+k=i+(k+1) from by omega, <- hl];simp) vs' Na t' σ' a' E' w' hv' WH pM (by rw [<- Nat.add_assoc];exact Nu) ?_
     intro t2 σ2 a2 E2 w2 hk aaA hf2 QL aaB xK
     exact hQ t2 σ2 a2 E2 w2 hk (had.trans aaA) hf2 QL (by rw [List.length_cons,show base+i+(l.length+1)=base+(i+1)+l.length from by omega];exact aaB) (xK.trans hde)
   simp only [Bx] at hv
   split at hv
   . exact hv.elim
   . rename_i hw
     rw [vG AA hf hw]
     simp only [Bool.false_eq_true,if_false]
     rw [<- Tm]
     exact rest _ _ _ E w hv (mQ.refl own π E w) (Iq hf _) hi (pS.mono (by omega)) (sD _ _ _)
   . rename_i hw
     rw [vG AA hf hw]
     simp only [if_true]
     obtain ⟨r,hr,hk⟩:=FR hv
     left
     refine FO hi (fun j hj=>pS.at (Nat.le_refl _) hj) hf hop hr ?_
     intro v w' E' hp
     rw [<- Tm]
     exact rest _ _ _ E' w' hk hp.ac7 (hp.frame hf _) hp.inv (pS.step hp.ids) (sD _ _ _)
end
end Go.VL
end

section
namespace Go.VL
theorem Ir (f:Nat->Nat) (b:Nat):∀ (l:List Nat) (s:Nat),(l.foldl (fun s i=>s ||| 2 ^ i ||| f i) s).testBit b=true->s.testBit b=true∨∃ e∈l,b=e∨(f e).testBit b=true
 | [],s,h => .inl h
 | i :: l,s,h=>by
   simp only [List.foldl_cons] at h
   rcases Ir f b l _ h with h | ⟨e,he,h⟩
   . simp only [Nat.testBit_or,Bool.or_eq_true,Nat.testBit_two_pow,decide_eq_true_eq] at h
     rcases h with (h | h) | h
     . exact .inl h
     . exact .inr ⟨i,by simp, .inl h.symm⟩
     . exact .inr ⟨i,by simp, .inr h⟩
   . exact .inr ⟨e,by simp [he],h⟩
theorem Is:∀ (qw:List (List Nat)) (acc:List Nat),(jT qw acc).length=acc.length+qw.length
 | [],acc=>by simp [jT]
 | l::r,acc=>by simp only [jT];rw [Is r];simp;omega
theorem Dc:∀ (qw:List (List Nat)) (acc:List Nat) (k:Nat),k<acc.length->(jT qw acc)[k]? = acc[k]?
 | [],acc,k,_=>by simp [jT]
 | l::r,acc,k,h=>by
   simp only [jT]
   rw [Dc r _ k (by simp;omega),List.getElem?_append_left h]
theorem KS:∀ (qw:List (List Nat)) (acc:List Nat) (j:Nat) (l:List Nat),qw[j]? = some l->∃ QT:List Nat,QT.length=acc.length+j/\(∀ k,k<QT.length->(jT qw acc)[k]? = QT[k]?) /\
   (jT qw acc)[acc.length+j]? = some (l.foldl (fun s i=>s ||| 2 ^ i ||| QT.getD i 0) 0)
 | [],_,_,_,h=>by simp at h
 | l'::r,acc,0,l,h=>by
   simp only [List.getElem?_cons_zero,Option.some.injEq] at h;subst h
   refine ⟨acc,rfl,fun k hk=>Dc _ _ k hk, ?_⟩
   simp only [jT]
   rw [Dc r _ _ (by simp),List.getElem?_append_right (by omega)]
   simp
 | l'::r,acc,j+1,l,h=>by
   simp only [jT]
   obtain ⟨QT,h1,h2,h3⟩:=KS r (acc++[l'.foldl (fun s i=>s ||| 2 ^ i ||| acc.getD i 0) 0]) j l (by simpa using h)
   refine ⟨QT,by simp at h1;omega,h2, ?_⟩
   simp only [List.length_append,List.length_singleton] at h3
   rw [show acc.length+(j+1)=acc.length+1+j from by omega]
   exact h3
theorem QU {qw:List (List Nat)} {j b:Nat} (hlt:∀ e∈qw.getD j [],e<j) (h:((jT qw []).getD j 0).testBit b=true):∃ e∈qw.getD j [],b=e∨((jT qw []).getD e 0).testBit b=true:=by
 by_cases hj:j<qw.length
 . obtain ⟨acc,h1,h2,h3⟩:=KS qw [] j qw[j] (by simp [hj])
   simp only [List.length_nil,Nat.zero_add] at h1 h3
   have hg:(jT qw []).getD j 0=qw[j].foldl (fun s i=>s ||| 2 ^ i ||| acc.getD i 0) 0:=by simp [List.getD,h3]
   rw [hg] at h
   have ho:qw.getD j []=qw[j]:=by simp [List.getD,hj]
   rw [ho] at hlt ⊢
   rcases Ir _ b _ _ h with h | ⟨e,he,h⟩
   . simp at h
   . refine ⟨e,he,h.imp id fun h => ?_⟩
     have:(jT qw []).getD e 0=acc.getD e 0:=by
       simp only [List.getD]
       rw [h2 e (by rw [h1];exact hlt e he)]
     rw [this];exact h
 . have:(jT qw []).getD j 0=0:=by
     have:=Is qw []
     simp only [List.getD]
     rw [List.getElem?_eq_none (by simp at this;omega)]
     rfl
   rw [this] at h
   simp at h
theorem Ea {qw:List (List Nat)} {X:Nat->Bool} {n:Nat} (hlt:∀ j,j<n->∀ e∈qw.getD j [],e<j) (hX:∀ k,k<n->X k=true->∀ e∈qw.getD k [],X e=true) :
   ∀ j,j<n->(∀ e∈qw.getD j [],X e=true)->∀ b,((jT qw []).getD j 0).testBit b=true->X b=true:=by
 intro j
 induction j using Nat.strongRecOn with
 | _ j ih =>
   intro hj he b hb
   obtain ⟨e,he1,h⟩:=QU (hlt j hj) hb
   have hej:=hlt j hj e he1
   rcases h with rfl | h
   . exact he b he1
   . exact ih e hej (by omega) (hX e (by omega) (he e he1)) b h
theorem gv.map_congr {α β : Type} {g h : α -> β}:∀ (op:gv α),(∀ x∈op.args,g x=h x)->op.map g=op.map h:=by
 intro op hx
 have hl:∀ (l:List α),(∀ x∈l,x∈op.args)->l.map g=l.map h:=fun l hl=>List.map_congr_left fun x hxl=>hx x (hl x hxl)
 have ho:∀ (l:Option α),(∀ x,l=some x->x∈op.args)->l.map g=l.map h:=by
   intro l hl;cases l with
   | none=>rfl
   | some x=>simp [hx x (hl x rfl)]
 cases op<;>simp only [gv.map,gv.args] at hx hl ho ⊢
 case build z ps=>congr 1;apply List.map_congr_left;intro q hq;rw [hx q.2.2 (List.mem_map.2 ⟨q,hq,rfl⟩)]
 case buildSl k n z ps=>congr 1;apply List.map_congr_left;intro q hq;rw [hx q.2 (List.mem_map.2 ⟨q,hq,rfl⟩)]
 case mkfn fn a c=>rw [hl a (by simp +contextual),hl c (by simp +contextual)]
 case call f as=>rw [hx f (by simp),hl as (by simp +contextual)]
 case slice k x lo hi mx=>rw [hx x (by simp),ho lo (by simp +contextual),ho hi (by simp +contextual),ho mx (by simp +contextual)]
 case sliceS x lo hi=>rw [hx x (by simp),ho lo (by simp +contextual),ho hi (by simp +contextual)]
 all_goals try simp only [List.mem_cons,List.not_mem_nil,or_false,forall_eq_or_imp,forall_eq] at hx
 all_goals simp only [hx]
theorem Tn {G:Nat->Option (List AV)} {t t':List AV}:∀ (x:a6),(∀ s,x.acR=some s->t[s]? = t'[s]?)->x.ev G t=x.ev G t'
 | .t n,h=>by have:=h n rfl;simp [a6.ev,List.getD,this]
 | .c _,_=>rfl
 | .g _,_=>rfl
 | .f _,_=>rfl
theorem s5 {σ σ':af} {k:Nat} {x:AV} {ys:List AV} {rd:List Id} (h:fT σ k x=some (ys,rd)) (hr:∀ id∈rd, σ' id = σ id):fT σ' k x=some (ys,rd):=by
 unfold fT at h ⊢
 split at h
 . exact h
 . exact h
 . exact h
 . rename_i id k' off len t
   skip
   split at h
   . rename_i bk hb
     split at h
     . rename_i hh
       simp only [Option.some.injEq,Prod.mk.injEq] at h
       obtain ⟨rfl,rfl⟩:=h
       have:=hr id (by simp)
       rw [this,hb]
       simp [hh]
     . simp at h
   . simp at h
 . simp at h
theorem KT {σ : af} {id:Id} {off k:Nat} {news:List AV} {v:AV} {rd:List Id} {r:eP} (h:Bn σ id off k news v rd=some r):r.rd=id::rd:=by
 unfold Bn at h
 split at h
 . split at h
   . simp only [Option.some.injEq] at h;subst h;rfl
   . simp at h
 . simp at h
theorem Eb {σ σ':af} {id:Id} {off k:Nat} {news:List AV} {v:AV} {rd:List Id} {r:eP} (h:Bn σ id off k news v rd=some r) (hr:∀ id∈r.rd, σ' id = σ id):Bn σ' id off k news v rd=some r:=by
 have hrd:=KT h
 unfold Bn at h ⊢
 rw [hr id (by rw [hrd];simp)]
 exact h
theorem QW {σ σ':af} {p:Id} {op:gv AV} {r:eP} (h:bU σ p op=some r) (hr:∀ id∈r.rd, σ' id = σ id):bU σ' p op=some r:=by
 cases op with
 | load agg n x =>
   simp only [bU] at h ⊢
   unfold jl at h ⊢
   split at h
   . rename_i id e o
     skip
     cases hb : σ id with
     | none=>simp [hb] at h
     | some bk =>
       simp only [hb] at h
       cases he:bk.els[e]? with
       | none=>simp [he] at h
       | some el =>
         simp only [he,Option.map_eq_some_iff] at h
         obtain ⟨v,hv,rfl⟩:=h
         rw [hr id (by simp),hb]
         simp [he,hv]
   . exact h
   . simp at h
 | store n x v =>
   simp only [bU] at h ⊢
   unfold fy at h ⊢
   split at h
   . rename_i id e o
     skip
     cases hb : σ id with
     | none=>simp [hb] at h
     | some bk =>
       simp only [hb] at h
       cases he:bk.els[e]? with
       | none=>simp [he] at h
       | some el =>
         simp only [he] at h
         split at h
         . rename_i hh
           simp only [Option.some.injEq] at h;subst h
           rw [hr id (by simp),hb]
           simp [he,hh]
         . simp at h
   . simp at h
 | append k bytes s x =>
   simp only [bU] at h ⊢
   unfold eh at h ⊢
   cases Bj:fT σ k x with
   | none=>simp [Bj] at h
   | some q =>
     obtain ⟨ys,rd⟩:=q
     simp only [Bj] at h
     have FL : ∀ id∈rd,id∈r.rd:=by
       intro id jS
       split at h
       . split at h<;>first | (simp only [Option.some.injEq] at h;subst h;exact jS) | simp at h
       . split at h
         . split at h<;>first | (simp only [Option.some.injEq] at h;subst h;exact jS) | simp at h
         . split at h<;>first | (simp only [Option.some.injEq] at h;subst h;exact jS) | simp at h
         . split at h
           . split at h
             . split at h
               . split at h<;>first | (simp only [Option.some.injEq] at h;subst h;exact List.mem_cons_of_mem _ jS) | (simp at h;done)
               . split at h<;>first | (simp only [Option.some.injEq] at h;subst h;exact List.mem_cons_of_mem _ jS) | (split at h<;>first | (simp only [Option.some.injEq] at h;subst h;exact List.mem_cons_of_mem _ jS) | (simp at h;done))
             . simp at h
           . simp at h
         . simp at h
     rw [s5 Bj (fun id jS=>hr id (FL id jS))]
     simp only []
     split at h
     . rename_i Nq
       rw [if_pos Nq];exact h
     . rename_i Nq
       rw [if_neg Nq]
       split at h
       . exact h
       . exact h
       . rename_i id k' off len t
         skip
         cases hb : σ id with
         | none=>simp [hb] at h
         | some bk =>
           simp only [hb] at h
           have jS:id∈r.rd:=by
             split at h
             . split at h
               . split at h<;>first | (simp only [Option.some.injEq] at h;subst h;simp;done) | (simp at h;done)
               . split at h<;>first | (simp only [Option.some.injEq] at h;subst h;simp;done) | (split at h<;>first | (simp only [Option.some.injEq] at h;subst h;simp;done) | (simp at h;done))
             . simp at h
           rw [hr id jS,hb]
           exact h
       . simp at h
 | bytesStr x =>
   simp only [bU] at h ⊢
   unfold nK at h ⊢
   cases Bj:fT σ 1 x with
   | none=>simp [Bj] at h
   | some q =>
     obtain ⟨ys,rd⟩:=q
     simp only [Bj,Option.map_eq_some_iff] at h
     obtain ⟨l,hl,rfl⟩:=h
     rw [s5 Bj hr]
     simp [hl]
 | slice k x lo hi mx =>
   simp only [bU] at h ⊢
   cases hs:gP k x lo hi mx with
   | some v=>rw [hs] at h;exact h
   | none =>
     rw [hs] at h
     simp only [vC] at h ⊢
     split at h
     . rename_i id k' off len hh
       cases hb : σ id with
       | none=>simp [hb] at h
       | some bk =>
         simp only [hb] at h
         split at h
         . rename_i hc
           simp only [Option.map_eq_some_iff] at h
           obtain ⟨v,hv,rfl⟩:=h
           rw [hr id (by simp),hb]
           simp [hc,hv]
         . simp at h
     . exact h
     . simp at h
 | cap x =>
   simp only [bU] at h ⊢
   cases hs:SY x with
   | some v=>rw [hs] at h;exact h
   | none =>
     rw [hs] at h
     simp only [FD] at h ⊢
     split at h
     . rename_i id k' off len
       cases hb : σ id with
       | none=>simp [hb] at h
       | some bk =>
         simp only [hb] at h
         split at h
         . rename_i hc
           simp only [Option.some.injEq] at h;subst h
           rw [hr id (by simp),hb]
           simp [hc]
         . simp at h
     . simp at h
 | ovl x y =>
   simp only [bU] at h ⊢
   unfold Qz at h ⊢
   split at h
   . rename_i i1 _ _ _ _ i2 _ _ _ _
     split at h
     . simp at h
     . rename_i hne
       cases h1 : σ i1 with
       | none=>simp [h1] at h
       | some b1 =>
         cases h2 : σ i2 with
         | none=>simp [h1,h2] at h
         | some b2 =>
           simp only [h1,h2] at h
           split at h
           . rename_i hp
             simp only [Option.some.injEq] at h;subst h
             simp only [hr i1 (by simp),hr i2 (by simp),h1,h2]
             rw [if_neg hne,if_pos hp]
           . simp at h
   . simp at h
 | clear k z x =>
   simp only [bU] at h ⊢
   unfold FC at h ⊢
   split at h
   . exact h
   . rename_i id k' off len tt
     split at h
     . rename_i h0;simp only [h0,if_true];exact h
     . rename_i h0
       simp only [h0,if_false]
       split at h
       . rename_i hh;rw [if_pos hh];exact Eb h hr
       . simp at h
   . simp at h
 | copy k d x =>
   simp only [bU] at h ⊢
   unfold KC at h ⊢
   cases Bj:fT σ k x with
   | none=>simp [Bj] at h
   | some q =>
     obtain ⟨ys,rd⟩:=q
     simp only [Bj] at h
     have FL:∀ id∈rd,id∈r.rd:=by
       intro id jS
       split at h
       . simp only [Option.some.injEq] at h;subst h;exact jS
       . split at h
         . simp only [Option.some.injEq] at h;subst h;exact jS
         . split at h
           . have:=KT h;rw [this];exact List.mem_cons_of_mem _ jS
           . simp at h
       . simp at h
     rw [s5 Bj (fun id jS=>hr id (FL id jS))]
     simp only []
     split at h
     . exact h
     . split at h
       . rename_i h0;rw [if_pos h0];exact h
       . rename_i h0
         rw [if_neg h0]
         split at h
         . rename_i hk;rw [if_pos hk];exact Eb h hr
         . simp at h
     . simp at h
 | _=>exact h
theorem HE {P:Program} {G:Nat->Option (List AV)} {σ σ':af} {p:Id} {op:gv AV} {r:eP} (h:jY P G σ p op r) (hr:∀ id∈r.rd, σ' id = σ id):jY P G σ' p op r:=by
 cases op with
 | call f as =>
   simp only [jY] at h ⊢
   split at h
   . obtain ⟨S,h1,h2,h3⟩:=h
     exact ⟨S,h1,fun x hx=>by rw [hr _ (h3 x hx)];exact h2 x hx,h3⟩
   . exact h
 | _=>exact QW h hr
theorem qV {oc:Option AV} {r:eP} (h:bu oc=some r):r.rd=[]/\r.up=[]:=by
 cases oc with
 | none=>simp [bu] at h
 | some c=>simp only [bu,Option.map_some,Option.some.injEq] at h;subst h;exact ⟨rfl,rfl⟩
theorem QX {P:Program} {G:Nat->Option (List AV)} {σ : af} {p:Id} {op:gv a6} (hp:op.pure=true) {t:List AV} {r:eP} (h:jY P G σ p (op.map (a6.ev G t)) r):r.rd=[]/\r.up=[]:=by
 cases op<;>simp only [gv.pure,Bool.false_eq_true] at hp<;>simp only [gv.map,jY,bU] at h
 all_goals first
   | exact qV h
   | (simp at h;done)
   | (split at h<;>first | exact qV h | (simp at h;done) | (split at h<;>first | exact qV h | (simp at h;done)))
theorem QY {P:Program} {G:Nat->Option (List AV)} {σ : af} {p:Id} {op:gv a6} (hp:op.sY=true) {t:List AV} {r:eP} (h:jY P G σ p (op.map (a6.ev G t)) r):r.up=[]:=by
 cases op<;>simp only [gv.sY,Bool.false_eq_true] at hp
 case bytesStr =>
   simp only [gv.map,jY,bU] at h
   unfold nK at h
   split at h
   . simp only [Option.map_eq_some_iff] at h;obtain ⟨v,_,rfl⟩:=h;rfl
   . simp at h
 case ovl =>
   simp only [gv.map,jY,bU] at h
   unfold Qz at h
   split at h
   . split at h
     . simp at h
     . split at h
       . split at h
         . simp only [Option.some.injEq] at h;subst h;rfl
         . simp at h
       . simp at h
   . simp at h
 case slice =>
   simp only [gv.map,jY,bU] at h
   unfold vC at h
   split at h
   . exact (qV h).2
   . split at h
     . split at h
       . split at h
         . simp only [Option.map_eq_some_iff] at h;obtain ⟨v,_,rfl⟩:=h;rfl
         . simp at h
       . simp at h
     . split at h
       . split at h
         . split at h
           . simp only [Option.some.injEq] at h;subst h;rfl
           . simp at h
         . simp at h
       . simp at h
     . simp at h
 case cap =>
   simp only [gv.map,jY,bU] at h
   unfold FD at h
   split at h
   . exact (qV h).2
   . split at h
     . split at h
       . split at h
         . simp only [Option.some.injEq] at h;subst h;rfl
         . simp at h
       . simp at h
     . simp at h
 simp only [gv.map,jY,bU] at h
 unfold jl at h
 split at h
 . split at h
   . split at h
     . simp only [Option.map_eq_some_iff] at h;obtain ⟨v,_,rfl⟩:=h;rfl
     . simp at h
   . simp at h
 . simp only [Option.map_eq_some_iff] at h;obtain ⟨v,_,rfl⟩:=h;rfl
 . simp at h
end Go.VL
end
