/- For the claim of HistoryOps: parts VL9, VL2S, VL10, VL11, VL12, VL13, VL14. -/
import Derived.Test.YtcomlgfjnjpebaaGreatDoorC01
import Derived.Lib.AppendZeros
import Derived.Laws.BytesArg
import Derived.Laws.Externs
import Derived.Lib.Bytealg
import Derived.Lib.Overlaps
import Derived.Orders
set_option linter.unusedSimpArgs false
set_option linter.unusedVariables false
section
namespace Go.VL
section
variable {P:Program} {G:Nat->Option (List AV)} {own:Nat->Prop} {E:Env} {w:World} {σ : aa} {p:Id}
theorem FI {len l r:Nat} {lo hi:Option AV} (hb:cN len lo hi=some (l,r)):dY len len hi=some r/\dY 0 r lo=some l:=by
 unfold cN at hb
 split at hb
 . simp at hb
 . rename_i h1 e1
   split at hb
   . simp at hb
   . rename_i l1 e2
     simp only [Option.some.injEq,Prod.mk.injEq] at hb
     obtain ⟨rfl,rfl⟩:=hb
     exact ⟨e1,e2⟩
theorem DT (s:List UInt8) (l r:Nat):(ByteArray.mk s.toArray).extract l r=⟨((s.take r).drop l).toArray⟩:=by
 apply ByteArray.ext
 rw [ByteArray.data_extract]
 apply Array.ext'
 simp [List.extract_eq_take_drop,List.drop_take]
theorem DU (hi:Inv G own E w σ) {t:TypeId} (hu:P.underlying t=some .string) {x:AV} {v:Value} (hx:aM E w x v)
   {lo jf:Option AV} {M5 Lb:Option Value} (uQ:mT E w lo M5) (zT:mT E w jf Lb) {c:AV} (h:qL x lo jf=some c):Sound P G own E w σ p (Instr.sliceAt t v M5 Lb none) { val:=c }:=by
 unfold qL at h
 split at h
 . rename_i s
   simp only [aM] at hx;subst hx
   split at h
   . rename_i l r hb
     obtain ⟨zI,wN⟩:=FI hb
     simp only [Option.some.injEq] at h;subst h
     obtain ⟨qz,Gx,Gy⟩:=iU (P:=P) (isSlice:=false) (mx:=none) (vmx:=none) (m:=s.length) uQ zT trivial (Nat.le_refl _) zI wN (.inl ⟨rfl,rfl⟩)
     refine Sound.same (v := .string ⟨((s.take r).drop l).toArray⟩) hi ?_ (by simp [aM])
     have uD:(ByteArray.mk s.toArray).size=s.length:=by simp [ByteArray.size]
     simp [Instr.sliceAt,Instr.slice,run_underlying hu,uD,qz,DT]
   . simp at h
 . simp at h
theorem FJ {b o k:Nat} {es:List AV} (hk:∀ e∈es,e.size=k) (h:iS E w b o es) {i:Nat} {e:AV} (he:es[i]? = some e):cv E w b (o+i*k) e.cells :=
 gA.2 (GL hk (dJ.1 h) he)
theorem FK (hi:Inv G own E w σ) {t e:TypeId} {i:TypeInfo} (hu:P.underlying t=some (.slice e)) (dv:P.info? e=some i) {x j:AV} {v u:Value} (hx:aM E w x v) (hj:aM E w j u) {c:AV}
   (h:bz i.size x j=some c):Sound P G own E w σ p (Instr.indexAt t v u) { val:=c }:=by
 have eH:∀ (a:Addr) (len cap:Nat) (k:IntKind) (n:Int),0<=n->n<len->(Instr.indexAt t (.slice (some a) len cap) (.int k n)).run P w = .ok (.pointer (some (a.add (n.toNat*i.size)))) w:=by
   intro a len cap k n h0 h1
   simp [Instr.indexAt,run_underlying hu,asIntOf,h0,h1,eR dv]
 unfold bz at h
 split at h
 . rename_i kk n
   simp only [aM] at hj;subst hj
   have row:∀ {es:List AV} {a:Option Addr} {cap:Nat},(∀ e∈es,e.size=i.size)->(es=[]∨∃ b o,a=some ⟨b,o,none⟩/\E.ok b/\iS E w b o es)->0<=n ->
       (es[n.toNat]?).map (fun e=>AV.ep e.cells 0)=some c->Sound P G own E w σ p (Instr.indexAt t (.slice a es.length cap) (.int kk n)) { val:=c }:=by
     intro es a cap hk rf h0 h
     simp only [Option.map_eq_some_iff] at h
     obtain ⟨el,vn,rfl⟩:=h
     have aN:n.toNat<es.length:=(List.getElem?_eq_some_iff.1 vn).1
     rcases rf with rfl | ⟨b,o,rfl,hb,hr⟩
     . simp at aN
     . refine Sound.same hi (eH _ _ cap kk n h0 (by omega)) ?_
       rw [Addr.add_lit]
       simp only [aM]
       exact ⟨b,o+n.toNat*i.size,by simp,hb,FJ hk hr vn⟩
   split at h
   . rename_i k' es
     simp only [aM] at hx
     obtain ⟨a,cap,rfl,_,_,hk,rf⟩:=hx
     split at h
     . rename_i hh
       obtain ⟨rfl,h0⟩:=hh
       exact row hk rf h0 h
     . simp at h
   . rename_i k' es
     simp only [aM] at hx
     obtain ⟨a,rfl,_,hk,rf⟩:=hx
     split at h
     . rename_i hh
       obtain ⟨rfl,h0⟩:=hh
       exact row hk rf h0 h
     . simp at h
   . rename_i id k' off len tt
     simp only [aM] at hx
     obtain ⟨g,N,cap,hm,rfl,_⟩:=hx
     split at h
     . rename_i hh
       obtain ⟨rfl,h0,h1⟩:=hh
       simp only [Option.some.injEq] at h;subst h
       refine Sound.same hi (eH _ _ cap kk n h0 h1) ?_
       rw [Addr.add_lit]
       simp only [aM]
       exact ⟨g,i.size,N,hm,by simp [Nat.add_mul]⟩
     . simp at h
   . simp at h
 . simp at h
theorem FL (hi:Inv G own E w σ) {t e:TypeId} {n:Nat} {i:TypeInfo} (hu:P.underlying t=some (.array n e)) (dv:P.info? e=some i) {x j:AV} {v u:Value} (hx:aM E w x v) (hj:aM E w j u) {c:AV}
   (h:ij n i.size x j=some c):Sound P G own E w σ p (Instr.indexAt t v u) { val:=c }:=by
 unfold ij at h
 split at h
 . rename_i kk m
   simp only [aM] at hj;subst hj
   split at h
   . rename_i hh
     have eH:∀ a:Addr,(Instr.indexAt t (.pointer (some a)) (.int kk m)).run P w = .ok (.pointer (some (a.add (m.toNat*i.size)))) w:=by
       intro a
       simp [Instr.indexAt,run_underlying hu,asIntOf,hh,eR dv,Instr.sureAddr]
     split at h
     . simp only [Option.some.injEq] at h;subst h
       simp only [aM] at hx
       obtain ⟨g,k,N,hm,rfl⟩:=hx
       refine Sound.same hi (eH _) ?_
       rw [Addr.add_lit]
       simp only [aM]
       exact ⟨g,k,N,hm,by simp [Nat.add_assoc]⟩
     . simp only [Option.some.injEq] at h;subst h
       simp only [aM] at hx
       obtain ⟨b,q,rfl,hb,hr⟩:=hx
       refine Sound.same hi (eH _) ?_
       rw [Addr.add_lit]
       simp only [aM]
       exact ⟨b,q,by simp [Nat.add_assoc],hb,hr⟩
     . simp at h
   . simp at h
 . simp at h
theorem GV (hi:Inv G own E w σ) {s:TypeId} {fs:Array Field} {f:Nat} {fd:Field} {i:TypeInfo} (hu:P.underlying s=some (.struct fs)) (hf:fs[f]? = some fd) (dv:P.info? fd.type=some i) (h0:i.size≠0)
   {x:AV} {v:Value} (hx:aM E w x v) {r:dQ} (h:cl σ p (.faddr fd.offset x)=some r):Sound P G own E w σ p (Instr.fieldAt s v f) r:=by
 have eH:∀ a:Addr,(Instr.fieldAt s (.pointer (some a)) f).run P w = .ok (.pointer (some (a.add fd.offset))) w:=by
   intro a
   simp [Instr.fieldAt,run_underlying hu,hf,Instr.sureAddr,fieldPlace,eR dv,h0]
 simp only [cl] at h
 split at h
 . simp only [bM,Option.map_some,Option.some.injEq] at h;subst h
   simp only [aM] at hx
   obtain ⟨g,k,N,hm,rfl⟩:=hx
   refine Sound.same hi (eH _) ?_
   rw [Addr.add_lit]
   simp only [aM]
   exact ⟨g,k,N,hm,by simp [Nat.add_assoc]⟩
 . simp only [bM,Option.map_some,Option.some.injEq] at h;subst h
   simp only [aM] at hx
   obtain ⟨b,q,rfl,hb,hr⟩:=hx
   refine Sound.same hi (eH _) ?_
   rw [Addr.add_lit]
   simp only [aM]
   exact ⟨b,q,by simp [Nat.add_assoc],hb,hr⟩
 . simp at h
theorem GX {t:TypeId} {agg:Bool} {i:TypeInfo} (ha:nJ P t=some agg) (dv:P.info? t=some i) {cs:List AV} {xs:Array Value} (hr:aO E w cs xs.toList) {o:Nat} {c:AV} (h:VL.part agg cs o i.size=some c) :
   ∃ v,(Go.part t xs o).run P w = .ok v w/\aM E w c v:=by
 obtain ⟨h1,h2,h3⟩:=O7 h hr
 refine ⟨_, ?_,h1⟩
 cases agg with
 | true=>simp [Go.part,th ha,eR dv]
 | false =>
   have K4:=h3 rfl
   have:o<xs.size:=by omega
   simp [Go.part,th ha,this]
theorem wy (hi:Inv G own E w σ) {k:Nat} {x:AV} {v:Value} (hx:aM E w x v) {ys:List AV} {rd:List Id} (h:dD σ k x=some (ys,rd)) :
   (∀ e∈ys,e.size=k)/\∃ a cap,v = .slice a ys.length cap/\ys.length<=cap/\(ys=[]∨∃ b o,a=some ⟨b,o,none⟩/\gQ E w b o (flat ys)):=by
 unfold dD at h
 split at h
 . simp only [Option.some.injEq,Prod.mk.injEq] at h
   obtain ⟨rfl,rfl⟩:=h
   simp only [aM] at hx;subst hx
   exact ⟨by simp,none,0,rfl,Nat.le_refl _, .inl rfl⟩
 . rename_i k' es
   split at h
   . rename_i hk
     simp only [Option.some.injEq,Prod.mk.injEq] at h
     obtain ⟨rfl,rfl⟩:=h
     subst hk
     simp only [aM] at hx
     obtain ⟨a,cap,rfl,hl,_,hk,rf⟩:=hx
     exact ⟨hk,a,cap,rfl,hl,rf.imp id fun ⟨b,o,e,_,r⟩=>⟨b,o,e,dJ.1 r⟩⟩
   . simp at h
 . rename_i k' es
   split at h
   . rename_i hk
     simp only [Option.some.injEq,Prod.mk.injEq] at h
     obtain ⟨rfl,rfl⟩:=h
     subst hk
     simp only [aM] at hx
     obtain ⟨a,rfl,_,hk,rf⟩:=hx
     exact ⟨hk,a,_,rfl,Nat.le_refl _,rf.imp id fun ⟨b,o,e,_,r⟩=>⟨b,o,e,dJ.1 r⟩⟩
   . simp at h
 . rename_i id k' off len tt
   split at h
   . rename_i bk hσ
     split at h
     . rename_i hh
       obtain ⟨rfl,JT,hle⟩:=hh
       simp only [Option.some.injEq,Prod.mk.injEq] at h
       obtain ⟨rfl,rfl⟩:=h
       obtain ⟨g,N,cur,ty,hB⟩:=hi.blk id bk hσ
       simp only [aM] at hx
       obtain ⟨g',N',cap,hm,rfl,FF,_⟩:=hx
       rw [hB.μ] at hm
       simp only [Option.some.injEq,Prod.mk.injEq] at hm
       obtain ⟨rfl,_,rfl⟩:=hm
       have FH:∀ e∈(bk.els.drop off).take len,e.size=k':=fun e he=>by rw [<- JT];exact hB.k e (List.mem_of_mem_drop (List.mem_of_mem_take he))
       have hlen:((bk.els.drop off).take len).length=len:=by simp;omega
       refine ⟨FH,some ⟨g,off*k',none⟩,cap,by rw [hlen],by omega, .inr ⟨g,off*k',rfl, ?_⟩⟩
       have:=pD (l:=off) (r:=off+len) hB.k hB.row (by omega) hle
       rw [Nat.zero_add,JT] at this
       have e:(bk.els.take (off+len)).drop off=(bk.els.drop off).take len:=by rw [List.drop_take];congr 1;omega
       rwa [e] at this
     . simp at h
   . simp at h
 . simp at h
theorem FM {b o:Nat} {cs:List AV} (h:gQ E w b o cs):∃ vs:List Value,aO E w cs vs/\∀ j v,vs[j]? = some v->w.cell? ((⟨b,o,none⟩:Addr).add j)=some v:=by
 refine ⟨(List.range cs.length).map fun j=>(w.cell? ⟨b,o+j,none⟩).getD undef,bC.2 ⟨by simp,fun j c hj => ?_⟩,fun j v hj => ?_⟩
 . obtain ⟨v,hv,hr⟩:=h j c hj
   have aN:j<cs.length:=(List.getElem?_eq_some_iff.1 hj).1
   exact ⟨v,by simp [aN,hv],hr⟩
 . have aN:j<cs.length:=by have:=(List.getElem?_eq_some_iff.1 hj).1;simpa using this
   obtain ⟨v',nA,_⟩:=h j cs[j] (by simp [aN])
   simp only [List.getElem?_map,aN,List.getElem?_range,Option.map_some,Option.some.injEq] at hj
   rw [Addr.add_lit,nA, <- hj,nA]
   rfl
theorem Ch {cs:List AV} {vs:List Value} (h:aO E w cs vs) (h1:∀ c∈cs,c.one=true):∀ v∈vs,v.oneCell'=true:=by
 intro v hv
 obtain ⟨j,hj⟩:=List.mem_iff_getElem?.1 hv
 obtain ⟨hl,hp⟩:=bC.1 h
 have nH:j<cs.length:=by have:=(List.getElem?_eq_some_iff.1 hj).1;omega
 obtain ⟨u,hu,hru⟩:=hp j cs[j] (by simp [nH])
 have:u=v:=by rw [hj] at hu;simpa using hu.symm
 subst this
 exact aM.one hru (h1 _ (by simp))
theorem yj (hi:Inv G own E w σ) (hμ : E.μ p=none) (hσ : σ p=none) {k n N:Nat} {els:List AV} (hk:∀ e∈els,e.size=k) (hn:els.length=n) {vs:List Value} (hv:aO E w (flat els) vs)
   {rest:Array Value} (hr:rest.size=(N-n)*k) (hnN:n<=N) (hN:N<=maxLen) (ty:TypeId) {rd:List Id} :
   k7 G own E w σ p { val := .osl p k 0 n false,rd:=rd,up:=[(p,some ⟨els,k,false⟩)] } (.slice (some ⟨w.heap.size,0,none⟩) n N) (E.bind p w.heap.size k N) (w.drew.alloc (.cells (vs.toArray++rest) ty)):=by
 have hd:=hi.drew
 obtain ⟨hl,hp⟩:=bC.1 hv
 have Cc:=cG hk
 have Ci:Step E E w w.drew:=(Adv.drew (own:=own) E w).step
 have hlen:(vs++rest.toList).length=N*k:=by
   simp only [List.length_append,Array.length_toList,hl,Cc,hn,hr, <- Nat.add_mul]
   congr 1;omega
 have:=wx (p:=p) (rd:=rd) hd hμ hσ (els:=els) (k:=k) (N:=N) (vs:=vs++rest.toList) ty hk
   (fun j c hj=>by
     obtain ⟨v,pf,te⟩:=hp j c hj
     exact ⟨v,by rw [List.getElem?_append_left (List.getElem?_eq_some_iff.1 pf).1];exact pf,aM.keep Ci c v te⟩) hlen (by omega) hN
   (c := .osl p k 0 n false) (v := .slice (some ⟨w.heap.size,0,none⟩) n N)
   (by simp only [aM];exact ⟨w.heap.size,N,N,Env.jl _ _ _ _ _,by simp,hnN,by omega,hN,by simp⟩)
 have he:(vs++rest.toList).toArray=vs.toArray++rest:=by apply Array.ext';simp
 rw [he] at this
 exact ⟨(Adv.drew E w).trans this.Ce,this.inv,this.rep,this.ids⟩
theorem Tj (hi:Inv G own E w σ) (id:Id):Inv G own E w (σ.put id none) where
 okb:=hi.okb
 blk:=fun i bk h=>by
   by_cases e:i=id
   . subst e;simp [aa.put] at h
   . rw [aa.bj _ _ _ e] at h;exact hi.blk i bk h
 inj:=fun i j x y hx hy bY h1 h2=>by
   have ei:i≠id:=by rintro rfl;simp [aa.put] at hx
   have ej:j≠id:=by rintro rfl;simp [aa.put] at hy
   rw [aa.bj _ _ _ ei] at hx
   rw [aa.bj _ _ _ ej] at hy
   exact hi.inj i j x y hx hy bY h1 h2
 glob:=hi.glob
 new:=hi.new
end
end Go.VL
end

section
namespace Go.VL
theorem zV {k:Nat}:∀ {es:List AV} {n:Nat},(∀ x∈es,x.size=k)->flat (es.take n)=(flat es).take (n*k)
 | [],n,_=>by simp [flat]
 | x::es,0,_=>by simp [flat]
 | x::es,n+1,h=>by
   have hx:x.cells.length=k:=h x (by simp)
   have ih:=zV (es:=es) (n:=n) (fun y hy=>h y (by simp [hy]))
   have hf:flat (x::es)=x.cells++flat es:=by simp [flat]
   have Tc:flat ((x::es).take (n+1))=x.cells++flat (es.take n):=by simp [flat]
   rw [hf,Tc,ih,show (n+1)*k=x.cells.length+n*k from by rw [hx,Nat.add_mul];omega,List.take_length_add_append]
theorem Em {k:Nat}:∀ {es:List AV} {n:Nat},(∀ x∈es,x.size=k)->flat (es.drop n)=(flat es).drop (n*k)
 | [],n,_=>by simp [flat]
 | x::es,0,_=>by simp
 | x::es,n+1,h=>by
   have hx:x.cells.length=k:=h x (by simp)
   have ih:=Em (es:=es) (n:=n) (fun y hy=>h y (by simp [hy]))
   have hf:flat (x::es)=x.cells++flat es:=by simp [flat]
   rw [List.drop_succ_cons,ih,hf,show (n+1)*k=x.cells.length+n*k from by rw [hx,Nat.add_mul];omega,List.drop_length_add_append]
theorem AY {G:Nat->Option (List AV)} {own:Nat->Prop} {E:Env} {w:World} {σ : aa} (h:Inv G own E w σ) {id:Id} {bk:dF} (hσ : σ id=some bk) (DQ:bk.fr=false)
   {g N:Nat} {cur:Array Value} {ty:TypeId} (hB:w9 E own w id bk g N cur ty)
   {e:Nat} {news:List AV} {vs:List Value} (hle:e+news.length<=bk.els.length) (hk:∀ x∈news,x.size=bk.k) (hv:aO E w (flat news) vs) :
   e*bk.k+vs.length<=cur.size /\
   Adv own E E w (w.setRow g (cur.toList.take (e*bk.k)++vs++cur.toList.drop (e*bk.k+vs.length)).toArray) /\
   Inv G own E (w.setRow g (cur.toList.take (e*bk.k)++vs++cur.toList.drop (e*bk.k+vs.length)).toArray) (σ.put id (some { bk with els:=bk.els.take e++news++bk.els.drop (e+news.length) })):=by
 obtain ⟨uA,YR⟩:=bC.1 hv
 have FN:=cG hk
 have hbound:e*bk.k+vs.length<=cur.size:=by
   rw [hB.size,uA,FN, <- Nat.add_mul]
   exact Nat.mul_le_mul_right _ (by have:=hB.len;omega)
 refine ⟨hbound, ?_⟩
 generalize Td:(cur.toList.take (e*bk.k)++vs++cur.toList.drop (e*bk.k+vs.length)).toArray=nv
 have hg:=dK hB.heap
 have uO:(w.setRow g nv).heap[g]? = some (.cells nv ty (0,0)):=setRow_heap w g cur nv ty _ hB.heap
 have hs:Step E E w (w.setRow g nv):=⟨fun _ _ h=>h,fun _ h=>h,fun b hb=>setRow_other w g b nv (fun e=>hB.no DQ (e▸hb))⟩
 have gr:Adv own E E w (w.setRow g nv) :=
   ⟨hs,rfl,rfl,rfl,by simp,fun k _ hk=>setRow_other w g k nv (fun e=>hk (e▸hB.own)),fun _ h => .inl h⟩
 refine ⟨gr, ?_, ?_, ?_, ?_, ?_⟩
 . intro b hb;simpa using h.okb b hb
 . intro i Bw hi
   by_cases dv:i=id
   . subst dv
     rw [aa.bd] at hi
     simp only [Option.some.injEq] at hi
     subst hi
     have xi:(bk.els.take e++news++bk.els.drop (e+news.length)).length=bk.els.length:=by simp;omega
     have yk:∀ x∈bk.els.take e++news++bk.els.drop (e+news.length),x.size=bk.k:=by
       intro x hx
       simp only [List.append_assoc,List.mem_append] at hx
       rcases hx with hx | hx | hx
       . exact hB.k x (List.mem_of_mem_take hx)
       . exact hk x hx
       . exact hB.k x (List.mem_of_mem_drop hx)
     refine ⟨g,N,nv,ty,hB.μ,uO, ?_,by rw [xi];exact hB.len,hB.most,hB.own,by simp [DQ],hB.no,yk, ?_⟩
     . rw [<- Td]
       simp only [List.size_toArray,List.length_append,List.length_take,List.length_drop,Array.length_toList]
       rw [<- hB.size];omega
     . show gQ E (w.setRow g nv) g 0 (flat (bk.els.take e++news++bk.els.drop (e+news.length)))
       rw [mF,mF,zV hB.k,Em hB.k]
       have hlen:(flat bk.els).length=bk.els.length*bk.k:=cG hB.k
       have hcz:bk.els.length*bk.k<=cur.size:=by rw [hB.size];exact Nat.mul_le_mul_right _ hB.len
       have hmul:(e+news.length)*bk.k<=bk.els.length*bk.k:=Nat.mul_le_mul_right _ hle
       rw [Nat.add_mul] at hmul
       intro j c hj
       have om:(w.setRow g nv).cell? ⟨g,0+j,none⟩=nv[j]? := by rw [Nat.zero_add];exact cell_of_row _ _ _ _ _ _ uO
       rw [om]
       suffices Wi:∃ v,nv[j]? = some v/\aM E w c v by
         obtain ⟨v,pf,te⟩:=Wi;exact ⟨v,pf,aM.keep hs c v te⟩
       rw [<- Td]
       have hold:∀ (j:Nat) (c:AV),(flat bk.els)[j]? = some c->∃ v:Value,cur[j]? = some v/\aM E w c v:=by
         intro j c hj
         obtain ⟨v,pf,te⟩:=hB.row j c hj
         rw [Nat.zero_add,cell_of_row _ _ _ _ _ _ hB.heap] at pf
         exact ⟨v,pf,te⟩
       simp only [List.getElem?_toArray]
       have ha:(cur.toList.take (e*bk.k)).length=e*bk.k:=by simp;omega
       have hb:((flat bk.els).take (e*bk.k)).length=e*bk.k:=by simp;omega
       rw [List.append_assoc] at hj ⊢
       by_cases c1:j<e*bk.k
       . rw [List.getElem?_append_left (by omega),List.getElem?_take_of_lt c1] at hj
         rw [List.getElem?_append_left (by omega),List.getElem?_take_of_lt c1]
         obtain ⟨v,pf,te⟩:=hold j c hj
         exact ⟨v,by simpa using pf,te⟩
       . rw [List.getElem?_append_right (by omega),hb] at hj
         rw [List.getElem?_append_right (by omega),ha]
         by_cases c2:j-e*bk.k<(flat news).length
         . rw [List.getElem?_append_left c2] at hj
           rw [List.getElem?_append_left (by omega)]
           obtain ⟨v,pf,te⟩:=YR _ c hj
           exact ⟨v,pf,te⟩
         . rw [List.getElem?_append_right (by omega),List.getElem?_drop] at hj
           rw [List.getElem?_append_right (by omega),List.getElem?_drop,uA]
           rw [FN] at hj c2 ⊢
           have e1:(e+news.length)*bk.k+(j-e*bk.k-news.length*bk.k)=j:=by rw [Nat.add_mul];omega
           have e2:e*bk.k+news.length*bk.k+(j-e*bk.k-news.length*bk.k)=j:=by omega
           rw [e1] at hj;rw [e2]
           obtain ⟨v,pf,te⟩:=hold _ c hj
           exact ⟨v,by simpa using pf,te⟩
   . rw [aa.bj _ _ _ dv] at hi
     obtain ⟨g',N',zN,K3,O1⟩:=h.blk i Bw hi
     have bY:g'≠g:=h.inj i id _ _ (by simp [hi]) (by simp [hσ]) dv O1.μ hB.μ
     exact ⟨g',N',zN,K3,O1.keep hs (setRow_other w g g' nv bY) O1.no⟩
 . intro i j x y hi hj bY hx hy
   refine h.inj i j x y ?_ ?_ bY hx hy
   . intro hn;by_cases dv:i=id
     . subst dv;simp [hσ] at hn
     . rw [aa.bj _ _ _ dv] at hi;exact hi hn
   . intro hn;by_cases dv:j=id
     . subst dv;simp [hσ] at hn
     . rw [aa.bj _ _ _ dv] at hj;exact hj hn
 . intro g' cs JK
   obtain ⟨K4,Vb⟩:=h.glob g' cs JK
   exact ⟨K4,cv.keep hs.bare (hs.same g' K4) cs 0 Vb⟩
 . intro k hk;simp at hk;exact h.new k hk
end Go.VL
end

section
namespace Go.VL
section
variable {P:Program} {G:Nat->Option (List AV)} {own:Nat->Prop} {E:Env} {w:World} {σ : aa} {p:Id}
theorem Tk (hi:Inv G own E w σ) (hμ : E.μ p=none) (hσ : σ p=none) {id:Id} {bk:dF} (hid : σ id=some bk) (DQ:bk.fr=false) {g N:Nat} {cur:Array Value} {ty:TypeId} (hB:w9 E own w id bk g N cur ty)
   {ys:List AV} (hk:∀ e∈ys,e.size=bk.k) {news:List Value} (hv:aO E w (flat ys) news) (JN:bk.els.length+ys.length<=N) {rd:List Id} :
   k7 G own E w σ p { val := .osl p bk.k 0 (bk.els.length+ys.length) false,rd:=rd,up:=[(id,none),(p,some ⟨bk.els++ys,bk.k,false⟩)] }
     (.slice (some ⟨g,0,none⟩) (bk.els.length+ys.length) N) (E.bind p g bk.k N)
     (w.setRow g (cur.toList.take (bk.els.length*bk.k)++news++cur.toList.drop (bk.els.length*bk.k+news.length)).toArray):=by
 obtain ⟨uA,YR⟩:=bC.1 hv
 have hy:=cG hk
 have he:=cG hB.k
 have hle:bk.els.length*bk.k+news.length<=cur.size:=by
   rw [uA,hy,hB.size, <- Nat.add_mul];exact Nat.mul_le_mul_right _ JN
 generalize Td:(cur.toList.take (bk.els.length*bk.k)++news++cur.toList.drop (bk.els.length*bk.k+news.length)).toArray=nv
 have uO:(w.setRow g nv).heap[g]? = some (.cells nv ty (0,0)):=setRow_heap w g cur nv ty _ hB.heap
 have YZ:id≠p:=by rintro rfl;simp [hid] at hσ
 have hs:Step E (E.bind p g bk.k N) w (w.setRow g nv) :=
   ⟨fun i x h=>by rw [Env.iT];exact h;rintro rfl;simp [hμ] at h,fun _ h=>h,fun b hb=>setRow_other w g b nv (fun e=>hB.no DQ (e▸hb))⟩
 have gr:Adv own E (E.bind p g bk.k N) w (w.setRow g nv) :=
   ⟨hs,rfl,rfl,rfl,by simp,fun k _ hk=>setRow_other w g k nv (fun e=>hk (e▸hB.own)),fun _ h => .inl h⟩
 have uD:nv.size=cur.size:=by
   rw [<- Td]
   simp only [List.size_toArray,List.length_append,List.length_take,List.length_drop,Array.length_toList]
   omega
 refine ⟨gr,⟨?_, ?_, ?_, ?_, ?_⟩, ?_,fun i bY=>Env.iT _ _ _ _ _ (fun e=>bY (by rw [e];exact List.suffix_refl _))⟩
 . intro b hb;simpa using hi.okb b hb
 . intro i Bw h
   simp only [aa.app] at h
   by_cases e1:i=p
   . subst e1
     rw [aa.bd] at h
     simp only [Option.some.injEq] at h;subst h
     refine ⟨g,N,nv,ty,Env.jl _ _ _ _ _,uO,by rw [uD];exact hB.size,by simpa using JN,hB.most,hB.own,by simp,fun _ hb=>hB.no DQ hb, ?_, ?_⟩
     . intro e he
       rcases List.mem_append.1 he with h | h
       . exact hB.k e h
       . exact hk e h
     . show gQ _ _ g 0 (flat (bk.els++ys))
       rw [mF]
       have om:∀ j,(w.setRow g nv).cell? ⟨g,j,none⟩=nv[j]? := fun j=>cell_of_row _ _ _ _ _ _ uO
       have ht:(cur.toList.take (bk.els.length*bk.k)).length=bk.els.length*bk.k:=by simp;omega
       refine td.2 ⟨fun j c hj => ?_,fun j c hj => ?_⟩
       . have nH:j<bk.els.length*bk.k:=by rw [<- he];exact (List.getElem?_eq_some_iff.1 hj).1
         obtain ⟨v,pf,te⟩:=hB.row j c hj
         rw [Nat.zero_add,cell_of_row _ _ _ _ _ _ hB.heap] at pf
         refine ⟨v, ?_,aM.keep hs c v te⟩
         rw [Nat.zero_add,om, <- Td]
         simp only [List.getElem?_toArray,List.append_assoc]
         rw [List.getElem?_append_left (by omega),List.getElem?_take_of_lt nH]
         simpa using pf
       . obtain ⟨v,pf,te⟩:=YR j c hj
         have nH:j<news.length:=(List.getElem?_eq_some_iff.1 pf).1
         refine ⟨v, ?_,aM.keep hs c v te⟩
         rw [Nat.zero_add,om, <- Td,he]
         simp only [List.getElem?_toArray,List.append_assoc]
         rw [List.getElem?_append_right (by omega),ht,Nat.add_sub_cancel_left,List.getElem?_append_left nH]
         exact pf
   . rw [aa.bj _ _ _ e1] at h
     by_cases e2:i=id
     . subst e2;simp [aa.put] at h
     . rw [aa.bj _ _ _ e2] at h
       obtain ⟨g',N',zN,K3,O1⟩:=hi.blk i Bw h
       have bY:g'≠g:=hi.inj i id _ _ (by simp [h]) (by simp [hid]) e2 O1.μ hB.μ
       exact ⟨g',N',zN,K3,O1.keep hs (setRow_other w g g' nv bY) O1.no⟩
 . intro i j x y hx hy bY h1 h2
   simp only [aa.app] at hx hy
   have other:∀ i,i≠p->((σ.put id none).put p (some ⟨bk.els++ys,bk.k,false⟩)) i≠none->i≠id /\ σ i≠none:=by
     intro i e h
     rw [aa.bj _ _ _ e] at h
     have e2:i≠id:=by rintro rfl;simp [aa.put] at h
     rw [aa.bj _ _ _ e2] at h
     exact ⟨e2,h⟩
   by_cases e1:i=p
   . have e1:=e1.symm
     subst e1
     have e2:j≠p:=fun e=>bY e.symm
     obtain ⟨h3,h4⟩:=other j e2 hy
     rw [Env.jl] at h1
     rw [Env.iT _ _ _ _ _ e2] at h2
     have:=hi.inj id j (g,bk.k,N) y (by simp [hid]) h4 (fun e=>h3 e.symm) hB.μ h2
     simp only [Option.some.injEq] at h1
     rw [<- h1];exact this
   . obtain ⟨h3,h4⟩:=other i e1 hx
     rw [Env.iT _ _ _ _ _ e1] at h1
     by_cases e2:j=p
     . subst e2
       rw [Env.jl] at h2
       have:=hi.inj i id x (g,bk.k,N) h4 (by simp [hid]) h3 h1 hB.μ
       simp only [Option.some.injEq] at h2
       rw [<- h2];exact this
     . obtain ⟨h5,h6⟩:=other j e2 hy
       rw [Env.iT _ _ _ _ _ e2] at h2
       exact hi.inj i j x y h4 h6 bY h1 h2
 . intro g' cs JK
   obtain ⟨h1,h2⟩:=hi.glob g' cs JK
   exact ⟨h1,cv.keep hs.bare (hs.same g' h1) cs 0 h2⟩
 . intro k hk;simp at hk;exact hi.new k hk
 . simp only [aM]
   exact ⟨g,N,N,Env.jl _ _ _ _ _,by simp,JN,by omega,hB.most,by simp⟩
def Ld (c:AV) (val:Value):Prop:=∀ E w,aM E w c val
theorem FO {ys:List AV} (h:(ys.all fun e=>e.cells.all AV.one)=true):∀ c∈flat ys,c.one=true:=by
 intro c hc
 simp only [flat,List.mem_flatMap] at hc
 obtain ⟨e,he,hce⟩:=hc
 have:=List.all_eq_true.1 h e he
 exact List.all_eq_true.1 this c hce
theorem pn (t ty e bt:TypeId) (i:TypeInfo) (ht:P.underlying t=some (.slice e)) (hi:P.info? e=some i)
   (g JU Wl:Nat) (cur:Array Value) (hg:w.heap[g]? = some (.cells cur bt (0,0)))
   (a:Addr) (m c:Nat) (news:List Value) (hl:news.length=m*i.size) (Y0:∀ j u,news[j]? = some u->w.cell? (a.add j)=some u) (h1:∀ u∈news,u.oneCell'=true)
   (Cj:JU+m<=Wl) (JN:JU*i.size+news.length<=cur.size) :
   (Builtin.append_ #[t,t] ty #[.slice (some ⟨g,0,none⟩) JU Wl, .slice (some a) m c]).run P w =
     .ok (.slice (some ⟨g,0,none⟩) (JU+m) Wl) (w.setRow g (cur.toList.take (JU*i.size)++news++cur.toList.drop (JU*i.size+news.length)).toArray):=by
 have hf:=run_firstCells_some (P:=P) w i.size m a m c news hl Y0
 have pK:=run_storeCells_at P g (JU*i.size) bt news 0 cur w hg (by simpa using JN) h1
 simp only [Nat.add_zero] at pK
 simp [Builtin.append_,run_underlying ht,sizeOf,typeInfo,hi,Builtin.lenOf,Cj,hf,Addr.add_lit,pK]
theorem xj {z:AV} {zv:Value} (hz:aO E w z.cells zv.cells.toList) (n:Nat) (hp:0<z.size):aO E w (flat (List.replicate n z)) (Builtin.zeroCells zv.cells n).toList:=by
 obtain ⟨hl,YT⟩:=bC.1 hz
 have hk:∀ e∈List.replicate n z,e.size=z.size:=fun e he=>by rw [List.eq_of_mem_replicate he]
 have Cc:=cG hk
 have hs:zv.cells.size=z.size:=by simpa [AV.size] using hl
 refine bC.2 ⟨by rw [Cc];simp [Builtin.zeroCells,hs],fun j c hj => ?_⟩
 have nH:j<n*z.size:=by have:=(List.getElem?_eq_some_iff.1 hj).1;rw [Cc] at this;simpa using this
 have hdm:j/z.size*z.size+j%z.size=j:=by rw [Nat.mul_comm];exact Nat.div_add_mod j z.size
 have Pj:=Nat.mod_lt j hp
 have hdiv:j/z.size<n:=Nat.div_lt_of_lt_mul (by rwa [Nat.mul_comm] at nH)
 have hg:=flat_get (i:=j/z.size) (e:=z) hk (by simp [hdiv]) Pj
 rw [hdm,hj] at hg
 obtain ⟨v,hv,hr⟩:=YT (j%z.size) c hg.symm
 refine ⟨v, ?_,hr⟩
 have nA:zv.cells[j%z.size]? = some v:=by simpa using hv
 simp only [Builtin.zeroCells,Array.toList_map,Array.toList_range,List.getElem?_map,hs,List.getElem?_range nH,Option.map_some]
 rw [getElem!_def,nA]
theorem Ck (hi:Inv G own E w σ) {id:Id} {off k len:Nat} {tt:Bool} {news:List AV} {v:AV} {rd:List Id} {r:dQ} (h:uB σ id off k news v rd=some r) {a:Value} (hs:aM E w (.osl id k off len tt) a)
   (hk:∀ e∈news,e.size=k) {vs:List Value} (hv:aO E w (flat news) vs) {val:Value} (kX:Ld v val) :
   ∃ g cap,a = .slice (some ⟨g,off*k,none⟩) len cap/\∃ w',(storeCells ⟨g,off*k,none⟩ vs).run P w = .ok () w'/\k7 G own E w σ p r val E w':=by
 unfold uB at h
 split at h
 . rename_i bk hid
   split at h
   . rename_i hh
     obtain ⟨JT,hle,DQ,JG⟩:=hh
     simp only [Option.some.injEq] at h;subst h
     obtain ⟨g,N,cur,ety,hB⟩:=hi.blk id bk hid
     simp only [aM] at hs
     obtain ⟨g',N',cap,Gz,rfl,FF,Ph,Ys,JS⟩:=hs
     rw [hB.μ] at Gz
     simp only [Option.some.injEq,Prod.mk.injEq] at Gz
     obtain ⟨rfl,_,rfl⟩:=Gz
     obtain ⟨BW,gu,En⟩:=AY hi hid DQ hB (e:=off) (news:=news) (vs:=vs) hle (fun e he=>by rw [JT];exact hk e he) hv
     have e0:off*bk.k=off*k:=by rw [JT]
     rw [e0] at BW gu En
     have pK:=run_storeCells_at P g (off*k) ety vs 0 cur w hB.heap (by simpa using BW) (Ch hv (FO JG))
     simp only [Nat.add_zero] at pK
     exact ⟨g,cap,rfl,_,pK,gu,En,kX E _,fun _ _=>rfl⟩
   . simp at h
 . simp at h
theorem GY (hi:Inv G own E w σ) {t e ty:TypeId} {z:AV} (hu:P.underlying t=some (.slice e)) (hz:lR P e=some z) (oq:0<z.size) {x:AV} {a:Value} (hx:aM E w x a) {r:dQ} (h:xx σ z.size z x=some r) :
   Sound P G own E w σ p (Builtin.clear_ #[t] ty #[a]) r:=by
 obtain ⟨it,zv,hit,JF,M3,K8,K9⟩:=k8 hz
 have hzr:=aM.cells (iE (E:=E) (w:=w) M3) (jO K9)
 unfold xx at h
 split at h
 . simp only [Option.some.injEq] at h;subst h
   simp only [aM] at hx;subst hx
   exact Sound.same (v := .tuple #[]) hi (by simp [Builtin.clear_,run_underlying hu]) (by simp only [aM];exact ⟨#[],rfl,by simp [aO]⟩)
 . rename_i id k' off len tt
   split at h
   . rename_i h0
     subst h0
     simp only [Option.some.injEq] at h;subst h
     simp only [aM] at hx
     obtain ⟨g',N',cap,Gz,rfl,_⟩:=hx
     exact Sound.same (v := .tuple #[]) hi (by simp [Builtin.clear_,run_underlying hu]) (by simp only [aM];exact ⟨#[],rfl,by simp [aO]⟩)
   . rename_i h0
     split at h
     . rename_i hh
       obtain ⟨rfl,_⟩:=hh
       obtain ⟨g,cap,rfl,w',pK,hp⟩:=Ck (P:=P) (p:=p) (val := .tuple #[]) hi h hx (fun e he=>by rw [List.eq_of_mem_replicate he]) (xj hzr len oq) (fun E w=>by simp only [aM];exact ⟨#[],rfl,by simp [aO]⟩)
       refine ⟨_,w',E, ?_,hp⟩
       obtain ⟨m,rfl⟩:∃ m,len=m+1:=⟨len-1,by omega⟩
       simp [Builtin.clear_,run_underlying hu,xf hit JF,pK]
     . simp at h
 . simp at h
theorem JV (hi:Inv G own E w σ) {t t2 e ty:TypeId} {i:TypeInfo} (hu:P.underlying t=some (.slice e)) (dv:P.info? e=some i) {d x:AV} {a b:Value} (hd:aM E w d a) (hx:aM E w x b) {r:dQ} (h:yd σ i.size d x=some r) :
   Sound P G own E w σ p (Builtin.copy_ #[t,t2] ty #[a,b]) r:=by
 unfold yd at h
 split at h
 . simp at h
 . rename_i ys rd vn
   obtain ⟨Eg,xa,DV,rfl,M6,rf⟩:=wy hi hx vn
   have zero:∀ (ba:Option Addr) (n cap:Nat),Nat.min ys.length n=0->(Builtin.copy_ #[t,t2] ty #[.slice ba n cap, .slice xa ys.length DV]).run P w = .ok (.int .i64 0) w:=by
     intro ba n cap h0
     cases ba<;>cases xa<;>simp [Builtin.copy_,run_underlying hu,eR dv,Builtin.lenOf,h0,Builtin.firstCells,loadCells,loadCellsFrom,storeCells,goInt]
   split at h
   . simp only [Option.some.injEq] at h;subst h
     simp only [aM] at hd;subst hd
     exact Sound.same hi (zero none 0 0 (by simp)) (by simp only [aM])
   . rename_i id k' off len tt
     split at h
     . rename_i h0
       simp only [Option.some.injEq] at h;subst h
       simp only [aM] at hd
       obtain ⟨g',N',cap,Gz,rfl,_⟩:=hd
       have h0':Nat.min ys.length len=0:=by
         have:=congrArg List.length (List.isEmpty_iff.1 h0)
         simp only [List.length_take,List.length_nil] at this
         rw [Nat.min_comm] at this;exact this
       exact Sound.same hi (zero _ len cap h0') (by simp only [aM])
     . rename_i h0
       split at h
       . rename_i hk
         subst hk
         have bY:ys≠[]:=by rintro rfl;simp at h0
         obtain ⟨xb,xo,rfl,hxr⟩:=rf.resolve_left bY
         have hkt:∀ e∈ys.take len,e.size=i.size:=fun e he=>Eg e (List.mem_of_mem_take he)
         have acv:gQ E w xb xo (flat (ys.take len)):=by
           rw [zV Eg]
           exact (td.1 (by rw [List.take_append_drop];exact hxr:gQ E w xb xo ((flat ys).take (len*i.size)++(flat ys).drop (len*i.size)))).1
         obtain ⟨news,M4,Vg⟩:=FM acv
         have yl:news.length=(ys.take len).length*i.size:=by rw [aO.len M4,cG hkt]
         obtain ⟨g,cap,rfl,w',pK,hp⟩:=Ck (P:=P) (p:=p) (val := .int .i64 (ys.take len).length) hi h hd hkt M4 (fun E w=>by simp only [aM])
         refine ⟨_,w',E, ?_,hp⟩
         have Y1:Nat.min ys.length len=(ys.take len).length:=by rw [List.length_take,Nat.min_comm]
         have hf:=run_firstCells_some (P:=P) w i.size (ys.take len).length ⟨xb,xo,none⟩ ys.length DV news yl Vg
         generalize (ys.take len).length=m at Y1 hf hp ⊢
         simp [Builtin.copy_,run_underlying hu,eR dv,Builtin.lenOf,Y1,hf,pK,goInt]
       . simp at h
   . simp at h
theorem DW {d:Option TypeDesc} (h:zP d=true):∃ e,d=some (.slice e):=by
 unfold zP at h
 split at h
 . exact ⟨_,rfl⟩
 . cases h
theorem zW {t t' e e' ty:TypeId} (hu:P.underlying t=some (.slice e)) (JH:P.underlying t'=some (.slice e')) (a b:Value) (w:World) :
   (Builtin.append_ #[t,t'] ty #[a,b]).run P w=(Builtin.append_ #[t,t] ty #[a,b]).run P w:=by
 cases a<;>simp [Builtin.append_,run_underlying hu,run_underlying JH]
theorem FP (hi:Inv G own E w σ) (hμ : E.μ p=none) (hσ : σ p=none) {t e ty:TypeId} {i:TypeInfo} (hu:P.underlying t=some (.slice e)) (dv:P.info? e=some i)
   (hz:(lR P e).isSome=true) {s x:AV} {a b:Value} (hs:aM E w s a) (hx:aM E w x b) {r:dQ} (h:cg σ p i.size i.bytes s x=some r) :
   Sound P G own E w σ p (Builtin.append_ #[t,t] ty #[a,b]) r:=by
 obtain ⟨z,hz⟩:=Option.isSome_iff_exists.1 hz
 obtain ⟨it,zv,hit,JF,M3,K8,K9⟩:=k8 hz
 rw [dv] at hit
 simp only [Option.some.injEq] at hit;subst hit
 have Pk:zv.cells.size=i.size:=by
   have:=aO.len (aM.cells (iE (E:=E) (w:=w) M3) (jO K9))
   simp at this;unfold AV.size at K8;omega
 unfold cg at h
 split at h
 . simp at h
 . rename_i ys rd vn
   obtain ⟨Eg,xa,DV,rfl,M6,rf⟩:=wy hi hx vn
   split at h
   . rename_i JW
     have hys:ys=[]:=by simpa using JW
     subst hys
     have eH:∀ (base:Option Addr) (n cap:Nat),n<=cap->(Builtin.append_ #[t,t] ty #[.slice base n cap, .slice xa ([]:List AV).length DV]).run P w = .ok (.slice base n cap) w:=by
       intro base n cap hn
       cases base<;>cases xa<;>simp [Builtin.append_,run_underlying hu,eR dv,Builtin.lenOf,hn,Builtin.firstCells,loadCells,loadCellsFrom,storeCells]
     split at h
     . simp only [Option.some.injEq] at h;subst h
       have l7:=hs
       simp only [aM] at hs;subst hs
       exact Sound.same hi (eH none 0 0 (Nat.le_refl _)) l7
     . simp only [Option.some.injEq] at h;subst h
       have l7:=hs
       simp only [aM] at hs;obtain ⟨q,rfl,_⟩:=hs
       exact Sound.same hi (eH q _ _ (Nat.le_refl _)) l7
     . simp only [Option.some.injEq] at h;subst h
       have l7:=hs
       simp only [aM] at hs;obtain ⟨g,N,cap,_,rfl,hle,_⟩:=hs
       exact Sound.same hi (eH _ _ _ hle) l7
     . simp at h
   . rename_i JW
     have bY:ys≠[]:=by simpa using JW
     have oq:0<ys.length:=List.length_pos_iff.2 bY
     obtain ⟨xb,xo,rfl,hxr⟩:=rf.resolve_left bY
     obtain ⟨news,M4,Vg⟩:=FM hxr
     have Cc:=cG Eg
     have yl:news.length=ys.length*i.size:=by rw [aO.len M4,Cc]
     -- an append to a row that has no room
     have grow:∀ (ba:Addr) (q:Nat) (es:List AV) (cap:Nat),(∀ e∈es,e.size=i.size)->(es=[]∨∃ b o,ba=⟨b,o,none⟩/\gQ E w b o (flat es))->q=es.length->cap<q+ys.length ->
         (q+ys.length)*i.bytes<=140737488355328->q+ys.length<=maxLen->∀ rd,
         ∃ v w' E',(Builtin.append_ #[t,t] ty #[.slice (some ba) q cap, .slice (some ⟨xb,xo,none⟩) ys.length DV]).run P w = .ok v w' /\
           k7 G own E w σ p { val := .osl p i.size 0 (q+ys.length) false,rd:=rd,up:=[(p,some ⟨es++ys,i.size,false⟩)] } v E' w':=by
       intro ba q es cap hk hr hq Cl hb hm rd
       have GU:=cG hk
       obtain ⟨Pl,SX,Ph⟩:∃ vs:List Value,aO E w (flat es) vs/\∀ j v,vs[j]? = some v->w.cell? (ba.add j)=some v:=by
         rcases hr with rfl | ⟨b,o,rfl,hr⟩
         . exact ⟨[],by simp [flat,aO],by simp⟩
         . exact FM hr
       have SY:Pl.length=q*i.size:=by rw [aO.len SX,GU,hq]
       have eH:=run_append_grow (P:=P) w t ty e i zv hu dv JF ba q cap Pl SY Ph ⟨xb,xo,none⟩ ys.length DV news yl Vg Cl (by unfold maxLen at hm;omega) (growslice_fits Cl hb)
       have ta:=grownCap_ge w (q+ys.length) cap e
       have La:=grownCap_le_maxLen w (q+ys.length) cap e hm
       refine ⟨_,_,E.bind p w.heap.size i.size (grownCap w (q+ys.length) cap e),eH, ?_⟩
       have:=yj (p:=p) (rd:=rd) hi hμ hσ (k:=i.size) (n:=q+ys.length) (N:=grownCap w (q+ys.length) cap e) (els:=es++ys) (fun e he=>(List.mem_append.1 he).elim (hk e) (Eg e)) (by simp [hq])
         (vs:=Pl++news) (by rw [mF];exact aO.append SX M4) (rest:=Builtin.zeroCells zv.cells (grownCap w (q+ys.length) cap e-(q+ys.length))) (by rw [size_zeroCells,Pk]) ta La e
       have hee:(Pl++news).toArray=Pl.toArray++news.toArray:=by simp
       rw [hee] at this
       exact this
     split at h
     . -- onto nil
       split at h
       . rename_i hh
         obtain ⟨hb,hm,_⟩:=hh
         simp only [Option.some.injEq] at h;subst h
         simp only [aM] at hs;subst hs
         have eH:=run_append_nil (P:=P) w t ty e i zv hu dv JF ⟨xb,xo,none⟩ ys.length DV news yl Vg oq (by unfold maxLen at hm;omega) (by omega)
         have ta:=grownCap_ge w ys.length 0 e
         have La:=grownCap_le_maxLen w ys.length 0 e hm
         refine ⟨_,_,E.bind p w.heap.size i.size (grownCap w ys.length 0 e),eH, ?_⟩
         exact yj (p:=p) (rd:=rd) hi hμ hσ (k:=i.size) (n:=ys.length) (N:=grownCap w ys.length 0 e) (els:=ys) Eg rfl M4 (by rw [size_zeroCells,Pk]) ta La e
       . simp at h
     . -- onto a row without room
       rename_i k' es
       split at h
       . rename_i hh
         obtain ⟨rfl,hb,hm,_⟩:=hh
         simp only [Option.some.injEq] at h;subst h
         simp only [aM] at hs
         obtain ⟨q,rfl,_,hk,hr⟩:=hs
         cases q with
         | none =>
           have hes:es=[]:=by rcases hr with h | ⟨b,o,h,_⟩;exact h;simp at h
           subst hes
           simp only [List.length_nil,Nat.zero_add,List.nil_append] at hb hm ⊢
           have eH:=run_append_nil (P:=P) w t ty e i zv hu dv JF ⟨xb,xo,none⟩ ys.length DV news yl Vg oq (by unfold maxLen at hm;omega) (by omega)
           have ta:=grownCap_ge w ys.length 0 e
           have La:=grownCap_le_maxLen w ys.length 0 e hm
           refine ⟨_,_,E.bind p w.heap.size i.size (grownCap w ys.length 0 e),eH, ?_⟩
           exact yj (p:=p) (rd:=rd) hi hμ hσ (k:=i.size) (n:=ys.length) (N:=grownCap w ys.length 0 e) (els:=ys) Eg rfl M4 (by rw [size_zeroCells,Pk]) ta La e
         | some ba =>
           exact grow ba es.length es es.length hk (hr.imp id fun ⟨b,o,e,_,r⟩=>⟨b,o,by simpa using e,dJ.1 r⟩) rfl (by omega) hb hm rd
       . simp at h
     . -- onto a block of the store
       rename_i id k' off len tt
       split at h
       . rename_i bk hid
         split at h
         . rename_i hh
           obtain ⟨rfl,JT,rfl,hle,hb,hm,JG⟩:=hh
           obtain ⟨g,N,cur,ety,hB⟩:=hi.blk id bk hid
           simp only [aM] at hs
           obtain ⟨g',N',cap,Gz,rfl,FF,Ph,Ys,JS⟩:=hs
           rw [hB.μ] at Gz
           simp only [Option.some.injEq,Prod.mk.injEq] at Gz
           obtain ⟨rfl,_,rfl⟩:=Gz
           have FH:∀ e∈bk.els,e.size=i.size:=fun e he=>by rw [<- JT];exact hB.k e he
           simp only [Nat.zero_mul]
           split at h
           . split at h
             . rename_i ht _
               simp only [Option.some.injEq] at h;subst h
               rw [if_pos ht] at JS
               have xA:=pD (l:=0) (r:=len) hB.k hB.row (Nat.zero_le _) hle
               simp only [Nat.zero_mul,Nat.add_zero,List.drop_zero] at xA
               exact grow ⟨g,0,none⟩ len (bk.els.take len) cap (fun e he=>FH e (List.mem_of_mem_take he)) (.inr ⟨g,0,rfl,xA⟩) (by simp;omega) (by omega) hb hm (id::rd)
             . simp at h
           . split at h
             . rename_i ht hh2
               obtain ⟨Tl,DQ,qz⟩:=hh2
               simp only [Option.some.injEq] at h;subst h
               simp only [ht,Bool.false_eq_true,if_false,Nat.zero_add] at JS
               subst Tl
               by_cases Cj:bk.els.length+ys.length<=cap
               . have eH:=pn (P:=P) (w:=w) t ty e ety i hu dv g bk.els.length cap cur hB.heap ⟨xb,xo,none⟩ ys.length DV news yl Vg (Ch M4 (FO JG)) Cj
                   (by rw [yl,hB.size,JT, <- Nat.add_mul];exact Nat.mul_le_mul_right _ (by omega))
                 obtain rfl:cap=N:=JS
                 refine ⟨_,_,E.bind p g i.size cap,eH, ?_⟩
                 have:=Tk (p:=p) (rd:=id::rd) hi hμ hσ hid DQ hB (ys:=ys) (fun e he=>by rw [JT];exact Eg e he) M4 Cj
                 rw [JT] at this
                 exact this
               . obtain ⟨v,w',E',eH,Le⟩:=grow ⟨g,0,none⟩ bk.els.length bk.els cap FH (.inr ⟨g,0,rfl,hB.row⟩) rfl (by omega) hb hm (id::rd)
                 refine ⟨v,w',E',eH,Le.Ce, ?_,Le.rep,Le.ids⟩
                 have YZ:id≠p:=by rintro rfl;simp [hid] at hσ
                 have:=Tj Le.inv id
                 have he:(σ.app [(p,some ⟨bk.els++ys,i.size,false⟩)]).put id none = σ.app [(id,none),(p,some ⟨bk.els++ys,i.size,false⟩)]:=by
                   funext j
                   simp only [aa.app,aa.put]
                   by_cases e1:j=id
                   . subst e1;simp [YZ]
                   . simp [e1]
                 rw [he] at this
                 exact this
             . split at h
               . -- over elements that lie behind
                 rename_i ht _ hh2
                 obtain ⟨Tl,DQ⟩:=hh2
                 simp only [Option.some.injEq] at h;subst h
                 simp only [ht,Bool.false_eq_true,if_false,Nat.zero_add] at JS
                 obtain rfl:cap=N:=JS
                 have Cj:len+ys.length<=cap:=Nat.le_trans Tl hB.len
                 obtain ⟨BW,gu,En⟩:=AY hi hid DQ hB (e:=len) (news:=ys) (vs:=news) Tl (fun e he=>by rw [JT];exact Eg e he) M4
                 have e0:len*bk.k=len*i.size:=by rw [JT]
                 rw [e0] at BW gu En
                 have eH:=pn (P:=P) (w:=w) t ty e ety i hu dv g len cap cur hB.heap ⟨xb,xo,none⟩ ys.length DV news yl Vg (Ch M4 (FO JG)) Cj BW
                 refine ⟨_,_,E,eH,gu,En, ?_,fun _ _=>rfl⟩
                 simp only [aM]
                 exact ⟨g,cap,cap,by rw [hB.μ,JT],by simp,Cj,by omega,Ys,by simp⟩
               . simp at h
         . simp at h
       . simp at h
     . simp at h
theorem JX (hi:Inv G own E w σ) (hμ : E.μ p=none) (hσ : σ p=none) {t tn e ty:TypeId} {i:TypeInfo} {kn:IntKind} (hu:P.underlying t=some (.slice e)) (dv:P.info? e=some i) (htn:P.underlying tn=some (.int kn)) {z:AV}
   (hz:lR P e=some z) (oq:0<i.size) {s x:AV} {a b:Value} (hs:aM E w s a) (hx:aM E w x b) {r:dQ} (h:K6 p i.size i.bytes z s x=some r) :
   Sound P G own E w σ p (Builtin.append_ #[t,tn] ty #[a,b]) r:=by
 obtain ⟨it,zv,hit,JF,M3,K8,K9⟩:=k8 hz
 rw [dv] at hit
 simp only [Option.some.injEq] at hit;subst hit
 have hzr:=aM.cells (iE (E:=E) (w:=w) M3) (jO K9)
 have Pk:zv.cells.size=i.size:=by have:=aO.len hzr;simp at this;unfold AV.size at K8;omega
 unfold K6 at h
 split at h
 . rename_i kk n
   split at h
   . rename_i hh
     obtain ⟨h0,hb,hm,hzk,_⟩:=hh
     simp only [Option.some.injEq] at h;subst h
     simp only [aM] at hs hx;subst hs;subst hx
     obtain ⟨m,rfl⟩:∃ m:Nat,n=m:=⟨n.toNat,by omega⟩
     have Vh:m*i.bytes<=140737488355328:=by rw [<- Int.natCast_mul] at hb;omega
     have sc:m<=maxLen:=by omega
     have ta:=grownCap_ge w m 0 e
     have La:=grownCap_le_maxLen w m 0 e sc
     have eH:=Lib.run_append_nil_zeros (P:=P) w t tn ty e i zv kk kn hu htn dv JF m (by omega) oq (by unfold maxLen at sc;omega) (by omega)
     refine ⟨_,_,E.bind p w.heap.size i.size (grownCap w m 0 e),eH, ?_⟩
     have:=yj (p:=p) (rd:=[]) hi hμ hσ (k:=i.size) (n:=m) (N:=grownCap w m 0 e) (els:=List.replicate m z) (fun e he=>by rw [List.eq_of_mem_replicate he];exact hzk) (by simp)
       (vs:=(Builtin.zeroCells zv.cells m).toList) (xj hzr m (by omega)) (rest:=Builtin.zeroCells zv.cells (grownCap w m 0 e-m)) (by rw [size_zeroCells,Pk]) ta La e
     simpa using this
   . simp at h
 . simp at h
end
end Go.VL
end

section
namespace Go.VL
section
variable {P:Program} {G:Nat->Option (List AV)} {own:Nat->Prop} {E:Env} {w:World} {σ : aa} {p:Id}
def eI (P:Program) (G:Nat->Option (List AV)) (own:Nat->Prop) (E:Env) (w:World) (σ : aa) (p:Id) (r:dQ) (s:Sem Next):Prop :=
 ∃ v w' E',(s.run P w = .ok (.value v) w'∨(s.run P w = .ok .skip w'/\v=undef))/\k7 G own E w σ p r v E' w'
theorem eI.of {s:Sem Value} {r:dQ} (h:Sound P G own E w σ p s r):eI P G own E w σ p r (do pure (.value (<- s))):=by
 obtain ⟨v,w',E',hr,hp⟩:=h
 exact ⟨v,w',E', .inl (by simp [hr]),hp⟩
theorem eI.ofU {s:Sem Unit} {r:dQ} (h:∃ w',s.run P w = .ok () w'/\k7 G own E w σ p r undef E w'):eI P G own E w σ p r (do s;pure .skip):=by
 obtain ⟨w',hr,hp⟩:=h
 exact ⟨undef,w',E, .inr ⟨by simp [hr],rfl⟩,hp⟩
theorem vt {t:List AV} {a:Act} (hf:cw E w t a) (hi:Inv G own E w σ) {x:Option Operand} {vx:Option aV} (h:zO x=some vx):mT E w (vx.map (aV.ev G t)) (x.map a.eval):=by
 cases x with
 | none=>simp only [zO,Option.some.injEq] at h;subst h;trivial
 | some x =>
   simp only [zO,Option.map_eq_some_iff] at h
   obtain ⟨va,zH,rfl⟩:=h
   exact a7 hf hi zH
theorem JY {σ : aa} {x:AV} {oc:Option AV} {r:dQ} (h:ye σ x oc=some r):bM oc=some r∨∃ id k off len bk,x = .osl id k off len false /\ σ id=some bk/\off<=bk.els.length/\r={ val := .ige (bk.els.length-off),rd:=[id] }:=by
 unfold ye at h
 split at h
 . exact .inl h
 . split at h
   . rename_i id k off len
     split at h
     . rename_i bk hb
       split at h
       . rename_i ho
         simp only [Option.some.injEq] at h
         exact .inr ⟨id,k,off,len,bk,rfl,hb,ho,h.symm⟩
       . simp at h
     . simp at h
   . simp at h
theorem DX (hi : Inv G own E w σ) {t e:TypeId} {i:TypeInfo} (hu:P.underlying t=some (.slice e)) (dv:P.info? e=some i) {x:AV} {v:Value} (hx:aM E w x v)
   {lo jf mx:Option AV} {M5 Lb vmx:Option Value} (uQ:mT E w lo M5) (zT:mT E w jf Lb) (FG:mT E w mx vmx) (hmh:mx.isSome->jf.isSome) {r:dQ}
   (h:kO σ i.size x lo jf mx (bZ i.size x lo jf mx)=some r):Sound P G own E w σ p (Instr.sliceAt t v M5 Lb vmx) r:=by
 cases hs:bZ i.size x lo jf mx with
 | some c =>
   rw [hs] at h
   refine Sound.fG (oc:=some c) h fun c' wz => ?_
   simp only [Option.some.injEq] at wz;subst wz
   exact yi hi hu dv hx uQ zT FG hmh hs
 | none =>
   rw [hs] at h
   simp only [kO] at h
   split at h
   . rename_i id k' off len hh
     split at h
     . rename_i bk hb
       split at h
       . rename_i hc
         obtain ⟨ho,hk⟩:=hc
         simp only [Option.map_eq_some_iff] at h
         obtain ⟨c,hc,rfl⟩:=h
         simp only [aM] at hx
         obtain ⟨g,N,cap,hm,rfl,h1,h2,h3,h4⟩:=hx
         obtain ⟨g',N',cur,K3,hB⟩:=hi.blk id bk hb
         have hμ := hB.μ
         rw [hμ] at hm
         simp only [Option.some.injEq,Prod.mk.injEq] at hm
         obtain ⟨rfl,rfl,rfl⟩:=hm
         simp only [Bool.false_eq_true,if_false] at h4
         have hl:=hB.len
         have hx':aM E w (.osl id bk.k off (bk.els.length-off) false) (.slice (some ⟨g',off*bk.k,none⟩) (bk.els.length-off) cap):=by
           simp only [aM]
           exact ⟨g',N',cap,hμ,rfl,by omega,h2,h3,by simpa using h4⟩
         have acy:vmx=none:=by cases vmx with | none=>rfl | some _=>exact (FG:False).elim
         subst acy
         obtain ⟨v,w',E',eH,hp⟩:=yi (p:=p) hi hu dv hx' uQ zT (mx:=none) (vmx:=none) FG (by simp) hc
         cases Lb with
         | none=>exact (zT:False).elim
         | some u =>
           refine ⟨v,w',E', ?_,⟨hp.Ce,hp.inv,hp.rep,hp.ids⟩⟩
           rw [<- eH]
           simp [Instr.sliceAt,Instr.slice,run_underlying hu,Instr.sliceBounds]
       . simp at h
     . simp at h
   . rename_i hh km m
     split at h
     . rename_i n hn
       split at h
       . rename_i l r' hb
         split at h
         . rename_i hc
           simp only [Option.some.injEq] at h;subst h
           obtain ⟨h1,h2⟩:=hc
           have Tm:m=((m.toNat:Nat):Int):=by omega
           obtain ⟨a,cap,rfl,FF⟩:∃ a cap,v = .slice a n cap/\n<=cap:=by
             unfold O4 at hn
             split at hn
             . simp only [Option.some.injEq] at hn;subst hn
               simp only [aM] at hx;exact ⟨_,_,hx,Nat.le_refl _⟩
             . split at hn
               . simp only [Option.some.injEq] at hn;subst hn
                 simp only [aM] at hx;obtain ⟨a,cap,rfl,h,_⟩:=hx;exact ⟨_,_,rfl,h⟩
               . simp at hn
             . split at hn
               . simp only [Option.some.injEq] at hn;subst hn
                 simp only [aM] at hx;obtain ⟨a,rfl,_⟩:=hx;exact ⟨_,_,rfl,Nat.le_refl _⟩
               . simp at hn
             . split at hn
               . simp only [Option.some.injEq] at hn;subst hn
                 simp only [aM] at hx;obtain ⟨g,N,cap,_,rfl,h,_⟩:=hx;exact ⟨_,_,rfl,h⟩
               . simp at hn
             . simp at hn
           unfold cN at hb
           split at hb
           . simp at hb
           . rename_i K4 e1
             split at hb
             . simp at hb
             . rename_i l1 e2
               simp only [Option.some.injEq,Prod.mk.injEq] at hb
               obtain ⟨rfl,rfl⟩:=hb
               obtain ⟨qz,_,_⟩:=iU (P:=P) (isSlice:=true) (len:=n) (cap:=cap) (m:=m.toNat) uQ zT FG FF e1 e2 (.inr ⟨km,by rw [<- Tm],by simp,by omega,by omega⟩)
               refine ⟨.slice (if m.toNat=l1 then a else a.map (·.add (l1*i.size))) (K4-l1) (m.toNat-l1),w,E, ?_,⟨Adv.refl own E w,hi,by simp only [aM],fun _ _=>rfl⟩⟩
               simp [Instr.sliceAt,Instr.slice,run_underlying hu,qz,eR dv]
         . simp at h
       . simp at h
     . simp at h
   . simp at h
theorem Lf {f:FuncId} {fn:Func} {e:Array Value->Sem Value} {c:Call} {a:Act} {o:Oper} (BX:o.op = .call c) (vu:c.callee = .value (.func f)) (hf:P.funcs[f]? = some fn) (sk:(fn.name == "runtime.NumGoroutine")=false)
   (hb:fn.body.isNone=true) (hn:Extern.findNext fn=none) (he:Extern.find fn=some e) {v:Value} {w':World} (eH:(e (c.args.map a.eval)).run P w = .ok v w') :
   (execOp a.eval o).run P w = .ok (.value v) w':=by
 have h1:=run_callFunc_extern hf sk hb hn he (c.args.map a.eval) w
 rw [eH] at h1
 simp only [Result.andThen] at h1
 have e0:a.eval (.func f) = .func (.func f) #[] #[]:=rfl
 simp [execOp,BX,resolve,vu,e0,Deferred.ofValue,invoke,h1]
theorem Eo {fo : Operand} {k:Te} (h:O5 P fo=some k):∃ f fn,fo = .func f/\P.funcs[f]? = some fn/\fn.body.isNone=true /\
   ((k = .idx/\fn.name = "internal/bytealg.IndexByteString" /\ fn.origin = "")∨(k = .ovl/\fn.origin = "slices.overlaps" /\ vq fn.name=true/\∃ t e i,fn.params[0]? = some t/\P.underlying t=some (.slice e)/\P.info? e=some i)):=by
 unfold O5 at h
 split at h
 . rename_i f
   split at h
   . rename_i fn FN
     split at h
     . rename_i hb
       refine ⟨f,fn,rfl,FN,hb, ?_⟩
       split at h
       . rename_i hn
         simp only [Option.some.injEq] at h
         simp only [Bool.and_eq_true,beq_iff_eq] at hn
         exact .inl ⟨h.symm,hn.1,hn.2⟩
       . split at h
         . rename_i ho
           simp only [Bool.and_eq_true,beq_iff_eq] at ho
           split at h
           . rename_i t ht
             split at h
             . rename_i e he
               split at h
               . rename_i hi
                 simp only [Option.some.injEq] at h
                 obtain ⟨i,hi⟩:=Option.isSome_iff_exists.1 hi
                 exact .inr ⟨h.symm,ho.1,ho.2,t,e,i,ht,he,hi⟩
               . simp at h
             . simp at h
           . simp at h
         . simp at h
     . simp at h
   . simp at h
 . simp at h
theorem M7 {fn:Func} (hf:vq fn.name=true) (ho:fn.origin = "slices.overlaps"):Extern.findNext fn=none/\Extern.find fn=some (Extern.SlicesOverlaps.overlaps fn.params fn.resultTypes):=by
 unfold vq at hf
 simp only [Bool.and_eq_true,Option.isNone_iff_eq_none] at hf
 obtain ⟨⟨⟨⟨h1,h2⟩,h3⟩,h4⟩,_⟩:=hf
 have o1:Extern.allGenericRows.lookup "slices.overlaps" = none:=by kernel_rfl
 have o2:Extern.allTypedRows.lookup "slices.overlaps" = some Extern.SlicesOverlaps.overlaps:=by kernel_rfl
 have o4:Extern.allNextRows.lookup "slices.overlaps" = none:=by kernel_rfl
 constructor
 . simp [Extern.findNext,h4,ho,o4]
 . simp [Extern.find,h1,h2,h3,ho,o1,o2]
theorem Pm {fn:Func} (hn:fn.name = "internal/bytealg.IndexByteString") (ho:fn.origin = ""):Extern.findNext fn=none/\Extern.find fn=some Extern.BytealgIndexByte.indexByte:=by
 have o1:Extern.allGenericRows.lookup "internal/bytealg.IndexByteString" = none:=by kernel_rfl
 have o2:Extern.allTypedRows.lookup "internal/bytealg.IndexByteString" = none:=by kernel_rfl
 have o3:Extern.allRows.lookup "internal/bytealg.IndexByteString" = some Extern.BytealgIndexByte.indexByte:=by kernel_rfl
 have o4:Extern.allNextRows.lookup "internal/bytealg.IndexByteString" = none:=by kernel_rfl
 have o5:Extern.allNextRows.lookup "" = none:=by kernel_rfl
 constructor
 . simp [Extern.findNext,hn,ho,o4,o5]
 . simp [Extern.find,hn,o1,o2,o3]
theorem Cm:∀ (l:List UInt8) (c:UInt8),Lib.indexByte l c=qM l c
 | [],_=>rfl
 | b::l,c=>by simp only [Lib.indexByte,qM,Cm l c]
theorem M8 {c:Call} {a:Act} {o:Oper} {fo x y:Operand} (BX:o.op = .call c) (vu:c.callee = .value fo) (hk:O5 P fo=some .idx) (kQ:c.args.toList=[x,y]) (hi:Inv G own E w σ) {vx vy:AV}
   (hx:aM E w vx (a.eval x)) (hy:aM E w vy (a.eval y)) {r:dQ} (h:bM (O3 vx vy)=some r):eI P G own E w σ p r (execOp a.eval o):=by
 obtain ⟨f,fn,rfl,FN,hb,hh⟩:=Eo hk
 rcases hh with ⟨_,hn,ho⟩ | ⟨h0,_⟩
 case inr=>simp at h0
 have key:∃ s n,vx = .str s/\vy = .int .u8 n/\r={ val := .int .i64 (qM s n.toNat.toUInt8) }:=by
   unfold O3 at h
   split at h
   . simp only [bM,Option.map_some,Option.some.injEq] at h
     exact ⟨_,_,rfl,rfl,h.symm⟩
   . simp [bM] at h
 clear h
 obtain ⟨s,n,rfl,rfl,rfl⟩:=key
 . simp only [aM] at hx hy
   obtain ⟨Wm,Pn⟩:=Pm hn ho
   have Y2:c.args.map a.eval = #[.string ⟨s.toArray⟩, .int .u8 n]:=by
     apply Array.ext'
     simp [kQ,hx,hy]
   refine ⟨.int .i64 (qM s n.toNat.toUInt8),w,E, .inl (Lf BX vu FN (by rw [hn];rfl) hb Wm Pn ?_),⟨Adv.refl own E w,hi,by simp only [aM],fun _ _=>rfl⟩⟩
   rw [Y2,Lib.run_indexByteString,Cm]
theorem Tn (params res:Array TypeId) {tS e:TypeId} {i:TypeInfo} (hp:params[0]? = some tS) (ht:P.underlying tS=some (.slice e)) (dv:P.info? e=some i)
   (a b:Addr) (la ca lb cb:Nat) (bY:a.block≠b.block) {Wn To:Array Value} {tA tB:TypeId} (ha:w.heap[a.block]? = some (.cells Wn tA (0,0))) (hb:w.heap[b.block]? = some (.cells To tB (0,0))) (hkB:To.size≠0) :
   (Extern.SlicesOverlaps.overlaps params res #[.slice (some a) la ca, .slice (some b) lb cb]).run P w = .ok (.bool false) w:=by
 have SZ:(a.block != b.block)=true:=by simpa using bY
 have acz:(a.block==b.block)=false:=by simpa using bY
 have hsa:w.shape? a.block=some (tA,Wn.size):=by simp [World.shape?,ha]
 have hsb:w.shape? b.block=some (tB,To.size):=by simp [World.shape?,hb]
 have hfa:w.frozen? a=false:=by simp [World.frozen?,ha]
 have GU:w.frozen? { block:=a.block,off:=Wn.size }=false:=by simp [World.frozen?,ha]
 have hz:(Go.sizeOf e).run P w = .ok i.size w:=eR dv w
 change Sem.run P (α := Value) (do
   let some t:=params[0]? | stuck "slices.overlaps: no parameter types"
   let .slice elem <- underlying t | stuck "slices.overlaps: slice type expected"
   let size <- sizeOf elem
   match (some a:Option Addr),(some b:Option Addr) with
   | some a,some b =>
     if la=0∨lb=0∨size=0 then pure (Value.bool false)
     else if a.block != b.block&&(<- frozen a)&&(<- frozen b) then unsupported .addressObserved
     else do
       if a.block != b.block then do
         noView a;noView b
         if <- mayBeOne a b then return Value.bool ((<- choose (.extern "sameAddr.stringBytes" 2))==1)
       pure (Value.bool (a.block==b.block&&a.off<b.off+lb*size&&b.off<a.off+la*size))
   | _,_=>pure (Value.bool false)) w=_
 rw [hp]
 by_cases h0:la=0∨lb=0∨i.size=0
 . simp [run_underlying ht,hz,h0]
 . cases hk:To.size with
   | zero=>exact absurd hk hkB
   | succ kB =>
     simp [run_underlying ht,hz,h0,SZ,acz,frozen,noView,viewAt,mayBeOne,stringish,shape,Sem.run,hsa,hsb,hfa,GU,hk]
theorem M9 {c:Call} {a:Act} {o:Oper} {fo x y:Operand} (BX:o.op = .call c) (vu:c.callee = .value fo) (hk:O5 P fo=some .ovl) (kQ:c.args.toList=[x,y]) (hi:Inv G own E w σ) {vx vy:AV}
   (hx:aM E w vx (a.eval x)) (hy:aM E w vy (a.eval y)) {r:dQ} (h:GM σ vx vy=some r):eI P G own E w σ p r (execOp a.eval o):=by
 obtain ⟨f,fn,rfl,FN,hb,hh⟩:=Eo hk
 rcases hh with ⟨h0,_⟩ | ⟨_,ho,hnf,tS,e,i,hp,ht,dv⟩
 case inl=>simp at h0
 unfold GM at h
 split at h
 . rename_i id1 k1 o1 l1 t1 Vi k2 o2 l2 t2
   split at h
   . simp at h
   . rename_i bY
     split at h
     . rename_i b1 b2 h1 h2
       split at h
       . rename_i oq
         simp only [Option.some.injEq] at h;subst h
         simp only [aM] at hx hy
         obtain ⟨g1,N1,c1,GC,pf,_⟩:=hx
         obtain ⟨g2,N2,c2,tc,te,_⟩:=hy
         obtain ⟨g1',N1',agE,ty1,hB1⟩:=hi.blk id1 b1 h1
         obtain ⟨g2',N2',Wo,ty2,uE⟩:=hi.blk Vi b2 h2
         have hg:g1≠g2:=hi.inj id1 Vi _ _ (by simp [h1]) (by simp [h2]) bY GC tc
         rw [hB1.μ] at GC
         rw [uE.μ] at tc
         simp only [Option.some.injEq,Prod.mk.injEq] at GC tc
         obtain ⟨rfl,_,_⟩:=GC
         obtain ⟨rfl,_,_⟩:=tc
         obtain ⟨Wm,Pn⟩:=M7 hnf ho
         have sk:(fn.name == "runtime.NumGoroutine")=false:=by
           unfold vq at hnf
           simp only [Bool.and_eq_true,Bool.not_eq_true'] at hnf
           exact hnf.2
         have Y2:c.args.map a.eval = #[.slice (some ⟨g1',o1*k1,none⟩) l1 c1, .slice (some ⟨g2',o2*k2,none⟩) l2 c2]:=by
           apply Array.ext'
           simp [kQ,pf,te]
         have uD:Wo.size≠0:=by
           rw [uE.size]
           have hl:=uE.len
           exact Nat.ne_of_gt (Nat.mul_pos (by omega) oq.1)
         refine ⟨.bool false,w,E, .inl (Lf BX vu FN sk hb Wm Pn ?_),⟨Adv.refl own E w,hi,by simp only [aM],fun _ _=>rfl⟩⟩
         rw [Y2]
         exact Tn fn.params fn.resultTypes hp ht dv _ _ _ _ _ _ hg hB1.heap uE.heap uD
       . simp at h
     . simp at h
 . simp at h
theorem DY (hi:Inv G own E w σ) (hμ : E.μ p=none) (hσ : σ p=none) {t:List AV} {a:Act} (hf:cw E w t a) {b:Builtin} {args:Array Operand} {ts:Array TypeId} {ty:TypeId} {cs:Array Bool} {vo:gB aV}
   (hc:yf P b args ts=some vo) {r:dQ} (h:cl σ p (vo.map (aV.ev G t))=some r) {R:Prop}
   (fin:∀ {s:Sem Value},builtin b ts ty cs (args.map a.eval)=(do pure (.value (<- s)))->Sound P G own E w σ p s r->R):R:=by
 unfold yf at hc
 split at hc
 . -- len
   rename_i x tx kQ Tp
   have nK:args = #[x]:=by apply Array.ext';simpa using kQ
   have FQ:ts = #[tx]:=by apply Array.ext';simpa using Tp
   refine fin (s:=Builtin.len_ ts ty (args.map a.eval)) rfl ?_
   rw [nK,FQ]
   split at hc
   . rename_i hu
     simp only [Option.map_eq_some_iff] at hc;obtain ⟨va,zH,rfl⟩:=hc
     simp only [gB.map,cl] at h
     have hr:=a7 hf hi zH
     refine Sound.fG h fun cc mH => ?_
     cases hx:va.ev G t<;>simp only [hx,jN,Option.some.injEq,reduceCtorEq] at mH
     rename_i l
     rw [hx] at hr
     simp only [aM] at hr
     subst mH
     refine Sound.same (v := .int .i64 l.length) hi ?_ (by simp only [aM])
     have uD:(ByteArray.mk l.toArray).size=l.length:=by show l.toArray.size=l.length;simp
     simp [Builtin.len_,run_underlying hu,hr,goInt,uD]
   . rename_i e hu
     simp only [Option.map_eq_some_iff] at hc;obtain ⟨va,zH,rfl⟩:=hc
     simp only [gB.map,cl] at h
     have hr:=a7 hf hi zH
     refine Sound.fG h fun cc mH => ?_
     have eH:∀ (ad:Option Addr) (n c:Nat),a.eval x = .slice ad n c->(Builtin.len_ #[tx] ty (#[x].map a.eval)).run P w = .ok (.int .i64 n) w:=by
       intro ad n c he
       simp [Builtin.len_,run_underlying hu,he,goInt]
     cases hx:va.ev G t<;>simp only [hx,jN,Option.some.injEq,reduceCtorEq] at mH<;>rw [hx] at hr<;>simp only [aM] at hr<;>subst mH
     . obtain ⟨ad,cap,he,_⟩:=hr
       exact Sound.same hi (eH _ _ _ he) (by simp only [aM])
     . obtain ⟨ad,he,_⟩:=hr
       exact Sound.same hi (eH _ _ _ he) (by simp only [aM])
     . exact Sound.same hi (eH _ _ _ hr) (by simp only [aM];rfl)
     . obtain ⟨g,N,cap,_,he,_⟩:=hr
       exact Sound.same hi (eH _ _ _ he) (by simp only [aM])
   . rename_i n e hu
     simp only [Option.map_eq_some_iff] at hc;obtain ⟨va,zH,rfl⟩:=hc
     simp only [gB.map,cl] at h
     refine Sound.fG h fun cc mH => ?_
     simp only [Option.some.injEq] at mH;subst mH
     refine Sound.same (v := .int .i64 n) hi ?_ (by simp only [aM])
     simp [Builtin.len_,run_underlying hu,goInt]
   . simp at hc
 . -- append
   rename_i s x t1 t2 kQ Tp
   have nK:args = #[s,x]:=by apply Array.ext';simpa using kQ
   have FQ:ts = #[t1,t2]:=by apply Array.ext';simpa using Tp
   refine fin (s:=Builtin.append_ ts ty (args.map a.eval)) rfl ?_
   rw [nK,FQ]
   split at hc
   . rename_i e hu
     split at hc
     . rename_i i dv
       split at hc
       . rename_i hh
         obtain ⟨Cn,_,_,hz⟩:=hh
         obtain ⟨e',JH⟩:=DW Cn
         split at hc
         . rename_i vs vx Lg kv
           simp only [Option.some.injEq] at hc;subst hc
           simp only [gB.map,cl] at h
           obtain ⟨v,w',E',hr,hp⟩:=FP (ty:=ty) hi hμ hσ hu dv hz (a7 hf hi Lg) (a7 hf hi kv) h
           refine ⟨v,w',E', ?_,hp⟩
           rw [<- hr, <- zW (ty:=ty) hu JH]
           simp
         . simp at hc
       . split at hc
         . rename_i kn z vs vx Tq hz Lg kv
           split at hc
           . rename_i oq
             simp only [Option.some.injEq] at hc;subst hc
             simp only [gB.map,cl] at h
             have:=JX (P:=P) (ty:=ty) hi hμ hσ hu dv Tq hz oq (a7 hf hi Lg) (a7 hf hi kv) h
             simpa using this
           . simp at hc
         . simp at hc
     . simp at hc
   . simp at hc
 . -- cap
   rename_i x tx kQ Tp
   have nK:args = #[x]:=by apply Array.ext';simpa using kQ
   have FQ:ts = #[tx]:=by apply Array.ext';simpa using Tp
   refine fin (s:=Builtin.cap_ ts ty (args.map a.eval)) rfl ?_
   rw [nK,FQ]
   split at hc
   . rename_i e hu
     simp only [Option.map_eq_some_iff] at hc;obtain ⟨va,zH,rfl⟩:=hc
     simp only [gB.map,cl] at h
     have hr:=a7 hf hi zH
     rcases JY h with h | ⟨id,k,off,len,bk,hx,hid,agG,rfl⟩
     case inr =>
       rw [hx] at hr;simp only [aM] at hr
       obtain ⟨g,N,cap,Gz,hv,h1,h2,h3,h4⟩:=hr
       obtain ⟨g',N',cur,K3,hB⟩:=hi.blk id bk hid
       rw [hB.μ] at Gz
       simp only [Option.some.injEq,Prod.mk.injEq] at Gz
       obtain ⟨rfl,_,rfl⟩:=Gz
       refine Sound.same (v := .int .i64 cap) hi (by simp [Builtin.cap_,run_underlying hu,hv,goInt]) ?_
       simp only [aM]
       have:=hB.len
       simp only [Bool.false_eq_true,if_false] at h4
       exact ⟨cap,by omega,rfl⟩
     refine Sound.fG h fun cc mH => ?_
     have eH:∀ (ad:Option Addr) (n c:Nat),a.eval x = .slice ad n c->(Builtin.cap_ #[tx] ty (#[x].map a.eval)).run P w = .ok (.int .i64 c) w:=by
       intro ad n c he
       simp [Builtin.cap_,run_underlying hu,he,goInt]
     unfold MV at mH
     split at mH
     . rename_i hx
       rw [hx] at hr;simp only [aM] at hr
       simp only [Option.some.injEq] at mH;subst mH
       exact Sound.same hi (eH _ _ _ hr) (by simp only [aM];rfl)
     . rename_i hx
       rw [hx] at hr;simp only [aM] at hr
       simp only [Option.some.injEq] at mH;subst mH
       obtain ⟨ad,he,_⟩:=hr
       exact Sound.same hi (eH _ _ _ he) (by simp only [aM])
     . rename_i hx
       rw [hx] at hr;simp only [aM,if_true] at hr
       simp only [Option.some.injEq] at mH;subst mH
       obtain ⟨g,N,cap,_,he,_,_,_,Cl⟩:=hr
       subst Cl
       exact Sound.same hi (eH _ _ _ he) (by simp only [aM])
     . simp at mH
   . simp at hc
 . -- clear
   rename_i x tx kQ Tp
   have nK:args = #[x]:=by apply Array.ext';simpa using kQ
   have FQ:ts = #[tx]:=by apply Array.ext';simpa using Tp
   refine fin (s:=Builtin.clear_ ts ty (args.map a.eval)) rfl ?_
   rw [nK,FQ]
   split at hc
   . rename_i e hu
     split at hc
     . rename_i z vx hz kv
       split at hc
       . rename_i oq
         simp only [Option.some.injEq] at hc;subst hc
         simp only [gB.map,cl] at h
         have:=GY (P:=P) (p:=p) (ty:=ty) hi hu hz oq (a7 hf hi kv) h
         simpa using this
       . simp at hc
     . simp at hc
   . simp at hc
 . -- copy
   rename_i d x t1 t2 kQ Tp
   have nK:args = #[d,x]:=by apply Array.ext';simpa using kQ
   have FQ:ts = #[t1,t2]:=by apply Array.ext';simpa using Tp
   refine fin (s:=Builtin.copy_ ts ty (args.map a.eval)) rfl ?_
   rw [nK,FQ]
   split at hc
   . rename_i e hu
     split at hc
     . rename_i i dv
       split at hc
       . split at hc
         . rename_i vd vx hvd kv
           simp only [Option.some.injEq] at hc;subst hc
           simp only [gB.map,cl] at h
           have:=JV (P:=P) (p:=p) (ty:=ty) (t2:=t2) hi hu dv (a7 hf hi hvd) (a7 hf hi kv) h
           simpa using this
         . simp at hc
       . simp at hc
     . simp at hc
   . simp at hc
 . -- min
   rename_i x y kQ
   have nK:args = #[x,y]:=by apply Array.ext';simpa using kQ
   refine fin (s:=Builtin.min_ ts ty (args.map a.eval)) rfl ?_
   rw [nK]
   split at hc
   . rename_i vx vy kv FR
     simp only [Option.some.injEq] at hc;subst hc
     simp only [gB.map,cl] at h
     have Tr:=a7 hf hi kv
     have Ts:=a7 hf hi FR
     split at h
     . rename_i k n k' m hx hy
       rw [hx] at Tr;rw [hy] at Ts
       simp only [aM] at Tr Ts
       refine Sound.fG h fun cc mH => ?_
       simp only [Option.some.injEq] at mH;subst mH
       refine Sound.same (v := .int k (if m<n then m else n)) hi ?_ (by simp only [aM])
       simp [Builtin.min_,Tr,Ts,Builtin.min2]
     . simp at h
   . simp at hc
 . -- max
   rename_i x y kQ
   have nK:args = #[x,y]:=by apply Array.ext';simpa using kQ
   refine fin (s:=Builtin.max_ ts ty (args.map a.eval)) rfl ?_
   rw [nK]
   split at hc
   . rename_i vx vy kv FR
     simp only [Option.some.injEq] at hc;subst hc
     simp only [gB.map,cl] at h
     have Tr:=a7 hf hi kv
     have Ts:=a7 hf hi FR
     split at h
     . rename_i k n k' m hx hy
       rw [hx] at Tr;rw [hy] at Ts
       simp only [aM] at Tr Ts
       refine Sound.fG h fun cc mH => ?_
       simp only [Option.some.injEq] at mH;subst mH
       refine Sound.same (v := .int k (if m>n then m else n)) hi ?_ (by simp only [aM])
       simp [Builtin.max_,Tr,Ts,Builtin.max2]
     . simp at h
   . simp at hc
 . simp at hc
theorem ym:∀ {ys:List AV} {l:List UInt8},bytesOf ys=some l->∃ zs:List Int,ys=zs.map (AV.int .u8)/\l=zs.map fun n=>UInt8.ofNat n.toNat
 | [],l,h=>by simp only [bytesOf,Option.some.injEq] at h;subst h;exact ⟨[],rfl,rfl⟩
 | .int .u8 n::r,l,h=>by
   simp only [bytesOf,Option.map_eq_some_iff] at h
   obtain ⟨l',h1,rfl⟩:=h
   obtain ⟨zs,rfl,rfl⟩:=ym h1
   exact ⟨n::zs,rfl,rfl⟩
theorem Ep (k:IntKind):∀ zs:List Int,flat (zs.map (AV.int k))=zs.map (AV.int k)
 | []=>rfl
 | z::zs=>by have:=Ep k zs;simp only [List.map_cons,flat,List.flatMap_cons,AV.cells] at this ⊢;rw [this];rfl
theorem Co (hi:Inv G own E w σ) {src dst e:TypeId} (hs:P.underlying src=some (.slice e)) (he:P.underlying e=some (.int .u8)) (hd:P.underlying dst=some .string) {x:AV} {v:Value} (hx:aM E w x v) {r:dQ} (h:mG σ x=some r) :
   Sound P G own E w σ p (convert src dst v) r:=by
 unfold mG at h
 split at h
 . rename_i ys rd vn
   simp only [Option.map_eq_some_iff] at h
   obtain ⟨l,hl,rfl⟩:=h
   obtain ⟨zs,rfl,rfl⟩:=ym hl
   obtain ⟨_,a,cap,rfl,hle,hr⟩:=wy hi hx vn
   refine Sound.same (v := .string ⟨(zs.map fun n=>UInt8.ofNat n.toNat).toArray⟩) hi ?_ (by simp [aM])
   rcases hr with hr | ⟨b,o,rfl,hr⟩
   . have hz:zs=[]:=by simpa using hr
     subst hz
     rw [run_convert_bytes_string w src dst e _ _ _ hs he hd]
     cases a with
     | none=>simp [Conv.bytesToString];rfl
     | some a =>
       rw [run_bytesToString w a _ _ [] (by simp [loadCells,loadCellsFrom])]
       rfl
   . rw [Ep] at hr
     have:=run_convert_bytes_arg (P:=P) w src e hs he b o zs.length cap zs rfl (fun i Lh=>by
       obtain ⟨v,h1,h2⟩:=hr i (.int .u8 zs[i]) (by rw [List.getElem?_map,List.getElem?_eq_getElem Lh];rfl)
       simp only [aM] at h2
       subst h2
       have Wp:(⟨b,o,none⟩:Addr).add i=⟨b,o+i,none⟩:=by simp [Addr.add]
       first | rw [Wp] at h1 | skip
       rw [h1,List.getD_eq_getElem?_getD,List.getElem?_eq_getElem Lh];rfl) dst hd
     simpa [strOfNums] using this
 . simp at h
theorem Na (hi:Inv G own E w σ) (hμ : E.μ p=none) (hσ : σ p=none) {t:List AV} {a:Act} (hf:cw E w t a) {o:Oper} {vo:gB aV} (hc:mO P o.op=some vo) {r:dQ}
   (h:cl σ p (vo.map (aV.ev G t))=some r):eI P G own E w σ p r (execOp a.eval o):=by
 unfold execOp
 cases ho:o.op<;>rw [ho] at hc<;>simp only []
 case move x =>
   simp only [mO,Option.map_eq_some_iff] at hc;obtain ⟨va,zH,rfl⟩:=hc
   simp only [gB.map,cl,bM,Option.map_some,Option.some.injEq] at h;subst h
   exact ⟨a.eval x,w,E, .inl rfl,Adv.refl own E w,hi,a7 hf hi zH,fun _ _=>rfl⟩
 case assign x =>
   simp only [mO,Option.map_eq_some_iff] at hc;obtain ⟨va,zH,rfl⟩:=hc
   simp only [gB.map,cl,bM,Option.map_some,Option.some.injEq] at h;subst h
   exact ⟨a.eval x,w,E, .inl rfl,Adv.refl own E w,hi,a7 hf hi zH,fun _ _=>rfl⟩
 case pick c x y =>
   simp only [mO] at hc
   cases Tt:cP c with
   | none=>simp [Tt] at hc
   | some vc =>
   cases kv:cP x with
   | none=>simp [Tt,kv] at hc
   | some vx =>
   cases FR:cP y with
   | none=>simp [Tt,kv,FR] at hc
   | some vy =>
     simp only [Tt,kv,FR,Option.some.injEq] at hc;subst hc
     simp only [gB.map,cl] at h
     have Th:=a7 hf hi Tt
     have Tr:=a7 hf hi kv
     have Ts:=a7 hf hi FR
     split at h
     . rename_i b hb
       rw [hb] at Th
       simp only [aM] at Th
       simp only [bM,Option.map_some,Option.some.injEq] at h;subst h
       refine ⟨if b then a.eval x else a.eval y,w,E, .inl (by simp [Th,asBool]),Adv.refl own E w,hi, ?_,fun _ _=>rfl⟩
       cases b
       . exact Ts
       . exact Tr
     . simp at h
 case alloc ty =>
   simp only [mO,Option.map_eq_some_iff] at hc;obtain ⟨z,hz,rfl⟩:=hc
   simp only [gB.map,cl,aV.ev] at h
   obtain ⟨it,zv,hit,JF,M3,K8,K9⟩:=k8 hz
   split at h
   . simp only [Option.some.injEq] at h;subst h
     have:=El (P:=P) (p:=p) hi hμ hσ (iE M3) K9 ty
     refine eI.of ?_
     obtain ⟨v,w',E',hr,hp⟩:=this
     refine ⟨v,w',E', ?_,hp⟩
     simp only [Instr.alloc,Sem.run_bind,xf hit JF,Result.andThen_ok]
     exact hr
   . rename_i qy;exact absurd K9 qy
 case box ty x =>
   simp only [mO,Option.map_eq_some_iff] at hc;obtain ⟨va,zH,rfl⟩:=hc
   simp only [gB.map,cl] at h
   split at h
   . rename_i xz
     simp only [Option.some.injEq] at h;subst h
     exact eI.of (El hi hμ hσ (a7 hf hi zH) xz ty)
   . simp at h
 case build ty ps=>exact eI.of (GQ hi hf hc h)
 case buildSlice ty n ps=>exact eI.of (DS hi hμ hσ hf hc h)
 case load ty x =>
   simp only [mO] at hc
   cases ha:nJ P ty with
   | none=>simp [ha] at hc
   | some g =>
   cases Bz:P.info? ty with
   | none=>simp [ha,Bz] at hc
   | some i =>
   cases kv:cP x with
   | none=>simp [ha,Bz,kv] at hc
   | some vx =>
     simp only [ha,Bz,kv] at hc
     split at hc
     . simp only [Option.some.injEq] at hc;subst hc
       simp only [gB.map,cl] at h
       exact eI.of (GO hi ha Bz (a7 hf hi kv) h)
     . simp at hc
 case store ty x y =>
   simp only [mO] at hc
   cases Bz:P.info? ty with
   | none=>simp [Bz] at hc
   | some i =>
   cases kv:cP x with
   | none=>simp [Bz,kv] at hc
   | some vx =>
   cases FR:cP y with
   | none=>simp [Bz,kv,FR] at hc
   | some vy =>
     simp only [Bz,kv,FR,Option.some.injEq] at hc;subst hc
     simp only [gB.map,cl] at h
     exact eI.ofU (FC hi Bz (a7 hf hi kv) (a7 hf hi FR) h)
 case nilCheck x =>
   simp only [mO,Option.map_eq_some_iff] at hc;obtain ⟨va,zH,rfl⟩:=hc
   simp only [gB.map,cl] at h
   have hr:=a7 hf hi zH
   split at h
   . rename_i id e q hx
     simp only [bM,Option.map_some,Option.some.injEq] at h;subst h
     rw [hx] at hr ⊢
     have zS:=hr
     simp only [aM] at hr
     obtain ⟨g,k,N,hm,he⟩:=hr
     exact ⟨a.eval x,w,E, .inl (by rw [he];rfl),Adv.refl own E w,hi,zS,fun _ _=>rfl⟩
   . rename_i cs q hx
     simp only [bM,Option.map_some,Option.some.injEq] at h;subst h
     rw [hx] at hr ⊢
     have zS:=hr
     simp only [aM] at hr
     obtain ⟨b,q,he,_⟩:=hr
     exact ⟨a.eval x,w,E, .inl (by rw [he];rfl),Adv.refl own E w,hi,zS,fun _ _=>rfl⟩
   . rename_i f l1 l2 hx
     simp only [bM,Option.map_some,Option.some.injEq] at h;subst h
     rw [hx] at hr ⊢
     have zS:=hr
     simp only [aM] at hr
     obtain ⟨xs,ys,he,_⟩:=hr
     exact ⟨a.eval x,w,E, .inl (by rw [he];rfl),Adv.refl own E w,hi,zS,fun _ _=>rfl⟩
   . simp at h
 case binOp op ty x y K3 =>
   simp only [mO] at hc
   cases Bx:MW P ty with
   | none=>simp [Bx] at hc
   | some sh =>
   cases kv:cP x with
   | none=>simp [Bx,kv] at hc
   | some vx =>
   cases FR:cP y with
   | none=>simp [Bx,kv,FR] at hc
   | some vy =>
     simp only [Bx,kv,FR,Option.some.injEq] at hc;subst hc
     simp only [gB.map,cl] at h
     refine eI.of (Sound.fG h fun c mH => ?_)
     unfold br at mH
     split at mH
     . rename_i c' acB
       simp only [Option.some.injEq] at mH;subst mH
       obtain ⟨h1,h2,h3,h4⟩:=Pe (P:=P) Bx acB (a7 hf hi kv) (a7 hf hi FR)
       refine Sound.same hi ?_ (Eh h2)
       simp only [Sem.run_bind,yh op ty x y _ _ h3 h4,Result.andThen_ok]
       exact h1
     . obtain ⟨⟨q,h1,h2⟩,h3,h4⟩:=M0 (P:=P) Bx mH (a7 hf hi kv) (a7 hf hi FR)
       refine Sound.same (v := .bool q) hi ?_ h1
       simp only [Sem.run_bind,yh op ty x y _ _ h3 h4,Result.andThen_ok]
       exact h2
 case unOp op ty x =>
   simp only [mO,Option.map_eq_some_iff] at hc;obtain ⟨va,zH,rfl⟩:=hc
   simp only [gB.map,cl] at h
   refine eI.of (Sound.fG h fun c mH => ?_)
   obtain ⟨h1,h2⟩:=Tg (P:=P) mH (a7 hf hi zH)
   exact Sound.same hi h1 (Eh h2)
 case convert src dst x =>
   simp only [mO] at hc
   split at hc
   . rename_i k1 k2 h1 h2
     simp only [Option.map_eq_some_iff] at hc;obtain ⟨va,zH,rfl⟩:=hc
     simp only [gB.map,cl] at h
     have hr:=a7 hf hi zH
     split at h
     . rename_i k n hx
       rw [hx] at hr
       simp only [aM] at hr
       simp only [bM,Option.map_some,Option.some.injEq] at h;subst h
       refine eI.of (Sound.same (v := .int k2 (k2.wrap n)) hi ?_ (by simp [aM]))
       rw [hr]
       simp [convert,run_underlying h1,run_underlying h2,Conv.intToInt]
     . simp at h
   . rename_i h1 h2
     simp only [Option.map_eq_some_iff] at hc;obtain ⟨va,zH,rfl⟩:=hc
     simp only [gB.map,cl] at h
     have hr:=a7 hf hi zH
     split at h
     . rename_i l hx
       rw [hx] at hr h
       have zS:=hr
       simp only [aM] at hr
       simp only [bM,Option.map_some,Option.some.injEq] at h;subst h
       refine eI.of (Sound.same hi ?_ zS)
       rw [hr]
       simp [convert,run_underlying h1,run_underlying h2]
     . simp at h
   . rename_i e h1 h2
     split at hc
     . rename_i he
       simp only [Option.map_eq_some_iff] at hc;obtain ⟨va,zH,rfl⟩:=hc
       simp only [gB.map,cl] at h
       exact eI.of (Co hi h1 he h2 (a7 hf hi zH) h)
     . simp at hc
   . simp at hc
 case makeFunc fn first cap =>
   simp only [mO] at hc
   cases h1:Cd first with
   | none=>simp [h1] at hc
   | some va =>
   cases h2:Cd cap with
   | none=>simp [h1,h2] at hc
   | some vc =>
     simp only [h1,h2,Option.some.injEq] at hc;subst hc
     simp only [gB.map,cl,bM,Option.map_some,Option.some.injEq] at h;subst h
     refine eI.of (Sound.same (v := .func fn (first.map a.eval) (cap.map a.eval)) hi (by simp [Instr.makeFunc]) ?_)
     simp only [aM]
     exact ⟨_,_,rfl,zQ hf hi h1,zQ hf hi h2⟩
 case makeSlice ty l c =>
   simp only [mO] at hc
   cases hu:P.underlying ty with
   | none=>simp [hu] at hc
   | some d =>
   cases d<;>simp only [hu,reduceCtorEq] at hc
   rename_i e
   cases dv:P.info? e with
   | none=>simp [dv] at hc
   | some i =>
   cases hz:lR P e with
   | none=>simp [dv,hz] at hc
   | some z =>
   cases uA:cP l with
   | none=>simp [dv,hz,uA] at hc
   | some vl =>
   cases Tt:cP c with
   | none=>simp [dv,hz,uA,Tt] at hc
   | some vc =>
     simp only [dv,hz,uA,Tt] at hc
     split at hc
     . rename_i hh
       simp only [Option.some.injEq] at hc;subst hc
       simp only [gB.map,cl] at h
       exact eI.of (JR hi hμ hσ hu dv hz hh.1 (a7 hf hi uA) (a7 hf hi Tt) h)
     . simp at hc
 case slice ty x lo jf mx =>
   simp only [mO] at hc
   cases hu:P.underlying ty with
   | none=>simp [hu] at hc
   | some d =>
   cases d<;>simp only [hu,reduceCtorEq] at hc
   case string =>
     cases kv:cP x with
     | none=>simp [kv] at hc
     | some vx =>
     cases uA:zO lo with
     | none=>simp [kv,uA] at hc
     | some vl =>
     cases Tu:zO jf with
     | none=>simp [kv,uA,Tu] at hc
     | some vh =>
     cases mx with
     | some _=>simp [kv,uA,Tu] at hc
     | none =>
       simp only [kv,uA,Tu,Option.some.injEq] at hc;subst hc
       simp only [gB.map,cl] at h
       refine eI.of (Sound.fG h fun c mH => ?_)
       exact DU hi hu (a7 hf hi kv) (vt hf hi uA) (vt hf hi Tu) mH
   case slice e =>
     cases dv:P.info? e with
     | none=>simp [dv] at hc
     | some i =>
     cases kv:cP x with
     | none=>simp [dv,kv] at hc
     | some vx =>
     cases uA:zO lo with
     | none=>simp [dv,kv,uA] at hc
     | some vl =>
     cases Tu:zO jf with
     | none=>simp [dv,kv,uA,Tu] at hc
     | some vh =>
     cases YY:zO mx with
     | none=>simp [dv,kv,uA,Tu,YY] at hc
     | some vm =>
       simp only [dv,kv,uA,Tu,YY] at hc
       split at hc
       . rename_i hh
         simp only [Option.some.injEq] at hc;subst hc
         simp only [gB.map,cl] at h
         exact eI.of (DX hi hu dv (a7 hf hi kv) (vt hf hi uA) (vt hf hi Tu) (vt hf hi YY) (by simpa using hh) h)
       . simp at hc
 case fieldAddr s x f =>
   simp only [mO] at hc
   cases hu:P.underlying s with
   | none=>simp [hu] at hc
   | some d =>
   cases d<;>simp only [hu,reduceCtorEq] at hc
   rename_i fs
   cases Wq:fs[f]? with
   | none=>simp [Wq] at hc
   | some fd =>
   simp only [Wq] at hc
   cases dv:P.info? fd.type with
   | none=>simp [dv] at hc
   | some i =>
   cases kv:cP x with
   | none=>simp [dv,kv] at hc
   | some vx =>
     simp only [dv,kv] at hc
     split at hc
     . simp at hc
     . rename_i h0
       simp only [Option.some.injEq] at hc;subst hc
       exact eI.of (GV hi hu Wq dv h0 (a7 hf hi kv) h)
 case field s x f =>
   simp only [mO] at hc
   cases hu:P.underlying s with
   | none=>simp [hu] at hc
   | some d =>
   cases d<;>simp only [hu,reduceCtorEq] at hc
   rename_i fs
   cases Wq:fs[f]? with
   | none=>simp [Wq] at hc
   | some fd =>
   simp only [Wq] at hc
   cases OR:nJ P fd.type with
   | none=>simp [OR] at hc
   | some g =>
   cases dv:P.info? fd.type with
   | none=>simp [OR,dv] at hc
   | some i =>
   cases kv:cP x with
   | none=>simp [OR,dv,kv] at hc
   | some vx =>
     simp only [OR,dv,kv,Option.some.injEq] at hc;subst hc
     simp only [gB.map,cl] at h
     have hr:=a7 hf hi kv
     split at h
     . rename_i cs hx
       rw [hx] at hr
       simp only [aM] at hr
       obtain ⟨xs,he,hr⟩:=hr
       refine eI.of (Sound.fG h fun c mH => ?_)
       obtain ⟨v,hv,wM⟩:=GX (P:=P) OR dv hr mH
       refine Sound.same hi ?_ wM
       rw [he]
       simp [Instr.field,run_underlying hu,Wq,asAgg,hv]
     . simp at h
 case indexAddr ty x ix =>
   simp only [mO] at hc
   cases hu:P.underlying ty with
   | none=>simp [hu] at hc
   | some d =>
   cases d<;>simp only [hu,reduceCtorEq] at hc
   case slice e =>
     cases dv:P.info? e with
     | none=>simp [dv] at hc
     | some i =>
     cases kv:cP x with
     | none=>simp [dv,kv] at hc
     | some vx =>
     cases JZ:cP ix with
     | none=>simp [dv,kv,JZ] at hc
     | some vi =>
       simp only [dv,kv,JZ,Option.some.injEq] at hc;subst hc
       simp only [gB.map,cl] at h
       refine eI.of (Sound.fG h fun c mH => ?_)
       exact FK hi hu dv (a7 hf hi kv) (a7 hf hi JZ) mH
   case array n e =>
     cases dv:P.info? e with
     | none=>simp [dv] at hc
     | some i =>
     cases kv:cP x with
     | none=>simp [dv,kv] at hc
     | some vx =>
     cases JZ:cP ix with
     | none=>simp [dv,kv,JZ] at hc
     | some vi =>
       simp only [dv,kv,JZ,Option.some.injEq] at hc;subst hc
       simp only [gB.map,cl] at h
       refine eI.of (Sound.fG h fun c mH => ?_)
       exact FL hi hu dv (a7 hf hi kv) (a7 hf hi JZ) mH
 case index ty x ix =>
   simp only [mO] at hc
   cases hu:P.underlying ty with
   | none=>simp [hu] at hc
   | some d =>
   cases d<;>simp only [hu,reduceCtorEq] at hc
   case string =>
     cases kv:cP x with
     | none=>simp [kv] at hc
     | some vx =>
     cases JZ:cP ix with
     | none=>simp [kv,JZ] at hc
     | some vi =>
       simp only [kv,JZ,Option.some.injEq] at hc;subst hc
       simp only [gB.map,cl] at h
       have hr:=a7 hf hi kv
       have Po:=a7 hf hi JZ
       split at h
       . rename_i s k n hx hn
         rw [hx] at hr;rw [hn] at Po
         simp only [aM] at hr Po
         split at h
         . rename_i h0
           refine eI.of (Sound.fG h fun c mH => ?_)
           simp only [Option.map_eq_some_iff] at mH
           obtain ⟨b,hb,rfl⟩:=mH
           refine Sound.same (v := .int .u8 b.toNat) hi ?_ (by simp [aM])
           rw [hr,Po]
           have Vh:(ByteArray.mk s.toArray)[n.toNat]? = some b:=by
             have aN:=(List.getElem?_eq_some_iff.1 hb)
             obtain ⟨h1,h2⟩:=aN
             rw [getElem?_pos (ByteArray.mk s.toArray) n.toNat (by simpa [ByteArray.size] using h1)]
             congr 1
           simp [Instr.index,run_underlying hu,asIntOf,h0,Vh]
         . simp at h
       . simp at h
   case array n e =>
     cases OR:nJ P e with
     | none=>simp [OR] at hc
     | some g =>
     cases dv:P.info? e with
     | none=>simp [OR,dv] at hc
     | some i =>
     cases kv:cP x with
     | none=>simp [OR,dv,kv] at hc
     | some vx =>
     cases JZ:cP ix with
     | none=>simp [OR,dv,kv,JZ] at hc
     | some vi =>
       simp only [OR,dv,kv,JZ,Option.some.injEq] at hc;subst hc
       simp only [gB.map,cl] at h
       have hr:=a7 hf hi kv
       have Po:=a7 hf hi JZ
       split at h
       . rename_i cs k m hx hn
         rw [hx] at hr;rw [hn] at Po
         simp only [aM] at hr Po
         obtain ⟨xs,he,hr⟩:=hr
         split at h
         . rename_i h0
           refine eI.of (Sound.fG h fun c mH => ?_)
           obtain ⟨v,hv,wM⟩:=GX (P:=P) OR dv hr mH
           refine Sound.same hi ?_ wM
           rw [he,Po]
           simp [Instr.index,run_underlying hu,asIntOf,h0,eR dv,hv]
         . simp at h
       . simp at h
 case extract x i =>
   simp only [mO,Option.map_eq_some_iff] at hc;obtain ⟨va,zH,rfl⟩:=hc
   simp only [gB.map,cl] at h
   have hr:=a7 hf hi zH
   split at h
   . rename_i vs hx
     rw [hx] at hr
     simp only [aM] at hr
     obtain ⟨xs,he,hr⟩:=hr
     refine eI.of (Sound.fG h fun c mH => ?_)
     obtain ⟨v,hv,wM⟩:=(bC.1 hr).2 i c mH
     refine Sound.same hi ?_ wM
     rw [he]
     simp at hv
     simp [Instr.extract,hv]
   . simp at h
 case call c =>
   simp only [mO] at hc
   cases vu:c.callee with
   | value f =>
     simp only [vu] at hc
     split at hc
     . split at hc
       . simp only [Option.some.injEq] at hc;subst hc
         simp [gB.map,cl] at h
       . simp at hc
     . rename_i k hk
       unfold Tf at hc
       split at hc
       . rename_i x y kQ
         split at hc
         . rename_i vx vy kv FR
           simp only [Option.some.injEq] at hc;subst hc
           cases k with
           | idx =>
             simp only [gB.map,cl] at h
             have hh:=M8 (p:=p) ho vu hk kQ hi (a7 hf hi kv) (a7 hf hi FR) h
             unfold execOp at hh;simp only [ho] at hh;exact hh
           | ovl =>
             simp only [gB.map,cl] at h
             have hh:=M9 (p:=p) ho vu hk kQ hi (a7 hf hi kv) (a7 hf hi FR) h
             unfold execOp at hh;simp only [ho] at hh;exact hh
         . simp at hc
       . simp at hc
   | invoke _ _=>simp [vu] at hc
   | builtin b =>
     simp only [vu] at hc
     have BB:∀ w,(do let d <- resolve a.eval c o.type;invoke d.target d.args:Sem Next).run P w =
         (builtin b c.argTypes o.type (c.args.map fun | .const _=>true | _=>false) (c.args.map a.eval)).run P w:=by
       intro w;simp [resolve,vu,invoke];rfl
     have fin:∀ {s:Sem Value},builtin b c.argTypes o.type (c.args.map fun | .const _=>true | _=>false) (c.args.map a.eval)=(do pure (.value (<- s)))->Sound P G own E w σ p s r ->
         eI P G own E w σ p r (do let d <- resolve a.eval c o.type;invoke d.target d.args):=by
       intro s he hs
       obtain ⟨v,w',E',hr,hp⟩:=hs
       exact ⟨v,w',E', .inl (by rw [BB,he];simp [hr]),hp⟩
     exact DY hi hμ hσ hf hc h fin
 all_goals simp [mO] at hc
theorem Pp (hi:Inv G own E w σ) (hμ : E.μ p=none) (hσ : σ p=none) {t:List AV} {a:Act} (hf:cw E w t a) {o:Oper} {vo:gB aV} (hc:Vc P o.op=some vo) {r:dQ}
   (h:cl σ p (vo.map (aV.ev G t))=some r):eI P G own E w σ p r (execOp a.eval o):=by
 unfold Vc at hc
 split at hc
 . rename_i v hv
   simp only [Option.some.injEq] at hc;subst hc
   exact Na hi hμ hσ hf hv h
 . simp only [Option.some.injEq] at hc;subst hc
   simp [gB.map,cl] at h
end
end Go.VL
end

section
namespace Go.VL
def aB (P:Program) (G:Nat->Option (List AV)) (f:FuncId) (args:List AV) (p:Id) (S:List (Id × dF)) (r:dQ):Prop :=
 (∃ fn,P.funcs[f]? = some fn/\(fn.name == "runtime.NumGoroutine")=false/\fn.body.isSome=true) /\
 ∀ own E w σ vs,(∀ x∈S, σ x.1=some x.2)->Inv G own E w σ -> aO E w args vs->(∀ j,p <:+ j->E.μ j=none) ->
   Calls P f vs.toArray w fun e w'=>∃ v E',e = .returned v/\k7 G own E w σ p r v E' w'
def jP (P:Program) (G:Nat->Option (List AV)) (σ : aa) (p:Id) (op:gB AV) (r:dQ):Prop :=
 match op with
 | .call f as=>match f with
   | .fn (.func f) first cap=>∃ S,aB P G f (first++as++cap) p S r/\(∀ x∈S, σ x.1=some x.2)/\∀ x∈S,x.1∈r.rd
   | _=>False
 | op=>cl σ p op=some r
def fK (t:List AV) (d:Option Nat) (v:AV):List AV:=match d with | some d=>t.set d v | none=>t
def eS (t:List AV):Option (Nat × Bool)->Option Bool
 | none=>some true
 | some (d,want)=>match t[d]? with
   | some (.bool b)=>some (b==want)
   | some .top | some .anyb=>none
   | _=>some false
section
variable {P:Program} {G:Nat->Option (List AV)} {own:Nat->Prop} {E:Env} {w:World} {σ : aa} {p:Id}
theorem cw.keep {E':Env} {w':World} {t:List AV} {a:Act} (h:cw E w t a) (s:Step E E' w w'):cw E' w' t a:=aO.keep s t _ h
theorem cw.put {t:List AV} {a:Act} (h:cw E w t a) {c:AV} {v:Value} (hv:aM E w c v) (d:Option Nat):cw E w (fK t d c) (a.put d v):=by
 cases d with
 | none=>exact h
 | some d =>
   obtain ⟨hl,hp⟩:=bC.1 h
   refine bC.2 ⟨by simpa [fK,Act.put] using hl,fun j c' hj => ?_⟩
   simp only [fK,List.getElem?_set] at hj
   simp only [Act.put,Array.toList_setIfInBounds,List.getElem?_set]
   split at hj
   . rename_i e
     subst e
     split at hj
     . rename_i aN
       simp only [Option.some.injEq] at hj;subst hj
       exact ⟨v,by rw [if_pos rfl,if_pos (by omega)],hv⟩
     . simp at hj
   . rename_i e
     rw [if_neg e]
     exact hp j c' hj
theorem cw.at? {t:List AV} {a:Act} (h:cw E w t a) (d:Nat):(t[d]? = none/\a.tmps[d]? = none)∨∃ c v,t[d]? = some c/\a.tmps[d]? = some v/\aM E w c v:=by
 obtain ⟨hl,hp⟩:=bC.1 h
 by_cases hd:d<t.length
 . right
   obtain ⟨v,hv,hr⟩:=hp d t[d] (by simp [hd])
   exact ⟨t[d],v,by simp [hd],by simpa using hv,hr⟩
 . left
   have:a.tmps.size<=d:=by have:=hl;simp at this;omega
   exact ⟨by simp;omega,by simp;omega⟩
theorem FT {c:AV} {v:Value} (h:aM E w c v) (h1:∀ b,c ≠ .bool b) (h2:c ≠ .top) (h3:c ≠ .anyb):∀ b,v ≠ .bool b:=by
 intro b e
 subst e
 cases c<;>simp only [aM,reduceCtorEq,exists_const,false_and,and_false] at h
 . exact h1 _ rfl
 all_goals first
   | exact h2 rfl
   | exact h3 rfl
   | (obtain ⟨_,_,h,_⟩:=h;cases h)
   | (obtain ⟨_,h,_⟩:=h;cases h)
   | (obtain ⟨_,_,h⟩:=h;cases h)
theorem tk {ops:Array Oper} {o:Oper} {vo:bu} (hc:xd P ops o=some vo) {t:List AV} {a:Act} (hf:cw E w t a) {b:Bool} (h:eS t vo.guard=some b):Region.wanted o (yielded ops a.tmps)=b:=by
 unfold xd at hc
 cases BX:Vc P o.op with
 | none=>simp [BX] at hc
 | some op =>
   simp only [BX] at hc
   cases hg:o.guard with
   | none =>
     simp only [hg,Option.some.injEq] at hc;subst hc
     simp only [eS,Option.some.injEq] at h;subst h
     simp [Region.wanted,hg]
   | some jw =>
     obtain ⟨j,want⟩:=jw
     simp only [hg] at hc
     cases hd:(ops[j]?).bind (·.dst) with
     | none=>simp [hd] at hc
     | some d =>
       simp only [hd,Option.some.injEq] at hc;subst hc
       simp only [eS] at h
       simp only [Region.wanted,hg,yielded,hd,Option.bind_some]
       rcases hf.at? d with ⟨h1,h2⟩ | ⟨c,v,h1,h2,hr⟩
       . simp only [h1,Option.some.injEq] at h;subst h
         simp [h2]
       . simp only [h1] at h
         simp only [h2]
         cases c with
         | bool b' =>
           simp only [Option.some.injEq] at h;subst h
           simp only [aM] at hr;subst hr
           simp
         | top=>simp at h
         | anyb=>simp at h
         | _ =>
           simp only [Option.some.injEq] at h;subst h
           have SZ:=FT hr (by simp) (by simp) (by simp)
           cases v<;>simp at SZ ⊢
theorem GZ {ops:Array Oper} {o:Oper} {vo:bu} (hc:xd P ops o=some vo):Vc P o.op=some vo.op/\vo.dst=o.dst:=by
 unfold xd at hc
 cases BX:Vc P o.op with
 | none=>simp [BX] at hc
 | some op =>
   simp only [BX] at hc
   split at hc
   . simp only [Option.some.injEq] at hc;subst hc;simp_all
   . split at hc
     . simp only [Option.some.injEq] at hc;subst hc;simp_all
     . simp at hc
   . simp_all
theorem Tv {k:Te} {l:List Operand} (f:aV) (as:List aV):Tf k l≠some (.call f as):=by
 unfold Tf
 split
 . split
   . cases k<;>simp
   . simp
 . simp
theorem Cp (hi:Inv G own E w σ) (hμ : ∀ j,p <:+ j->E.μ j=none) {t:List AV} {a:Act} (hf:cw E w t a) {o:Oper} {vo:gB aV} (hc:Vc P o.op=some vo) {r:dQ}
   (h:jP P G σ p (vo.map (aV.ev G t)) r) {K:Act->World->Prop} {Q:Exit->Act->World->Prop} (hK:∀ v w' E',k7 G own E w σ p r v E' w'->K (a.put o.dst v) w'):o.wp P a w K Q:=by
 have hσ : σ p=none:=by
   cases hs : σ p with
   | none=>rfl
   | some bk=>obtain ⟨g,N,cur,ty,hB⟩:=hi.blk _ _ hs;have:=hB.μ;rw [hμ _ (List.suffix_refl _)] at this;simp at this
 have plain:cl σ p (vo.map (aV.ev G t))=some r->o.wp P a w K Q:=by
   intro hv
   obtain ⟨v,w',E',eH,hp⟩:=Pp hi (hμ p (List.suffix_refl _)) hσ hf hc hv
   unfold Oper.wp
   rcases eH with eH | ⟨eH,rfl⟩
   . rw [eH];exact hK v w' E' hp
   . rw [eH];exact hK undef w' E' hp
 cases vo with
 | call f as =>
   replace hc:mO P o.op=some (.call f as):=by
     unfold Vc at hc
     split at hc
     . rename_i v hv;rw [hv];exact hc
     . simp at hc
   simp only [gB.map,jP] at h
   split at h
   . rename_i f' fid first cap GU
     obtain ⟨S,Pq,hS,_⟩:=h
     obtain ⟨⟨fn,FN,sk,Y3⟩,Pq⟩:=Pq
     cases BX:o.op with
     | call c =>
       rw [BX] at hc
       simp only [mO] at hc
       cases vu:c.callee with
       | value fo =>
         simp only [vu] at hc
         split at hc
         case h_2=>exact absurd hc (Tv _ _)
         split at hc
         . rename_i vf vas h1 h2
           simp only [Option.some.injEq,gB.call.injEq] at hc
           obtain ⟨rfl,rfl⟩:=hc
           have hrf:=a7 hf hi h1
           rw [GU] at hrf
           simp only [aM] at hrf
           obtain ⟨xs,ys,hfv,hx,hy⟩:=hrf
           have hra:=zQ hf hi h2
           have kQ:aO E w (first++vas.map (aV.ev G t)++cap) (xs.toList++(c.args.map a.eval).toList++ys.toList):=aO.append (aO.append hx hra) hy
           have uP:=Pq own E w σ _ hS hi kQ hμ
           have eH:(execOp a.eval o).run P w = .ok (.enter fid (xs++c.args.map a.eval++ys)) w:=by
             have SZ : ¬ fn.body=none:=by intro e;simp [e] at Y3
             have Wr : ¬ fn.name = "runtime.NumGoroutine" := by intro e;simp [e] at sk
             simp [execOp,BX,resolve,vu,hfv,Deferred.ofValue,invoke,callFunc,FN,Wr,SZ]
           unfold Oper.wp
           rw [eH,Oper.upon_enter]
           have Y2:(xs.toList++(c.args.map a.eval).toList++ys.toList).toArray=xs++c.args.map a.eval++ys:=by apply Array.ext';simp
           rw [Y2] at uP
           refine uP.mono fun e w' he => ?_
           obtain ⟨v,E',rfl,hp⟩:=he
           exact hK v w' E' hp
         . simp at hc
       | invoke _ _=>simp [vu] at hc
       | builtin b =>
         simp only [vu] at hc
         unfold yf at hc
         split at hc<;>(try split at hc)<;>(try split at hc)<;>(try split at hc)<;>(try split at hc)<;>simp at hc
     | _ =>
       rw [BX] at hc
       simp only [mO] at hc
       exfalso
       revert hc
       clear plain GU
       intro hc
       first
         | simp at hc
         | (simp only [Option.map_eq_some_iff] at hc;obtain ⟨_,_,hc⟩:=hc;cases hc)
         | ((repeat' split at hc)<;>first | (simp at hc;done) | (simp only [Option.map_eq_some_iff] at hc;obtain ⟨_,_,hc⟩:=hc;cases hc) | (cases hc))
   . exact h.elim
 | _=>exact plain h
end
end Go.VL
end

section
namespace Go.VL
abbrev yn:=Option Nat × dQ
def eT (X:Nat->Bool):List yn->Nat->List AV->List AV
 | [],_,t=>t
 | (d,r)::L,i,t=>eT X L (i+1) (if X i then fK t d r.val else t)
def gv (X:Nat->Bool):List yn->Nat->aa->aa
 | [],_, σ => σ
 | (_,r)::L,i, σ => gv X L (i+1) (if X i then σ.app r.up else σ)
theorem sn (t:List AV) (d:Option Nat) (v:AV) (s:Nat):(fK t d v)[s]? = if d=some s then (if s<t.length then some v else none) else t[s]? := by
 cases d with
 | none=>simp [fK]
 | some d =>
   simp only [fK,List.getElem?_set,Option.some.injEq]
   by_cases e:d=s
   . subst e;simp
   . simp [e]
theorem G0 (t:List AV) (d:Option Nat) (v:AV):(fK t d v).length=t.length:=by cases d<;>simp [fK]
theorem Er (X:Nat->Bool):∀ (L:List yn) (i:Nat) (t:List AV),(eT X L i t).length=t.length
 | [],_,_=>rfl
 | (d,r)::L,i,t=>by
   simp only [eT];rw [Er X L]
   split
   . exact G0 t d r.val
   . rfl
theorem Nb {t t':List AV} {s:Nat} (h:t[s]? = t'[s]?):(s<t.length)=(s<t'.length):=by
 have h1:s<t.length↔t[s]? ≠ none:=by simp
 have h2:s<t'.length↔t'[s]? ≠ none:=by simp
 exact propext (h1.trans ((by rw [h]:t[s]? ≠ none↔t'[s]? ≠ none).trans h2.symm))
theorem qN {X Y:Nat->Bool} {s:Nat}:∀ (L:List yn) (i:Nat) (t t':List AV),t[s]? = t'[s]? -> (∀ k d r,L[k]? = some (d,r)->X (i+k)≠Y (i+k)->d≠some s)->(eT X L i t)[s]? = (eT Y L i t')[s]?
 | [],_,_,_,h,_=>h
 | (d,r)::L,i,t,t',h,hd=>by
   simp only [eT]
   refine qN L (i+1) _ _ ?_ (fun k d' r' hk bY=>hd (k+1) d' r' (by simpa using hk) (by rwa [show i+(k+1)=i+1+k from by omega]))
   by_cases hx:X i=Y i
   . rw [hx]
     split
     . rw [sn,sn];simp only [Nb h,h]
     . exact h
   . have:=hd 0 d r rfl hx
     have e1:(fK t d r.val)[s]? = t[s]? := by rw [sn,if_neg this]
     have e2:(fK t' d r.val)[s]? = t'[s]? := by rw [sn,if_neg this]
     split<;>split<;>simp only [e1,e2,h]
theorem aa.Nc {σ σ':aa} {id:Id} (h : σ id = σ' id):∀ (up:List (Id × Option dF)),(σ.app up) id=(σ'.app up) id:=by
 intro up
 induction up generalizing σ σ' with
 | nil=>exact h
 | cons x up ih =>
   obtain ⟨i,b⟩:=x
   simp only [aa.app]
   refine ih ?_
   simp only [aa.put]
   split<;>first | rfl | exact h
theorem aa.wA {σ : aa} {id:Id}:∀ {up:List (Id × Option dF)},id ∉ up.map (·.1)->(σ.app up) id = σ id:=by
 intro up
 induction up generalizing σ with
 | nil=>intro _;rfl
 | cons x up ih =>
   obtain ⟨i,b⟩:=x
   intro h
   simp only [List.map_cons,List.mem_cons,not_or] at h
   simp only [aa.app]
   rw [ih h.2,aa.bj _ _ _ h.1]
theorem aa.J0 {σ σ':aa} {id:Id}:∀ {up:List (Id × Option dF)},id∈up.map (·.1)->(σ.app up) id=(σ'.app up) id:=by
 intro up
 induction up generalizing σ σ' with
 | nil=>intro h;simp at h
 | cons x up ih =>
   obtain ⟨i,b⟩:=x
   intro h
   simp only [aa.app]
   by_cases vp:id∈up.map (·.1)
   . exact ih vp
   . have he:id=i:=by simpa [vp] using h
     subst he
     rw [aa.wA vp,aa.wA vp,aa.bd,aa.bd]
theorem qO {X Y:Nat->Bool} {id:Id}:∀ (L:List yn) (i:Nat) (σ σ':aa), σ id = σ' id->(∀ k d r,L[k]? = some (d,r)->X (i+k)≠Y (i+k)->id ∉ r.up.map (·.1))->gv X L i σ id=gv Y L i σ' id
 | [],_,_,_,h,_=>h
 | (d,r)::L,i, σ, σ',h,hd=>by
   simp only [gv]
   refine qO L (i+1) _ _ ?_ (fun k d' r' hk bY=>hd (k+1) d' r' (by simpa using hk) (by rwa [show i+(k+1)=i+1+k from by omega]))
   by_cases hx:X i=Y i
   . rw [hx]
     split
     . exact aa.Nc h _
     . exact h
   . have:=hd 0 d r rfl hx
     split<;>split<;>simp only [aa.wA this,h]
theorem Cq {X:Nat->Bool} {s:Nat} {r:dQ}:∀ (L:List yn) (i j:Nat) (t:List AV),L[j]? = some (some s,r)->X (i+j)=true->(∀ k d r',L[k]? = some (d,r')->j<k->X (i+k)=true->d≠some s) ->
   (eT X L i t)[s]? = if s<t.length then some r.val else none
 | [],_,_,_,h,_,_=>by simp at h
 | (d,r')::L,i,0,t,h,hx,hd=>by
   simp only [List.getElem?_cons_zero,Option.some.injEq,Prod.mk.injEq] at h
   obtain ⟨rfl,rfl⟩:=h
   simp only [eT]
   rw [Nat.add_zero] at hx
   rw [if_pos hx]
   have:=qN (X:=X) (Y:=fun _=>false) (s:=s) L (i+1) (fK t (some s) r'.val) (fK t (some s) r'.val) rfl (fun k d r2 hk bY=>hd (k+1) d r2 (by simpa using hk) (by omega) (by
     rw [show i+(k+1)=i+1+k from by omega]
     cases hh:X (i+1+k) with
     | true=>rfl
     | false=>simp [hh] at bY))
   rw [this]
   have none:∀ (L:List yn) (i:Nat) (t:List AV),eT (fun _=>false) L i t=t:=by
     intro L
     induction L with
     | nil=>intro _ _;rfl
     | cons x L ih=>intro i t;obtain ⟨d,r⟩:=x;simp only [eT];rw [ih];simp
   rw [none,sn,if_pos rfl]
 | (d,r')::L,i,j+1,t,h,hx,hd=>by
   simp only [eT]
   have:=Cq L (i+1) j (if X i then fK t d r'.val else t) (by simpa using h) (by rwa [show i+1+j=i+(j+1) from by omega])
     (fun k d r2 hk aN BC=>hd (k+1) d r2 (by simpa using hk) (by omega) (by rwa [show i+(k+1)=i+1+k from by omega]))
   rw [this]
   split<;>simp [G0]
theorem Cr {X:Nat->Bool} {id:Id} {d:Option Nat} {r:dQ} {σ':aa}:∀ (L:List yn) (i j:Nat) (σ : aa),L[j]? = some (d,r)->X (i+j)=true->id∈r.up.map (·.1) ->
   (∀ k d r',L[k]? = some (d,r')->j<k->X (i+k)=true->id ∉ r'.up.map (·.1))->gv X L i σ id=(σ'.app r.up) id
 | [],_,_,_,h,_,_,_=>by simp at h
 | (d',r')::L,i,0, σ,h,hx,vp,hd=>by
   simp only [List.getElem?_cons_zero,Option.some.injEq,Prod.mk.injEq] at h
   obtain ⟨rfl,rfl⟩:=h
   simp only [gv]
   rw [Nat.add_zero] at hx
   rw [if_pos hx]
   have:=qO (X:=X) (Y:=fun _=>false) (id:=id) L (i+1) (σ.app r'.up) (σ.app r'.up) rfl (fun k d r2 hk bY=>hd (k+1) d r2 (by simpa using hk) (by omega) (by
     rw [show i+(k+1)=i+1+k from by omega]
     cases hh:X (i+1+k) with
     | true=>rfl
     | false=>simp [hh] at bY))
   rw [this]
   have none:∀ (L:List yn) (i:Nat) (σ : aa),gv (fun _=>false) L i σ = σ := by
     intro L
     induction L with
     | nil=>intro _ _;rfl
     | cons x L ih=>intro i t;obtain ⟨d,r⟩:=x;simp only [gv];rw [ih];simp
   rw [none]
   exact aa.J0 vp
 | (d',r')::L,i,j+1, σ,h,hx,vp,hd=>by
   simp only [gv]
   exact Cr L (i+1) j _ (by simpa using h) (by rwa [show i+1+j=i+(j+1) from by omega]) vp
     (fun k d r2 hk aN BC=>hd (k+1) d r2 (by simpa using hk) (by omega) (by rwa [show i+(k+1)=i+1+k from by omega]))
theorem rh {X:Nat->Bool}:∀ (L:List yn) (i:Nat) (t:List AV),(∀ k,k<L.length->X (i+k)=false)->eT X L i t=t
 | [],_,_,_=>rfl
 | (d,r)::L,i,t,h=>by
   simp only [eT]
   have:=h 0 (by simp)
   rw [Nat.add_zero] at this
   rw [this]
   exact rh L (i+1) t (fun k hk=>by rw [show i+1+k=i+(k+1) from by omega];exact h (k+1) (by simpa using hk))
theorem ri {X:Nat->Bool}:∀ (L:List yn) (i:Nat) (σ : aa),(∀ k,k<L.length->X (i+k)=false)->gv X L i σ = σ
 | [],_,_,_=>rfl
 | (d,r)::L,i,t,h=>by
   simp only [gv]
   have:=h 0 (by simp)
   rw [Nat.add_zero] at this
   rw [this]
   exact ri L (i+1) t (fun k hk=>by rw [show i+1+k=i+(k+1) from by omega];exact h (k+1) (by simpa using hk))
section
variable (P:Program) (G:Nat->Option (List AV)) (π : Id)
def yo (σ : aa) (p:Id) (op:gB AV) (K:dQ->Prop):Prop :=
 match op with
 | .call f as=>match f with
   | .fn (.func f) first cap=>∃ S r,aB P G f (first++as++cap) p S r/\(∀ x∈S, σ x.1=some x.2)/\(∀ x∈S,x.1∈r.rd)/\K r
   | _=>False
 | op=>match cl σ p op with
   | some r=>K r
   | none=>False
def yp (base:Nat) (K:List AV->aa->Prop):List bu->Nat->List AV->aa->Prop
 | [],_,t, σ => K t σ
 | o::os,i,t, σ => match eS t o.guard with
   | none=>False
   | some false=>yp base K os (i+1) (fK t o.dst (.tup [])) σ
   | some true=>yo P G σ ((base+i) :: π) (o.op.map (aV.ev G t)) fun r=>yp base K os (i+1) (fK t o.dst r.val) (σ.app r.up)
def yq (base:Nat) (K:List dQ->List AV->aa->Prop):List bu->Nat->List dQ->List AV->aa->Prop
 | [],_,acc,t, σ => K acc.reverse t σ
 | o::os,i,acc,t, σ => match eS t o.guard with
   | none=>False
   | some false=>yq base K os (i+1) ({ val := .tup [] }::acc) (fK t o.dst (.tup [])) σ
   | some true=>yo P G σ ((base+i) :: π) (o.op.map (aV.ev G t)) fun r=>yq base K os (i+1) (r::acc) (fK t o.dst r.val) (σ.app r.up)
def apart (a b:dQ):Prop:=(∀ x∈a.up,x.1 ∉ b.rd/\x.1 ∉ b.up.map (·.1))/\∀ x∈b.up,x.1 ∉ a.rd
def ar (rs:List dQ) (ps:List (Nat × Nat)):Prop:=∀ q∈ps,∀ a b,rs[q.1]? = some a->rs[q.2]? = some b->apart a b
def yr (base:Nat) (o:bu) (k:Nat) (t:List AV) (σ : aa) (r:dQ):Prop :=
 (eS t o.guard=some false/\r={ val := .tup [] })∨(eS t o.guard=some true/\jP P G σ ((base+k) :: π) (o.op.map (aV.ev G t)) r)
end
section
variable {P:Program} {G:Nat->Option (List AV)} {π : Id} {own:Nat->Prop} {E:Env} {w:World} {σ : aa}
theorem Cs {σ : aa} {p:Id} {op:gB AV} {K:dQ->Prop} (h:yo P G σ p op K):∃ r,jP P G σ p op r/\K r:=by
 unfold yo at h
 cases op with
 | call f as =>
   simp only [] at h
   split at h
   . obtain ⟨S,r,h1,h2,h3,h4⟩:=h
     exact ⟨r,⟨S,h1,h2,h3⟩,h4⟩
   . exact h.elim
 | _ =>
   simp only [] at h
   split at h
   . rename_i r hr;exact ⟨r,hr,h⟩
   . exact h.elim
theorem Es {base:Nat} {K:List dQ->List AV->aa->Prop}:∀ {os:List bu} {i:Nat} {acc:List dQ} {t:List AV} {σ : aa},yq P G π base K os i acc t σ ->
   ∃ rs:List dQ,rs.length=os.length /\
     (∀ k o r,os[k]? = some o->rs[k]? = some r->yr P G π base o (i+k) (eT (fun m=>m<i+k) ((os.map (·.dst)).zip rs) i t) (gv (fun m=>m<i+k) ((os.map (·.dst)).zip rs) i σ) r) /\
     K (acc.reverse++rs) (eT (fun _=>true) ((os.map (·.dst)).zip rs) i t) (gv (fun _=>true) ((os.map (·.dst)).zip rs) i σ)
 | [],i,acc,t, σ,h=>⟨[],rfl,by simp,by simpa [yq,eT,gv] using h⟩
 | o :: os,i,acc,t, σ,h=>by
   have go:∀ r,yr P G π base o i t σ r->yq P G π base K os (i+1) (r::acc) (fK t o.dst r.val) (σ.app r.up) ->
       ∃ rs:List dQ,rs.length=(o::os).length /\
         (∀ k o' r,(o::os)[k]? = some o'->rs[k]? = some r->yr P G π base o' (i+k) (eT (fun m=>m<i+k) (((o::os).map (·.dst)).zip rs) i t) (gv (fun m=>m<i+k) (((o::os).map (·.dst)).zip rs) i σ) r) /\
         K (acc.reverse++rs) (eT (fun _=>true) (((o::os).map (·.dst)).zip rs) i t) (gv (fun _=>true) (((o::os).map (·.dst)).zip rs) i σ):=by
     intro r hr hv
     obtain ⟨rs,h1,h2,h3⟩:=Es hv
     refine ⟨r::rs,by simp [h1], ?_, ?_⟩
     . intro k o' r' ho zS
       cases k with
       | zero =>
         simp only [List.getElem?_cons_zero,Option.some.injEq] at ho zS
         subst ho;subst zS
         rw [rh _ _ _ (fun k _=>by simp),ri _ _ _ (fun k _=>by simp),Nat.add_zero]
         exact hr
       | succ k =>
         have:=h2 k o' r' (by simpa using ho) (by simpa using zS)
         simp only [List.map_cons,List.zip_cons_cons,eT,gv]
         have hd:decide (i<i+(k+1))=true:=by simp
         rw [if_pos hd,if_pos hd]
         rw [show i+(k+1)=i+1+k from by omega]
         exact this
     . simpa [eT,gv] using h3
   simp only [yq] at h
   split at h
   . exact h.elim
   . rename_i hw
     exact go { val := .tup [] } (.inl ⟨hw,rfl⟩) h
   . rename_i hw
     obtain ⟨r,hr,hk⟩:=Cs h
     exact go r (.inr ⟨hw,hr⟩) hk
theorem G1 {q q':Nat} {π j:Id} (h:(q :: π) <:+ j) (bY:q≠q') : ¬ (q' :: π) <:+ j:=by
 intro h'
 have:=List.suffix_of_suffix_length_le h h' (by simp)
 obtain ⟨l,hl⟩:=this
 have Lc:l=[]:=by
   have:=congrArg List.length hl
   simp at this;exact this
 subst Lc
 simp at hl
 exact bY hl
theorem k7.frame {p:Id} {r:dQ} {v:Value} {E':Env} {w':World} (h:k7 G own E w σ p r v E' w') {t:List AV} {a:Act} (hf:cw E w t a) (d:Option Nat):cw E' w' (fK t d r.val) (a.put d v) :=
 (hf.keep h.Ce.step).put h.rep d
theorem Et {t:List AV} {a:Act} (hf:cw E w t a) (d:Option Nat):cw E w (fK t d (.tup [])) (a.put d undef) :=
 hf.put (by simp only [aM,undef];exact ⟨#[],rfl,by simp [aO]⟩) d
theorem qP (a:Act) (d:Option Nat) (v:Value):(a.put d v).defers=a.defers:=by cases d<;>rfl
def xB (E:Env) (π : Id) (n:Nat):Prop:=∀ j, π <:+ j->(∀ q,q<n -> ¬ (q :: π) <:+ j)->E.μ j=none
theorem xB.at {π : Id} {n q:Nat} (h:xB E π n) (hq:n<=q) {j:Id} (hj:(q :: π) <:+ j):E.μ j=none :=
 h j ((List.suffix_cons q π).trans hj) fun q' hq'=>G1 hj (by omega)
theorem xB.mono {π : Id} {n n':Nat} (h:xB E π n) (hn:n<=n'):xB E π n':=fun j hj hq=>h j hj fun q hq'=>hq q (by omega)
theorem xB.step {π : Id} {n:Nat} {E':Env} (h:xB E π n) (Tw:∀ i:Id, ¬ (n :: π) <:+ i->E'.μ i=E.μ i):xB E' π (n+1):=fun j hj hq=>by
 rw [Tw j (hq n (by omega))];exact h j hj fun q hq'=>hq q (by omega)
theorem xB.self {π : Id} {n:Nat} (h:xB E π n):E.μ π = none :=
 h π (List.suffix_refl _) fun q _ hs=>by have:=hs.length_le;simp at this;omega
structure kD (own:Nat->Prop) (π : Id) (E E':Env) (w w':World):Prop extends Adv own E E' w w' where
 ids:∀ i:Id, ¬ π <:+ i->E'.μ i=E.μ i
theorem kD.refl (own:Nat->Prop) (π : Id) (E:Env) (w:World):kD own π E E w w:=⟨Adv.refl own E w,fun _ _=>rfl⟩
theorem kD.trans {π : Id} {E' U9:Env} {w' Va:World} (a:kD own π E E' w w') (b:kD own π E' U9 w' Va):kD own π E U9 w Va :=
 ⟨a.toAdv.trans b.toAdv,fun i hi=>(b.ids i hi).trans (a.ids i hi)⟩
theorem k7.Y4 {π : Id} {q:Nat} {r:dQ} {v:Value} {E':Env} {w':World} (h:k7 G own E w σ (q :: π) r v E' w'):kD own π E E' w w' :=
 ⟨h.Ce,fun i hi=>h.ids i fun hs=>hi ((List.suffix_cons q π).trans hs)⟩
theorem Ct {ops:Array Oper} {base:Nat} {K:List AV->aa->Prop} {Q:Exit->Act->World->Prop} :
   ∀ (l:List Oper) (i:Nat),(∀ k,l[k]? = ops[i+k]?)->∀ (vs:List bu),l.mapM (xd P ops)=some vs->∀ (t:List AV) (σ : aa) (a:Act) (E:Env) (w:World),yp P G π base K vs i t σ ->
   cw E w t a->Inv G own E w σ -> xB E π (base+i) ->
   (∀ t' σ' a' E' w',K t' σ'->kD own π E E' w w'->cw E' w' t' a'->Inv G own E' w' σ'->xB E' π (base+i+l.length)->a'.defers=a.defers->Q .normal a' w') ->
   wpOps P ops Q ((List.range' i l.length)) a w
 | [],i,_,vs,hm,t, σ,a,E,w,hv,hf,hi,yt,hQ=>by
   simp at hm;subst hm
   simp only [yp] at hv
   simp only [List.length_nil,List.range'_zero,wpOps]
   exact hQ t σ a E w hv (kD.refl own π E w) hf hi yt rfl
 | o :: l,i,hl,vs,hm,t, σ,a,E,w,hv,hf,hi,yt,hQ=>by
   simp only [List.mapM_cons,Option.pure_def,Option.bind_eq_bind,Option.bind_eq_some_iff] at hm
   obtain ⟨vo,xC,vs',Lg,he⟩:=hm
   simp only [Option.some.injEq] at he;subst he
   obtain ⟨BX,Ps⟩:=GZ xC
   have hoi:ops[i]? = some o:=by have:=hl 0;simpa using this.symm
   simp only [List.length_cons,List.range'_succ]
   rw [wpOps_cons]
   unfold wpOp
   rw [hoi]
   simp only []
   have rest:∀ (t':List AV) (σ':aa) (a':Act) (E':Env) (w':World),yp P G π base K vs' (i+1) t' σ'->kD own π E E' w w'->cw E' w' t' a'->Inv G own E' w' σ'->xB E' π (base+i+1)->a'.defers=a.defers ->
       wpOps P ops Q (List.range' (i+1) l.length) a' w':=by
     intro t' σ' a' E' w' nA gu Tc jf Ws Y5
     refine Ct l (i+1) (fun k=>by rw [show i+1+k=i+(k+1) from by omega, <- hl];simp) vs' Lg t' σ' a' E' w' nA Tc jf (by rw [<- Nat.add_assoc];exact Ws) ?_
     intro t2 σ2 a2 E2 w2 hk FU hf2 En Wt tp
     exact hQ t2 σ2 a2 E2 w2 hk (gu.trans FU) hf2 En (by rw [List.length_cons,show base+i+(l.length+1)=base+(i+1)+l.length from by omega];exact Wt) (tp.trans Y5)
   simp only [yp] at hv
   split at hv
   . exact hv.elim
   . rename_i hw
     rw [tk xC hf hw]
     simp only [Bool.false_eq_true,if_false]
     rw [<- Ps]
     exact rest _ _ _ E w hv (kD.refl own π E w) (Et hf _) hi (yt.mono (by omega)) (qP _ _ _)
   . rename_i hw
     rw [tk xC hf hw]
     simp only [if_true]
     obtain ⟨r,hr,hk⟩:=Cs hv
     left
     refine Cp hi (fun j hj=>yt.at (Nat.le_refl _) hj) hf BX hr ?_
     intro v w' E' hp
     rw [<- Ps]
     exact rest _ _ _ E' w' hk hp.Y4 (hp.frame hf _) hp.inv (yt.step hp.ids) (qP _ _ _)
end
end Go.VL
end

section
namespace Go.VL
theorem Eu (f:Nat->Nat) (b:Nat):∀ (l:List Nat) (s:Nat),(l.foldl (fun s i=>s ||| 2 ^ i ||| f i) s).testBit b=true->s.testBit b=true∨∃ e∈l,b=e∨(f e).testBit b=true
 | [],s,h => .inl h
 | i :: l,s,h=>by
   simp only [List.foldl_cons] at h
   rcases Eu f b l _ h with h | ⟨e,he,h⟩
   . simp only [Nat.testBit_or,Bool.or_eq_true,Nat.testBit_two_pow,decide_eq_true_eq] at h
     rcases h with (h | h) | h
     . exact .inl h
     . exact .inr ⟨i,by simp, .inl h.symm⟩
     . exact .inr ⟨i,by simp, .inr h⟩
   . exact .inr ⟨e,by simp [he],h⟩
theorem Ev:∀ (pj:List (List Nat)) (acc:List Nat),(jH pj acc).length=acc.length+pj.length
 | [],acc=>by simp [jH]
 | l::r,acc=>by simp only [jH];rw [Ev r];simp;omega
theorem zX:∀ (pj:List (List Nat)) (acc:List Nat) (k:Nat),k<acc.length->(jH pj acc)[k]? = acc[k]?
 | [],acc,k,_=>by simp [jH]
 | l::r,acc,k,h=>by
   simp only [jH]
   rw [zX r _ k (by simp;omega),List.getElem?_append_left h]
theorem G2:∀ (pj:List (List Nat)) (acc:List Nat) (j:Nat) (l:List Nat),pj[j]? = some l->∃ Nd:List Nat,Nd.length=acc.length+j/\(∀ k,k<Nd.length->(jH pj acc)[k]? = Nd[k]?) /\
   (jH pj acc)[acc.length+j]? = some (l.foldl (fun s i=>s ||| 2 ^ i ||| Nd.getD i 0) 0)
 | [],_,_,_,h=>by simp at h
 | l'::r,acc,0,l,h=>by
   simp only [List.getElem?_cons_zero,Option.some.injEq] at h;subst h
   refine ⟨acc,rfl,fun k hk=>zX _ _ k hk, ?_⟩
   simp only [jH]
   rw [zX r _ _ (by simp),List.getElem?_append_right (by omega)]
   simp
 | l'::r,acc,j+1,l,h=>by
   simp only [jH]
   obtain ⟨Nd,h1,h2,h3⟩:=G2 r (acc++[l'.foldl (fun s i=>s ||| 2 ^ i ||| acc.getD i 0) 0]) j l (by simpa using h)
   refine ⟨Nd,by simp at h1;omega,h2, ?_⟩
   simp only [List.length_append,List.length_singleton] at h3
   rw [show acc.length+(j+1)=acc.length+1+j from by omega]
   exact h3
theorem Nf {pj:List (List Nat)} {j b:Nat} (aN:∀ e∈pj.getD j [],e<j) (h:((jH pj []).getD j 0).testBit b=true):∃ e∈pj.getD j [],b=e∨((jH pj []).getD e 0).testBit b=true:=by
 by_cases hj:j<pj.length
 . obtain ⟨acc,h1,h2,h3⟩:=G2 pj [] j pj[j] (by simp [hj])
   simp only [List.length_nil,Nat.zero_add] at h1 h3
   have hg:(jH pj []).getD j 0=pj[j].foldl (fun s i=>s ||| 2 ^ i ||| acc.getD i 0) 0:=by simp [List.getD,h3]
   rw [hg] at h
   have ho:pj.getD j []=pj[j]:=by simp [List.getD,hj]
   rw [ho] at aN ⊢
   rcases Eu _ b _ _ h with h | ⟨e,he,h⟩
   . simp at h
   . refine ⟨e,he,h.imp id fun h => ?_⟩
     have:(jH pj []).getD e 0=acc.getD e 0:=by
       simp only [List.getD]
       rw [h2 e (by rw [h1];exact aN e he)]
     rw [this];exact h
 . have:(jH pj []).getD j 0=0:=by
     have:=Ev pj []
     simp only [List.getD]
     rw [List.getElem?_eq_none (by simp at this;omega)]
     rfl
   rw [this] at h
   simp at h
theorem AZ {pj:List (List Nat)} {X:Nat->Bool} {n:Nat} (aN:∀ j,j<n->∀ e∈pj.getD j [],e<j) (hX:∀ k,k<n->X k=true->∀ e∈pj.getD k [],X e=true) :
   ∀ j,j<n->(∀ e∈pj.getD j [],X e=true)->∀ b,((jH pj []).getD j 0).testBit b=true->X b=true:=by
 intro j
 induction j using Nat.strongRecOn with
 | _ j ih =>
   intro hj he b hb
   obtain ⟨e,he1,h⟩:=Nf (aN j hj) hb
   have hej:=aN j hj e he1
   rcases h with rfl | h
   . exact he b he1
   . exact ih e hej (by omega) (hX e (by omega) (he e he1)) b h
theorem gB.map_congr {α β : Type} {g h : α -> β}:∀ (op:gB α),(∀ x∈op.args,g x=h x)->op.map g=op.map h:=by
 intro op hx
 have hl:∀ (l:List α),(∀ x∈l,x∈op.args)->l.map g=l.map h:=fun l hl=>List.map_congr_left fun x M6=>hx x (hl x M6)
 have ho:∀ (l:Option α),(∀ x,l=some x->x∈op.args)->l.map g=l.map h:=by
   intro l hl;cases l with
   | none=>rfl
   | some x=>simp [hx x (hl x rfl)]
 cases op<;>simp only [gB.map,gB.args] at hx hl ho ⊢
 case build z ps=>congr 1;apply List.map_congr_left;intro q hq;rw [hx q.2.2 (List.mem_map.2 ⟨q,hq,rfl⟩)]
 case buildSl k n z ps=>congr 1;apply List.map_congr_left;intro q hq;rw [hx q.2 (List.mem_map.2 ⟨q,hq,rfl⟩)]
 case mkfn fn a c=>rw [hl a (by simp +contextual),hl c (by simp +contextual)]
 case call f as=>rw [hx f (by simp),hl as (by simp +contextual)]
 case slice k x lo hi mx=>rw [hx x (by simp),ho lo (by simp +contextual),ho hi (by simp +contextual),ho mx (by simp +contextual)]
 case sliceS x lo hi=>rw [hx x (by simp),ho lo (by simp +contextual),ho hi (by simp +contextual)]
 all_goals try simp only [List.mem_cons,List.not_mem_nil,or_false,forall_eq_or_imp,forall_eq] at hx
 all_goals simp only [hx]
theorem Pt {G:Nat->Option (List AV)} {t t':List AV}:∀ (x:aV),(∀ s,x.YS=some s->t[s]? = t'[s]?)->x.ev G t=x.ev G t'
 | .t n,h=>by have:=h n rfl;simp [aV.ev,List.getD,this]
 | .c _,_=>rfl
 | .g _,_=>rfl
 | .f _,_=>rfl
theorem rj {σ σ':aa} {k:Nat} {x:AV} {ys:List AV} {rd:List Id} (h:dD σ k x=some (ys,rd)) (hr:∀ id∈rd, σ' id = σ id):dD σ' k x=some (ys,rd):=by
 unfold dD at h ⊢
 split at h
 . exact h
 . exact h
 . exact h
 . rename_i id k' off len t
   skip
   split at h
   . rename_i bk hb
     split at h
     . rename_i hh
       simp only [Option.some.injEq,Prod.mk.injEq] at h
       obtain ⟨rfl,rfl⟩:=h
       have:=hr id (by simp)
       rw [this,hb]
       simp [hh]
     . simp at h
   . simp at h
 . simp at h
theorem G3 {σ : aa} {id:Id} {off k:Nat} {news:List AV} {v:AV} {rd:List Id} {r:dQ} (h:uB σ id off k news v rd=some r):r.rd=id::rd:=by
 unfold uB at h
 split at h
 . split at h
   . simp only [Option.some.injEq] at h;subst h;rfl
   . simp at h
 . simp at h
theorem A1 {σ σ':aa} {id:Id} {off k:Nat} {news:List AV} {v:AV} {rd:List Id} {r:dQ} (h:uB σ id off k news v rd=some r) (hr:∀ id∈r.rd, σ' id = σ id):uB σ' id off k news v rd=some r:=by
 have M1:=G3 h
 unfold uB at h ⊢
 rw [hr id (by rw [M1];simp)]
 exact h
theorem Ng {σ σ':aa} {p:Id} {op:gB AV} {r:dQ} (h:cl σ p op=some r) (hr:∀ id∈r.rd, σ' id = σ id):cl σ' p op=some r:=by
 cases op with
 | load agg n x =>
   simp only [cl] at h ⊢
   unfold gi at h ⊢
   split at h
   . rename_i id e o
     skip
     cases hb : σ id with
     | none=>simp [hb] at h
     | some bk =>
       simp only [hb] at h
       cases he:bk.els[e]? with
       | none=>simp [he] at h
       | some el =>
         simp only [he,Option.map_eq_some_iff] at h
         obtain ⟨v,hv,rfl⟩:=h
         rw [hr id (by simp),hb]
         simp [he,hv]
   . exact h
   . simp at h
 | store n x v =>
   simp only [cl] at h ⊢
   unfold eO at h ⊢
   split at h
   . rename_i id e o
     skip
     cases hb : σ id with
     | none=>simp [hb] at h
     | some bk =>
       simp only [hb] at h
       cases he:bk.els[e]? with
       | none=>simp [he] at h
       | some el =>
         simp only [he] at h
         split at h
         . rename_i hh
           simp only [Option.some.injEq] at h;subst h
           rw [hr id (by simp),hb]
           simp [he,hh]
         . simp at h
   . simp at h
 | append k bytes s x =>
   simp only [cl] at h ⊢
   unfold cg at h ⊢
   cases vn:dD σ k x with
   | none=>simp [vn] at h
   | some q =>
     obtain ⟨ys,rd⟩:=q
     simp only [vn] at h
     have xA : ∀ id∈rd,id∈r.rd:=by
       intro id hid
       split at h
       . split at h<;>first | (simp only [Option.some.injEq] at h;subst h;exact hid) | simp at h
       . split at h
         . split at h<;>first | (simp only [Option.some.injEq] at h;subst h;exact hid) | simp at h
         . split at h<;>first | (simp only [Option.some.injEq] at h;subst h;exact hid) | simp at h
         . split at h
           . split at h
             . split at h
               . split at h<;>first | (simp only [Option.some.injEq] at h;subst h;exact List.mem_cons_of_mem _ hid) | (simp at h;done)
               . split at h<;>first | (simp only [Option.some.injEq] at h;subst h;exact List.mem_cons_of_mem _ hid) | (split at h<;>first | (simp only [Option.some.injEq] at h;subst h;exact List.mem_cons_of_mem _ hid) | (simp at h;done))
             . simp at h
           . simp at h
         . simp at h
     rw [rj vn (fun id hid=>hr id (xA id hid))]
     simp only []
     split at h
     . rename_i JW
       rw [if_pos JW];exact h
     . rename_i JW
       rw [if_neg JW]
       split at h
       . exact h
       . exact h
       . rename_i id k' off len t
         skip
         cases hb : σ id with
         | none=>simp [hb] at h
         | some bk =>
           simp only [hb] at h
           have hid:id∈r.rd:=by
             split at h
             . split at h
               . split at h<;>first | (simp only [Option.some.injEq] at h;subst h;simp;done) | (simp at h;done)
               . split at h<;>first | (simp only [Option.some.injEq] at h;subst h;simp;done) | (split at h<;>first | (simp only [Option.some.injEq] at h;subst h;simp;done) | (simp at h;done))
             . simp at h
           rw [hr id hid,hb]
           exact h
       . simp at h
 | bytesStr x =>
   simp only [cl] at h ⊢
   unfold mG at h ⊢
   cases vn:dD σ 1 x with
   | none=>simp [vn] at h
   | some q =>
     obtain ⟨ys,rd⟩:=q
     simp only [vn,Option.map_eq_some_iff] at h
     obtain ⟨l,hl,rfl⟩:=h
     rw [rj vn hr]
     simp [hl]
 | slice k x lo hi mx =>
   simp only [cl] at h ⊢
   cases hs:bZ k x lo hi mx with
   | some v=>rw [hs] at h;exact h
   | none =>
     rw [hs] at h
     simp only [kO] at h ⊢
     split at h
     . rename_i id k' off len hh
       cases hb : σ id with
       | none=>simp [hb] at h
       | some bk =>
         simp only [hb] at h
         split at h
         . rename_i hc
           simp only [Option.map_eq_some_iff] at h
           obtain ⟨v,hv,rfl⟩:=h
           rw [hr id (by simp),hb]
           simp [hc,hv]
         . simp at h
     . exact h
     . simp at h
 | cap x =>
   simp only [cl] at h ⊢
   cases hs:MV x with
   | some v=>rw [hs] at h;exact h
   | none =>
     rw [hs] at h
     simp only [ye] at h ⊢
     split at h
     . rename_i id k' off len
       cases hb : σ id with
       | none=>simp [hb] at h
       | some bk =>
         simp only [hb] at h
         split at h
         . rename_i hc
           simp only [Option.some.injEq] at h;subst h
           rw [hr id (by simp),hb]
           simp [hc]
         . simp at h
     . simp at h
 | ovl x y =>
   simp only [cl] at h ⊢
   unfold GM at h ⊢
   split at h
   . rename_i i1 _ _ _ _ i2 _ _ _ _
     split at h
     . simp at h
     . rename_i bY
       cases h1 : σ i1 with
       | none=>simp [h1] at h
       | some b1 =>
         cases h2 : σ i2 with
         | none=>simp [h1,h2] at h
         | some b2 =>
           simp only [h1,h2] at h
           split at h
           . rename_i hp
             simp only [Option.some.injEq] at h;subst h
             simp only [hr i1 (by simp),hr i2 (by simp),h1,h2]
             rw [if_neg bY,if_pos hp]
           . simp at h
   . simp at h
 | clear k z x =>
   simp only [cl] at h ⊢
   unfold xx at h ⊢
   split at h
   . exact h
   . rename_i id k' off len tt
     split at h
     . rename_i h0;simp only [h0,if_true];exact h
     . rename_i h0
       simp only [h0,if_false]
       split at h
       . rename_i hh;rw [if_pos hh];exact A1 h hr
       . simp at h
   . simp at h
 | copy k d x =>
   simp only [cl] at h ⊢
   unfold yd at h ⊢
   cases vn:dD σ k x with
   | none=>simp [vn] at h
   | some q =>
     obtain ⟨ys,rd⟩:=q
     simp only [vn] at h
     have xA:∀ id∈rd,id∈r.rd:=by
       intro id hid
       split at h
       . simp only [Option.some.injEq] at h;subst h;exact hid
       . split at h
         . simp only [Option.some.injEq] at h;subst h;exact hid
         . split at h
           . have:=G3 h;rw [this];exact List.mem_cons_of_mem _ hid
           . simp at h
       . simp at h
     rw [rj vn (fun id hid=>hr id (xA id hid))]
     simp only []
     split at h
     . exact h
     . split at h
       . rename_i h0;rw [if_pos h0];exact h
       . rename_i h0
         rw [if_neg h0]
         split at h
         . rename_i hk;rw [if_pos hk];exact A1 h hr
         . simp at h
     . simp at h
 | _=>exact h
theorem DZ {P:Program} {G:Nat->Option (List AV)} {σ σ':aa} {p:Id} {op:gB AV} {r:dQ} (h:jP P G σ p op r) (hr:∀ id∈r.rd, σ' id = σ id):jP P G σ' p op r:=by
 cases op with
 | call f as =>
   simp only [jP] at h ⊢
   split at h
   . obtain ⟨S,h1,h2,h3⟩:=h
     exact ⟨S,h1,fun x hx=>by rw [hr _ (h3 x hx)];exact h2 x hx,h3⟩
   . exact h
 | _=>exact Ng h hr
theorem pL {oc:Option AV} {r:dQ} (h:bM oc=some r):r.rd=[]/\r.up=[]:=by
 cases oc with
 | none=>simp [bM] at h
 | some c=>simp only [bM,Option.map_some,Option.some.injEq] at h;subst h;exact ⟨rfl,rfl⟩
theorem Nh {P:Program} {G:Nat->Option (List AV)} {σ : aa} {p:Id} {op:gB aV} (hp:op.pure=true) {t:List AV} {r:dQ} (h:jP P G σ p (op.map (aV.ev G t)) r):r.rd=[]/\r.up=[]:=by
 cases op<;>simp only [gB.pure,Bool.false_eq_true] at hp<;>simp only [gB.map,jP,cl] at h
 all_goals first
   | exact pL h
   | (simp at h;done)
   | (split at h<;>first | exact pL h | (simp at h;done) | (split at h<;>first | exact pL h | (simp at h;done)))
theorem Ni {P:Program} {G:Nat->Option (List AV)} {σ : aa} {p:Id} {op:gB aV} (hp:op.re=true) {t:List AV} {r:dQ} (h:jP P G σ p (op.map (aV.ev G t)) r):r.up=[]:=by
 cases op<;>simp only [gB.re,Bool.false_eq_true] at hp
 case bytesStr =>
   simp only [gB.map,jP,cl] at h
   unfold mG at h
   split at h
   . simp only [Option.map_eq_some_iff] at h;obtain ⟨v,_,rfl⟩:=h;rfl
   . simp at h
 case ovl =>
   simp only [gB.map,jP,cl] at h
   unfold GM at h
   split at h
   . split at h
     . simp at h
     . split at h
       . split at h
         . simp only [Option.some.injEq] at h;subst h;rfl
         . simp at h
       . simp at h
   . simp at h
 case slice =>
   simp only [gB.map,jP,cl] at h
   unfold kO at h
   split at h
   . exact (pL h).2
   . split at h
     . split at h
       . split at h
         . simp only [Option.map_eq_some_iff] at h;obtain ⟨v,_,rfl⟩:=h;rfl
         . simp at h
       . simp at h
     . split at h
       . split at h
         . split at h
           . simp only [Option.some.injEq] at h;subst h;rfl
           . simp at h
         . simp at h
       . simp at h
     . simp at h
 case cap =>
   simp only [gB.map,jP,cl] at h
   unfold ye at h
   split at h
   . exact (pL h).2
   . split at h
     . split at h
       . split at h
         . simp only [Option.some.injEq] at h;subst h;rfl
         . simp at h
       . simp at h
     . simp at h
 simp only [gB.map,jP,cl] at h
 unfold gi at h
 split at h
 . split at h
   . split at h
     . simp only [Option.map_eq_some_iff] at h;obtain ⟨v,_,rfl⟩:=h;rfl
     . simp at h
   . simp at h
 . simp only [Option.map_eq_some_iff] at h;obtain ⟨v,_,rfl⟩:=h;rfl
 . simp at h
end Go.VL
end
