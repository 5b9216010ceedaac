/- For the claim of FeatureMirror: parts VL9, VL2S, VL10, VL11, VL12, VL13, VL14. -/
import Derived.Test.YtchdghnpcekegaaGreatC01
import Derived.Lib.AppendZeros
import Derived.Laws.BytesArg
import Derived.Laws.Externs
import Derived.Lib.Bytealg
import Derived.Lib.Overlaps
import Derived.Orders
set_option linter.unusedSimpArgs false
set_option linter.unusedVariables false
section
namespace Go.VL
section
variable {P:Program} {G:Nat->Option (List AV)} {own:Nat->Prop} {E:Env} {w:World} {σ : af} {p:Id}
theorem Ke {len l r:Nat} {lo hi:Option AV} (hb:gw len lo hi=some (l,r)):jA len len hi=some r/\jA 0 r lo=some l:=by
 unfold gw at hb
 split at hb
 . simp at hb
 . rename_i h1 e1
   split at hb
   . simp at hb
   . rename_i l1 e2
     simp only [Option.some.injEq,Prod.mk.injEq] at hb
     obtain ⟨rfl,rfl⟩:=hb
     exact ⟨e1,e2⟩
theorem Ij (s:List UInt8) (l r:Nat):(ByteArray.mk s.toArray).extract l r=⟨((s.take r).drop l).toArray⟩:=by
 apply ByteArray.ext
 rw [ByteArray.data_extract]
 apply Array.ext'
 simp [List.extract_eq_take_drop,List.drop_take]
theorem Ik (hi:Inv G own E w σ) {t:TypeId} (hu:P.underlying t=some .string) {x:AV} {v:Value} (hx:aT E w x v)
   {lo qk:Option AV} {RP PO:Option Value} (y5:om E w lo RP) (Fu:om E w qk PO) {c:AV} (h:FY x lo qk=some c):Sound P G own E w σ p (Instr.sliceAt t v RP PO none) { val:=c }:=by
 unfold FY at h
 split at h
 . rename_i s
   simp only [aT] at hx;subst hx
   split at h
   . rename_i l r hb
     obtain ⟨DG,Ce⟩:=Ke hb
     simp only [Option.some.injEq] at h;subst h
     obtain ⟨yY,DI,Oe⟩:=jd (P:=P) (isSlice:=false) (mx:=none) (vmx:=none) (m:=s.length) y5 Fu trivial (Nat.le_refl _) DG Ce (.inl ⟨rfl,rfl⟩)
     refine Sound.same (v := .string ⟨((s.take r).drop l).toArray⟩) hi ?_ (by simp [aT])
     have hsz:(ByteArray.mk s.toArray).size=s.length:=by simp [ByteArray.size]
     simp [Instr.sliceAt,Instr.slice,run_underlying hu,hsz,yY,Ij]
   . simp at h
 . simp at h
theorem Kf {b o k:Nat} {es:List AV} (hk:∀ e∈es,e.size=k) (h:bm E w b o es) {i:Nat} {e:AV} (he:es[i]? = some e):bp E w b (o+i*k) e.cells :=
 eW.2 (Lr hk (dN.1 h) he)
theorem Kg (hi:Inv G own E w σ) {t e:TypeId} {i:TypeInfo} (hu:P.underlying t=some (.slice e)) (dH:P.info? e=some i) {x j:AV} {v u:Value} (hx:aT E w x v) (hj:aT E w j u) {c:AV}
   (h:cx i.size x j=some c):Sound P G own E w σ p (Instr.indexAt t v u) { val:=c }:=by
 have hrun:∀ (a:Addr) (len cap:Nat) (k:IntKind) (n:Int),0<=n->n<len->(Instr.indexAt t (.slice (some a) len cap) (.int k n)).run P w = .ok (.pointer (some (a.add (n.toNat*i.size)))) w:=by
   intro a len cap k n h0 h1
   simp [Instr.indexAt,run_underlying hu,asIntOf,h0,h1,eX dH]
 unfold cx at h
 split at h
 . rename_i kk n
   simp only [aT] at hj;subst hj
   have row:∀ {es:List AV} {a:Option Addr} {cap:Nat},(∀ e∈es,e.size=i.size)->(es=[]∨∃ b o,a=some ⟨b,o,none⟩/\E.ok b/\bm E w b o es)->0<=n ->
       (es[n.toNat]?).map (fun e=>AV.ep e.cells 0)=some c->Sound P G own E w σ p (Instr.indexAt t (.slice a es.length cap) (.int kk n)) { val:=c }:=by
     intro es a cap hk wJ h0 h
     simp only [Option.map_eq_some_iff] at h
     obtain ⟨el,Cb,rfl⟩:=h
     have hlt:n.toNat<es.length:=(List.getElem?_eq_some_iff.1 Cb).1
     rcases wJ with rfl | ⟨b,o,rfl,hb,hr⟩
     . simp at hlt
     . refine Sound.same hi (hrun _ _ cap kk n h0 (by omega)) ?_
       rw [Addr.add_lit]
       simp only [aT]
       exact ⟨b,o+n.toNat*i.size,by simp,hb,Kf hk hr Cb⟩
   split at h
   . rename_i k' es
     simp only [aT] at hx
     obtain ⟨a,cap,rfl,_,_,hk,wJ⟩:=hx
     split at h
     . rename_i hh
       obtain ⟨rfl,h0⟩:=hh
       exact row hk wJ h0 h
     . simp at h
   . rename_i k' es
     simp only [aT] at hx
     obtain ⟨a,rfl,_,hk,wJ⟩:=hx
     split at h
     . rename_i hh
       obtain ⟨rfl,h0⟩:=hh
       exact row hk wJ h0 h
     . simp at h
   . rename_i id k' off len tt
     simp only [aT] at hx
     obtain ⟨g,N,cap,hm,rfl,_⟩:=hx
     split at h
     . rename_i hh
       obtain ⟨rfl,h0,h1⟩:=hh
       simp only [Option.some.injEq] at h;subst h
       refine Sound.same hi (hrun _ _ cap kk n h0 h1) ?_
       rw [Addr.add_lit]
       simp only [aT]
       exact ⟨g,i.size,N,hm,by simp [Nat.add_mul]⟩
     . simp at h
   . simp at h
 . simp at h
theorem Kh (hi:Inv G own E w σ) {t e:TypeId} {n:Nat} {i:TypeInfo} (hu:P.underlying t=some (.array n e)) (dH:P.info? e=some i) {x j:AV} {v u:Value} (hx:aT E w x v) (hj:aT E w j u) {c:AV}
   (h:oi n i.size x j=some c):Sound P G own E w σ p (Instr.indexAt t v u) { val:=c }:=by
 unfold oi at h
 split at h
 . rename_i kk m
   simp only [aT] at hj;subst hj
   split at h
   . rename_i hh
     have hrun:∀ a:Addr,(Instr.indexAt t (.pointer (some a)) (.int kk m)).run P w = .ok (.pointer (some (a.add (m.toNat*i.size)))) w:=by
       intro a
       simp [Instr.indexAt,run_underlying hu,asIntOf,hh,eX dH,Instr.sureAddr]
     split at h
     . simp only [Option.some.injEq] at h;subst h
       simp only [aT] at hx
       obtain ⟨g,k,N,hm,rfl⟩:=hx
       refine Sound.same hi (hrun _) ?_
       rw [Addr.add_lit]
       simp only [aT]
       exact ⟨g,k,N,hm,by simp [Nat.add_assoc]⟩
     . simp only [Option.some.injEq] at h;subst h
       simp only [aT] at hx
       obtain ⟨b,q,rfl,hb,hr⟩:=hx
       refine Sound.same hi (hrun _) ?_
       rw [Addr.add_lit]
       simp only [aT]
       exact ⟨b,q,by simp [Nat.add_assoc],hb,hr⟩
     . simp at h
   . simp at h
 . simp at h
theorem Ly (hi:Inv G own E w σ) {s:TypeId} {fs:Array Field} {f:Nat} {fd:Field} {i:TypeInfo} (hu:P.underlying s=some (.struct fs)) (hf:fs[f]? = some fd) (dH:P.info? fd.type=some i) (h0:i.size≠0)
   {x:AV} {v:Value} (hx:aT E w x v) {r:eS} (h:bO σ p (.faddr fd.offset x)=some r):Sound P G own E w σ p (Instr.fieldAt s v f) r:=by
 have hrun:∀ a:Addr,(Instr.fieldAt s (.pointer (some a)) f).run P w = .ok (.pointer (some (a.add fd.offset))) w:=by
   intro a
   simp [Instr.fieldAt,run_underlying hu,hf,Instr.sureAddr,fieldPlace,eX dH,h0]
 simp only [bO] at h
 split at h
 . simp only [bz,Option.map_some,Option.some.injEq] at h;subst h
   simp only [aT] at hx
   obtain ⟨g,k,N,hm,rfl⟩:=hx
   refine Sound.same hi (hrun _) ?_
   rw [Addr.add_lit]
   simp only [aT]
   exact ⟨g,k,N,hm,by simp [Nat.add_assoc]⟩
 . simp only [bz,Option.map_some,Option.some.injEq] at h;subst h
   simp only [aT] at hx
   obtain ⟨b,q,rfl,hb,hr⟩:=hx
   refine Sound.same hi (hrun _) ?_
   rw [Addr.add_lit]
   simp only [aT]
   exact ⟨b,q,by simp [Nat.add_assoc],hb,hr⟩
 . simp at h
theorem Lz {t:TypeId} {agg:Bool} {i:TypeInfo} (ha:px P t=some agg) (dH:P.info? t=some i) {cs:List AV} {xs:Array Value} (hr:bc E w cs xs.toList) {o:Nat} {c:AV} (h:VL.part agg cs o i.size=some c) :
   ∃ v,(Go.part t xs o).run P w = .ok v w/\aT E w c v:=by
 obtain ⟨h1,h2,h3⟩:=Ua h hr
 refine ⟨_, ?_,h1⟩
 cases agg with
 | true=>simp [Go.part,wH ha,eX dH]
 | false =>
   have h1':=h3 rfl
   have:o<xs.size:=by omega
   simp [Go.part,wH ha,this]
theorem Av (hi:Inv G own E w σ) {k:Nat} {x:AV} {v:Value} (hx:aT E w x v) {ys:List AV} {rd:List Id} (h:ga σ k x=some (ys,rd)) :
   (∀ e∈ys,e.size=k)/\∃ a cap,v = .slice a ys.length cap/\ys.length<=cap/\(ys=[]∨∃ b o,a=some ⟨b,o,none⟩/\eT E w b o (flat ys)):=by
 unfold ga at h
 split at h
 . simp only [Option.some.injEq,Prod.mk.injEq] at h
   obtain ⟨rfl,rfl⟩:=h
   simp only [aT] at hx;subst hx
   exact ⟨by simp,none,0,rfl,Nat.le_refl _, .inl rfl⟩
 . rename_i k' es
   split at h
   . rename_i hk
     simp only [Option.some.injEq,Prod.mk.injEq] at h
     obtain ⟨rfl,rfl⟩:=h
     subst hk
     simp only [aT] at hx
     obtain ⟨a,cap,rfl,hl,_,hk,wJ⟩:=hx
     exact ⟨hk,a,cap,rfl,hl,wJ.imp id fun ⟨b,o,e,_,r⟩=>⟨b,o,e,dN.1 r⟩⟩
   . simp at h
 . rename_i k' es
   split at h
   . rename_i hk
     simp only [Option.some.injEq,Prod.mk.injEq] at h
     obtain ⟨rfl,rfl⟩:=h
     subst hk
     simp only [aT] at hx
     obtain ⟨a,rfl,_,hk,wJ⟩:=hx
     exact ⟨hk,a,_,rfl,Nat.le_refl _,wJ.imp id fun ⟨b,o,e,_,r⟩=>⟨b,o,e,dN.1 r⟩⟩
   . simp at h
 . rename_i id k' off len tt
   split at h
   . rename_i bk hσ
     split at h
     . rename_i hh
       obtain ⟨rfl,Of,hle⟩:=hh
       simp only [Option.some.injEq,Prod.mk.injEq] at h
       obtain ⟨rfl,rfl⟩:=h
       obtain ⟨g,N,cur,ty,hB⟩:=hi.blk id bk hσ
       simp only [aT] at hx
       obtain ⟨g',N',cap,hm,rfl,Lm,_⟩:=hx
       rw [hB.μ] at hm
       simp only [Option.some.injEq,Prod.mk.injEq] at hm
       obtain ⟨rfl,_,rfl⟩:=hm
       have Kd:∀ e∈(bk.els.drop off).take len,e.size=k':=fun e he=>by rw [<- Of];exact hB.k e (List.mem_of_mem_drop (List.mem_of_mem_take he))
       have hlen:((bk.els.drop off).take len).length=len:=by simp;omega
       refine ⟨Kd,some ⟨g,off*k',none⟩,cap,by rw [hlen],by omega, .inr ⟨g,off*k',rfl, ?_⟩⟩
       have:=rk (l:=off) (r:=off+len) hB.k hB.row (by omega) hle
       rw [Nat.zero_add,Of] at this
       have e:(bk.els.take (off+len)).drop off=(bk.els.drop off).take len:=by rw [List.drop_take];congr 1;omega
       rwa [e] at this
     . simp at h
   . simp at h
 . simp at h
theorem Ki {b o:Nat} {cs:List AV} (h:eT E w b o cs):∃ vs:List Value,bc E w cs vs/\∀ j v,vs[j]? = some v->w.cell? ((⟨b,o,none⟩:Addr).add j)=some v:=by
 refine ⟨(List.range cs.length).map fun j=>(w.cell? ⟨b,o+j,none⟩).getD undef,bI.2 ⟨by simp,fun j c hj => ?_⟩,fun j v hj => ?_⟩
 . obtain ⟨v,hv,hr⟩:=h j c hj
   have hlt:j<cs.length:=(List.getElem?_eq_some_iff.1 hj).1
   exact ⟨v,by simp [hlt,hv],hr⟩
 . have hlt:j<cs.length:=by have:=(List.getElem?_eq_some_iff.1 hj).1;simpa using this
   obtain ⟨v',hv',_⟩:=h j cs[j] (by simp [hlt])
   simp only [List.getElem?_map,hlt,List.getElem?_range,Option.map_some,Option.some.injEq] at hj
   rw [Addr.add_lit,hv', <- hj,hv']
   rfl
theorem Gr {cs:List AV} {vs:List Value} (h:bc E w cs vs) (h1:∀ c∈cs,c.one=true):∀ v∈vs,v.oneCell'=true:=by
 intro v hv
 obtain ⟨j,hj⟩:=List.mem_iff_getElem?.1 hv
 obtain ⟨hl,hp⟩:=bI.1 h
 have wI:j<cs.length:=by have:=(List.getElem?_eq_some_iff.1 hj).1;omega
 obtain ⟨u,hu,hru⟩:=hp j cs[j] (by simp [wI])
 have:u=v:=by rw [hj] at hu;simpa using hu.symm
 subst this
 exact aT.one hru (h1 _ (by simp))
theorem Cm (hi:Inv G own E w σ) (hμ : E.μ p=none) (hσ : σ p=none) {k n N:Nat} {els:List AV} (hk:∀ e∈els,e.size=k) (hn:els.length=n) {vs:List Value} (hv:bc E w (flat els) vs)
   {rest:Array Value} (hr:rest.size=(N-n)*k) (hnN:n<=N) (hN:N<=maxLen) (ty:TypeId) {rd:List Id} :
   lJ G own E w σ p { val := .osl p k 0 n false,rd:=rd,up:=[(p,some ⟨els,k,false⟩)] } (.slice (some ⟨w.heap.size,0,none⟩) n N) (E.bind p w.heap.size k N) (w.drew.alloc (.cells (vs.toArray++rest) ty)):=by
 have hd:=hi.drew
 obtain ⟨hl,hp⟩:=bI.1 hv
 have Gi:=cD hk
 have hstep:Step E E w w.drew:=(Adv.drew (own:=own) E w).step
 have hlen:(vs++rest.toList).length=N*k:=by
   simp only [List.length_append,Array.length_toList,hl,Gi,hn,hr, <- Nat.add_mul]
   congr 1;omega
 have:=Ar (p:=p) (rd:=rd) hd hμ hσ (els:=els) (k:=k) (N:=N) (vs:=vs++rest.toList) ty hk
   (fun j c hj=>by
     obtain ⟨v,rn,y3⟩:=hp j c hj
     exact ⟨v,by rw [List.getElem?_append_left (List.getElem?_eq_some_iff.1 rn).1];exact rn,aT.keep hstep c v y3⟩) hlen (by omega) hN
   (c := .osl p k 0 n false) (v := .slice (some ⟨w.heap.size,0,none⟩) n N)
   (by simp only [aT];exact ⟨w.heap.size,N,N,Env.jz _ _ _ _ _,by simp,hnN,by omega,hN,by simp⟩)
 have he:(vs++rest.toList).toArray=vs.toArray++rest:=by apply Array.ext';simp
 rw [he] at this
 exact ⟨(Adv.drew E w).trans this.Ia,this.inv,this.rep,this.ids⟩
theorem X2 (hi:Inv G own E w σ) (id:Id):Inv G own E w (σ.put id none) where
 okb:=hi.okb
 blk:=fun i bk h=>by
   by_cases e:i=id
   . subst e;simp [af.put] at h
   . rw [af.cC _ _ _ e] at h;exact hi.blk i bk h
 inj:=fun i j x y hx hy hne h1 h2=>by
   have ei:i≠id:=by rintro rfl;simp [af.put] at hx
   have ej:j≠id:=by rintro rfl;simp [af.put] at hy
   rw [af.cC _ _ _ ei] at hx
   rw [af.cC _ _ _ ej] at hy
   exact hi.inj i j x y hx hy hne h1 h2
 glob:=hi.glob
 new:=hi.new
end
end Go.VL
end

section
namespace Go.VL
theorem DV {k:Nat}:∀ {es:List AV} {n:Nat},(∀ x∈es,x.size=k)->flat (es.take n)=(flat es).take (n*k)
 | [],n,_=>by simp [flat]
 | x::es,0,_=>by simp [flat]
 | x::es,n+1,h=>by
   have hx:x.cells.length=k:=h x (by simp)
   have ih:=DV (es:=es) (n:=n) (fun y hy=>h y (by simp [hy]))
   have hf:flat (x::es)=x.cells++flat es:=by simp [flat]
   have XT:flat ((x::es).take (n+1))=x.cells++flat (es.take n):=by simp [flat]
   rw [hf,XT,ih,show (n+1)*k=x.cells.length+n*k from by rw [hx,Nat.add_mul];omega,List.take_length_add_append]
theorem I8 {k:Nat}:∀ {es:List AV} {n:Nat},(∀ x∈es,x.size=k)->flat (es.drop n)=(flat es).drop (n*k)
 | [],n,_=>by simp [flat]
 | x::es,0,_=>by simp
 | x::es,n+1,h=>by
   have hx:x.cells.length=k:=h x (by simp)
   have ih:=I8 (es:=es) (n:=n) (fun y hy=>h y (by simp [hy]))
   have hf:flat (x::es)=x.cells++flat es:=by simp [flat]
   rw [List.drop_succ_cons,ih,hf,show (n+1)*k=x.cells.length+n*k from by rw [hx,Nat.add_mul];omega,List.drop_length_add_append]
theorem ET {G:Nat->Option (List AV)} {own:Nat->Prop} {E:Env} {w:World} {σ : af} (h:Inv G own E w σ) {id:Id} {bk:cZ} (hσ : σ id=some bk) (IY:bk.fr=false)
   {g N:Nat} {cur:Array Value} {ty:TypeId} (hB:ye E own w id bk g N cur ty)
   {e:Nat} {news:List AV} {vs:List Value} (hle:e+news.length<=bk.els.length) (hk:∀ x∈news,x.size=bk.k) (hv:bc E w (flat news) vs) :
   e*bk.k+vs.length<=cur.size /\
   Adv own E E w (w.setRow g (cur.toList.take (e*bk.k)++vs++cur.toList.drop (e*bk.k+vs.length)).toArray) /\
   Inv G own E (w.setRow g (cur.toList.take (e*bk.k)++vs++cur.toList.drop (e*bk.k+vs.length)).toArray) (σ.put id (some { bk with els:=bk.els.take e++news++bk.els.drop (e+news.length) })):=by
 obtain ⟨yv,hvp⟩:=bI.1 hv
 have N3:=cD hk
 have hbound:e*bk.k+vs.length<=cur.size:=by
   rw [hB.size,yv,N3, <- Nat.add_mul]
   exact Nat.mul_le_mul_right _ (by have:=hB.len;omega)
 refine ⟨hbound, ?_⟩
 generalize XU:(cur.toList.take (e*bk.k)++vs++cur.toList.drop (e*bk.k+vs.length)).toArray=nv
 have hg:=gH hB.heap
 have Bm:(w.setRow g nv).heap[g]? = some (.cells nv ty (0,0)):=setRow_heap w g cur nv ty _ hB.heap
 have hs:Step E E w (w.setRow g nv):=⟨fun _ _ h=>h,fun _ h=>h,fun b hb=>setRow_other w g b nv (fun e=>hB.no IY (e▸hb))⟩
 have ig:Adv own E E w (w.setRow g nv) :=
   ⟨hs,rfl,rfl,rfl,by simp,fun k _ hk=>setRow_other w g k nv (fun e=>hk (e▸hB.own)),fun _ h => .inl h⟩
 refine ⟨ig, ?_, ?_, ?_, ?_, ?_⟩
 . intro b hb;simpa using h.okb b hb
 . intro i Gh hi
   by_cases dH:i=id
   . subst dH
     rw [af.dE] at hi
     simp only [Option.some.injEq] at hi
     subst hi
     have LA:(bk.els.take e++news++bk.els.drop (e+news.length)).length=bk.els.length:=by simp;omega
     have aej:∀ x∈bk.els.take e++news++bk.els.drop (e+news.length),x.size=bk.k:=by
       intro x hx
       simp only [List.append_assoc,List.mem_append] at hx
       rcases hx with hx | hx | hx
       . exact hB.k x (List.mem_of_mem_take hx)
       . exact hk x hx
       . exact hB.k x (List.mem_of_mem_drop hx)
     refine ⟨g,N,nv,ty,hB.μ,Bm, ?_,by rw [LA];exact hB.len,hB.most,hB.own,by simp [IY],hB.no,aej, ?_⟩
     . rw [<- XU]
       simp only [List.size_toArray,List.length_append,List.length_take,List.length_drop,Array.length_toList]
       rw [<- hB.size];omega
     . show eT E (w.setRow g nv) g 0 (flat (bk.els.take e++news++bk.els.drop (e+news.length)))
       rw [nY,nY,DV hB.k,I8 hB.k]
       have hlen:(flat bk.els).length=bk.els.length*bk.k:=cD hB.k
       have hcz:bk.els.length*bk.k<=cur.size:=by rw [hB.size];exact Nat.mul_le_mul_right _ hB.len
       have hmul:(e+news.length)*bk.k<=bk.els.length*bk.k:=Nat.mul_le_mul_right _ hle
       rw [Nat.add_mul] at hmul
       intro j c hj
       have hcell:(w.setRow g nv).cell? ⟨g,0+j,none⟩=nv[j]? := by rw [Nat.zero_add];exact cell_of_row _ _ _ _ _ _ Bm
       rw [hcell]
       suffices abv:∃ v,nv[j]? = some v/\aT E w c v by
         obtain ⟨v,rn,y3⟩:=abv;exact ⟨v,rn,aT.keep hs c v y3⟩
       rw [<- XU]
       have hold:∀ (j:Nat) (c:AV),(flat bk.els)[j]? = some c->∃ v:Value,cur[j]? = some v/\aT E w c v:=by
         intro j c hj
         obtain ⟨v,rn,y3⟩:=hB.row j c hj
         rw [Nat.zero_add,cell_of_row _ _ _ _ _ _ hB.heap] at rn
         exact ⟨v,rn,y3⟩
       simp only [List.getElem?_toArray]
       have ha:(cur.toList.take (e*bk.k)).length=e*bk.k:=by simp;omega
       have hb:((flat bk.els).take (e*bk.k)).length=e*bk.k:=by simp;omega
       rw [List.append_assoc] at hj ⊢
       by_cases c1:j<e*bk.k
       . rw [List.getElem?_append_left (by omega),List.getElem?_take_of_lt c1] at hj
         rw [List.getElem?_append_left (by omega),List.getElem?_take_of_lt c1]
         obtain ⟨v,rn,y3⟩:=hold j c hj
         exact ⟨v,by simpa using rn,y3⟩
       . rw [List.getElem?_append_right (by omega),hb] at hj
         rw [List.getElem?_append_right (by omega),ha]
         by_cases c2:j-e*bk.k<(flat news).length
         . rw [List.getElem?_append_left c2] at hj
           rw [List.getElem?_append_left (by omega)]
           obtain ⟨v,rn,y3⟩:=hvp _ c hj
           exact ⟨v,rn,y3⟩
         . rw [List.getElem?_append_right (by omega),List.getElem?_drop] at hj
           rw [List.getElem?_append_right (by omega),List.getElem?_drop,yv]
           rw [N3] at hj c2 ⊢
           have e1:(e+news.length)*bk.k+(j-e*bk.k-news.length*bk.k)=j:=by rw [Nat.add_mul];omega
           have e2:e*bk.k+news.length*bk.k+(j-e*bk.k-news.length*bk.k)=j:=by omega
           rw [e1] at hj;rw [e2]
           obtain ⟨v,rn,y3⟩:=hold _ c hj
           exact ⟨v,by simpa using rn,y3⟩
   . rw [af.cC _ _ _ dH] at hi
     obtain ⟨g',N',Oa,PI,Lt⟩:=h.blk i Gh hi
     have hne:g'≠g:=h.inj i id _ _ (by simp [hi]) (by simp [hσ]) dH Lt.μ hB.μ
     exact ⟨g',N',Oa,PI,Lt.keep hs (setRow_other w g g' nv hne) Lt.no⟩
 . intro i j x y hi hj hne hx hy
   refine h.inj i j x y ?_ ?_ hne hx hy
   . intro hn;by_cases dH:i=id
     . subst dH;simp [hσ] at hn
     . rw [af.cC _ _ _ dH] at hi;exact hi hn
   . intro hn;by_cases dH:j=id
     . subst dH;simp [hσ] at hn
     . rw [af.cC _ _ _ dH] at hj;exact hj hn
 . intro g' cs Ob
   obtain ⟨h1',h2'⟩:=h.glob g' cs Ob
   exact ⟨h1',bp.keep hs.bare (hs.same g' h1') cs 0 h2'⟩
 . intro k hk;simp at hk;exact h.new k hk
end Go.VL
end

section
namespace Go.VL
section
variable {P:Program} {G:Nat->Option (List AV)} {own:Nat->Prop} {E:Env} {w:World} {σ : af} {p:Id}
theorem X3 (hi:Inv G own E w σ) (hμ : E.μ p=none) (hσ : σ p=none) {id:Id} {bk:cZ} (jZ : σ id=some bk) (IY:bk.fr=false) {g N:Nat} {cur:Array Value} {ty:TypeId} (hB:ye E own w id bk g N cur ty)
   {ys:List AV} (hk:∀ e∈ys,e.size=bk.k) {news:List Value} (hv:bc E w (flat ys) news) (DT:bk.els.length+ys.length<=N) {rd:List Id} :
   lJ G own E w σ p { val := .osl p bk.k 0 (bk.els.length+ys.length) false,rd:=rd,up:=[(id,none),(p,some ⟨bk.els++ys,bk.k,false⟩)] }
     (.slice (some ⟨g,0,none⟩) (bk.els.length+ys.length) N) (E.bind p g bk.k N)
     (w.setRow g (cur.toList.take (bk.els.length*bk.k)++news++cur.toList.drop (bk.els.length*bk.k+news.length)).toArray):=by
 obtain ⟨yv,hvp⟩:=bI.1 hv
 have hy:=cD hk
 have he:=cD hB.k
 have hle:bk.els.length*bk.k+news.length<=cur.size:=by
   rw [yv,hy,hB.size, <- Nat.add_mul];exact Nat.mul_le_mul_right _ DT
 generalize XU:(cur.toList.take (bk.els.length*bk.k)++news++cur.toList.drop (bk.els.length*bk.k+news.length)).toArray=nv
 have Bm:(w.setRow g nv).heap[g]? = some (.cells nv ty (0,0)):=setRow_heap w g cur nv ty _ hB.heap
 have aek:id≠p:=by rintro rfl;simp [jZ] at hσ
 have hs:Step E (E.bind p g bk.k N) w (w.setRow g nv) :=
   ⟨fun i x h=>by rw [Env.jc];exact h;rintro rfl;simp [hμ] at h,fun _ h=>h,fun b hb=>setRow_other w g b nv (fun e=>hB.no IY (e▸hb))⟩
 have ig:Adv own E (E.bind p g bk.k N) w (w.setRow g nv) :=
   ⟨hs,rfl,rfl,rfl,by simp,fun k _ hk=>setRow_other w g k nv (fun e=>hk (e▸hB.own)),fun _ h => .inl h⟩
 have hsz:nv.size=cur.size:=by
   rw [<- XU]
   simp only [List.size_toArray,List.length_append,List.length_take,List.length_drop,Array.length_toList]
   omega
 refine ⟨ig,⟨?_, ?_, ?_, ?_, ?_⟩, ?_,fun i hne=>Env.jc _ _ _ _ _ (fun e=>hne (by rw [e];exact List.suffix_refl _))⟩
 . intro b hb;simpa using hi.okb b hb
 . intro i Gh h
   simp only [af.app] at h
   by_cases e1:i=p
   . subst e1
     rw [af.dE] at h
     simp only [Option.some.injEq] at h;subst h
     refine ⟨g,N,nv,ty,Env.jz _ _ _ _ _,Bm,by rw [hsz];exact hB.size,by simpa using DT,hB.most,hB.own,by simp,fun _ hb=>hB.no IY hb, ?_, ?_⟩
     . intro e he
       rcases List.mem_append.1 he with h | h
       . exact hB.k e h
       . exact hk e h
     . show eT _ _ g 0 (flat (bk.els++ys))
       rw [nY]
       have hcell:∀ j,(w.setRow g nv).cell? ⟨g,j,none⟩=nv[j]? := fun j=>cell_of_row _ _ _ _ _ _ Bm
       have ht:(cur.toList.take (bk.els.length*bk.k)).length=bk.els.length*bk.k:=by simp;omega
       refine wF.2 ⟨fun j c hj => ?_,fun j c hj => ?_⟩
       . have wI:j<bk.els.length*bk.k:=by rw [<- he];exact (List.getElem?_eq_some_iff.1 hj).1
         obtain ⟨v,rn,y3⟩:=hB.row j c hj
         rw [Nat.zero_add,cell_of_row _ _ _ _ _ _ hB.heap] at rn
         refine ⟨v, ?_,aT.keep hs c v y3⟩
         rw [Nat.zero_add,hcell, <- XU]
         simp only [List.getElem?_toArray,List.append_assoc]
         rw [List.getElem?_append_left (by omega),List.getElem?_take_of_lt wI]
         simpa using rn
       . obtain ⟨v,rn,y3⟩:=hvp j c hj
         have wI:j<news.length:=(List.getElem?_eq_some_iff.1 rn).1
         refine ⟨v, ?_,aT.keep hs c v y3⟩
         rw [Nat.zero_add,hcell, <- XU,he]
         simp only [List.getElem?_toArray,List.append_assoc]
         rw [List.getElem?_append_right (by omega),ht,Nat.add_sub_cancel_left,List.getElem?_append_left wI]
         exact rn
   . rw [af.cC _ _ _ e1] at h
     by_cases e2:i=id
     . subst e2;simp [af.put] at h
     . rw [af.cC _ _ _ e2] at h
       obtain ⟨g',N',Oa,PI,Lt⟩:=hi.blk i Gh h
       have hne:g'≠g:=hi.inj i id _ _ (by simp [h]) (by simp [jZ]) e2 Lt.μ hB.μ
       exact ⟨g',N',Oa,PI,Lt.keep hs (setRow_other w g g' nv hne) Lt.no⟩
 . intro i j x y hx hy hne h1 h2
   simp only [af.app] at hx hy
   have other:∀ i,i≠p->((σ.put id none).put p (some ⟨bk.els++ys,bk.k,false⟩)) i≠none->i≠id /\ σ i≠none:=by
     intro i e h
     rw [af.cC _ _ _ e] at h
     have e2:i≠id:=by rintro rfl;simp [af.put] at h
     rw [af.cC _ _ _ e2] at h
     exact ⟨e2,h⟩
   by_cases e1:i=p
   . have e1:=e1.symm
     subst e1
     have e2:j≠p:=fun e=>hne e.symm
     obtain ⟨h3,h4⟩:=other j e2 hy
     rw [Env.jz] at h1
     rw [Env.jc _ _ _ _ _ e2] at h2
     have:=hi.inj id j (g,bk.k,N) y (by simp [jZ]) h4 (fun e=>h3 e.symm) hB.μ h2
     simp only [Option.some.injEq] at h1
     rw [<- h1];exact this
   . obtain ⟨h3,h4⟩:=other i e1 hx
     rw [Env.jc _ _ _ _ _ e1] at h1
     by_cases e2:j=p
     . subst e2
       rw [Env.jz] at h2
       have:=hi.inj i id x (g,bk.k,N) h4 (by simp [jZ]) h3 h1 hB.μ
       simp only [Option.some.injEq] at h2
       rw [<- h2];exact this
     . obtain ⟨h5,h6⟩:=other j e2 hy
       rw [Env.jc _ _ _ _ _ e2] at h2
       exact hi.inj i j x y h4 h6 hne h1 h2
 . intro g' cs Ob
   obtain ⟨h1,h2⟩:=hi.glob g' cs Ob
   exact ⟨h1,bp.keep hs.bare (hs.same g' h1) cs 0 h2⟩
 . intro k hk;simp at hk;exact hi.new k hk
 . simp only [aT]
   exact ⟨g,N,N,Env.jz _ _ _ _ _,by simp,DT,by omega,hB.most,by simp⟩
def PQ (c:AV) (val:Value):Prop:=∀ E w,aT E w c val
theorem Kj {ys:List AV} (h:(ys.all fun e=>e.cells.all AV.one)=true):∀ c∈flat ys,c.one=true:=by
 intro c hc
 simp only [flat,List.mem_flatMap] at hc
 obtain ⟨e,he,hce⟩:=hc
 have:=List.all_eq_true.1 h e he
 exact List.all_eq_true.1 this c hce
theorem qK (t ty e bt:TypeId) (i:TypeInfo) (ht:P.underlying t=some (.slice e)) (hi:P.info? e=some i)
   (g Og abz:Nat) (cur:Array Value) (hg:w.heap[g]? = some (.cells cur bt (0,0)))
   (a:Addr) (m c:Nat) (news:List Value) (hl:news.length=m*i.size) (ael:∀ j u,news[j]? = some u->w.cell? (a.add j)=some u) (h1:∀ u∈news,u.oneCell'=true)
   (hroom:Og+m<=abz) (DT:Og*i.size+news.length<=cur.size) :
   (Builtin.append_ #[t,t] ty #[.slice (some ⟨g,0,none⟩) Og abz, .slice (some a) m c]).run P w =
     .ok (.slice (some ⟨g,0,none⟩) (Og+m) abz) (w.setRow g (cur.toList.take (Og*i.size)++news++cur.toList.drop (Og*i.size+news.length)).toArray):=by
 have hf:=run_firstCells_some (P:=P) w i.size m a m c news hl ael
 have hst:=run_storeCells_at P g (Og*i.size) bt news 0 cur w hg (by simpa using DT) h1
 simp only [Nat.add_zero] at hst
 simp [Builtin.append_,run_underlying ht,sizeOf,typeInfo,hi,Builtin.lenOf,hroom,hf,Addr.add_lit,hst]
theorem A8 {z:AV} {zv:Value} (hz:bc E w z.cells zv.cells.toList) (n:Nat) (hp:0<z.size):bc E w (flat (List.replicate n z)) (Builtin.zeroCells zv.cells n).toList:=by
 obtain ⟨hl,hp2⟩:=bI.1 hz
 have hk:∀ e∈List.replicate n z,e.size=z.size:=fun e he=>by rw [List.eq_of_mem_replicate he]
 have Gi:=cD hk
 have hs:zv.cells.size=z.size:=by simpa [AV.size] using hl
 refine bI.2 ⟨by rw [Gi];simp [Builtin.zeroCells,hs],fun j c hj => ?_⟩
 have wI:j<n*z.size:=by have:=(List.getElem?_eq_some_iff.1 hj).1;rw [Gi] at this;simpa using this
 have hdm:j/z.size*z.size+j%z.size=j:=by rw [Nat.mul_comm];exact Nat.div_add_mod j z.size
 have abA:=Nat.mod_lt j hp
 have hdiv:j/z.size<n:=Nat.div_lt_of_lt_mul (by rwa [Nat.mul_comm] at wI)
 have hg:=flat_get (i:=j/z.size) (e:=z) hk (by simp [hdiv]) abA
 rw [hdm,hj] at hg
 obtain ⟨v,hv,hr⟩:=hp2 (j%z.size) c hg.symm
 refine ⟨v, ?_,hr⟩
 have hv':zv.cells[j%z.size]? = some v:=by simpa using hv
 simp only [Builtin.zeroCells,Array.toList_map,Array.toList_range,List.getElem?_map,hs,List.getElem?_range wI,Option.map_some]
 rw [getElem!_def,hv']
theorem Gs (hi:Inv G own E w σ) {id:Id} {off k len:Nat} {tt:Bool} {news:List AV} {v:AV} {rd:List Id} {r:eS} (h:Cg σ id off k news v rd=some r) {a:Value} (hs:aT E w (.osl id k off len tt) a)
   (hk:∀ e∈news,e.size=k) {vs:List Value} (hv:bc E w (flat news) vs) {val:Value} (hval:PQ v val) :
   ∃ g cap,a = .slice (some ⟨g,off*k,none⟩) len cap/\∃ w',(storeCells ⟨g,off*k,none⟩ vs).run P w = .ok () w'/\lJ G own E w σ p r val E w':=by
 unfold Cg at h
 split at h
 . rename_i bk jZ
   split at h
   . rename_i hh
     obtain ⟨Of,hle,IY,PR⟩:=hh
     simp only [Option.some.injEq] at h;subst h
     obtain ⟨g,N,cur,ety,hB⟩:=hi.blk id bk jZ
     simp only [aT] at hs
     obtain ⟨g',N',cap,Kk,rfl,Lm,hoc,hNm,Uo⟩:=hs
     rw [hB.μ] at Kk
     simp only [Option.some.injEq,Prod.mk.injEq] at Kk
     obtain ⟨rfl,_,rfl⟩:=Kk
     obtain ⟨F1,had,RQ⟩:=ET hi jZ IY hB (e:=off) (news:=news) (vs:=vs) hle (fun e he=>by rw [Of];exact hk e he) hv
     have e0:off*bk.k=off*k:=by rw [Of]
     rw [e0] at F1 had RQ
     have hst:=run_storeCells_at P g (off*k) ety vs 0 cur w hB.heap (by simpa using F1) (Gr hv (Kj PR))
     simp only [Nat.add_zero] at hst
     exact ⟨g,cap,rfl,_,hst,had,RQ,hval E _,fun _ _=>rfl⟩
   . simp at h
 . simp at h
theorem LB (hi:Inv G own E w σ) {t e ty:TypeId} {z:AV} (hu:P.underlying t=some (.slice e)) (hz:na P e=some z) (ql:0<z.size) {x:AV} {a:Value} (hx:aT E w x a) {r:eS} (h:Gj σ z.size z x=some r) :
   Sound P G own E w σ p (Builtin.clear_ #[t] ty #[a]) r:=by
 obtain ⟨it,zv,hit,N0,Bo,PK,PL⟩:=lK hz
 have hzr:=aT.cells (iQ (E:=E) (w:=w) Bo) (j4 PL)
 unfold Gj at h
 split at h
 . simp only [Option.some.injEq] at h;subst h
   simp only [aT] at hx;subst hx
   exact Sound.same (v := .tuple #[]) hi (by simp [Builtin.clear_,run_underlying hu]) (by simp only [aT];exact ⟨#[],rfl,by simp [bc]⟩)
 . rename_i id k' off len tt
   split at h
   . rename_i h0
     subst h0
     simp only [Option.some.injEq] at h;subst h
     simp only [aT] at hx
     obtain ⟨g',N',cap,Kk,rfl,_⟩:=hx
     exact Sound.same (v := .tuple #[]) hi (by simp [Builtin.clear_,run_underlying hu]) (by simp only [aT];exact ⟨#[],rfl,by simp [bc]⟩)
   . rename_i h0
     split at h
     . rename_i hh
       obtain ⟨rfl,_⟩:=hh
       obtain ⟨g,cap,rfl,w',hst,hp⟩:=Gs (P:=P) (p:=p) (val := .tuple #[]) hi h hx (fun e he=>by rw [List.eq_of_mem_replicate he]) (A8 hzr len ql) (fun E w=>by simp only [aT];exact ⟨#[],rfl,by simp [bc]⟩)
       refine ⟨_,w',E, ?_,hp⟩
       obtain ⟨m,rfl⟩:∃ m,len=m+1:=⟨len-1,by omega⟩
       simp [Builtin.clear_,run_underlying hu,A5 hit N0,hst]
     . simp at h
 . simp at h
theorem Oh (hi:Inv G own E w σ) {t t2 e ty:TypeId} {i:TypeInfo} (hu:P.underlying t=some (.slice e)) (dH:P.info? e=some i) {d x:AV} {a b:Value} (hd:aT E w d a) (hx:aT E w x b) {r:eS} (h:Lu σ i.size d x=some r) :
   Sound P G own E w σ p (Builtin.copy_ #[t,t2] ty #[a,b]) r:=by
 unfold Lu at h
 split at h
 . simp at h
 . rename_i ys rd Cb
   obtain ⟨IZ,xa,Il,rfl,hxl,wJ⟩:=Av hi hx Cb
   have zero:∀ (ba:Option Addr) (n cap:Nat),Nat.min ys.length n=0->(Builtin.copy_ #[t,t2] ty #[.slice ba n cap, .slice xa ys.length Il]).run P w = .ok (.int .i64 0) w:=by
     intro ba n cap h0
     cases ba<;>cases xa<;>simp [Builtin.copy_,run_underlying hu,eX dH,Builtin.lenOf,h0,Builtin.firstCells,loadCells,loadCellsFrom,storeCells,goInt]
   split at h
   . simp only [Option.some.injEq] at h;subst h
     simp only [aT] at hd;subst hd
     exact Sound.same hi (zero none 0 0 (by simp)) (by simp only [aT])
   . rename_i id k' off len tt
     split at h
     . rename_i h0
       simp only [Option.some.injEq] at h;subst h
       simp only [aT] at hd
       obtain ⟨g',N',cap,Kk,rfl,_⟩:=hd
       have h0':Nat.min ys.length len=0:=by
         have:=congrArg List.length (List.isEmpty_iff.1 h0)
         simp only [List.length_take,List.length_nil] at this
         rw [Nat.min_comm] at this;exact this
       exact Sound.same hi (zero _ len cap h0') (by simp only [aT])
     . rename_i h0
       split at h
       . rename_i hk
         subst hk
         have hne:ys≠[]:=by rintro rfl;simp at h0
         obtain ⟨xb,xo,rfl,hxr⟩:=wJ.resolve_left hne
         have hkt:∀ e∈ys.take len,e.size=i.size:=fun e he=>IZ e (List.mem_of_mem_take he)
         have ahQ:eT E w xb xo (flat (ys.take len)):=by
           rw [DV IZ]
           exact (wF.1 (by rw [List.take_append_drop];exact hxr:eT E w xb xo ((flat ys).take (len*i.size)++(flat ys).drop (len*i.size)))).1
         obtain ⟨news,RO,hnc⟩:=Ki ahQ
         have X4:news.length=(ys.take len).length*i.size:=by rw [bc.len RO,cD hkt]
         obtain ⟨g,cap,rfl,w',hst,hp⟩:=Gs (P:=P) (p:=p) (val := .int .i64 (ys.take len).length) hi h hd hkt RO (fun E w=>by simp only [aT])
         refine ⟨_,w',E, ?_,hp⟩
         have aem:Nat.min ys.length len=(ys.take len).length:=by rw [List.length_take,Nat.min_comm]
         have hf:=run_firstCells_some (P:=P) w i.size (ys.take len).length ⟨xb,xo,none⟩ ys.length Il news X4 hnc
         generalize (ys.take len).length=m at aem hf hp ⊢
         simp [Builtin.copy_,run_underlying hu,eX dH,Builtin.lenOf,aem,hf,hst,goInt]
       . simp at h
   . simp at h
theorem Im {d:Option TypeDesc} (h:DM d=true):∃ e,d=some (.slice e):=by
 unfold DM at h
 split at h
 . exact ⟨_,rfl⟩
 . cases h
theorem DW {t t' e e' ty:TypeId} (hu:P.underlying t=some (.slice e)) (N4:P.underlying t'=some (.slice e')) (a b:Value) (w:World) :
   (Builtin.append_ #[t,t'] ty #[a,b]).run P w=(Builtin.append_ #[t,t] ty #[a,b]).run P w:=by
 cases a<;>simp [Builtin.append_,run_underlying hu,run_underlying N4]
theorem Kl (hi:Inv G own E w σ) (hμ : E.μ p=none) (hσ : σ p=none) {t e ty:TypeId} {i:TypeInfo} (hu:P.underlying t=some (.slice e)) (dH:P.info? e=some i)
   (hz:(na P e).isSome=true) {s x:AV} {a b:Value} (hs:aT E w s a) (hx:aT E w x b) {r:eS} (h:eu σ p i.size i.bytes s x=some r) :
   Sound P G own E w σ p (Builtin.append_ #[t,t] ty #[a,b]) r:=by
 obtain ⟨z,hz⟩:=Option.isSome_iff_exists.1 hz
 obtain ⟨it,zv,hit,N0,Bo,PK,PL⟩:=lK hz
 rw [dH] at hit
 simp only [Option.some.injEq] at hit;subst hit
 have Up:zv.cells.size=i.size:=by
   have:=bc.len (aT.cells (iQ (E:=E) (w:=w) Bo) (j4 PL))
   simp at this;unfold AV.size at PK;omega
 unfold eu at h
 split at h
 . simp at h
 . rename_i ys rd Cb
   obtain ⟨IZ,xa,Il,rfl,hxl,wJ⟩:=Av hi hx Cb
   split at h
   . rename_i Oi
     have hys:ys=[]:=by simpa using Oi
     subst hys
     have hrun:∀ (base:Option Addr) (n cap:Nat),n<=cap->(Builtin.append_ #[t,t] ty #[.slice base n cap, .slice xa ([]:List AV).length Il]).run P w = .ok (.slice base n cap) w:=by
       intro base n cap hn
       cases base<;>cases xa<;>simp [Builtin.append_,run_underlying hu,eX dH,Builtin.lenOf,hn,Builtin.firstCells,loadCells,loadCellsFrom,storeCells]
     split at h
     . simp only [Option.some.injEq] at h;subst h
       have eL:=hs
       simp only [aT] at hs;subst hs
       exact Sound.same hi (hrun none 0 0 (Nat.le_refl _)) eL
     . simp only [Option.some.injEq] at h;subst h
       have eL:=hs
       simp only [aT] at hs;obtain ⟨q,rfl,_⟩:=hs
       exact Sound.same hi (hrun q _ _ (Nat.le_refl _)) eL
     . simp only [Option.some.injEq] at h;subst h
       have eL:=hs
       simp only [aT] at hs;obtain ⟨g,N,cap,_,rfl,hle,_⟩:=hs
       exact Sound.same hi (hrun _ _ _ hle) eL
     . simp at h
   . rename_i Oi
     have hne:ys≠[]:=by simpa using Oi
     have ql:0<ys.length:=List.length_pos_iff.2 hne
     obtain ⟨xb,xo,rfl,hxr⟩:=wJ.resolve_left hne
     obtain ⟨news,RO,hnc⟩:=Ki hxr
     have Gi:=cD IZ
     have X4:news.length=ys.length*i.size:=by rw [bc.len RO,Gi]
     -- an append to a row that has no room
     have grow:∀ (ba:Addr) (q:Nat) (es:List AV) (cap:Nat),(∀ e∈es,e.size=i.size)->(es=[]∨∃ b o,ba=⟨b,o,none⟩/\eT E w b o (flat es))->q=es.length->cap<q+ys.length ->
         (q+ys.length)*i.bytes<=140737488355328->q+ys.length<=maxLen->∀ rd,
         ∃ v w' E',(Builtin.append_ #[t,t] ty #[.slice (some ba) q cap, .slice (some ⟨xb,xo,none⟩) ys.length Il]).run P w = .ok v w' /\
           lJ G own E w σ p { val := .osl p i.size 0 (q+ys.length) false,rd:=rd,up:=[(p,some ⟨es++ys,i.size,false⟩)] } v E' w':=by
       intro ba q es cap hk hr hq X5 hb hm rd
       have Um:=cD hk
       obtain ⟨Uq,XF,hoc⟩:∃ vs:List Value,bc E w (flat es) vs/\∀ j v,vs[j]? = some v->w.cell? (ba.add j)=some v:=by
         rcases hr with rfl | ⟨b,o,rfl,hr⟩
         . exact ⟨[],by simp [flat,bc],by simp⟩
         . exact Ki hr
       have hol:Uq.length=q*i.size:=by rw [bc.len XF,Um,hq]
       have hrun:=run_append_grow (P:=P) w t ty e i zv hu dH N0 ba q cap Uq hol hoc ⟨xb,xo,none⟩ ys.length Il news X4 hnc X5 (by unfold maxLen at hm;omega) (growslice_fits X5 hb)
       have Fv:=grownCap_ge w (q+ys.length) cap e
       have PN:=grownCap_le_maxLen w (q+ys.length) cap e hm
       refine ⟨_,_,E.bind p w.heap.size i.size (grownCap w (q+ys.length) cap e),hrun, ?_⟩
       have:=Cm (p:=p) (rd:=rd) hi hμ hσ (k:=i.size) (n:=q+ys.length) (N:=grownCap w (q+ys.length) cap e) (els:=es++ys) (fun e he=>(List.mem_append.1 he).elim (hk e) (IZ e)) (by simp [hq])
         (vs:=Uq++news) (by rw [nY];exact bc.append XF RO) (rest:=Builtin.zeroCells zv.cells (grownCap w (q+ys.length) cap e-(q+ys.length))) (by rw [size_zeroCells,Up]) Fv PN e
       have hee:(Uq++news).toArray=Uq.toArray++news.toArray:=by simp
       rw [hee] at this
       exact this
     split at h
     . -- onto nil
       split at h
       . rename_i hh
         obtain ⟨hb,hm,_⟩:=hh
         simp only [Option.some.injEq] at h;subst h
         simp only [aT] at hs;subst hs
         have hrun:=run_append_nil (P:=P) w t ty e i zv hu dH N0 ⟨xb,xo,none⟩ ys.length Il news X4 hnc ql (by unfold maxLen at hm;omega) (by omega)
         have Fv:=grownCap_ge w ys.length 0 e
         have PN:=grownCap_le_maxLen w ys.length 0 e hm
         refine ⟨_,_,E.bind p w.heap.size i.size (grownCap w ys.length 0 e),hrun, ?_⟩
         exact Cm (p:=p) (rd:=rd) hi hμ hσ (k:=i.size) (n:=ys.length) (N:=grownCap w ys.length 0 e) (els:=ys) IZ rfl RO (by rw [size_zeroCells,Up]) Fv PN e
       . simp at h
     . -- onto a row without room
       rename_i k' es
       split at h
       . rename_i hh
         obtain ⟨rfl,hb,hm,_⟩:=hh
         simp only [Option.some.injEq] at h;subst h
         simp only [aT] at hs
         obtain ⟨q,rfl,_,hk,hr⟩:=hs
         cases q with
         | none =>
           have hes:es=[]:=by rcases hr with h | ⟨b,o,h,_⟩;exact h;simp at h
           subst hes
           simp only [List.length_nil,Nat.zero_add,List.nil_append] at hb hm ⊢
           have hrun:=run_append_nil (P:=P) w t ty e i zv hu dH N0 ⟨xb,xo,none⟩ ys.length Il news X4 hnc ql (by unfold maxLen at hm;omega) (by omega)
           have Fv:=grownCap_ge w ys.length 0 e
           have PN:=grownCap_le_maxLen w ys.length 0 e hm
           refine ⟨_,_,E.bind p w.heap.size i.size (grownCap w ys.length 0 e),hrun, ?_⟩
           exact Cm (p:=p) (rd:=rd) hi hμ hσ (k:=i.size) (n:=ys.length) (N:=grownCap w ys.length 0 e) (els:=ys) IZ rfl RO (by rw [size_zeroCells,Up]) Fv PN e
         | some ba =>
           exact grow ba es.length es es.length hk (hr.imp id fun ⟨b,o,e,_,r⟩=>⟨b,o,by simpa using e,dN.1 r⟩) rfl (by omega) hb hm rd
       . simp at h
     . -- onto a block of the store
       rename_i id k' off len tt
       split at h
       . rename_i bk jZ
         split at h
         . rename_i hh
           obtain ⟨rfl,Of,rfl,hle,hb,hm,PR⟩:=hh
           obtain ⟨g,N,cur,ety,hB⟩:=hi.blk id bk jZ
           simp only [aT] at hs
           obtain ⟨g',N',cap,Kk,rfl,Lm,hoc,hNm,Uo⟩:=hs
           rw [hB.μ] at Kk
           simp only [Option.some.injEq,Prod.mk.injEq] at Kk
           obtain ⟨rfl,_,rfl⟩:=Kk
           have Kd:∀ e∈bk.els,e.size=i.size:=fun e he=>by rw [<- Of];exact hB.k e he
           simp only [Nat.zero_mul]
           split at h
           . split at h
             . rename_i ht _
               simp only [Option.some.injEq] at h;subst h
               rw [if_pos ht] at Uo
               have Gt:=rk (l:=0) (r:=len) hB.k hB.row (Nat.zero_le _) hle
               simp only [Nat.zero_mul,Nat.add_zero,List.drop_zero] at Gt
               exact grow ⟨g,0,none⟩ len (bk.els.take len) cap (fun e he=>Kd e (List.mem_of_mem_take he)) (.inr ⟨g,0,rfl,Gt⟩) (by simp;omega) (by omega) hb hm (id::rd)
             . simp at h
           . split at h
             . rename_i ht hh2
               obtain ⟨X6,IY,yY⟩:=hh2
               simp only [Option.some.injEq] at h;subst h
               simp only [ht,Bool.false_eq_true,if_false,Nat.zero_add] at Uo
               subst X6
               by_cases hroom:bk.els.length+ys.length<=cap
               . have hrun:=qK (P:=P) (w:=w) t ty e ety i hu dH g bk.els.length cap cur hB.heap ⟨xb,xo,none⟩ ys.length Il news X4 hnc (Gr RO (Kj PR)) hroom
                   (by rw [X4,hB.size,Of, <- Nat.add_mul];exact Nat.mul_le_mul_right _ (by omega))
                 obtain rfl:cap=N:=Uo
                 refine ⟨_,_,E.bind p g i.size cap,hrun, ?_⟩
                 have:=X3 (p:=p) (rd:=id::rd) hi hμ hσ jZ IY hB (ys:=ys) (fun e he=>by rw [Of];exact IZ e he) RO hroom
                 rw [Of] at this
                 exact this
               . obtain ⟨v,w',E',hrun,PS⟩:=grow ⟨g,0,none⟩ bk.els.length bk.els cap Kd (.inr ⟨g,0,rfl,hB.row⟩) rfl (by omega) hb hm (id::rd)
                 refine ⟨v,w',E',hrun,PS.Ia, ?_,PS.rep,PS.ids⟩
                 have aek:id≠p:=by rintro rfl;simp [jZ] at hσ
                 have:=X2 PS.inv id
                 have he:(σ.app [(p,some ⟨bk.els++ys,i.size,false⟩)]).put id none = σ.app [(id,none),(p,some ⟨bk.els++ys,i.size,false⟩)]:=by
                   funext j
                   simp only [af.app,af.put]
                   by_cases e1:j=id
                   . subst e1;simp [aek]
                   . simp [e1]
                 rw [he] at this
                 exact this
             . split at h
               . -- over elements that lie behind
                 rename_i ht _ hh2
                 obtain ⟨X6,IY⟩:=hh2
                 simp only [Option.some.injEq] at h;subst h
                 simp only [ht,Bool.false_eq_true,if_false,Nat.zero_add] at Uo
                 obtain rfl:cap=N:=Uo
                 have hroom:len+ys.length<=cap:=Nat.le_trans X6 hB.len
                 obtain ⟨F1,had,RQ⟩:=ET hi jZ IY hB (e:=len) (news:=ys) (vs:=news) X6 (fun e he=>by rw [Of];exact IZ e he) RO
                 have e0:len*bk.k=len*i.size:=by rw [Of]
                 rw [e0] at F1 had RQ
                 have hrun:=qK (P:=P) (w:=w) t ty e ety i hu dH g len cap cur hB.heap ⟨xb,xo,none⟩ ys.length Il news X4 hnc (Gr RO (Kj PR)) hroom F1
                 refine ⟨_,_,E,hrun,had,RQ, ?_,fun _ _=>rfl⟩
                 simp only [aT]
                 exact ⟨g,cap,cap,by rw [hB.μ,Of],by simp,hroom,by omega,hNm,by simp⟩
               . simp at h
         . simp at h
       . simp at h
     . simp at h
theorem Oj (hi:Inv G own E w σ) (hμ : E.μ p=none) (hσ : σ p=none) {t tn e ty:TypeId} {i:TypeInfo} {kn:IntKind} (hu:P.underlying t=some (.slice e)) (dH:P.info? e=some i) (htn:P.underlying tn=some (.int kn)) {z:AV}
   (hz:na P e=some z) (ql:0<i.size) {s x:AV} {a b:Value} (hs:aT E w s a) (hx:aT E w x b) {r:eS} (h:I0 p i.size i.bytes z s x=some r) :
   Sound P G own E w σ p (Builtin.append_ #[t,tn] ty #[a,b]) r:=by
 obtain ⟨it,zv,hit,N0,Bo,PK,PL⟩:=lK hz
 rw [dH] at hit
 simp only [Option.some.injEq] at hit;subst hit
 have hzr:=aT.cells (iQ (E:=E) (w:=w) Bo) (j4 PL)
 have Up:zv.cells.size=i.size:=by have:=bc.len hzr;simp at this;unfold AV.size at PK;omega
 unfold I0 at h
 split at h
 . rename_i kk n
   split at h
   . rename_i hh
     obtain ⟨h0,hb,hm,hzk,_⟩:=hh
     simp only [Option.some.injEq] at h;subst h
     simp only [aT] at hs hx;subst hs;subst hx
     obtain ⟨m,rfl⟩:∃ m:Nat,n=m:=⟨n.toNat,by omega⟩
     have RR:m*i.bytes<=140737488355328:=by rw [<- Int.natCast_mul] at hb;omega
     have sC:m<=maxLen:=by omega
     have Fv:=grownCap_ge w m 0 e
     have PN:=grownCap_le_maxLen w m 0 e sC
     have hrun:=Lib.run_append_nil_zeros (P:=P) w t tn ty e i zv kk kn hu htn dH N0 m (by omega) ql (by unfold maxLen at sC;omega) (by omega)
     refine ⟨_,_,E.bind p w.heap.size i.size (grownCap w m 0 e),hrun, ?_⟩
     have:=Cm (p:=p) (rd:=[]) hi hμ hσ (k:=i.size) (n:=m) (N:=grownCap w m 0 e) (els:=List.replicate m z) (fun e he=>by rw [List.eq_of_mem_replicate he];exact hzk) (by simp)
       (vs:=(Builtin.zeroCells zv.cells m).toList) (A8 hzr m (by omega)) (rest:=Builtin.zeroCells zv.cells (grownCap w m 0 e-m)) (by rw [size_zeroCells,Up]) Fv PN e
     simpa using this
   . simp at h
 . simp at h
end
end Go.VL
end

section
namespace Go.VL
section
variable {P:Program} {G:Nat->Option (List AV)} {own:Nat->Prop} {E:Env} {w:World} {σ : af} {p:Id}
def dU (P:Program) (G:Nat->Option (List AV)) (own:Nat->Prop) (E:Env) (w:World) (σ : af) (p:Id) (r:eS) (s:Sem Next):Prop :=
 ∃ v w' E',(s.run P w = .ok (.value v) w'∨(s.run P w = .ok .skip w'/\v=undef))/\lJ G own E w σ p r v E' w'
theorem dU.of {s:Sem Value} {r:eS} (h:Sound P G own E w σ p s r):dU P G own E w σ p r (do pure (.value (<- s))):=by
 obtain ⟨v,w',E',hr,hp⟩:=h
 exact ⟨v,w',E', .inl (by simp [hr]),hp⟩
theorem dU.ofU {s:Sem Unit} {r:eS} (h:∃ w',s.run P w = .ok () w'/\lJ G own E w σ p r undef E w'):dU P G own E w σ p r (do s;pure .skip):=by
 obtain ⟨w',hr,hp⟩:=h
 exact ⟨undef,w',E, .inr ⟨by simp [hr],rfl⟩,hp⟩
theorem y6 {t:List AV} {a:Act} (hf:cm E w t a) (hi:Inv G own E w σ) {x:Option Operand} {vx:Option a7} (h:DL x=some vx):om E w (vx.map (a7.ev G t)) (x.map a.eval):=by
 cases x with
 | none=>simp only [DL,Option.some.injEq] at h;subst h;trivial
 | some x =>
   simp only [DL,Option.map_eq_some_iff] at h
   obtain ⟨va,Cc,rfl⟩:=h
   exact bd hf hi Cc
theorem Ol {σ : af} {x:AV} {oc:Option AV} {r:eS} (h:Gk σ x oc=some r):bz oc=some r∨∃ id k off len bk,x = .osl id k off len false /\ σ id=some bk/\off<=bk.els.length/\r={ val := .ige (bk.els.length-off),rd:=[id] }:=by
 unfold Gk at h
 split at h
 . exact .inl h
 . split at h
   . rename_i id k off len
     split at h
     . rename_i bk hb
       split at h
       . rename_i ho
         simp only [Option.some.injEq] at h
         exact .inr ⟨id,k,off,len,bk,rfl,hb,ho,h.symm⟩
       . simp at h
     . simp at h
   . simp at h
theorem Io (hi : Inv G own E w σ) {t e:TypeId} {i:TypeInfo} (hu:P.underlying t=some (.slice e)) (dH:P.info? e=some i) {x:AV} {v:Value} (hx:aT E w x v)
   {lo qk mx:Option AV} {RP PO vmx:Option Value} (y5:om E w lo RP) (Fu:om E w qk PO) (hmx:om E w mx vmx) (hmh:mx.isSome->qk.isSome) {r:eS}
   (h:pZ σ i.size x lo qk mx (ek i.size x lo qk mx)=some r):Sound P G own E w σ p (Instr.sliceAt t v RP PO vmx) r:=by
 cases hs:ek i.size x lo qk mx with
 | some c =>
   rw [hs] at h
   refine Sound.fN (oc:=some c) h fun c' hc' => ?_
   simp only [Option.some.injEq] at hc';subst hc'
   exact Cl hi hu dH hx y5 Fu hmx hmh hs
 | none =>
   rw [hs] at h
   simp only [pZ] at h
   split at h
   . rename_i id k' off len hh
     split at h
     . rename_i bk hb
       split at h
       . rename_i hc
         obtain ⟨ho,hk⟩:=hc
         simp only [Option.map_eq_some_iff] at h
         obtain ⟨c,hc,rfl⟩:=h
         simp only [aT] at hx
         obtain ⟨g,N,cap,hm,rfl,h1,h2,h3,h4⟩:=hx
         obtain ⟨g',N',cur,PI,hB⟩:=hi.blk id bk hb
         have hμ := hB.μ
         rw [hμ] at hm
         simp only [Option.some.injEq,Prod.mk.injEq] at hm
         obtain ⟨rfl,rfl,rfl⟩:=hm
         simp only [Bool.false_eq_true,if_false] at h4
         have hl:=hB.len
         have hx':aT E w (.osl id bk.k off (bk.els.length-off) false) (.slice (some ⟨g',off*bk.k,none⟩) (bk.els.length-off) cap):=by
           simp only [aT]
           exact ⟨g',N',cap,hμ,rfl,by omega,h2,h3,by simpa using h4⟩
         have ahS:vmx=none:=by cases vmx with | none=>rfl | some _=>exact (hmx:False).elim
         subst ahS
         obtain ⟨v,w',E',hrun,hp⟩:=Cl (p:=p) hi hu dH hx' y5 Fu (mx:=none) (vmx:=none) hmx (by simp) hc
         cases PO with
         | none=>exact (Fu:False).elim
         | some u =>
           refine ⟨v,w',E', ?_,⟨hp.Ia,hp.inv,hp.rep,hp.ids⟩⟩
           rw [<- hrun]
           simp [Instr.sliceAt,Instr.slice,run_underlying hu,Instr.sliceBounds]
       . simp at h
     . simp at h
   . rename_i hh km m
     split at h
     . rename_i n hn
       split at h
       . rename_i l r' hb
         split at h
         . rename_i hc
           simp only [Option.some.injEq] at h;subst h
           obtain ⟨h1,h2⟩:=hc
           have Ur:m=((m.toNat:Nat):Int):=by omega
           obtain ⟨a,cap,rfl,Lm⟩:∃ a cap,v = .slice a n cap/\n<=cap:=by
             unfold aag at hn
             split at hn
             . simp only [Option.some.injEq] at hn;subst hn
               simp only [aT] at hx;exact ⟨_,_,hx,Nat.le_refl _⟩
             . split at hn
               . simp only [Option.some.injEq] at hn;subst hn
                 simp only [aT] at hx;obtain ⟨a,cap,rfl,h,_⟩:=hx;exact ⟨_,_,rfl,h⟩
               . simp at hn
             . split at hn
               . simp only [Option.some.injEq] at hn;subst hn
                 simp only [aT] at hx;obtain ⟨a,rfl,_⟩:=hx;exact ⟨_,_,rfl,Nat.le_refl _⟩
               . simp at hn
             . split at hn
               . simp only [Option.some.injEq] at hn;subst hn
                 simp only [aT] at hx;obtain ⟨g,N,cap,_,rfl,h,_⟩:=hx;exact ⟨_,_,rfl,h⟩
               . simp at hn
             . simp at hn
           unfold gw at hb
           split at hb
           . simp at hb
           . rename_i h1' e1
             split at hb
             . simp at hb
             . rename_i l1 e2
               simp only [Option.some.injEq,Prod.mk.injEq] at hb
               obtain ⟨rfl,rfl⟩:=hb
               obtain ⟨yY,_,_⟩:=jd (P:=P) (isSlice:=true) (len:=n) (cap:=cap) (m:=m.toNat) y5 Fu hmx Lm e1 e2 (.inr ⟨km,by rw [<- Ur],by simp,by omega,by omega⟩)
               refine ⟨.slice (if m.toNat=l1 then a else a.map (·.add (l1*i.size))) (h1'-l1) (m.toNat-l1),w,E, ?_,⟨Adv.refl own E w,hi,by simp only [aT],fun _ _=>rfl⟩⟩
               simp [Instr.sliceAt,Instr.slice,run_underlying hu,yY,eX dH]
         . simp at h
       . simp at h
     . simp at h
   . simp at h
theorem PT {f:FuncId} {fn:Func} {e:Array Value->Sem Value} {c:Call} {a:Act} {o:Oper} (hop:o.op = .call c) (y7:c.callee = .value (.func f)) (hf:P.funcs[f]? = some fn) (sY:(fn.name == "runtime.NumGoroutine")=false)
   (hb:fn.body.isNone=true) (hn:Extern.findNext fn=none) (he:Extern.find fn=some e) {v:Value} {w':World} (hrun:(e (c.args.map a.eval)).run P w = .ok v w') :
   (execOp a.eval o).run P w = .ok (.value v) w':=by
 have h1:=run_callFunc_extern hf sY hb hn he (c.args.map a.eval) w
 rw [hrun] at h1
 simp only [Result.andThen] at h1
 have e0:a.eval (.func f) = .func (.func f) #[] #[]:=rfl
 simp [execOp,hop,resolve,y7,e0,Deferred.ofValue,invoke,h1]
theorem I9 {fo : Operand} {k:XW} (h:T8 P fo=some k):∃ f fn,fo = .func f/\P.funcs[f]? = some fn/\fn.body.isNone=true /\
   ((k = .idx/\fn.name = "internal/bytealg.IndexByteString" /\ fn.origin = "")∨(k = .ovl/\fn.origin = "slices.overlaps" /\ y4 fn.name=true/\∃ t e i,fn.params[0]? = some t/\P.underlying t=some (.slice e)/\P.info? e=some i)):=by
 unfold T8 at h
 split at h
 . rename_i f
   split at h
   . rename_i fn N3
     split at h
     . rename_i hb
       refine ⟨f,fn,rfl,N3,hb, ?_⟩
       split at h
       . rename_i hn
         simp only [Option.some.injEq] at h
         simp only [Bool.and_eq_true,beq_iff_eq] at hn
         exact .inl ⟨h.symm,hn.1,hn.2⟩
       . split at h
         . rename_i ho
           simp only [Bool.and_eq_true,beq_iff_eq] at ho
           split at h
           . rename_i t ht
             split at h
             . rename_i e he
               split at h
               . rename_i hi
                 simp only [Option.some.injEq] at h
                 obtain ⟨i,hi⟩:=Option.isSome_iff_exists.1 hi
                 exact .inr ⟨h.symm,ho.1,ho.2,t,e,i,ht,he,hi⟩
               . simp at h
             . simp at h
           . simp at h
         . simp at h
     . simp at h
   . simp at h
 . simp at h
theorem RT {fn:Func} (hf:y4 fn.name=true) (ho:fn.origin = "slices.overlaps"):Extern.findNext fn=none/\Extern.find fn=some (Extern.SlicesOverlaps.overlaps fn.params fn.resultTypes):=by
 unfold y4 at hf
 simp only [Bool.and_eq_true,Option.isNone_iff_eq_none] at hf
 obtain ⟨⟨⟨⟨h1,h2⟩,h3⟩,h4⟩,_⟩:=hf
 have o1:Extern.allGenericRows.lookup "slices.overlaps" = none:=by kernel_rfl
 have o2:Extern.allTypedRows.lookup "slices.overlaps" = some Extern.SlicesOverlaps.overlaps:=by kernel_rfl
 have o4:Extern.allNextRows.lookup "slices.overlaps" = none:=by kernel_rfl
 constructor
 . simp [Extern.findNext,h4,ho,o4]
 . simp [Extern.find,h1,h2,h3,ho,o1,o2]
theorem Us {fn:Func} (hn:fn.name = "internal/bytealg.IndexByteString") (ho:fn.origin = ""):Extern.findNext fn=none/\Extern.find fn=some Extern.BytealgIndexByte.indexByte:=by
 have o1:Extern.allGenericRows.lookup "internal/bytealg.IndexByteString" = none:=by kernel_rfl
 have o2:Extern.allTypedRows.lookup "internal/bytealg.IndexByteString" = none:=by kernel_rfl
 have o3:Extern.allRows.lookup "internal/bytealg.IndexByteString" = some Extern.BytealgIndexByte.indexByte:=by kernel_rfl
 have o4:Extern.allNextRows.lookup "internal/bytealg.IndexByteString" = none:=by kernel_rfl
 have o5:Extern.allNextRows.lookup "" = none:=by kernel_rfl
 constructor
 . simp [Extern.findNext,hn,ho,o4,o5]
 . simp [Extern.find,hn,o1,o2,o3]
theorem Gu:∀ (l:List UInt8) (c:UInt8),Lib.indexByte l c=sX l c
 | [],_=>rfl
 | b::l,c=>by simp only [Lib.indexByte,sX,Gu l c]
theorem RU {c:Call} {a:Act} {o:Oper} {fo x y:Operand} (hop:o.op = .call c) (y7:c.callee = .value fo) (hk:T8 P fo=some .idx) (m6:c.args.toList=[x,y]) (hi:Inv G own E w σ) {vx vy:AV}
   (hx:aT E w vx (a.eval x)) (hy:aT E w vy (a.eval y)) {r:eS} (h:bz (T7 vx vy)=some r):dU P G own E w σ p r (execOp a.eval o):=by
 obtain ⟨f,fn,rfl,N3,hb,hh⟩:=I9 hk
 rcases hh with ⟨_,hn,ho⟩ | ⟨h0,_⟩
 case inr=>simp at h0
 have key:∃ s n,vx = .str s/\vy = .int .u8 n/\r={ val := .int .i64 (sX s n.toNat.toUInt8) }:=by
   unfold T7 at h
   split at h
   . simp only [bz,Option.map_some,Option.some.injEq] at h
     exact ⟨_,_,rfl,rfl,h.symm⟩
   . simp [bz] at h
 clear h
 obtain ⟨s,n,rfl,rfl,rfl⟩:=key
 . simp only [aT] at hx hy
   obtain ⟨hn1,XG⟩:=Us hn ho
   have hae:c.args.map a.eval = #[.string ⟨s.toArray⟩, .int .u8 n]:=by
     apply Array.ext'
     simp [m6,hx,hy]
   refine ⟨.int .i64 (sX s n.toNat.toUInt8),w,E, .inl (PT hop y7 N3 (by rw [hn];rfl) hb hn1 XG ?_),⟨Adv.refl own E w,hi,by simp only [aT],fun _ _=>rfl⟩⟩
   rw [hae,Lib.run_indexByteString,Gu]
theorem X7 (params res:Array TypeId) {tS e:TypeId} {i:TypeInfo} (hp:params[0]? = some tS) (ht:P.underlying tS=some (.slice e)) (dH:P.info? e=some i)
   (a b:Addr) (la ca lb cb:Nat) (hne:a.block≠b.block) {abB X8:Array Value} {tA tB:TypeId} (ha:w.heap[a.block]? = some (.cells abB tA (0,0))) (hb:w.heap[b.block]? = some (.cells X8 tB (0,0))) (hkB:X8.size≠0) :
   (Extern.SlicesOverlaps.overlaps params res #[.slice (some a) la ca, .slice (some b) lb cb]).run P w = .ok (.bool false) w:=by
 have XH:(a.block != b.block)=true:=by simpa using hne
 have ahU:(a.block==b.block)=false:=by simpa using hne
 have hsa:w.shape? a.block=some (tA,abB.size):=by simp [World.shape?,ha]
 have hsb:w.shape? b.block=some (tB,X8.size):=by simp [World.shape?,hb]
 have hfa:w.frozen? a=false:=by simp [World.frozen?,ha]
 have Um:w.frozen? { block:=a.block,off:=abB.size }=false:=by simp [World.frozen?,ha]
 have hz:(Go.sizeOf e).run P w = .ok i.size w:=eX dH w
 change Sem.run P (α := Value) (do
   let some t:=params[0]? | stuck "slices.overlaps: no parameter types"
   let .slice elem <- underlying t | stuck "slices.overlaps: slice type expected"
   let size <- sizeOf elem
   match (some a:Option Addr),(some b:Option Addr) with
   | some a,some b =>
     if la=0∨lb=0∨size=0 then pure (Value.bool false)
     else if a.block != b.block&&(<- frozen a)&&(<- frozen b) then unsupported .addressObserved
     else do
       if a.block != b.block then do
         noView a;noView b
         if <- mayBeOne a b then return Value.bool ((<- choose (.extern "sameAddr.stringBytes" 2))==1)
       pure (Value.bool (a.block==b.block&&a.off<b.off+lb*size&&b.off<a.off+la*size))
   | _,_=>pure (Value.bool false)) w=_
 rw [hp]
 by_cases h0:la=0∨lb=0∨i.size=0
 . simp [run_underlying ht,hz,h0]
 . cases hk:X8.size with
   | zero=>exact absurd hk hkB
   | succ kB =>
     simp [run_underlying ht,hz,h0,XH,ahU,frozen,noView,viewAt,mayBeOne,stringish,shape,Sem.run,hsa,hsb,hfa,Um,hk]
theorem RW {c:Call} {a:Act} {o:Oper} {fo x y:Operand} (hop:o.op = .call c) (y7:c.callee = .value fo) (hk:T8 P fo=some .ovl) (m6:c.args.toList=[x,y]) (hi:Inv G own E w σ) {vx vy:AV}
   (hx:aT E w vx (a.eval x)) (hy:aT E w vy (a.eval y)) {r:eS} (h:RF σ vx vy=some r):dU P G own E w σ p r (execOp a.eval o):=by
 obtain ⟨f,fn,rfl,N3,hb,hh⟩:=I9 hk
 rcases hh with ⟨h0,_⟩ | ⟨_,ho,hnf,tS,e,i,hp,ht,dH⟩
 case inl=>simp at h0
 unfold RF at h
 split at h
 . rename_i id1 k1 o1 l1 t1 Cf k2 o2 l2 t2
   split at h
   . simp at h
   . rename_i hne
     split at h
     . rename_i b1 b2 h1 h2
       split at h
       . rename_i ql
         simp only [Option.some.injEq] at h;subst h
         simp only [aT] at hx hy
         obtain ⟨g1,N1,c1,hm1,rn,_⟩:=hx
         obtain ⟨g2,N2,c2,Cn,y3,_⟩:=hy
         obtain ⟨g1',N1',ami,ty1,hB1⟩:=hi.blk id1 b1 h1
         obtain ⟨g2',N2',ahV,ty2,PV⟩:=hi.blk Cf b2 h2
         have hg:g1≠g2:=hi.inj id1 Cf _ _ (by simp [h1]) (by simp [h2]) hne hm1 Cn
         rw [hB1.μ] at hm1
         rw [PV.μ] at Cn
         simp only [Option.some.injEq,Prod.mk.injEq] at hm1 Cn
         obtain ⟨rfl,_,_⟩:=hm1
         obtain ⟨rfl,_,_⟩:=Cn
         obtain ⟨hn1,XG⟩:=RT hnf ho
         have sY:(fn.name == "runtime.NumGoroutine")=false:=by
           unfold y4 at hnf
           simp only [Bool.and_eq_true,Bool.not_eq_true'] at hnf
           exact hnf.2
         have hae:c.args.map a.eval = #[.slice (some ⟨g1',o1*k1,none⟩) l1 c1, .slice (some ⟨g2',o2*k2,none⟩) l2 c2]:=by
           apply Array.ext'
           simp [m6,rn,y3]
         have hsz:ahV.size≠0:=by
           rw [PV.size]
           have hl:=PV.len
           exact Nat.ne_of_gt (Nat.mul_pos (by omega) ql.1)
         refine ⟨.bool false,w,E, .inl (PT hop y7 N3 sY hb hn1 XG ?_),⟨Adv.refl own E w,hi,by simp only [aT],fun _ _=>rfl⟩⟩
         rw [hae]
         exact X7 fn.params fn.resultTypes hp ht dH _ _ _ _ _ _ hg hB1.heap PV.heap hsz
       . simp at h
     . simp at h
 . simp at h
theorem Ip (hi:Inv G own E w σ) (hμ : E.μ p=none) (hσ : σ p=none) {t:List AV} {a:Act} (hf:cm E w t a) {b:Builtin} {args:Array Operand} {ts:Array TypeId} {ty:TypeId} {cs:Array Bool} {vo:gB a7}
   (hc:Ch P b args ts=some vo) {r:eS} (h:bO σ p (vo.map (a7.ev G t))=some r) {R:Prop}
   (fin:∀ {s:Sem Value},builtin b ts ty cs (args.map a.eval)=(do pure (.value (<- s)))->Sound P G own E w σ p s r->R):R:=by
 unfold Ch at hc
 split at hc
 . -- len
   rename_i x tx m6 X9
   have py:args = #[x]:=by apply Array.ext';simpa using m6
   have Km:ts = #[tx]:=by apply Array.ext';simpa using X9
   refine fin (s:=Builtin.len_ ts ty (args.map a.eval)) rfl ?_
   rw [py,Km]
   split at hc
   . rename_i hu
     simp only [Option.map_eq_some_iff] at hc;obtain ⟨va,Cc,rfl⟩:=hc
     simp only [gB.map,bO] at h
     have hr:=bd hf hi Cc
     refine Sound.fN h fun cc hcc => ?_
     cases hx:va.ev G t<;>simp only [hx,qS,Option.some.injEq,reduceCtorEq] at hcc
     rename_i l
     rw [hx] at hr
     simp only [aT] at hr
     subst hcc
     refine Sound.same (v := .int .i64 l.length) hi ?_ (by simp only [aT])
     have hsz:(ByteArray.mk l.toArray).size=l.length:=by show l.toArray.size=l.length;simp
     simp [Builtin.len_,run_underlying hu,hr,goInt,hsz]
   . rename_i e hu
     simp only [Option.map_eq_some_iff] at hc;obtain ⟨va,Cc,rfl⟩:=hc
     simp only [gB.map,bO] at h
     have hr:=bd hf hi Cc
     refine Sound.fN h fun cc hcc => ?_
     have hrun:∀ (ad:Option Addr) (n c:Nat),a.eval x = .slice ad n c->(Builtin.len_ #[tx] ty (#[x].map a.eval)).run P w = .ok (.int .i64 n) w:=by
       intro ad n c he
       simp [Builtin.len_,run_underlying hu,he,goInt]
     cases hx:va.ev G t<;>simp only [hx,qS,Option.some.injEq,reduceCtorEq] at hcc<;>rw [hx] at hr<;>simp only [aT] at hr<;>subst hcc
     . obtain ⟨ad,cap,he,_⟩:=hr
       exact Sound.same hi (hrun _ _ _ he) (by simp only [aT])
     . obtain ⟨ad,he,_⟩:=hr
       exact Sound.same hi (hrun _ _ _ he) (by simp only [aT])
     . exact Sound.same hi (hrun _ _ _ hr) (by simp only [aT];rfl)
     . obtain ⟨g,N,cap,_,he,_⟩:=hr
       exact Sound.same hi (hrun _ _ _ he) (by simp only [aT])
   . rename_i n e hu
     simp only [Option.map_eq_some_iff] at hc;obtain ⟨va,Cc,rfl⟩:=hc
     simp only [gB.map,bO] at h
     refine Sound.fN h fun cc hcc => ?_
     simp only [Option.some.injEq] at hcc;subst hcc
     refine Sound.same (v := .int .i64 n) hi ?_ (by simp only [aT])
     simp [Builtin.len_,run_underlying hu,goInt]
   . simp at hc
 . -- append
   rename_i s x t1 t2 m6 X9
   have py:args = #[s,x]:=by apply Array.ext';simpa using m6
   have Km:ts = #[t1,t2]:=by apply Array.ext';simpa using X9
   refine fin (s:=Builtin.append_ ts ty (args.map a.eval)) rfl ?_
   rw [py,Km]
   split at hc
   . rename_i e hu
     split at hc
     . rename_i i dH
       split at hc
       . rename_i hh
         obtain ⟨Ya,_,_,hz⟩:=hh
         obtain ⟨e',N4⟩:=Im Ya
         split at hc
         . rename_i vs vx N5 kU
           simp only [Option.some.injEq] at hc;subst hc
           simp only [gB.map,bO] at h
           obtain ⟨v,w',E',hr,hp⟩:=Kl (ty:=ty) hi hμ hσ hu dH hz (bd hf hi N5) (bd hf hi kU) h
           refine ⟨v,w',E', ?_,hp⟩
           rw [<- hr, <- DW (ty:=ty) hu N4]
           simp
         . simp at hc
       . split at hc
         . rename_i kn z vs vx Yb hz N5 kU
           split at hc
           . rename_i ql
             simp only [Option.some.injEq] at hc;subst hc
             simp only [gB.map,bO] at h
             have:=Oj (P:=P) (ty:=ty) hi hμ hσ hu dH Yb hz ql (bd hf hi N5) (bd hf hi kU) h
             simpa using this
           . simp at hc
         . simp at hc
     . simp at hc
   . simp at hc
 . -- cap
   rename_i x tx m6 X9
   have py:args = #[x]:=by apply Array.ext';simpa using m6
   have Km:ts = #[tx]:=by apply Array.ext';simpa using X9
   refine fin (s:=Builtin.cap_ ts ty (args.map a.eval)) rfl ?_
   rw [py,Km]
   split at hc
   . rename_i e hu
     simp only [Option.map_eq_some_iff] at hc;obtain ⟨va,Cc,rfl⟩:=hc
     simp only [gB.map,bO] at h
     have hr:=bd hf hi Cc
     rcases Ol h with h | ⟨id,k,off,len,bk,hx,jZ,amk,rfl⟩
     case inr =>
       rw [hx] at hr;simp only [aT] at hr
       obtain ⟨g,N,cap,Kk,hv,h1,h2,h3,h4⟩:=hr
       obtain ⟨g',N',cur,PI,hB⟩:=hi.blk id bk jZ
       rw [hB.μ] at Kk
       simp only [Option.some.injEq,Prod.mk.injEq] at Kk
       obtain ⟨rfl,_,rfl⟩:=Kk
       refine Sound.same (v := .int .i64 cap) hi (by simp [Builtin.cap_,run_underlying hu,hv,goInt]) ?_
       simp only [aT]
       have:=hB.len
       simp only [Bool.false_eq_true,if_false] at h4
       exact ⟨cap,by omega,rfl⟩
     refine Sound.fN h fun cc hcc => ?_
     have hrun:∀ (ad:Option Addr) (n c:Nat),a.eval x = .slice ad n c->(Builtin.cap_ #[tx] ty (#[x].map a.eval)).run P w = .ok (.int .i64 c) w:=by
       intro ad n c he
       simp [Builtin.cap_,run_underlying hu,he,goInt]
     unfold T6 at hcc
     split at hcc
     . rename_i hx
       rw [hx] at hr;simp only [aT] at hr
       simp only [Option.some.injEq] at hcc;subst hcc
       exact Sound.same hi (hrun _ _ _ hr) (by simp only [aT];rfl)
     . rename_i hx
       rw [hx] at hr;simp only [aT] at hr
       simp only [Option.some.injEq] at hcc;subst hcc
       obtain ⟨ad,he,_⟩:=hr
       exact Sound.same hi (hrun _ _ _ he) (by simp only [aT])
     . rename_i hx
       rw [hx] at hr;simp only [aT,if_true] at hr
       simp only [Option.some.injEq] at hcc;subst hcc
       obtain ⟨g,N,cap,_,he,_,_,_,X5⟩:=hr
       subst X5
       exact Sound.same hi (hrun _ _ _ he) (by simp only [aT])
     . simp at hcc
   . simp at hc
 . -- clear
   rename_i x tx m6 X9
   have py:args = #[x]:=by apply Array.ext';simpa using m6
   have Km:ts = #[tx]:=by apply Array.ext';simpa using X9
   refine fin (s:=Builtin.clear_ ts ty (args.map a.eval)) rfl ?_
   rw [py,Km]
   split at hc
   . rename_i e hu
     split at hc
     . rename_i z vx hz kU
       split at hc
       . rename_i ql
         simp only [Option.some.injEq] at hc;subst hc
         simp only [gB.map,bO] at h
         have:=LB (P:=P) (p:=p) (ty:=ty) hi hu hz ql (bd hf hi kU) h
         simpa using this
       . simp at hc
     . simp at hc
   . simp at hc
 . -- copy
   rename_i d x t1 t2 m6 X9
   have py:args = #[d,x]:=by apply Array.ext';simpa using m6
   have Km:ts = #[t1,t2]:=by apply Array.ext';simpa using X9
   refine fin (s:=Builtin.copy_ ts ty (args.map a.eval)) rfl ?_
   rw [py,Km]
   split at hc
   . rename_i e hu
     split at hc
     . rename_i i dH
       split at hc
       . split at hc
         . rename_i vd vx hvd kU
           simp only [Option.some.injEq] at hc;subst hc
           simp only [gB.map,bO] at h
           have:=Oh (P:=P) (p:=p) (ty:=ty) (t2:=t2) hi hu dH (bd hf hi hvd) (bd hf hi kU) h
           simpa using this
         . simp at hc
       . simp at hc
     . simp at hc
   . simp at hc
 . -- min
   rename_i x y m6
   have py:args = #[x,y]:=by apply Array.ext';simpa using m6
   refine fin (s:=Builtin.min_ ts ty (args.map a.eval)) rfl ?_
   rw [py]
   split at hc
   . rename_i vx vy kU Kn
     simp only [Option.some.injEq] at hc;subst hc
     simp only [gB.map,bO] at h
     have Yc:=bd hf hi kU
     have Yd:=bd hf hi Kn
     split at h
     . rename_i k n k' m hx hy
       rw [hx] at Yc;rw [hy] at Yd
       simp only [aT] at Yc Yd
       refine Sound.fN h fun cc hcc => ?_
       simp only [Option.some.injEq] at hcc;subst hcc
       refine Sound.same (v := .int k (if m<n then m else n)) hi ?_ (by simp only [aT])
       simp [Builtin.min_,Yc,Yd,Builtin.min2]
     . simp at h
   . simp at hc
 . -- max
   rename_i x y m6
   have py:args = #[x,y]:=by apply Array.ext';simpa using m6
   refine fin (s:=Builtin.max_ ts ty (args.map a.eval)) rfl ?_
   rw [py]
   split at hc
   . rename_i vx vy kU Kn
     simp only [Option.some.injEq] at hc;subst hc
     simp only [gB.map,bO] at h
     have Yc:=bd hf hi kU
     have Yd:=bd hf hi Kn
     split at h
     . rename_i k n k' m hx hy
       rw [hx] at Yc;rw [hy] at Yd
       simp only [aT] at Yc Yd
       refine Sound.fN h fun cc hcc => ?_
       simp only [Option.some.injEq] at hcc;subst hcc
       refine Sound.same (v := .int k (if m>n then m else n)) hi ?_ (by simp only [aT])
       simp [Builtin.max_,Yc,Yd,Builtin.max2]
     . simp at h
   . simp at hc
 . simp at hc
theorem Co:∀ {ys:List AV} {l:List UInt8},bytesOf ys=some l->∃ zs:List Int,ys=zs.map (AV.int .u8)/\l=zs.map fun n=>UInt8.ofNat n.toNat
 | [],l,h=>by simp only [bytesOf,Option.some.injEq] at h;subst h;exact ⟨[],rfl,rfl⟩
 | .int .u8 n::r,l,h=>by
   simp only [bytesOf,Option.map_eq_some_iff] at h
   obtain ⟨l',h1,rfl⟩:=h
   obtain ⟨zs,rfl,rfl⟩:=Co h1
   exact ⟨n::zs,rfl,rfl⟩
theorem Ja (k:IntKind):∀ zs:List Int,flat (zs.map (AV.int k))=zs.map (AV.int k)
 | []=>rfl
 | z::zs=>by have:=Ja k zs;simp only [List.map_cons,flat,List.flatMap_cons,AV.cells] at this ⊢;rw [this];rfl
theorem Gv (hi:Inv G own E w σ) {src dst e:TypeId} (hs:P.underlying src=some (.slice e)) (he:P.underlying e=some (.int .u8)) (hd:P.underlying dst=some .string) {x:AV} {v:Value} (hx:aT E w x v) {r:eS} (h:rj σ x=some r) :
   Sound P G own E w σ p (convert src dst v) r:=by
 unfold rj at h
 split at h
 . rename_i ys rd Cb
   simp only [Option.map_eq_some_iff] at h
   obtain ⟨l,hl,rfl⟩:=h
   obtain ⟨zs,rfl,rfl⟩:=Co hl
   obtain ⟨_,a,cap,rfl,hle,hr⟩:=Av hi hx Cb
   refine Sound.same (v := .string ⟨(zs.map fun n=>UInt8.ofNat n.toNat).toArray⟩) hi ?_ (by simp [aT])
   rcases hr with hr | ⟨b,o,rfl,hr⟩
   . have hz:zs=[]:=by simpa using hr
     subst hz
     rw [run_convert_bytes_string w src dst e _ _ _ hs he hd]
     cases a with
     | none=>simp [Conv.bytesToString];rfl
     | some a =>
       rw [run_bytesToString w a _ _ [] (by simp [loadCells,loadCellsFrom])]
       rfl
   . rw [Ja] at hr
     have:=run_convert_bytes_arg (P:=P) w src e hs he b o zs.length cap zs rfl (fun i hil=>by
       obtain ⟨v,h1,h2⟩:=hr i (.int .u8 zs[i]) (by rw [List.getElem?_map,List.getElem?_eq_getElem hil];rfl)
       simp only [aT] at h2
       subst h2
       have abC:(⟨b,o,none⟩:Addr).add i=⟨b,o+i,none⟩:=by simp [Addr.add]
       first | rw [abC] at h1 | skip
       rw [h1,List.getD_eq_getElem?_getD,List.getElem?_eq_getElem hil];rfl) dst hd
     simpa [strOfNums] using this
 . simp at h
theorem Cp {n:Int} (hn:0<=n/\n<128):Utf8.encode n=⟨[UInt8.ofNat n.toNat].toArray⟩:=by
 have hv:Utf8.valid n=true:=by unfold Utf8.valid;simp;omega
 unfold Utf8.encode
 simp only [hv,if_true]
 rw [if_pos (by omega)]
theorem RX (hi:Inv G own E w σ) (hμ : E.μ p=none) (hσ : σ p=none) {t:List AV} {a:Act} (hf:cm E w t a) {o:Oper} {vo:gB a7} (hc:oe P o.op=some vo) {r:eS}
   (h:bO σ p (vo.map (a7.ev G t))=some r):dU P G own E w σ p r (execOp a.eval o):=by
 unfold execOp
 cases ho:o.op<;>rw [ho] at hc<;>simp only []
 case move x =>
   simp only [oe,Option.map_eq_some_iff] at hc;obtain ⟨va,Cc,rfl⟩:=hc
   simp only [gB.map,bO,bz,Option.map_some,Option.some.injEq] at h;subst h
   exact ⟨a.eval x,w,E, .inl rfl,Adv.refl own E w,hi,bd hf hi Cc,fun _ _=>rfl⟩
 case assign x =>
   simp only [oe,Option.map_eq_some_iff] at hc;obtain ⟨va,Cc,rfl⟩:=hc
   simp only [gB.map,bO,bz,Option.map_some,Option.some.injEq] at h;subst h
   exact ⟨a.eval x,w,E, .inl rfl,Adv.refl own E w,hi,bd hf hi Cc,fun _ _=>rfl⟩
 case pick c x y =>
   simp only [oe] at hc
   cases Ye:cJ c with
   | none=>simp [Ye] at hc
   | some vc =>
   cases kU:cJ x with
   | none=>simp [Ye,kU] at hc
   | some vx =>
   cases Kn:cJ y with
   | none=>simp [Ye,kU,Kn] at hc
   | some vy =>
     simp only [Ye,kU,Kn,Option.some.injEq] at hc;subst hc
     simp only [gB.map,bO] at h
     have XZ:=bd hf hi Ye
     have Yc:=bd hf hi kU
     have Yd:=bd hf hi Kn
     split at h
     . rename_i b hb
       rw [hb] at XZ
       simp only [aT] at XZ
       simp only [bz,Option.map_some,Option.some.injEq] at h;subst h
       refine ⟨if b then a.eval x else a.eval y,w,E, .inl (by simp [XZ,asBool]),Adv.refl own E w,hi, ?_,fun _ _=>rfl⟩
       cases b
       . exact Yd
       . exact Yc
     . simp at h
 case alloc ty =>
   simp only [oe,Option.map_eq_some_iff] at hc;obtain ⟨z,hz,rfl⟩:=hc
   simp only [gB.map,bO,a7.ev] at h
   obtain ⟨it,zv,hit,N0,Bo,PK,PL⟩:=lK hz
   split at h
   . simp only [Option.some.injEq] at h;subst h
     have:=I7 (P:=P) (p:=p) hi hμ hσ (iQ Bo) PL ty
     refine dU.of ?_
     obtain ⟨v,w',E',hr,hp⟩:=this
     refine ⟨v,w',E', ?_,hp⟩
     simp only [Instr.alloc,Sem.run_bind,A5 hit N0,Result.andThen_ok]
     exact hr
   . rename_i hno;exact absurd PL hno
 case box ty x =>
   simp only [oe,Option.map_eq_some_iff] at hc;obtain ⟨va,Cc,rfl⟩:=hc
   simp only [gB.map,bO] at h
   split at h
   . rename_i DO
     simp only [Option.some.injEq] at h;subst h
     exact dU.of (I7 hi hμ hσ (bd hf hi Cc) DO ty)
   . simp at h
 case build ty ps=>exact dU.of (Lx hi hf hc h)
 case buildSlice ty n ps=>exact dU.of (Ii hi hμ hσ hf hc h)
 case load ty x =>
   simp only [oe] at hc
   cases ha:px P ty with
   | none=>simp [ha] at hc
   | some g =>
   cases Ft:P.info? ty with
   | none=>simp [ha,Ft] at hc
   | some i =>
   cases kU:cJ x with
   | none=>simp [ha,Ft,kU] at hc
   | some vx =>
     simp only [ha,Ft,kU] at hc
     split at hc
     . simp only [Option.some.injEq] at hc;subst hc
       simp only [gB.map,bO] at h
       exact dU.of (Lw hi ha Ft (bd hf hi kU) h)
     . simp at hc
 case store ty x y =>
   simp only [oe] at hc
   cases Ft:P.info? ty with
   | none=>simp [Ft] at hc
   | some i =>
   cases kU:cJ x with
   | none=>simp [Ft,kU] at hc
   | some vx =>
   cases Kn:cJ y with
   | none=>simp [Ft,kU,Kn] at hc
   | some vy =>
     simp only [Ft,kU,Kn,Option.some.injEq] at hc;subst hc
     simp only [gB.map,bO] at h
     exact dU.ofU (Ka hi Ft (bd hf hi kU) (bd hf hi Kn) h)
 case nilCheck x =>
   simp only [oe,Option.map_eq_some_iff] at hc;obtain ⟨va,Cc,rfl⟩:=hc
   simp only [gB.map,bO] at h
   have hr:=bd hf hi Cc
   split at h
   . rename_i id e q hx
     simp only [bz,Option.map_some,Option.some.injEq] at h;subst h
     rw [hx] at hr ⊢
     have Gp:=hr
     simp only [aT] at hr
     obtain ⟨g,k,N,hm,he⟩:=hr
     exact ⟨a.eval x,w,E, .inl (by rw [he];rfl),Adv.refl own E w,hi,Gp,fun _ _=>rfl⟩
   . rename_i cs q hx
     simp only [bz,Option.map_some,Option.some.injEq] at h;subst h
     rw [hx] at hr ⊢
     have Gp:=hr
     simp only [aT] at hr
     obtain ⟨b,q,he,_⟩:=hr
     exact ⟨a.eval x,w,E, .inl (by rw [he];rfl),Adv.refl own E w,hi,Gp,fun _ _=>rfl⟩
   . rename_i f l1 l2 hx
     simp only [bz,Option.map_some,Option.some.injEq] at h;subst h
     rw [hx] at hr ⊢
     have Gp:=hr
     simp only [aT] at hr
     obtain ⟨xs,ys,he,_⟩:=hr
     exact ⟨a.eval x,w,E, .inl (by rw [he];rfl),Adv.refl own E w,hi,Gp,fun _ _=>rfl⟩
   . simp at h
 case binOp op ty x y PI =>
   simp only [oe] at hc
   cases PJ:RG P ty with
   | none=>simp [PJ] at hc
   | some sh =>
   cases kU:cJ x with
   | none=>simp [PJ,kU] at hc
   | some vx =>
   cases Kn:cJ y with
   | none=>simp [PJ,kU,Kn] at hc
   | some vy =>
     simp only [PJ,kU,Kn,Option.some.injEq] at hc;subst hc
     simp only [gB.map,bO] at h
     refine dU.of (Sound.fN h fun c hcc => ?_)
     unfold bR at hcc
     split at hcc
     . rename_i c' ahW
       simp only [Option.some.injEq] at hcc;subst hcc
       obtain ⟨h1,h2,h3,h4⟩:=Uh (P:=P) PJ ahW (bd hf hi kU) (bd hf hi Kn)
       refine Sound.same hi ?_ (I3 h2)
       simp only [Sem.run_bind,Cj op ty x y _ _ h3 h4,Result.andThen_ok]
       exact h1
     . obtain ⟨⟨q,h1,h2⟩,h3,h4⟩:=RM (P:=P) PJ hcc (bd hf hi kU) (bd hf hi Kn)
       refine Sound.same (v := .bool q) hi ?_ h1
       simp only [Sem.run_bind,Cj op ty x y _ _ h3 h4,Result.andThen_ok]
       exact h2
 case unOp op ty x =>
   simp only [oe,Option.map_eq_some_iff] at hc;obtain ⟨va,Cc,rfl⟩:=hc
   simp only [gB.map,bO] at h
   refine dU.of (Sound.fN h fun c hcc => ?_)
   obtain ⟨h1,h2⟩:=XY (P:=P) hcc (bd hf hi Cc)
   exact Sound.same hi h1 (I3 h2)
 case convert src dst x =>
   simp only [oe] at hc
   split at hc
   . rename_i k1 k2 h1 h2
     simp only [Option.map_eq_some_iff] at hc;obtain ⟨va,Cc,rfl⟩:=hc
     simp only [gB.map,bO] at h
     have hr:=bd hf hi Cc
     split at h
     . rename_i k n hx
       rw [hx] at hr
       simp only [aT] at hr
       simp only [bz,Option.map_some,Option.some.injEq] at h;subst h
       refine dU.of (Sound.same (v := .int k2 (k2.wrap n)) hi ?_ (by simp [aT]))
       rw [hr]
       simp [convert,run_underlying h1,run_underlying h2,Conv.intToInt]
     . simp at h
   . rename_i h1 h2
     simp only [Option.map_eq_some_iff] at hc;obtain ⟨va,Cc,rfl⟩:=hc
     simp only [gB.map,bO] at h
     have hr:=bd hf hi Cc
     split at h
     . rename_i l hx
       rw [hx] at hr h
       have Gp:=hr
       simp only [aT] at hr
       simp only [bz,Option.map_some,Option.some.injEq] at h;subst h
       refine dU.of (Sound.same hi ?_ Gp)
       rw [hr]
       simp [convert,run_underlying h1,run_underlying h2]
     . rename_i k n hx
       rw [hx] at hr
       simp only [aT] at hr
       split at h
       . rename_i hn
         simp only [bz,Option.map_some,Option.some.injEq] at h;subst h
         refine dU.of (Sound.same (v := .string (Utf8.encode n)) hi ?_ (by simp [aT,Cp hn]))
         rw [hr]
         simp [convert,run_underlying h1,run_underlying h2,Conv.intToString]
       . simp at h
     . simp at h
   . rename_i k1 h1 h2
     simp only [Option.map_eq_some_iff] at hc;obtain ⟨va,Cc,rfl⟩:=hc
     simp only [gB.map,bO] at h
     have hr:=bd hf hi Cc
     split at h
     . rename_i l hx
       rw [hx] at hr h
       have Gp:=hr
       simp only [aT] at hr
       simp only [bz,Option.map_some,Option.some.injEq] at h;subst h
       refine dU.of (Sound.same hi ?_ Gp)
       rw [hr]
       simp [convert,run_underlying h1,run_underlying h2]
     . rename_i k n hx
       rw [hx] at hr
       simp only [aT] at hr
       split at h
       . rename_i hn
         simp only [bz,Option.map_some,Option.some.injEq] at h;subst h
         refine dU.of (Sound.same (v := .string (Utf8.encode n)) hi ?_ (by simp [aT,Cp hn]))
         rw [hr]
         simp [convert,run_underlying h1,run_underlying h2,Conv.intToString]
       . simp at h
     . simp at h
   . rename_i e h1 h2
     split at hc
     . rename_i he
       simp only [Option.map_eq_some_iff] at hc;obtain ⟨va,Cc,rfl⟩:=hc
       simp only [gB.map,bO] at h
       exact dU.of (Gv hi h1 he h2 (bd hf hi Cc) h)
     . simp at hc
   . simp at hc
 case makeFunc fn first cap =>
   simp only [oe] at hc
   cases h1:Gl first with
   | none=>simp [h1] at hc
   | some va =>
   cases h2:Gl cap with
   | none=>simp [h1,h2] at hc
   | some vc =>
     simp only [h1,h2,Option.some.injEq] at hc;subst hc
     simp only [gB.map,bO,bz,Option.map_some,Option.some.injEq] at h;subst h
     refine dU.of (Sound.same (v := .func fn (first.map a.eval) (cap.map a.eval)) hi (by simp [Instr.makeFunc]) ?_)
     simp only [aT]
     exact ⟨_,_,rfl,DN hf hi h1,DN hf hi h2⟩
 case makeSlice ty l c =>
   simp only [oe] at hc
   cases hu:P.underlying ty with
   | none=>simp [hu] at hc
   | some d =>
   cases d<;>simp only [hu,reduceCtorEq] at hc
   rename_i e
   cases dH:P.info? e with
   | none=>simp [dH] at hc
   | some i =>
   cases hz:na P e with
   | none=>simp [dH,hz] at hc
   | some z =>
   cases yv:cJ l with
   | none=>simp [dH,hz,yv] at hc
   | some vl =>
   cases Ye:cJ c with
   | none=>simp [dH,hz,yv,Ye] at hc
   | some vc =>
     simp only [dH,hz,yv,Ye] at hc
     split at hc
     . rename_i hh
       simp only [Option.some.injEq] at hc;subst hc
       simp only [gB.map,bO] at h
       exact dU.of (Od hi hμ hσ hu dH hz hh.1 (bd hf hi yv) (bd hf hi Ye) h)
     . simp at hc
 case slice ty x lo qk mx =>
   simp only [oe] at hc
   cases hu:P.underlying ty with
   | none=>simp [hu] at hc
   | some d =>
   cases d<;>simp only [hu,reduceCtorEq] at hc
   case string =>
     cases kU:cJ x with
     | none=>simp [kU] at hc
     | some vx =>
     cases yv:DL lo with
     | none=>simp [kU,yv] at hc
     | some vl =>
     cases Yf:DL qk with
     | none=>simp [kU,yv,Yf] at hc
     | some vh =>
     cases mx with
     | some _=>simp [kU,yv,Yf] at hc
     | none =>
       simp only [kU,yv,Yf,Option.some.injEq] at hc;subst hc
       simp only [gB.map,bO] at h
       refine dU.of (Sound.fN h fun c hcc => ?_)
       exact Ik hi hu (bd hf hi kU) (y6 hf hi yv) (y6 hf hi Yf) hcc
   case slice e =>
     cases dH:P.info? e with
     | none=>simp [dH] at hc
     | some i =>
     cases kU:cJ x with
     | none=>simp [dH,kU] at hc
     | some vx =>
     cases yv:DL lo with
     | none=>simp [dH,kU,yv] at hc
     | some vl =>
     cases Yf:DL qk with
     | none=>simp [dH,kU,yv,Yf] at hc
     | some vh =>
     cases hvm:DL mx with
     | none=>simp [dH,kU,yv,Yf,hvm] at hc
     | some vm =>
       simp only [dH,kU,yv,Yf,hvm] at hc
       split at hc
       . rename_i hh
         simp only [Option.some.injEq] at hc;subst hc
         simp only [gB.map,bO] at h
         exact dU.of (Io hi hu dH (bd hf hi kU) (y6 hf hi yv) (y6 hf hi Yf) (y6 hf hi hvm) (by simpa using hh) h)
       . simp at hc
 case fieldAddr s x f =>
   simp only [oe] at hc
   cases hu:P.underlying s with
   | none=>simp [hu] at hc
   | some d =>
   cases d<;>simp only [hu,reduceCtorEq] at hc
   rename_i fs
   cases hfd:fs[f]? with
   | none=>simp [hfd] at hc
   | some fd =>
   simp only [hfd] at hc
   cases dH:P.info? fd.type with
   | none=>simp [dH] at hc
   | some i =>
   cases kU:cJ x with
   | none=>simp [dH,kU] at hc
   | some vx =>
     simp only [dH,kU] at hc
     split at hc
     . simp at hc
     . rename_i h0
       simp only [Option.some.injEq] at hc;subst hc
       exact dU.of (Ly hi hu hfd dH h0 (bd hf hi kU) h)
 case field s x f =>
   simp only [oe] at hc
   cases hu:P.underlying s with
   | none=>simp [hu] at hc
   | some d =>
   cases d<;>simp only [hu,reduceCtorEq] at hc
   rename_i fs
   cases hfd:fs[f]? with
   | none=>simp [hfd] at hc
   | some fd =>
   simp only [hfd] at hc
   cases TR:px P fd.type with
   | none=>simp [TR] at hc
   | some g =>
   cases dH:P.info? fd.type with
   | none=>simp [TR,dH] at hc
   | some i =>
   cases kU:cJ x with
   | none=>simp [TR,dH,kU] at hc
   | some vx =>
     simp only [TR,dH,kU,Option.some.injEq] at hc;subst hc
     simp only [gB.map,bO] at h
     have hr:=bd hf hi kU
     split at h
     . rename_i cs hx
       rw [hx] at hr
       simp only [aT] at hr
       obtain ⟨xs,he,hr⟩:=hr
       refine dU.of (Sound.fN h fun c hcc => ?_)
       obtain ⟨v,hv,Gn⟩:=Lz (P:=P) TR dH hr hcc
       refine Sound.same hi ?_ Gn
       rw [he]
       simp [Instr.field,run_underlying hu,hfd,asAgg,hv]
     . simp at h
 case indexAddr ty x ix =>
   simp only [oe] at hc
   cases hu:P.underlying ty with
   | none=>simp [hu] at hc
   | some d =>
   cases d<;>simp only [hu,reduceCtorEq] at hc
   case slice e =>
     cases dH:P.info? e with
     | none=>simp [dH] at hc
     | some i =>
     cases kU:cJ x with
     | none=>simp [dH,kU] at hc
     | some vx =>
     cases Om:cJ ix with
     | none=>simp [dH,kU,Om] at hc
     | some vi =>
       simp only [dH,kU,Om,Option.some.injEq] at hc;subst hc
       simp only [gB.map,bO] at h
       refine dU.of (Sound.fN h fun c hcc => ?_)
       exact Kg hi hu dH (bd hf hi kU) (bd hf hi Om) hcc
   case array n e =>
     cases dH:P.info? e with
     | none=>simp [dH] at hc
     | some i =>
     cases kU:cJ x with
     | none=>simp [dH,kU] at hc
     | some vx =>
     cases Om:cJ ix with
     | none=>simp [dH,kU,Om] at hc
     | some vi =>
       simp only [dH,kU,Om,Option.some.injEq] at hc;subst hc
       simp only [gB.map,bO] at h
       refine dU.of (Sound.fN h fun c hcc => ?_)
       exact Kh hi hu dH (bd hf hi kU) (bd hf hi Om) hcc
 case index ty x ix =>
   simp only [oe] at hc
   cases hu:P.underlying ty with
   | none=>simp [hu] at hc
   | some d =>
   cases d<;>simp only [hu,reduceCtorEq] at hc
   case string =>
     cases kU:cJ x with
     | none=>simp [kU] at hc
     | some vx =>
     cases Om:cJ ix with
     | none=>simp [kU,Om] at hc
     | some vi =>
       simp only [kU,Om,Option.some.injEq] at hc;subst hc
       simp only [gB.map,bO] at h
       have hr:=bd hf hi kU
       have Yg:=bd hf hi Om
       split at h
       . rename_i s k n hx hn
         rw [hx] at hr;rw [hn] at Yg
         simp only [aT] at hr Yg
         split at h
         . rename_i h0
           refine dU.of (Sound.fN h fun c hcc => ?_)
           simp only [Option.map_eq_some_iff] at hcc
           obtain ⟨b,hb,rfl⟩:=hcc
           refine Sound.same (v := .int .u8 b.toNat) hi ?_ (by simp [aT])
           rw [hr,Yg]
           have RR:(ByteArray.mk s.toArray)[n.toNat]? = some b:=by
             have hlt:=(List.getElem?_eq_some_iff.1 hb)
             obtain ⟨h1,h2⟩:=hlt
             rw [getElem?_pos (ByteArray.mk s.toArray) n.toNat (by simpa [ByteArray.size] using h1)]
             congr 1
           simp [Instr.index,run_underlying hu,asIntOf,h0,RR]
         . simp at h
       . simp at h
   case array n e =>
     cases TR:px P e with
     | none=>simp [TR] at hc
     | some g =>
     cases dH:P.info? e with
     | none=>simp [TR,dH] at hc
     | some i =>
     cases kU:cJ x with
     | none=>simp [TR,dH,kU] at hc
     | some vx =>
     cases Om:cJ ix with
     | none=>simp [TR,dH,kU,Om] at hc
     | some vi =>
       simp only [TR,dH,kU,Om,Option.some.injEq] at hc;subst hc
       simp only [gB.map,bO] at h
       have hr:=bd hf hi kU
       have Yg:=bd hf hi Om
       split at h
       . rename_i cs k m hx hn
         rw [hx] at hr;rw [hn] at Yg
         simp only [aT] at hr Yg
         obtain ⟨xs,he,hr⟩:=hr
         split at h
         . rename_i h0
           refine dU.of (Sound.fN h fun c hcc => ?_)
           obtain ⟨v,hv,Gn⟩:=Lz (P:=P) TR dH hr hcc
           refine Sound.same hi ?_ Gn
           rw [he,Yg]
           simp [Instr.index,run_underlying hu,asIntOf,h0,eX dH,hv]
         . simp at h
       . simp at h
 case extract x i =>
   simp only [oe,Option.map_eq_some_iff] at hc;obtain ⟨va,Cc,rfl⟩:=hc
   simp only [gB.map,bO] at h
   have hr:=bd hf hi Cc
   split at h
   . rename_i vs hx
     rw [hx] at hr
     simp only [aT] at hr
     obtain ⟨xs,he,hr⟩:=hr
     refine dU.of (Sound.fN h fun c hcc => ?_)
     obtain ⟨v,hv,Gn⟩:=(bI.1 hr).2 i c hcc
     refine Sound.same hi ?_ Gn
     rw [he]
     simp at hv
     simp [Instr.extract,hv]
   . simp at h
 case call c =>
   simp only [oe] at hc
   cases y7:c.callee with
   | value f =>
     simp only [y7] at hc
     split at hc
     . split at hc
       . simp only [Option.some.injEq] at hc;subst hc
         simp [gB.map,bO] at h
       . simp at hc
     . rename_i k hk
       unfold XX at hc
       split at hc
       . rename_i x y m6
         split at hc
         . rename_i vx vy kU Kn
           simp only [Option.some.injEq] at hc;subst hc
           cases k with
           | idx =>
             simp only [gB.map,bO] at h
             have hh:=RU (p:=p) ho y7 hk m6 hi (bd hf hi kU) (bd hf hi Kn) h
             unfold execOp at hh;simp only [ho] at hh;exact hh
           | ovl =>
             simp only [gB.map,bO] at h
             have hh:=RW (p:=p) ho y7 hk m6 hi (bd hf hi kU) (bd hf hi Kn) h
             unfold execOp at hh;simp only [ho] at hh;exact hh
         . simp at hc
       . simp at hc
   | invoke _ _=>simp [y7] at hc
   | builtin b =>
     simp only [y7] at hc
     have LC:∀ w,(do let d <- resolve a.eval c o.type;invoke d.target d.args:Sem Next).run P w =
         (builtin b c.argTypes o.type (c.args.map fun | .const _=>true | _=>false) (c.args.map a.eval)).run P w:=by
       intro w;simp [resolve,y7,invoke];rfl
     have fin:∀ {s:Sem Value},builtin b c.argTypes o.type (c.args.map fun | .const _=>true | _=>false) (c.args.map a.eval)=(do pure (.value (<- s)))->Sound P G own E w σ p s r ->
         dU P G own E w σ p r (do let d <- resolve a.eval c o.type;invoke d.target d.args):=by
       intro s he hs
       obtain ⟨v,w',E',hr,hp⟩:=hs
       exact ⟨v,w',E', .inl (by rw [LC,he];simp [hr]),hp⟩
     exact Ip hi hμ hσ hf hc h fin
 all_goals simp [oe] at hc
theorem Ut (hi:Inv G own E w σ) (hμ : E.μ p=none) (hσ : σ p=none) {t:List AV} {a:Act} (hf:cm E w t a) {o:Oper} {vo:gB a7} (hc:cOp P o.op=some vo) {r:eS}
   (h:bO σ p (vo.map (a7.ev G t))=some r):dU P G own E w σ p r (execOp a.eval o):=by
 unfold cOp at hc
 split at hc
 . rename_i v hv
   simp only [Option.some.injEq] at hc;subst hc
   exact RX hi hμ hσ hf hv h
 . simp only [Option.some.injEq] at hc;subst hc
   simp [gB.map,bO] at h
end
end Go.VL
end

section
namespace Go.VL
def aZ (P:Program) (G:Nat->Option (List AV)) (f:FuncId) (args:List AV) (p:Id) (S:List (Id × cZ)) (r:eS):Prop :=
 (∃ fn,P.funcs[f]? = some fn/\(fn.name == "runtime.NumGoroutine")=false/\fn.body.isSome=true) /\
 ∀ own E w σ vs,(∀ x∈S, σ x.1=some x.2)->Inv G own E w σ -> bc E w args vs->(∀ j,p <:+ j->E.μ j=none) ->
   Calls P f vs.toArray w fun e w'=>∃ v E',e = .returned v/\lJ G own E w σ p r v E' w'
def j5 (P:Program) (G:Nat->Option (List AV)) (σ : af) (p:Id) (op:gB AV) (r:eS):Prop :=
 match op with
 | .call f as=>match f with
   | .fn (.func f) first cap=>∃ S,aZ P G f (first++as++cap) p S r/\(∀ x∈S, σ x.1=some x.2)/\∀ x∈S,x.1∈r.rd
   | _=>False
 | op=>bO σ p op=some r
def gl (t:List AV) (d:Option Nat) (v:AV):List AV:=match d with | some d=>t.set d v | none=>t
def eY (t:List AV):Option (Nat × Bool)->Option Bool
 | none=>some true
 | some (d,want)=>match t[d]? with
   | some (.bool b)=>some (b==want)
   | some .top | some .anyb=>none
   | _=>some false
section
variable {P:Program} {G:Nat->Option (List AV)} {own:Nat->Prop} {E:Env} {w:World} {σ : af} {p:Id}
theorem cm.keep {E':Env} {w':World} {t:List AV} {a:Act} (h:cm E w t a) (s:Step E E' w w'):cm E' w' t a:=bc.keep s t _ h
theorem cm.put {t:List AV} {a:Act} (h:cm E w t a) {c:AV} {v:Value} (hv:aT E w c v) (d:Option Nat):cm E w (gl t d c) (a.put d v):=by
 cases d with
 | none=>exact h
 | some d =>
   obtain ⟨hl,hp⟩:=bI.1 h
   refine bI.2 ⟨by simpa [gl,Act.put] using hl,fun j c' hj => ?_⟩
   simp only [gl,List.getElem?_set] at hj
   simp only [Act.put,Array.toList_setIfInBounds,List.getElem?_set]
   split at hj
   . rename_i e
     subst e
     split at hj
     . rename_i hlt
       simp only [Option.some.injEq] at hj;subst hj
       exact ⟨v,by rw [if_pos rfl,if_pos (by omega)],hv⟩
     . simp at hj
   . rename_i e
     rw [if_neg e]
     exact hp j c' hj
theorem cm.at? {t:List AV} {a:Act} (h:cm E w t a) (d:Nat):(t[d]? = none/\a.tmps[d]? = none)∨∃ c v,t[d]? = some c/\a.tmps[d]? = some v/\aT E w c v:=by
 obtain ⟨hl,hp⟩:=bI.1 h
 by_cases hd:d<t.length
 . right
   obtain ⟨v,hv,hr⟩:=hp d t[d] (by simp [hd])
   exact ⟨t[d],v,by simp [hd],by simpa using hv,hr⟩
 . left
   have:a.tmps.size<=d:=by have:=hl;simp at this;omega
   exact ⟨by simp;omega,by simp;omega⟩
theorem Ko {c:AV} {v:Value} (h:aT E w c v) (h1:∀ b,c ≠ .bool b) (h2:c ≠ .top) (h3:c ≠ .anyb):∀ b,v ≠ .bool b:=by
 intro b e
 subst e
 cases c<;>simp only [aT,reduceCtorEq,exists_const,false_and,and_false] at h
 . exact h1 _ rfl
 all_goals first
   | exact h2 rfl
   | exact h3 rfl
   | (obtain ⟨_,_,h,_⟩:=h;cases h)
   | (obtain ⟨_,h,_⟩:=h;cases h)
   | (obtain ⟨_,_,h⟩:=h;cases h)
theorem wK {ops:Array Oper} {o:Oper} {vo:bx} (hc:A3 P ops o=some vo) {t:List AV} {a:Act} (hf:cm E w t a) {b:Bool} (h:eY t vo.guard=some b):Region.wanted o (yielded ops a.tmps)=b:=by
 unfold A3 at hc
 cases hop:cOp P o.op with
 | none=>simp [hop] at hc
 | some op =>
   simp only [hop] at hc
   cases hg:o.guard with
   | none =>
     simp only [hg,Option.some.injEq] at hc;subst hc
     simp only [eY,Option.some.injEq] at h;subst h
     simp [Region.wanted,hg]
   | some jw =>
     obtain ⟨j,want⟩:=jw
     simp only [hg] at hc
     cases hd:(ops[j]?).bind (·.dst) with
     | none=>simp [hd] at hc
     | some d =>
       simp only [hd,Option.some.injEq] at hc;subst hc
       simp only [eY] at h
       simp only [Region.wanted,hg,yielded,hd,Option.bind_some]
       rcases hf.at? d with ⟨h1,h2⟩ | ⟨c,v,h1,h2,hr⟩
       . simp only [h1,Option.some.injEq] at h;subst h
         simp [h2]
       . simp only [h1] at h
         simp only [h2]
         cases c with
         | bool b' =>
           simp only [Option.some.injEq] at h;subst h
           simp only [aT] at hr;subst hr
           simp
         | top=>simp at h
         | anyb=>simp at h
         | _ =>
           simp only [Option.some.injEq] at h;subst h
           have XH:=Ko hr (by simp) (by simp) (by simp)
           cases v<;>simp at XH ⊢
theorem LD {ops:Array Oper} {o:Oper} {vo:bx} (hc:A3 P ops o=some vo):cOp P o.op=some vo.op/\vo.dst=o.dst:=by
 unfold A3 at hc
 cases hop:cOp P o.op with
 | none=>simp [hop] at hc
 | some op =>
   simp only [hop] at hc
   split at hc
   . simp only [Option.some.injEq] at hc;subst hc;simp_all
   . split at hc
     . simp only [Option.some.injEq] at hc;subst hc;simp_all
     . simp at hc
   . simp_all
theorem Yh {k:XW} {l:List Operand} (f:a7) (as:List a7):XX k l≠some (.call f as):=by
 unfold XX
 split
 . split
   . cases k<;>simp
   . simp
 . simp
theorem Gw (hi:Inv G own E w σ) (hμ : ∀ j,p <:+ j->E.μ j=none) {t:List AV} {a:Act} (hf:cm E w t a) {o:Oper} {vo:gB a7} (hc:cOp P o.op=some vo) {r:eS}
   (h:j5 P G σ p (vo.map (a7.ev G t)) r) {K:Act->World->Prop} {Q:Exit->Act->World->Prop} (hK:∀ v w' E',lJ G own E w σ p r v E' w'->K (a.put o.dst v) w'):o.wp P a w K Q:=by
 have hσ : σ p=none:=by
   cases hs : σ p with
   | none=>rfl
   | some bk=>obtain ⟨g,N,cur,ty,hB⟩:=hi.blk _ _ hs;have:=hB.μ;rw [hμ _ (List.suffix_refl _)] at this;simp at this
 have plain:bO σ p (vo.map (a7.ev G t))=some r->o.wp P a w K Q:=by
   intro hv
   obtain ⟨v,w',E',hrun,hp⟩:=Ut hi (hμ p (List.suffix_refl _)) hσ hf hc hv
   unfold Oper.wp
   rcases hrun with hrun | ⟨hrun,rfl⟩
   . rw [hrun];exact hK v w' E' hp
   . rw [hrun];exact hK undef w' E' hp
 cases vo with
 | call f as =>
   replace hc:oe P o.op=some (.call f as):=by
     unfold cOp at hc
     split at hc
     . rename_i v hv;rw [hv];exact hc
     . simp at hc
   simp only [gB.map,j5] at h
   split at h
   . rename_i f' fid first cap Um
     obtain ⟨S,Uu,hS,_⟩:=h
     obtain ⟨⟨fn,N3,sY,aeo⟩,Uu⟩:=Uu
     cases hop:o.op with
     | call c =>
       rw [hop] at hc
       simp only [oe] at hc
       cases y7:c.callee with
       | value fo =>
         simp only [y7] at hc
         split at hc
         case h_2=>exact absurd hc (Yh _ _)
         split at hc
         . rename_i vf vas h1 h2
           simp only [Option.some.injEq,gB.call.injEq] at hc
           obtain ⟨rfl,rfl⟩:=hc
           have hrf:=bd hf hi h1
           rw [Um] at hrf
           simp only [aT] at hrf
           obtain ⟨xs,ys,hfv,hx,hy⟩:=hrf
           have hra:=DN hf hi h2
           have m6:bc E w (first++vas.map (a7.ev G t)++cap) (xs.toList++(c.args.map a.eval).toList++ys.toList):=bc.append (bc.append hx hra) hy
           have Ig:=Uu own E w σ _ hS hi m6 hμ
           have hrun:(execOp a.eval o).run P w = .ok (.enter fid (xs++c.args.map a.eval++ys)) w:=by
             have XH : ¬ fn.body=none:=by intro e;simp [e] at aeo
             have hnn : ¬ fn.name = "runtime.NumGoroutine" := by intro e;simp [e] at sY
             simp [execOp,hop,resolve,y7,hfv,Deferred.ofValue,invoke,callFunc,N3,hnn,XH]
           unfold Oper.wp
           rw [hrun,Oper.upon_enter]
           have hae:(xs.toList++(c.args.map a.eval).toList++ys.toList).toArray=xs++c.args.map a.eval++ys:=by apply Array.ext';simp
           rw [hae] at Ig
           refine Ig.mono fun e w' he => ?_
           obtain ⟨v,E',rfl,hp⟩:=he
           exact hK v w' E' hp
         . simp at hc
       | invoke _ _=>simp [y7] at hc
       | builtin b =>
         simp only [y7] at hc
         unfold Ch at hc
         split at hc<;>(try split at hc)<;>(try split at hc)<;>(try split at hc)<;>(try split at hc)<;>simp at hc
     | _ =>
       rw [hop] at hc
       simp only [oe] at hc
       exfalso
       revert hc
       clear plain Um
       intro hc
       first
         | simp at hc
         | (simp only [Option.map_eq_some_iff] at hc;obtain ⟨_,_,hc⟩:=hc;cases hc)
         | ((repeat' split at hc)<;>first | (simp at hc;done) | (simp only [Option.map_eq_some_iff] at hc;obtain ⟨_,_,hc⟩:=hc;cases hc) | (cases hc))
   . exact h.elim
 | _=>exact plain h
end
end Go.VL
end

section
namespace Go.VL
abbrev Done:=Option Nat × eS
def eZ (X:Nat->Bool):List Done->Nat->List AV->List AV
 | [],_,t=>t
 | (d,r)::L,i,t=>eZ X L (i+1) (if X i then gl t d r.val else t)
def gJ (X:Nat->Bool):List Done->Nat->af->af
 | [],_, σ => σ
 | (_,r)::L,i, σ => gJ X L (i+1) (if X i then σ.app r.up else σ)
theorem uV (t:List AV) (d:Option Nat) (v:AV) (s:Nat):(gl t d v)[s]? = if d=some s then (if s<t.length then some v else none) else t[s]? := by
 cases d with
 | none=>simp [gl]
 | some d =>
   simp only [gl,List.getElem?_set,Option.some.injEq]
   by_cases e:d=s
   . subst e;simp
   . simp [e]
theorem LF (t:List AV) (d:Option Nat) (v:AV):(gl t d v).length=t.length:=by cases d<;>simp [gl]
theorem Jb (X:Nat->Bool):∀ (L:List Done) (i:Nat) (t:List AV),(eZ X L i t).length=t.length
 | [],_,_=>rfl
 | (d,r)::L,i,t=>by
   simp only [eZ];rw [Jb X L]
   split
   . exact LF t d r.val
   . rfl
theorem RY {t t':List AV} {s:Nat} (h:t[s]? = t'[s]?):(s<t.length)=(s<t'.length):=by
 have h1:s<t.length↔t[s]? ≠ none:=by simp
 have h2:s<t'.length↔t'[s]? ≠ none:=by simp
 exact propext (h1.trans ((by rw [h]:t[s]? ≠ none↔t'[s]? ≠ none).trans h2.symm))
theorem sZ {X Y:Nat->Bool} {s:Nat}:∀ (L:List Done) (i:Nat) (t t':List AV),t[s]? = t'[s]? -> (∀ k d r,L[k]? = some (d,r)->X (i+k)≠Y (i+k)->d≠some s)->(eZ X L i t)[s]? = (eZ Y L i t')[s]?
 | [],_,_,_,h,_=>h
 | (d,r)::L,i,t,t',h,hd=>by
   simp only [eZ]
   refine sZ L (i+1) _ _ ?_ (fun k d' r' hk hne=>hd (k+1) d' r' (by simpa using hk) (by rwa [show i+(k+1)=i+1+k from by omega]))
   by_cases hx:X i=Y i
   . rw [hx]
     split
     . rw [uV,uV];simp only [RY h,h]
     . exact h
   . have:=hd 0 d r rfl hx
     have e1:(gl t d r.val)[s]? = t[s]? := by rw [uV,if_neg this]
     have e2:(gl t' d r.val)[s]? = t'[s]? := by rw [uV,if_neg this]
     split<;>split<;>simp only [e1,e2,h]
theorem af.RZ {σ σ':af} {id:Id} (h : σ id = σ' id):∀ (up:List (Id × Option cZ)),(σ.app up) id=(σ'.app up) id:=by
 intro up
 induction up generalizing σ σ' with
 | nil=>exact h
 | cons x up ih =>
   obtain ⟨i,b⟩:=x
   simp only [af.app]
   refine ih ?_
   simp only [af.put]
   split<;>first | rfl | exact h
theorem af.Aw {σ : af} {id:Id}:∀ {up:List (Id × Option cZ)},id ∉ up.map (·.1)->(σ.app up) id = σ id:=by
 intro up
 induction up generalizing σ with
 | nil=>intro _;rfl
 | cons x up ih =>
   obtain ⟨i,b⟩:=x
   intro h
   simp only [List.map_cons,List.mem_cons,not_or] at h
   simp only [af.app]
   rw [ih h.2,af.cC _ _ _ h.1]
theorem af.Kp {σ σ':af} {id:Id}:∀ {up:List (Id × Option cZ)},id∈up.map (·.1)->(σ.app up) id=(σ'.app up) id:=by
 intro up
 induction up generalizing σ σ' with
 | nil=>intro h;simp at h
 | cons x up ih =>
   obtain ⟨i,b⟩:=x
   intro h
   simp only [af.app]
   by_cases nk:id∈up.map (·.1)
   . exact ih nk
   . have he:id=i:=by simpa [nk] using h
     subst he
     rw [af.Aw nk,af.Aw nk,af.dE,af.dE]
theorem s4 {X Y:Nat->Bool} {id:Id}:∀ (L:List Done) (i:Nat) (σ σ':af), σ id = σ' id->(∀ k d r,L[k]? = some (d,r)->X (i+k)≠Y (i+k)->id ∉ r.up.map (·.1))->gJ X L i σ id=gJ Y L i σ' id
 | [],_,_,_,h,_=>h
 | (d,r)::L,i, σ, σ',h,hd=>by
   simp only [gJ]
   refine s4 L (i+1) _ _ ?_ (fun k d' r' hk hne=>hd (k+1) d' r' (by simpa using hk) (by rwa [show i+(k+1)=i+1+k from by omega]))
   by_cases hx:X i=Y i
   . rw [hx]
     split
     . exact af.RZ h _
     . exact h
   . have:=hd 0 d r rfl hx
     split<;>split<;>simp only [af.Aw this,h]
theorem Gx {X:Nat->Bool} {s:Nat} {r:eS}:∀ (L:List Done) (i j:Nat) (t:List AV),L[j]? = some (some s,r)->X (i+j)=true->(∀ k d r',L[k]? = some (d,r')->j<k->X (i+k)=true->d≠some s) ->
   (eZ X L i t)[s]? = if s<t.length then some r.val else none
 | [],_,_,_,h,_,_=>by simp at h
 | (d,r')::L,i,0,t,h,hx,hd=>by
   simp only [List.getElem?_cons_zero,Option.some.injEq,Prod.mk.injEq] at h
   obtain ⟨rfl,rfl⟩:=h
   simp only [eZ]
   rw [Nat.add_zero] at hx
   rw [if_pos hx]
   have:=sZ (X:=X) (Y:=fun _=>false) (s:=s) L (i+1) (gl t (some s) r'.val) (gl t (some s) r'.val) rfl (fun k d r2 hk hne=>hd (k+1) d r2 (by simpa using hk) (by omega) (by
     rw [show i+(k+1)=i+1+k from by omega]
     cases hh:X (i+1+k) with
     | true=>rfl
     | false=>simp [hh] at hne))
   rw [this]
   have none:∀ (L:List Done) (i:Nat) (t:List AV),eZ (fun _=>false) L i t=t:=by
     intro L
     induction L with
     | nil=>intro _ _;rfl
     | cons x L ih=>intro i t;obtain ⟨d,r⟩:=x;simp only [eZ];rw [ih];simp
   rw [none,uV,if_pos rfl]
 | (d,r')::L,i,j+1,t,h,hx,hd=>by
   simp only [eZ]
   have:=Gx L (i+1) j (if X i then gl t d r'.val else t) (by simpa using h) (by rwa [show i+1+j=i+(j+1) from by omega])
     (fun k d r2 hk hlt Fw=>hd (k+1) d r2 (by simpa using hk) (by omega) (by rwa [show i+(k+1)=i+1+k from by omega]))
   rw [this]
   split<;>simp [LF]
theorem Gy {X:Nat->Bool} {id:Id} {d:Option Nat} {r:eS} {σ':af}:∀ (L:List Done) (i j:Nat) (σ : af),L[j]? = some (d,r)->X (i+j)=true->id∈r.up.map (·.1) ->
   (∀ k d r',L[k]? = some (d,r')->j<k->X (i+k)=true->id ∉ r'.up.map (·.1))->gJ X L i σ id=(σ'.app r.up) id
 | [],_,_,_,h,_,_,_=>by simp at h
 | (d',r')::L,i,0, σ,h,hx,nk,hd=>by
   simp only [List.getElem?_cons_zero,Option.some.injEq,Prod.mk.injEq] at h
   obtain ⟨rfl,rfl⟩:=h
   simp only [gJ]
   rw [Nat.add_zero] at hx
   rw [if_pos hx]
   have:=s4 (X:=X) (Y:=fun _=>false) (id:=id) L (i+1) (σ.app r'.up) (σ.app r'.up) rfl (fun k d r2 hk hne=>hd (k+1) d r2 (by simpa using hk) (by omega) (by
     rw [show i+(k+1)=i+1+k from by omega]
     cases hh:X (i+1+k) with
     | true=>rfl
     | false=>simp [hh] at hne))
   rw [this]
   have none:∀ (L:List Done) (i:Nat) (σ : af),gJ (fun _=>false) L i σ = σ := by
     intro L
     induction L with
     | nil=>intro _ _;rfl
     | cons x L ih=>intro i t;obtain ⟨d,r⟩:=x;simp only [gJ];rw [ih];simp
   rw [none]
   exact af.Kp nk
 | (d',r')::L,i,j+1, σ,h,hx,nk,hd=>by
   simp only [gJ]
   exact Gy L (i+1) j _ (by simpa using h) (by rwa [show i+1+j=i+(j+1) from by omega]) nk
     (fun k d r2 hk hlt Fw=>hd (k+1) d r2 (by simpa using hk) (by omega) (by rwa [show i+(k+1)=i+1+k from by omega]))
theorem tL {X:Nat->Bool}:∀ (L:List Done) (i:Nat) (t:List AV),(∀ k,k<L.length->X (i+k)=false)->eZ X L i t=t
 | [],_,_,_=>rfl
 | (d,r)::L,i,t,h=>by
   simp only [eZ]
   have:=h 0 (by simp)
   rw [Nat.add_zero] at this
   rw [this]
   exact tL L (i+1) t (fun k hk=>by rw [show i+1+k=i+(k+1) from by omega];exact h (k+1) (by simpa using hk))
theorem tM {X:Nat->Bool}:∀ (L:List Done) (i:Nat) (σ : af),(∀ k,k<L.length->X (i+k)=false)->gJ X L i σ = σ
 | [],_,_,_=>rfl
 | (d,r)::L,i,t,h=>by
   simp only [gJ]
   have:=h 0 (by simp)
   rw [Nat.add_zero] at this
   rw [this]
   exact tM L (i+1) t (fun k hk=>by rw [show i+1+k=i+(k+1) from by omega];exact h (k+1) (by simpa using hk))
section
variable (P:Program) (G:Nat->Option (List AV)) (π : Id)
def y8 (σ : af) (p:Id) (op:gB AV) (K:eS->Prop):Prop :=
 match op with
 | .call f as=>match f with
   | .fn (.func f) first cap=>∃ S r,aZ P G f (first++as++cap) p S r/\(∀ x∈S, σ x.1=some x.2)/\(∀ x∈S,x.1∈r.rd)/\K r
   | _=>False
 | op=>match bO σ p op with
   | some r=>K r
   | none=>False
def Cq (base:Nat) (K:List AV->af->Prop):List bx->Nat->List AV->af->Prop
 | [],_,t, σ => K t σ
 | o::os,i,t, σ => match eY t o.guard with
   | none=>False
   | some false=>Cq base K os (i+1) (gl t o.dst (.tup [])) σ
   | some true=>y8 P G σ ((base+i) :: π) (o.op.map (a7.ev G t)) fun r=>Cq base K os (i+1) (gl t o.dst r.val) (σ.app r.up)
def Cr (base:Nat) (K:List eS->List AV->af->Prop):List bx->Nat->List eS->List AV->af->Prop
 | [],_,acc,t, σ => K acc.reverse t σ
 | o::os,i,acc,t, σ => match eY t o.guard with
   | none=>False
   | some false=>Cr base K os (i+1) ({ val := .tup [] }::acc) (gl t o.dst (.tup [])) σ
   | some true=>y8 P G σ ((base+i) :: π) (o.op.map (a7.ev G t)) fun r=>Cr base K os (i+1) (r::acc) (gl t o.dst r.val) (σ.app r.up)
def apart (a b:eS):Prop:=(∀ x∈a.up,x.1 ∉ b.rd/\x.1 ∉ b.up.map (·.1))/\∀ x∈b.up,x.1 ∉ a.rd
def ab (rs:List eS) (ps:List (Nat × Nat)):Prop:=∀ q∈ps,∀ a b,rs[q.1]? = some a->rs[q.2]? = some b->apart a b
def Cs (base:Nat) (o:bx) (k:Nat) (t:List AV) (σ : af) (r:eS):Prop :=
 (eY t o.guard=some false/\r={ val := .tup [] })∨(eY t o.guard=some true/\j5 P G σ ((base+k) :: π) (o.op.map (a7.ev G t)) r)
end
section
variable {P:Program} {G:Nat->Option (List AV)} {π : Id} {own:Nat->Prop} {E:Env} {w:World} {σ : af}
theorem Gz {σ : af} {p:Id} {op:gB AV} {K:eS->Prop} (h:y8 P G σ p op K):∃ r,j5 P G σ p op r/\K r:=by
 unfold y8 at h
 cases op with
 | call f as =>
   simp only [] at h
   split at h
   . obtain ⟨S,r,h1,h2,h3,h4⟩:=h
     exact ⟨r,⟨S,h1,h2,h3⟩,h4⟩
   . exact h.elim
 | _ =>
   simp only [] at h
   split at h
   . rename_i r hr;exact ⟨r,hr,h⟩
   . exact h.elim
theorem Jc {base:Nat} {K:List eS->List AV->af->Prop}:∀ {os:List bx} {i:Nat} {acc:List eS} {t:List AV} {σ : af},Cr P G π base K os i acc t σ ->
   ∃ rs:List eS,rs.length=os.length /\
     (∀ k o r,os[k]? = some o->rs[k]? = some r->Cs P G π base o (i+k) (eZ (fun m=>m<i+k) ((os.map (·.dst)).zip rs) i t) (gJ (fun m=>m<i+k) ((os.map (·.dst)).zip rs) i σ) r) /\
     K (acc.reverse++rs) (eZ (fun _=>true) ((os.map (·.dst)).zip rs) i t) (gJ (fun _=>true) ((os.map (·.dst)).zip rs) i σ)
 | [],i,acc,t, σ,h=>⟨[],rfl,by simp,by simpa [Cr,eZ,gJ] using h⟩
 | o :: os,i,acc,t, σ,h=>by
   have go:∀ r,Cs P G π base o i t σ r->Cr P G π base K os (i+1) (r::acc) (gl t o.dst r.val) (σ.app r.up) ->
       ∃ rs:List eS,rs.length=(o::os).length /\
         (∀ k o' r,(o::os)[k]? = some o'->rs[k]? = some r->Cs P G π base o' (i+k) (eZ (fun m=>m<i+k) (((o::os).map (·.dst)).zip rs) i t) (gJ (fun m=>m<i+k) (((o::os).map (·.dst)).zip rs) i σ) r) /\
         K (acc.reverse++rs) (eZ (fun _=>true) (((o::os).map (·.dst)).zip rs) i t) (gJ (fun _=>true) (((o::os).map (·.dst)).zip rs) i σ):=by
     intro r hr hv
     obtain ⟨rs,h1,h2,h3⟩:=Jc hv
     refine ⟨r::rs,by simp [h1], ?_, ?_⟩
     . intro k o' r' ho Gp
       cases k with
       | zero =>
         simp only [List.getElem?_cons_zero,Option.some.injEq] at ho Gp
         subst ho;subst Gp
         rw [tL _ _ _ (fun k _=>by simp),tM _ _ _ (fun k _=>by simp),Nat.add_zero]
         exact hr
       | succ k =>
         have:=h2 k o' r' (by simpa using ho) (by simpa using Gp)
         simp only [List.map_cons,List.zip_cons_cons,eZ,gJ]
         have hd:decide (i<i+(k+1))=true:=by simp
         rw [if_pos hd,if_pos hd]
         rw [show i+(k+1)=i+1+k from by omega]
         exact this
     . simpa [eZ,gJ] using h3
   simp only [Cr] at h
   split at h
   . exact h.elim
   . rename_i hw
     exact go { val := .tup [] } (.inl ⟨hw,rfl⟩) h
   . rename_i hw
     obtain ⟨r,hr,hk⟩:=Gz h
     exact go r (.inr ⟨hw,hr⟩) hk
theorem LG {q q':Nat} {π j:Id} (h:(q :: π) <:+ j) (hne:q≠q') : ¬ (q' :: π) <:+ j:=by
 intro h'
 have:=List.suffix_of_suffix_length_le h h' (by simp)
 obtain ⟨l,hl⟩:=this
 have Ln:l=[]:=by
   have:=congrArg List.length hl
   simp at this;exact this
 subst Ln
 simp at hl
 exact hne hl
theorem lJ.frame {p:Id} {r:eS} {v:Value} {E':Env} {w':World} (h:lJ G own E w σ p r v E' w') {t:List AV} {a:Act} (hf:cm E w t a) (d:Option Nat):cm E' w' (gl t d r.val) (a.put d v) :=
 (hf.keep h.Ia.step).put h.rep d
theorem Jd {t:List AV} {a:Act} (hf:cm E w t a) (d:Option Nat):cm E w (gl t d (.tup [])) (a.put d undef) :=
 hf.put (by simp only [aT,undef];exact ⟨#[],rfl,by simp [bc]⟩) d
theorem s5 (a:Act) (d:Option Nat) (v:Value):(a.put d v).defers=a.defers:=by cases d<;>rfl
def AL (E:Env) (π : Id) (n:Nat):Prop:=∀ j, π <:+ j->(∀ q,q<n -> ¬ (q :: π) <:+ j)->E.μ j=none
theorem AL.at {π : Id} {n q:Nat} (h:AL E π n) (hq:n<=q) {j:Id} (hj:(q :: π) <:+ j):E.μ j=none :=
 h j ((List.suffix_cons q π).trans hj) fun q' hq'=>LG hj (by omega)
theorem AL.mono {π : Id} {n n':Nat} (h:AL E π n) (hn:n<=n'):AL E π n':=fun j hj hq=>h j hj fun q hq'=>hq q (by omega)
theorem AL.step {π : Id} {n:Nat} {E':Env} (h:AL E π n) (Yi:∀ i:Id, ¬ (n :: π) <:+ i->E'.μ i=E.μ i):AL E' π (n+1):=fun j hj hq=>by
 rw [Yi j (hq n (by omega))];exact h j hj fun q hq'=>hq q (by omega)
theorem AL.self {π : Id} {n:Nat} (h:AL E π n):E.μ π = none :=
 h π (List.suffix_refl _) fun q _ hs=>by have:=hs.length_le;simp at this;omega
structure nb (own:Nat->Prop) (π : Id) (E E':Env) (w w':World):Prop extends Adv own E E' w w' where
 ids:∀ i:Id, ¬ π <:+ i->E'.μ i=E.μ i
theorem nb.refl (own:Nat->Prop) (π : Id) (E:Env) (w:World):nb own π E E w w:=⟨Adv.refl own E w,fun _ _=>rfl⟩
theorem nb.trans {π : Id} {E' E'':Env} {w' w'':World} (a:nb own π E E' w w') (b:nb own π E' E'' w' w''):nb own π E E'' w w'' :=
 ⟨a.toAdv.trans b.toAdv,fun i hi=>(b.ids i hi).trans (a.ids i hi)⟩
theorem lJ.aep {π : Id} {q:Nat} {r:eS} {v:Value} {E':Env} {w':World} (h:lJ G own E w σ (q :: π) r v E' w'):nb own π E E' w w' :=
 ⟨h.Ia,fun i hi=>h.ids i fun hs=>hi ((List.suffix_cons q π).trans hs)⟩
theorem GC {ops:Array Oper} {base:Nat} {K:List AV->af->Prop} {Q:Exit->Act->World->Prop} :
   ∀ (l:List Oper) (i:Nat),(∀ k,l[k]? = ops[i+k]?)->∀ (vs:List bx),l.mapM (A3 P ops)=some vs->∀ (t:List AV) (σ : af) (a:Act) (E:Env) (w:World),Cq P G π base K vs i t σ ->
   cm E w t a->Inv G own E w σ -> AL E π (base+i) ->
   (∀ t' σ' a' E' w',K t' σ'->nb own π E E' w w'->cm E' w' t' a'->Inv G own E' w' σ'->AL E' π (base+i+l.length)->a'.defers=a.defers->Q .normal a' w') ->
   wpOps P ops Q ((List.range' i l.length)) a w
 | [],i,_,vs,hm,t, σ,a,E,w,hv,hf,hi,s6,hQ=>by
   simp at hm;subst hm
   simp only [Cq] at hv
   simp only [List.length_nil,List.range'_zero,wpOps]
   exact hQ t σ a E w hv (nb.refl own π E w) hf hi s6 rfl
 | o :: l,i,hl,vs,hm,t, σ,a,E,w,hv,hf,hi,s6,hQ=>by
   simp only [List.mapM_cons,Option.pure_def,Option.bind_eq_bind,Option.bind_eq_some_iff] at hm
   obtain ⟨vo,Bp,vs',N5,he⟩:=hm
   simp only [Option.some.injEq] at he;subst he
   obtain ⟨hop,Uv⟩:=LD Bp
   have hoi:ops[i]? = some o:=by have:=hl 0;simpa using this.symm
   simp only [List.length_cons,List.range'_succ]
   rw [wpOps_cons]
   unfold wpOp
   rw [hoi]
   simp only []
   have rest:∀ (t':List AV) (σ':af) (a':Act) (E':Env) (w':World),Cq P G π base K vs' (i+1) t' σ'->nb own π E E' w w'->cm E' w' t' a'->Inv G own E' w' σ'->AL E' π (base+i+1)->a'.defers=a.defers ->
       wpOps P ops Q (List.range' (i+1) l.length) a' w':=by
     intro t' σ' a' E' w' hv' had XT qk On hde
     refine GC l (i+1) (fun k=>by rw [show i+1+k=i+(k+1) from by omega, <- hl];simp) vs' N5 t' σ' a' E' w' hv' XT qk (by rw [<- Nat.add_assoc];exact On) ?_
     intro t2 σ2 a2 E2 w2 hk abE hf2 RQ abF yw
     exact hQ t2 σ2 a2 E2 w2 hk (had.trans abE) hf2 RQ (by rw [List.length_cons,show base+i+(l.length+1)=base+(i+1)+l.length from by omega];exact abF) (yw.trans hde)
   simp only [Cq] at hv
   split at hv
   . exact hv.elim
   . rename_i hw
     rw [wK Bp hf hw]
     simp only [Bool.false_eq_true,if_false]
     rw [<- Uv]
     exact rest _ _ _ E w hv (nb.refl own π E w) (Jd hf _) hi (s6.mono (by omega)) (s5 _ _ _)
   . rename_i hw
     rw [wK Bp hf hw]
     simp only [if_true]
     obtain ⟨r,hr,hk⟩:=Gz hv
     left
     refine Gw hi (fun j hj=>s6.at (Nat.le_refl _) hj) hf hop hr ?_
     intro v w' E' hp
     rw [<- Uv]
     exact rest _ _ _ E' w' hk hp.aep (hp.frame hf _) hp.inv (s6.step hp.ids) (s5 _ _ _)
end
end Go.VL
end

section
namespace Go.VL
theorem Je (f:Nat->Nat) (b:Nat):∀ (l:List Nat) (s:Nat),(l.foldl (fun s i=>s ||| 2 ^ i ||| f i) s).testBit b=true->s.testBit b=true∨∃ e∈l,b=e∨(f e).testBit b=true
 | [],s,h => .inl h
 | i :: l,s,h=>by
   simp only [List.foldl_cons] at h
   rcases Je f b l _ h with h | ⟨e,he,h⟩
   . simp only [Nat.testBit_or,Bool.or_eq_true,Nat.testBit_two_pow,decide_eq_true_eq] at h
     rcases h with (h | h) | h
     . exact .inl h
     . exact .inr ⟨i,by simp, .inl h.symm⟩
     . exact .inr ⟨i,by simp, .inr h⟩
   . exact .inr ⟨e,by simp [he],h⟩
theorem Jf:∀ (qJ:List (List Nat)) (acc:List Nat),(j0 qJ acc).length=acc.length+qJ.length
 | [],acc=>by simp [j0]
 | l::r,acc=>by simp only [j0];rw [Jf r];simp;omega
theorem DY:∀ (qJ:List (List Nat)) (acc:List Nat) (k:Nat),k<acc.length->(j0 qJ acc)[k]? = acc[k]?
 | [],acc,k,_=>by simp [j0]
 | l::r,acc,k,h=>by
   simp only [j0]
   rw [DY r _ k (by simp;omega),List.getElem?_append_left h]
theorem LH:∀ (qJ:List (List Nat)) (acc:List Nat) (j:Nat) (l:List Nat),qJ[j]? = some l->∃ R2:List Nat,R2.length=acc.length+j/\(∀ k,k<R2.length->(j0 qJ acc)[k]? = R2[k]?) /\
   (j0 qJ acc)[acc.length+j]? = some (l.foldl (fun s i=>s ||| 2 ^ i ||| R2.getD i 0) 0)
 | [],_,_,_,h=>by simp at h
 | l'::r,acc,0,l,h=>by
   simp only [List.getElem?_cons_zero,Option.some.injEq] at h;subst h
   refine ⟨acc,rfl,fun k hk=>DY _ _ k hk, ?_⟩
   simp only [j0]
   rw [DY r _ _ (by simp),List.getElem?_append_right (by omega)]
   simp
 | l'::r,acc,j+1,l,h=>by
   simp only [j0]
   obtain ⟨R2,h1,h2,h3⟩:=LH r (acc++[l'.foldl (fun s i=>s ||| 2 ^ i ||| acc.getD i 0) 0]) j l (by simpa using h)
   refine ⟨R2,by simp at h1;omega,h2, ?_⟩
   simp only [List.length_append,List.length_singleton] at h3
   rw [show acc.length+(j+1)=acc.length+1+j from by omega]
   exact h3
theorem R3 {qJ:List (List Nat)} {j b:Nat} (hlt:∀ e∈qJ.getD j [],e<j) (h:((j0 qJ []).getD j 0).testBit b=true):∃ e∈qJ.getD j [],b=e∨((j0 qJ []).getD e 0).testBit b=true:=by
 by_cases hj:j<qJ.length
 . obtain ⟨acc,h1,h2,h3⟩:=LH qJ [] j qJ[j] (by simp [hj])
   simp only [List.length_nil,Nat.zero_add] at h1 h3
   have hg:(j0 qJ []).getD j 0=qJ[j].foldl (fun s i=>s ||| 2 ^ i ||| acc.getD i 0) 0:=by simp [List.getD,h3]
   rw [hg] at h
   have ho:qJ.getD j []=qJ[j]:=by simp [List.getD,hj]
   rw [ho] at hlt ⊢
   rcases Je _ b _ _ h with h | ⟨e,he,h⟩
   . simp at h
   . refine ⟨e,he,h.imp id fun h => ?_⟩
     have:(j0 qJ []).getD e 0=acc.getD e 0:=by
       simp only [List.getD]
       rw [h2 e (by rw [h1];exact hlt e he)]
     rw [this];exact h
 . have:(j0 qJ []).getD j 0=0:=by
     have:=Jf qJ []
     simp only [List.getD]
     rw [List.getElem?_eq_none (by simp at this;omega)]
     rfl
   rw [this] at h
   simp at h
theorem EU {qJ:List (List Nat)} {X:Nat->Bool} {n:Nat} (hlt:∀ j,j<n->∀ e∈qJ.getD j [],e<j) (hX:∀ k,k<n->X k=true->∀ e∈qJ.getD k [],X e=true) :
   ∀ j,j<n->(∀ e∈qJ.getD j [],X e=true)->∀ b,((j0 qJ []).getD j 0).testBit b=true->X b=true:=by
 intro j
 induction j using Nat.strongRecOn with
 | _ j ih =>
   intro hj he b hb
   obtain ⟨e,he1,h⟩:=R3 (hlt j hj) hb
   have hej:=hlt j hj e he1
   rcases h with rfl | h
   . exact he b he1
   . exact ih e hej (by omega) (hX e (by omega) (he e he1)) b h
theorem gB.map_congr {α β : Type} {g h : α -> β}:∀ (op:gB α),(∀ x∈op.args,g x=h x)->op.map g=op.map h:=by
 intro op hx
 have hl:∀ (l:List α),(∀ x∈l,x∈op.args)->l.map g=l.map h:=fun l hl=>List.map_congr_left fun x hxl=>hx x (hl x hxl)
 have ho:∀ (l:Option α),(∀ x,l=some x->x∈op.args)->l.map g=l.map h:=by
   intro l hl;cases l with
   | none=>rfl
   | some x=>simp [hx x (hl x rfl)]
 cases op<;>simp only [gB.map,gB.args] at hx hl ho ⊢
 case build z ps=>congr 1;apply List.map_congr_left;intro q hq;rw [hx q.2.2 (List.mem_map.2 ⟨q,hq,rfl⟩)]
 case buildSl k n z ps=>congr 1;apply List.map_congr_left;intro q hq;rw [hx q.2 (List.mem_map.2 ⟨q,hq,rfl⟩)]
 case mkfn fn a c=>rw [hl a (by simp +contextual),hl c (by simp +contextual)]
 case call f as=>rw [hx f (by simp),hl as (by simp +contextual)]
 case slice k x lo hi mx=>rw [hx x (by simp),ho lo (by simp +contextual),ho hi (by simp +contextual),ho mx (by simp +contextual)]
 case sliceS x lo hi=>rw [hx x (by simp),ho lo (by simp +contextual),ho hi (by simp +contextual)]
 all_goals try simp only [List.mem_cons,List.not_mem_nil,or_false,forall_eq_or_imp,forall_eq] at hx
 all_goals simp only [hx]
theorem Uw {G:Nat->Option (List AV)} {t t':List AV}:∀ (x:a7),(∀ s,x.aeb=some s->t[s]? = t'[s]?)->x.ev G t=x.ev G t'
 | .t n,h=>by have:=h n rfl;simp [a7.ev,List.getD,this]
 | .c _,_=>rfl
 | .g _,_=>rfl
 | .f _,_=>rfl
theorem tN {σ σ':af} {k:Nat} {x:AV} {ys:List AV} {rd:List Id} (h:ga σ k x=some (ys,rd)) (hr:∀ id∈rd, σ' id = σ id):ga σ' k x=some (ys,rd):=by
 unfold ga at h ⊢
 split at h
 . exact h
 . exact h
 . exact h
 . rename_i id k' off len t
   skip
   split at h
   . rename_i bk hb
     split at h
     . rename_i hh
       simp only [Option.some.injEq,Prod.mk.injEq] at h
       obtain ⟨rfl,rfl⟩:=h
       have:=hr id (by simp)
       rw [this,hb]
       simp [hh]
     . simp at h
   . simp at h
 . simp at h
theorem LI {σ : af} {id:Id} {off k:Nat} {news:List AV} {v:AV} {rd:List Id} {r:eS} (h:Cg σ id off k news v rd=some r):r.rd=id::rd:=by
 unfold Cg at h
 split at h
 . split at h
   . simp only [Option.some.injEq] at h;subst h;rfl
   . simp at h
 . simp at h
theorem EW {σ σ':af} {id:Id} {off k:Nat} {news:List AV} {v:AV} {rd:List Id} {r:eS} (h:Cg σ id off k news v rd=some r) (hr:∀ id∈r.rd, σ' id = σ id):Cg σ' id off k news v rd=some r:=by
 have hrd:=LI h
 unfold Cg at h ⊢
 rw [hr id (by rw [hrd];simp)]
 exact h
theorem R4 {σ σ':af} {p:Id} {op:gB AV} {r:eS} (h:bO σ p op=some r) (hr:∀ id∈r.rd, σ' id = σ id):bO σ' p op=some r:=by
 cases op with
 | load agg n x =>
   simp only [bO] at h ⊢
   unfold kM at h ⊢
   split at h
   . rename_i id e o
     skip
     cases hb : σ id with
     | none=>simp [hb] at h
     | some bk =>
       simp only [hb] at h
       cases he:bk.els[e]? with
       | none=>simp [he] at h
       | some el =>
         simp only [he,Option.map_eq_some_iff] at h
         obtain ⟨v,hv,rfl⟩:=h
         rw [hr id (by simp),hb]
         simp [he,hv]
   . exact h
   . simp at h
 | store n x v =>
   simp only [bO] at h ⊢
   unfold fD at h ⊢
   split at h
   . rename_i id e o
     skip
     cases hb : σ id with
     | none=>simp [hb] at h
     | some bk =>
       simp only [hb] at h
       cases he:bk.els[e]? with
       | none=>simp [he] at h
       | some el =>
         simp only [he] at h
         split at h
         . rename_i hh
           simp only [Option.some.injEq] at h;subst h
           rw [hr id (by simp),hb]
           simp [he,hh]
         . simp at h
   . simp at h
 | append k bytes s x =>
   simp only [bO] at h ⊢
   unfold eu at h ⊢
   cases Cb:ga σ k x with
   | none=>simp [Cb] at h
   | some q =>
     obtain ⟨ys,rd⟩:=q
     simp only [Cb] at h
     have Gt : ∀ id∈rd,id∈r.rd:=by
       intro id jZ
       split at h
       . split at h<;>first | (simp only [Option.some.injEq] at h;subst h;exact jZ) | simp at h
       . split at h
         . split at h<;>first | (simp only [Option.some.injEq] at h;subst h;exact jZ) | simp at h
         . split at h<;>first | (simp only [Option.some.injEq] at h;subst h;exact jZ) | simp at h
         . split at h
           . split at h
             . split at h
               . split at h<;>first | (simp only [Option.some.injEq] at h;subst h;exact List.mem_cons_of_mem _ jZ) | (simp at h;done)
               . split at h<;>first | (simp only [Option.some.injEq] at h;subst h;exact List.mem_cons_of_mem _ jZ) | (split at h<;>first | (simp only [Option.some.injEq] at h;subst h;exact List.mem_cons_of_mem _ jZ) | (simp at h;done))
             . simp at h
           . simp at h
         . simp at h
     rw [tN Cb (fun id jZ=>hr id (Gt id jZ))]
     simp only []
     split at h
     . rename_i Oi
       rw [if_pos Oi];exact h
     . rename_i Oi
       rw [if_neg Oi]
       split at h
       . exact h
       . exact h
       . rename_i id k' off len t
         skip
         cases hb : σ id with
         | none=>simp [hb] at h
         | some bk =>
           simp only [hb] at h
           have jZ:id∈r.rd:=by
             split at h
             . split at h
               . split at h<;>first | (simp only [Option.some.injEq] at h;subst h;simp;done) | (simp at h;done)
               . split at h<;>first | (simp only [Option.some.injEq] at h;subst h;simp;done) | (split at h<;>first | (simp only [Option.some.injEq] at h;subst h;simp;done) | (simp at h;done))
             . simp at h
           rw [hr id jZ,hb]
           exact h
       . simp at h
 | bytesStr x =>
   simp only [bO] at h ⊢
   unfold rj at h ⊢
   cases Cb:ga σ 1 x with
   | none=>simp [Cb] at h
   | some q =>
     obtain ⟨ys,rd⟩:=q
     simp only [Cb,Option.map_eq_some_iff] at h
     obtain ⟨l,hl,rfl⟩:=h
     rw [tN Cb hr]
     simp [hl]
 | slice k x lo hi mx =>
   simp only [bO] at h ⊢
   cases hs:ek k x lo hi mx with
   | some v=>rw [hs] at h;exact h
   | none =>
     rw [hs] at h
     simp only [pZ] at h ⊢
     split at h
     . rename_i id k' off len hh
       cases hb : σ id with
       | none=>simp [hb] at h
       | some bk =>
         simp only [hb] at h
         split at h
         . rename_i hc
           simp only [Option.map_eq_some_iff] at h
           obtain ⟨v,hv,rfl⟩:=h
           rw [hr id (by simp),hb]
           simp [hc,hv]
         . simp at h
     . exact h
     . simp at h
 | cap x =>
   simp only [bO] at h ⊢
   cases hs:T6 x with
   | some v=>rw [hs] at h;exact h
   | none =>
     rw [hs] at h
     simp only [Gk] at h ⊢
     split at h
     . rename_i id k' off len
       cases hb : σ id with
       | none=>simp [hb] at h
       | some bk =>
         simp only [hb] at h
         split at h
         . rename_i hc
           simp only [Option.some.injEq] at h;subst h
           rw [hr id (by simp),hb]
           simp [hc]
         . simp at h
     . simp at h
 | ovl x y =>
   simp only [bO] at h ⊢
   unfold RF at h ⊢
   split at h
   . rename_i i1 _ _ _ _ i2 _ _ _ _
     split at h
     . simp at h
     . rename_i hne
       cases h1 : σ i1 with
       | none=>simp [h1] at h
       | some b1 =>
         cases h2 : σ i2 with
         | none=>simp [h1,h2] at h
         | some b2 =>
           simp only [h1,h2] at h
           split at h
           . rename_i hp
             simp only [Option.some.injEq] at h;subst h
             simp only [hr i1 (by simp),hr i2 (by simp),h1,h2]
             rw [if_neg hne,if_pos hp]
           . simp at h
   . simp at h
 | clear k z x =>
   simp only [bO] at h ⊢
   unfold Gj at h ⊢
   split at h
   . exact h
   . rename_i id k' off len tt
     split at h
     . rename_i h0;simp only [h0,if_true];exact h
     . rename_i h0
       simp only [h0,if_false]
       split at h
       . rename_i hh;rw [if_pos hh];exact EW h hr
       . simp at h
   . simp at h
 | copy k d x =>
   simp only [bO] at h ⊢
   unfold Lu at h ⊢
   cases Cb:ga σ k x with
   | none=>simp [Cb] at h
   | some q =>
     obtain ⟨ys,rd⟩:=q
     simp only [Cb] at h
     have Gt:∀ id∈rd,id∈r.rd:=by
       intro id jZ
       split at h
       . simp only [Option.some.injEq] at h;subst h;exact jZ
       . split at h
         . simp only [Option.some.injEq] at h;subst h;exact jZ
         . split at h
           . have:=LI h;rw [this];exact List.mem_cons_of_mem _ jZ
           . simp at h
       . simp at h
     rw [tN Cb (fun id jZ=>hr id (Gt id jZ))]
     simp only []
     split at h
     . exact h
     . split at h
       . rename_i h0;rw [if_pos h0];exact h
       . rename_i h0
         rw [if_neg h0]
         split at h
         . rename_i hk;rw [if_pos hk];exact EW h hr
         . simp at h
     . simp at h
 | _=>exact h
theorem Iq {P:Program} {G:Nat->Option (List AV)} {σ σ':af} {p:Id} {op:gB AV} {r:eS} (h:j5 P G σ p op r) (hr:∀ id∈r.rd, σ' id = σ id):j5 P G σ' p op r:=by
 cases op with
 | call f as =>
   simp only [j5] at h ⊢
   split at h
   . obtain ⟨S,h1,h2,h3⟩:=h
     exact ⟨S,h1,fun x hx=>by rw [hr _ (h3 x hx)];exact h2 x hx,h3⟩
   . exact h
 | _=>exact R4 h hr
theorem rp {oc:Option AV} {r:eS} (h:bz oc=some r):r.rd=[]/\r.up=[]:=by
 cases oc with
 | none=>simp [bz] at h
 | some c=>simp only [bz,Option.map_some,Option.some.injEq] at h;subst h;exact ⟨rfl,rfl⟩
theorem R5 {P:Program} {G:Nat->Option (List AV)} {σ : af} {p:Id} {op:gB a7} (hp:op.pure=true) {t:List AV} {r:eS} (h:j5 P G σ p (op.map (a7.ev G t)) r):r.rd=[]/\r.up=[]:=by
 cases op<;>simp only [gB.pure,Bool.false_eq_true] at hp<;>simp only [gB.map,j5,bO] at h
 all_goals first
   | exact rp h
   | (simp at h;done)
   | (split at h<;>first | exact rp h | (simp at h;done) | (split at h<;>first | exact rp h | (simp at h;done)))
theorem R6 {P:Program} {G:Nat->Option (List AV)} {σ : af} {p:Id} {op:gB a7} (hp:op.tK=true) {t:List AV} {r:eS} (h:j5 P G σ p (op.map (a7.ev G t)) r):r.up=[]:=by
 cases op<;>simp only [gB.tK,Bool.false_eq_true] at hp
 case bytesStr =>
   simp only [gB.map,j5,bO] at h
   unfold rj at h
   split at h
   . simp only [Option.map_eq_some_iff] at h;obtain ⟨v,_,rfl⟩:=h;rfl
   . simp at h
 case ovl =>
   simp only [gB.map,j5,bO] at h
   unfold RF at h
   split at h
   . split at h
     . simp at h
     . split at h
       . split at h
         . simp only [Option.some.injEq] at h;subst h;rfl
         . simp at h
       . simp at h
   . simp at h
 case slice =>
   simp only [gB.map,j5,bO] at h
   unfold pZ at h
   split at h
   . exact (rp h).2
   . split at h
     . split at h
       . split at h
         . simp only [Option.map_eq_some_iff] at h;obtain ⟨v,_,rfl⟩:=h;rfl
         . simp at h
       . simp at h
     . split at h
       . split at h
         . split at h
           . simp only [Option.some.injEq] at h;subst h;rfl
           . simp at h
         . simp at h
       . simp at h
     . simp at h
 case cap =>
   simp only [gB.map,j5,bO] at h
   unfold Gk at h
   split at h
   . exact (rp h).2
   . split at h
     . split at h
       . split at h
         . simp only [Option.some.injEq] at h;subst h;rfl
         . simp at h
       . simp at h
     . simp at h
 simp only [gB.map,j5,bO] at h
 unfold kM at h
 split at h
 . split at h
   . split at h
     . simp only [Option.map_eq_some_iff] at h;obtain ⟨v,_,rfl⟩:=h;rfl
     . simp at h
   . simp at h
 . simp only [Option.map_eq_some_iff] at h;obtain ⟨v,_,rfl⟩:=h;rfl
 . simp at h
end Go.VL
end
