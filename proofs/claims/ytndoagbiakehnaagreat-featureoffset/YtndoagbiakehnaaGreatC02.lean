/- For the claim of FeatureOffset: parts VL9, VL2S, VL10, VL11, VL12, VL13, VL14. -/
import Derived.Test.YtndoagbiakehnaaGreatC01
import Derived.Lib.AppendZeros
import Derived.Laws.BytesArg
import Derived.Laws.Externs
import Derived.Lib.Bytealg
import Derived.Lib.Overlaps
import Derived.Orders
set_option linter.unusedSimpArgs false
set_option linter.unusedVariables false
section
namespace Go.VL
section
variable {P:Program} {G:Nat->Option (List AV)} {own:Nat->Prop} {E:Env} {w:World} {σ : ae} {p:Id}
theorem KP {len l r:Nat} {lo hi:Option AV} (hb:iW len lo hi=some (l,r)):lv len len hi=some r/\lv 0 r lo=some l:=by
 unfold iW at hb
 split at hb
 . simp at hb
 . rename_i h1 e1
   split at hb
   . simp at hb
   . rename_i l1 e2
     simp only [Option.some.injEq,Prod.mk.injEq] at hb
     obtain ⟨rfl,rfl⟩:=hb
     exact ⟨e1,e2⟩
theorem I7 (s:List UInt8) (l r:Nat):(ByteArray.mk s.toArray).extract l r=⟨((s.take r).drop l).toArray⟩:=by
 apply ByteArray.ext
 rw [ByteArray.data_extract]
 apply Array.ext'
 simp [List.extract_eq_take_drop,List.drop_take]
theorem I8 (hi:Inv G own E w σ) {t:TypeId} (hu:P.underlying t=some .string) {x:AV} {v:Value} (hx:aN E w x v)
   {lo qY:Option AV} {Ta QO:Option Value} (zI:pe E w lo Ta) (F1:pe E w qY QO) {c:AV} (h:Gt x lo qY=some c):Sound P G own E w σ p (Instr.sliceAt t v Ta QO none) { val:=c }:=by
 unfold Gt at h
 split at h
 . rename_i s
   simp only [aN] at hx;subst hx
   split at h
   . rename_i l r hb
     obtain ⟨El,B2⟩:=KP hb
     simp only [Option.some.injEq] at h;subst h
     obtain ⟨yr,zE,Pu⟩:=jv (P:=P) (isSlice:=false) (mx:=none) (vmx:=none) (m:=s.length) zI F1 trivial (Nat.le_refl _) El B2 (.inl ⟨rfl,rfl⟩)
     refine Sound.same (v := .string ⟨((s.take r).drop l).toArray⟩) hi ?_ (by simp [aN])
     have hsz:(ByteArray.mk s.toArray).size=s.length:=by simp [ByteArray.size]
     simp [Instr.sliceAt,Instr.slice,run_underlying hu,hsz,yr,I7]
   . simp at h
 . simp at h
theorem KQ {b o k:Nat} {es:List AV} (hk:∀ e∈es,e.size=k) (h:bm E w b o es) {i:Nat} {e:AV} (he:es[i]? = some e):bq E w b (o+i*k) e.cells :=
 fN.2 (Mr hk (dY.1 h) he)
theorem KR (hi:Inv G own E w σ) {t e:TypeId} {i:TypeInfo} (hu:P.underlying t=some (.slice e)) (dT:P.info? e=some i) {x j:AV} {v u:Value} (hx:aN E w x v) (hj:aN E w j u) {c:AV}
   (h:bK i.size x j=some c):Sound P G own E w σ p (Instr.indexAt t v u) { val:=c }:=by
 have hrun:∀ (a:Addr) (len cap:Nat) (k:IntKind) (n:Int),0<=n->n<len->(Instr.indexAt t (.slice (some a) len cap) (.int k n)).run P w = .ok (.pointer (some (a.add (n.toNat*i.size)))) w:=by
   intro a len cap k n h0 h1
   simp [Instr.indexAt,run_underlying hu,asIntOf,h0,h1,fO dT]
 unfold bK at h
 split at h
 . rename_i kk n
   simp only [aN] at hj;subst hj
   have row:∀ {es:List AV} {a:Option Addr} {cap:Nat},(∀ e∈es,e.size=i.size)->(es=[]∨∃ b o,a=some ⟨b,o,none⟩/\E.ok b/\bm E w b o es)->0<=n ->
       (es[n.toNat]?).map (fun e=>AV.ep e.cells 0)=some c->Sound P G own E w σ p (Instr.indexAt t (.slice a es.length cap) (.int kk n)) { val:=c }:=by
     intro es a cap hk xf h0 h
     simp only [Option.map_eq_some_iff] at h
     obtain ⟨el,C3,rfl⟩:=h
     have hlt:n.toNat<es.length:=(List.getElem?_eq_some_iff.1 C3).1
     rcases xf with rfl | ⟨b,o,rfl,hb,hr⟩
     . simp at hlt
     . refine Sound.same hi (hrun _ _ cap kk n h0 (by omega)) ?_
       rw [Addr.add_lit]
       simp only [aN]
       exact ⟨b,o+n.toNat*i.size,by simp,hb,KQ hk hr C3⟩
   split at h
   . rename_i k' es
     simp only [aN] at hx
     obtain ⟨a,cap,rfl,_,_,hk,xf⟩:=hx
     split at h
     . rename_i hh
       obtain ⟨rfl,h0⟩:=hh
       exact row hk xf h0 h
     . simp at h
   . rename_i k' es
     simp only [aN] at hx
     obtain ⟨a,rfl,_,hk,xf⟩:=hx
     split at h
     . rename_i hh
       obtain ⟨rfl,h0⟩:=hh
       exact row hk xf h0 h
     . simp at h
   . rename_i id k' off len tt
     simp only [aN] at hx
     obtain ⟨g,N,cap,hm,rfl,_⟩:=hx
     split at h
     . rename_i hh
       obtain ⟨rfl,h0,h1⟩:=hh
       simp only [Option.some.injEq] at h;subst h
       refine Sound.same hi (hrun _ _ cap kk n h0 h1) ?_
       rw [Addr.add_lit]
       simp only [aN]
       exact ⟨g,i.size,N,hm,by simp [Nat.add_mul]⟩
     . simp at h
   . simp at h
 . simp at h
theorem KS (hi:Inv G own E w σ) {t e:TypeId} {n:Nat} {i:TypeInfo} (hu:P.underlying t=some (.array n e)) (dT:P.info? e=some i) {x j:AV} {v u:Value} (hx:aN E w x v) (hj:aN E w j u) {c:AV}
   (h:pc n i.size x j=some c):Sound P G own E w σ p (Instr.indexAt t v u) { val:=c }:=by
 unfold pc at h
 split at h
 . rename_i kk m
   simp only [aN] at hj;subst hj
   split at h
   . rename_i hh
     have hrun:∀ a:Addr,(Instr.indexAt t (.pointer (some a)) (.int kk m)).run P w = .ok (.pointer (some (a.add (m.toNat*i.size)))) w:=by
       intro a
       simp [Instr.indexAt,run_underlying hu,asIntOf,hh,fO dT,Instr.sureAddr]
     split at h
     . simp only [Option.some.injEq] at h;subst h
       simp only [aN] at hx
       obtain ⟨g,k,N,hm,rfl⟩:=hx
       refine Sound.same hi (hrun _) ?_
       rw [Addr.add_lit]
       simp only [aN]
       exact ⟨g,k,N,hm,by simp [Nat.add_assoc]⟩
     . simp only [Option.some.injEq] at h;subst h
       simp only [aN] at hx
       obtain ⟨b,q,rfl,hb,hr⟩:=hx
       refine Sound.same hi (hrun _) ?_
       rw [Addr.add_lit]
       simp only [aN]
       exact ⟨b,q,by simp [Nat.add_assoc],hb,hr⟩
     . simp at h
   . simp at h
 . simp at h
theorem My (hi:Inv G own E w σ) {s:TypeId} {fs:Array Field} {f:Nat} {fd:Field} {i:TypeInfo} (hu:P.underlying s=some (.struct fs)) (hf:fs[f]? = some fd) (dT:P.info? fd.type=some i) (h0:i.size≠0)
   {x:AV} {v:Value} (hx:aN E w x v) {r:fL} (h:bW σ p (.faddr fd.offset x)=some r):Sound P G own E w σ p (Instr.fieldAt s v f) r:=by
 have hrun:∀ a:Addr,(Instr.fieldAt s (.pointer (some a)) f).run P w = .ok (.pointer (some (a.add fd.offset))) w:=by
   intro a
   simp [Instr.fieldAt,run_underlying hu,hf,Instr.sureAddr,fieldPlace,fO dT,h0]
 simp only [bW] at h
 split at h
 . simp only [bB,Option.map_some,Option.some.injEq] at h;subst h
   simp only [aN] at hx
   obtain ⟨g,k,N,hm,rfl⟩:=hx
   refine Sound.same hi (hrun _) ?_
   rw [Addr.add_lit]
   simp only [aN]
   exact ⟨g,k,N,hm,by simp [Nat.add_assoc]⟩
 . simp only [bB,Option.map_some,Option.some.injEq] at h;subst h
   simp only [aN] at hx
   obtain ⟨b,q,rfl,hb,hr⟩:=hx
   refine Sound.same hi (hrun _) ?_
   rw [Addr.add_lit]
   simp only [aN]
   exact ⟨b,q,by simp [Nat.add_assoc],hb,hr⟩
 . simp at h
theorem Mz {t:TypeId} {agg:Bool} {i:TypeInfo} (ha:qu P t=some agg) (dT:P.info? t=some i) {cs:List AV} {xs:Array Value} (hr:aU E w cs xs.toList) {o:Nat} {c:AV} (h:VL.part agg cs o i.size=some c) :
   ∃ v,(Go.part t xs o).run P w = .ok v w/\aN E w c v:=by
 obtain ⟨h1,h2,h3⟩:=Va h hr
 refine ⟨_, ?_,h1⟩
 cases agg with
 | true=>simp [Go.part,xe ha,fO dT]
 | false =>
   have h1':=h3 rfl
   have:o<xs.size:=by omega
   simp [Go.part,xe ha,this]
theorem Bj (hi:Inv G own E w σ) {k:Nat} {x:AV} {v:Value} (hx:aN E w x v) {ys:List AV} {rd:List Id} (h:gG σ k x=some (ys,rd)) :
   (∀ e∈ys,e.size=k)/\∃ a cap,v = .slice a ys.length cap/\ys.length<=cap/\(ys=[]∨∃ b o,a=some ⟨b,o,none⟩/\fy E w b o (flat ys)):=by
 unfold gG at h
 split at h
 . simp only [Option.some.injEq,Prod.mk.injEq] at h
   obtain ⟨rfl,rfl⟩:=h
   simp only [aN] at hx;subst hx
   exact ⟨by simp,none,0,rfl,Nat.le_refl _, .inl rfl⟩
 . rename_i k' es
   split at h
   . rename_i hk
     simp only [Option.some.injEq,Prod.mk.injEq] at h
     obtain ⟨rfl,rfl⟩:=h
     subst hk
     simp only [aN] at hx
     obtain ⟨a,cap,rfl,hl,_,hk,xf⟩:=hx
     exact ⟨hk,a,cap,rfl,hl,xf.imp id fun ⟨b,o,e,_,r⟩=>⟨b,o,e,dY.1 r⟩⟩
   . simp at h
 . rename_i k' es
   split at h
   . rename_i hk
     simp only [Option.some.injEq,Prod.mk.injEq] at h
     obtain ⟨rfl,rfl⟩:=h
     subst hk
     simp only [aN] at hx
     obtain ⟨a,rfl,_,hk,xf⟩:=hx
     exact ⟨hk,a,_,rfl,Nat.le_refl _,xf.imp id fun ⟨b,o,e,_,r⟩=>⟨b,o,e,dY.1 r⟩⟩
   . simp at h
 . rename_i id k' off len tt
   split at h
   . rename_i bk hσ
     split at h
     . rename_i hh
       obtain ⟨rfl,Pv,hle⟩:=hh
       simp only [Option.some.injEq,Prod.mk.injEq] at h
       obtain ⟨rfl,rfl⟩:=h
       obtain ⟨g,N,cur,ty,hB⟩:=hi.blk id bk hσ
       simp only [aN] at hx
       obtain ⟨g',N',cap,hm,rfl,Mm,_⟩:=hx
       rw [hB.μ] at hm
       simp only [Option.some.injEq,Prod.mk.injEq] at hm
       obtain ⟨rfl,_,rfl⟩:=hm
       have KO:∀ e∈(bk.els.drop off).take len,e.size=k':=fun e he=>by rw [<- Pv];exact hB.k e (List.mem_of_mem_drop (List.mem_of_mem_take he))
       have hlen:((bk.els.drop off).take len).length=len:=by simp;omega
       refine ⟨KO,some ⟨g,off*k',none⟩,cap,by rw [hlen],by omega, .inr ⟨g,off*k',rfl, ?_⟩⟩
       have:=se (l:=off) (r:=off+len) hB.k hB.row (by omega) hle
       rw [Nat.zero_add,Pv] at this
       have e:(bk.els.take (off+len)).drop off=(bk.els.drop off).take len:=by rw [List.drop_take];congr 1;omega
       rwa [e] at this
     . simp at h
   . simp at h
 . simp at h
theorem KT {b o:Nat} {cs:List AV} (h:fy E w b o cs):∃ vs:List Value,aU E w cs vs/\∀ j v,vs[j]? = some v->w.cell? ((⟨b,o,none⟩:Addr).add j)=some v:=by
 refine ⟨(List.range cs.length).map fun j=>(w.cell? ⟨b,o+j,none⟩).getD undef,bT.2 ⟨by simp,fun j c hj => ?_⟩,fun j v hj => ?_⟩
 . obtain ⟨v,hv,hr⟩:=h j c hj
   have hlt:j<cs.length:=(List.getElem?_eq_some_iff.1 hj).1
   exact ⟨v,by simp [hlt,hv],hr⟩
 . have hlt:j<cs.length:=by have:=(List.getElem?_eq_some_iff.1 hj).1;simpa using this
   obtain ⟨v',hv',_⟩:=h j cs[j] (by simp [hlt])
   simp only [List.getElem?_map,hlt,List.getElem?_range,Option.map_some,Option.some.injEq] at hj
   rw [Addr.add_lit,hv', <- hj,hv']
   rfl
theorem GZ {cs:List AV} {vs:List Value} (h:aU E w cs vs) (h1:∀ c∈cs,c.one=true):∀ v∈vs,v.oneCell'=true:=by
 intro v hv
 obtain ⟨j,hj⟩:=List.mem_iff_getElem?.1 hv
 obtain ⟨hl,hp⟩:=bT.1 h
 have zD:j<cs.length:=by have:=(List.getElem?_eq_some_iff.1 hj).1;omega
 obtain ⟨u,hu,hru⟩:=hp j cs[j] (by simp [zD])
 have:u=v:=by rw [hj] at hu;simpa using hu.symm
 subst this
 exact aN.one hru (h1 _ (by simp))
theorem Db (hi:Inv G own E w σ) (hμ : E.μ p=none) (hσ : σ p=none) {k n N:Nat} {els:List AV} (hk:∀ e∈els,e.size=k) (hn:els.length=n) {vs:List Value} (hv:aU E w (flat els) vs)
   {rest:Array Value} (hr:rest.size=(N-n)*k) (hnN:n<=N) (hN:N<=maxLen) (ty:TypeId) {rd:List Id} :
   lX G own E w σ p { val := .osl p k 0 n false,rd:=rd,up:=[(p,some ⟨els,k,false⟩)] } (.slice (some ⟨w.heap.size,0,none⟩) n N) (E.bind p w.heap.size k N) (w.drew.alloc (.cells (vs.toArray++rest) ty)):=by
 have hd:=hi.drew
 obtain ⟨hl,hp⟩:=bT.1 hv
 have GN:=cO hk
 have hstep:Step E E w w.drew:=(Adv.drew (own:=own) E w).step
 have hlen:(vs++rest.toList).length=N*k:=by
   simp only [List.length_append,Array.length_toList,hl,GN,hn,hr, <- Nat.add_mul]
   congr 1;omega
 have:=Bi (p:=p) (rd:=rd) hd hμ hσ (els:=els) (k:=k) (N:=N) (vs:=vs++rest.toList) ty hk
   (fun j c hj=>by
     obtain ⟨v,qq,xd⟩:=hp j c hj
     exact ⟨v,by rw [List.getElem?_append_left (List.getElem?_eq_some_iff.1 qq).1];exact qq,aN.keep hstep c v xd⟩) hlen (by omega) hN
   (c := .osl p k 0 n false) (v := .slice (some ⟨w.heap.size,0,none⟩) n N)
   (by simp only [aN];exact ⟨w.heap.size,N,N,Env.jQ _ _ _ _ _,by simp,hnN,by omega,hN,by simp⟩)
 have he:(vs++rest.toList).toArray=vs.toArray++rest:=by apply Array.ext';simp
 rw [he] at this
 exact ⟨(Adv.drew E w).trans this.I1,this.inv,this.rep,this.ids⟩
theorem Y2 (hi:Inv G own E w σ) (id:Id):Inv G own E w (σ.put id none) where
 okb:=hi.okb
 blk:=fun i bk h=>by
   by_cases e:i=id
   . subst e;simp [ae.put] at h
   . rw [ae.cN _ _ _ e] at h;exact hi.blk i bk h
 inj:=fun i j x y hx hy hne h1 h2=>by
   have ei:i≠id:=by rintro rfl;simp [ae.put] at hx
   have ej:j≠id:=by rintro rfl;simp [ae.put] at hy
   rw [ae.cN _ _ _ ei] at hx
   rw [ae.cN _ _ _ ej] at hy
   exact hi.inj i j x y hx hy hne h1 h2
 glob:=hi.glob
 new:=hi.new
end
end Go.VL
end

section
namespace Go.VL
theorem Ev {k:Nat}:∀ {es:List AV} {n:Nat},(∀ x∈es,x.size=k)->flat (es.take n)=(flat es).take (n*k)
 | [],n,_=>by simp [flat]
 | x::es,0,_=>by simp [flat]
 | x::es,n+1,h=>by
   have hx:x.cells.length=k:=h x (by simp)
   have ih:=Ev (es:=es) (n:=n) (fun y hy=>h y (by simp [hy]))
   have hf:flat (x::es)=x.cells++flat es:=by simp [flat]
   have YT:flat ((x::es).take (n+1))=x.cells++flat (es.take n):=by simp [flat]
   rw [hf,YT,ih,show (n+1)*k=x.cells.length+n*k from by rw [hx,Nat.add_mul];omega,List.take_length_add_append]
theorem JH {k:Nat}:∀ {es:List AV} {n:Nat},(∀ x∈es,x.size=k)->flat (es.drop n)=(flat es).drop (n*k)
 | [],n,_=>by simp [flat]
 | x::es,0,_=>by simp
 | x::es,n+1,h=>by
   have hx:x.cells.length=k:=h x (by simp)
   have ih:=JH (es:=es) (n:=n) (fun y hy=>h y (by simp [hy]))
   have hf:flat (x::es)=x.cells++flat es:=by simp [flat]
   rw [List.drop_succ_cons,ih,hf,show (n+1)*k=x.cells.length+n*k from by rw [hx,Nat.add_mul];omega,List.drop_length_add_append]
theorem Fu {G:Nat->Option (List AV)} {own:Nat->Prop} {E:Env} {w:World} {σ : ae} (h:Inv G own E w σ) {id:Id} {bk:dc} (hσ : σ id=some bk) (I0:bk.fr=false)
   {g N:Nat} {cur:Array Value} {ty:TypeId} (hB:yq E own w id bk g N cur ty)
   {e:Nat} {news:List AV} {vs:List Value} (hle:e+news.length<=bk.els.length) (hk:∀ x∈news,x.size=bk.k) (hv:aU E w (flat news) vs) :
   e*bk.k+vs.length<=cur.size /\
   Adv own E E w (w.setRow g (cur.toList.take (e*bk.k)++vs++cur.toList.drop (e*bk.k+vs.length)).toArray) /\
   Inv G own E (w.setRow g (cur.toList.take (e*bk.k)++vs++cur.toList.drop (e*bk.k+vs.length)).toArray) (σ.put id (some { bk with els:=bk.els.take e++news++bk.els.drop (e+news.length) })):=by
 obtain ⟨yK,hvp⟩:=bT.1 hv
 have Tb:=cO hk
 have hbound:e*bk.k+vs.length<=cur.size:=by
   rw [hB.size,yK,Tb, <- Nat.add_mul]
   exact Nat.mul_le_mul_right _ (by have:=hB.len;omega)
 refine ⟨hbound, ?_⟩
 generalize YU:(cur.toList.take (e*bk.k)++vs++cur.toList.drop (e*bk.k+vs.length)).toArray=nv
 have hg:=ic hB.heap
 have En:(w.setRow g nv).heap[g]? = some (.cells nv ty (0,0)):=setRow_heap w g cur nv ty _ hB.heap
 have hs:Step E E w (w.setRow g nv):=⟨fun _ _ h=>h,fun _ h=>h,fun b hb=>setRow_other w g b nv (fun e=>hB.no I0 (e▸hb))⟩
 have ig:Adv own E E w (w.setRow g nv) :=
   ⟨hs,rfl,rfl,rfl,by simp,fun k _ hk=>setRow_other w g k nv (fun e=>hk (e▸hB.own)),fun _ h => .inl h⟩
 refine ⟨ig, ?_, ?_, ?_, ?_, ?_⟩
 . intro b hb;simpa using h.okb b hb
 . intro i GM hi
   by_cases dT:i=id
   . subst dT
     rw [ae.dO] at hi
     simp only [Option.some.injEq] at hi
     subst hi
     have MA:(bk.els.take e++news++bk.els.drop (e+news.length)).length=bk.els.length:=by simp;omega
     have agC:∀ x∈bk.els.take e++news++bk.els.drop (e+news.length),x.size=bk.k:=by
       intro x hx
       simp only [List.append_assoc,List.mem_append] at hx
       rcases hx with hx | hx | hx
       . exact hB.k x (List.mem_of_mem_take hx)
       . exact hk x hx
       . exact hB.k x (List.mem_of_mem_drop hx)
     refine ⟨g,N,nv,ty,hB.μ,En, ?_,by rw [MA];exact hB.len,hB.most,hB.own,by simp [I0],hB.no,agC, ?_⟩
     . rw [<- YU]
       simp only [List.size_toArray,List.length_append,List.length_take,List.length_drop,Array.length_toList]
       rw [<- hB.size];omega
     . show fy E (w.setRow g nv) g 0 (flat (bk.els.take e++news++bk.els.drop (e+news.length)))
       rw [ow,ow,Ev hB.k,JH hB.k]
       have hlen:(flat bk.els).length=bk.els.length*bk.k:=cO hB.k
       have hcz:bk.els.length*bk.k<=cur.size:=by rw [hB.size];exact Nat.mul_le_mul_right _ hB.len
       have hmul:(e+news.length)*bk.k<=bk.els.length*bk.k:=Nat.mul_le_mul_right _ hle
       rw [Nat.add_mul] at hmul
       intro j c hj
       have hcell:(w.setRow g nv).cell? ⟨g,0+j,none⟩=nv[j]? := by rw [Nat.zero_add];exact cell_of_row _ _ _ _ _ _ En
       rw [hcell]
       suffices adf:∃ v,nv[j]? = some v/\aN E w c v by
         obtain ⟨v,qq,xd⟩:=adf;exact ⟨v,qq,aN.keep hs c v xd⟩
       rw [<- YU]
       have hold:∀ (j:Nat) (c:AV),(flat bk.els)[j]? = some c->∃ v:Value,cur[j]? = some v/\aN E w c v:=by
         intro j c hj
         obtain ⟨v,qq,xd⟩:=hB.row j c hj
         rw [Nat.zero_add,cell_of_row _ _ _ _ _ _ hB.heap] at qq
         exact ⟨v,qq,xd⟩
       simp only [List.getElem?_toArray]
       have ha:(cur.toList.take (e*bk.k)).length=e*bk.k:=by simp;omega
       have hb:((flat bk.els).take (e*bk.k)).length=e*bk.k:=by simp;omega
       rw [List.append_assoc] at hj ⊢
       by_cases c1:j<e*bk.k
       . rw [List.getElem?_append_left (by omega),List.getElem?_take_of_lt c1] at hj
         rw [List.getElem?_append_left (by omega),List.getElem?_take_of_lt c1]
         obtain ⟨v,qq,xd⟩:=hold j c hj
         exact ⟨v,by simpa using qq,xd⟩
       . rw [List.getElem?_append_right (by omega),hb] at hj
         rw [List.getElem?_append_right (by omega),ha]
         by_cases c2:j-e*bk.k<(flat news).length
         . rw [List.getElem?_append_left c2] at hj
           rw [List.getElem?_append_left (by omega)]
           obtain ⟨v,qq,xd⟩:=hvp _ c hj
           exact ⟨v,qq,xd⟩
         . rw [List.getElem?_append_right (by omega),List.getElem?_drop] at hj
           rw [List.getElem?_append_right (by omega),List.getElem?_drop,yK]
           rw [Tb] at hj c2 ⊢
           have e1:(e+news.length)*bk.k+(j-e*bk.k-news.length*bk.k)=j:=by rw [Nat.add_mul];omega
           have e2:e*bk.k+news.length*bk.k+(j-e*bk.k-news.length*bk.k)=j:=by omega
           rw [e1] at hj;rw [e2]
           obtain ⟨v,qq,xd⟩:=hold _ c hj
           exact ⟨v,by simpa using qq,xd⟩
   . rw [ae.cN _ _ _ dT] at hi
     obtain ⟨g',N',Ms,Pp,Jy⟩:=h.blk i GM hi
     have hne:g'≠g:=h.inj i id _ _ (by simp [hi]) (by simp [hσ]) dT Jy.μ hB.μ
     exact ⟨g',N',Ms,Pp,Jy.keep hs (setRow_other w g g' nv hne) Jy.no⟩
 . intro i j x y hi hj hne hx hy
   refine h.inj i j x y ?_ ?_ hne hx hy
   . intro hn;by_cases dT:i=id
     . subst dT;simp [hσ] at hn
     . rw [ae.cN _ _ _ dT] at hi;exact hi hn
   . intro hn;by_cases dT:j=id
     . subst dT;simp [hσ] at hn
     . rw [ae.cN _ _ _ dT] at hj;exact hj hn
 . intro g' cs Pq
   obtain ⟨h1',h2'⟩:=h.glob g' cs Pq
   exact ⟨h1',bq.keep hs.bare (hs.same g' h1') cs 0 h2'⟩
 . intro k hk;simp at hk;exact h.new k hk
end Go.VL
end

section
namespace Go.VL
section
variable {P:Program} {G:Nat->Option (List AV)} {own:Nat->Prop} {E:Env} {w:World} {σ : ae} {p:Id}
theorem Y3 (hi:Inv G own E w σ) (hμ : E.μ p=none) (hσ : σ p=none) {id:Id} {bk:dc} (qg : σ id=some bk) (I0:bk.fr=false) {g N:Nat} {cur:Array Value} {ty:TypeId} (hB:yq E own w id bk g N cur ty)
   {ys:List AV} (hk:∀ e∈ys,e.size=bk.k) {news:List Value} (hv:aU E w (flat ys) news) (Ps:bk.els.length+ys.length<=N) {rd:List Id} :
   lX G own E w σ p { val := .osl p bk.k 0 (bk.els.length+ys.length) false,rd:=rd,up:=[(id,none),(p,some ⟨bk.els++ys,bk.k,false⟩)] }
     (.slice (some ⟨g,0,none⟩) (bk.els.length+ys.length) N) (E.bind p g bk.k N)
     (w.setRow g (cur.toList.take (bk.els.length*bk.k)++news++cur.toList.drop (bk.els.length*bk.k+news.length)).toArray):=by
 obtain ⟨yK,hvp⟩:=bT.1 hv
 have hy:=cO hk
 have he:=cO hB.k
 have hle:bk.els.length*bk.k+news.length<=cur.size:=by
   rw [yK,hy,hB.size, <- Nat.add_mul];exact Nat.mul_le_mul_right _ Ps
 generalize YU:(cur.toList.take (bk.els.length*bk.k)++news++cur.toList.drop (bk.els.length*bk.k+news.length)).toArray=nv
 have En:(w.setRow g nv).heap[g]? = some (.cells nv ty (0,0)):=setRow_heap w g cur nv ty _ hB.heap
 have agD:id≠p:=by rintro rfl;simp [qg] at hσ
 have hs:Step E (E.bind p g bk.k N) w (w.setRow g nv) :=
   ⟨fun i x h=>by rw [Env.ju];exact h;rintro rfl;simp [hμ] at h,fun _ h=>h,fun b hb=>setRow_other w g b nv (fun e=>hB.no I0 (e▸hb))⟩
 have ig:Adv own E (E.bind p g bk.k N) w (w.setRow g nv) :=
   ⟨hs,rfl,rfl,rfl,by simp,fun k _ hk=>setRow_other w g k nv (fun e=>hk (e▸hB.own)),fun _ h => .inl h⟩
 have hsz:nv.size=cur.size:=by
   rw [<- YU]
   simp only [List.size_toArray,List.length_append,List.length_take,List.length_drop,Array.length_toList]
   omega
 refine ⟨ig,⟨?_, ?_, ?_, ?_, ?_⟩, ?_,fun i hne=>Env.ju _ _ _ _ _ (fun e=>hne (by rw [e];exact List.suffix_refl _))⟩
 . intro b hb;simpa using hi.okb b hb
 . intro i GM h
   simp only [ae.app] at h
   by_cases e1:i=p
   . subst e1
     rw [ae.dO] at h
     simp only [Option.some.injEq] at h;subst h
     refine ⟨g,N,nv,ty,Env.jQ _ _ _ _ _,En,by rw [hsz];exact hB.size,by simpa using Ps,hB.most,hB.own,by simp,fun _ hb=>hB.no I0 hb, ?_, ?_⟩
     . intro e he
       rcases List.mem_append.1 he with h | h
       . exact hB.k e h
       . exact hk e h
     . show fy _ _ g 0 (flat (bk.els++ys))
       rw [ow]
       have hcell:∀ j,(w.setRow g nv).cell? ⟨g,j,none⟩=nv[j]? := fun j=>cell_of_row _ _ _ _ _ _ En
       have ht:(cur.toList.take (bk.els.length*bk.k)).length=bk.els.length*bk.k:=by simp;omega
       refine w9.2 ⟨fun j c hj => ?_,fun j c hj => ?_⟩
       . have zD:j<bk.els.length*bk.k:=by rw [<- he];exact (List.getElem?_eq_some_iff.1 hj).1
         obtain ⟨v,qq,xd⟩:=hB.row j c hj
         rw [Nat.zero_add,cell_of_row _ _ _ _ _ _ hB.heap] at qq
         refine ⟨v, ?_,aN.keep hs c v xd⟩
         rw [Nat.zero_add,hcell, <- YU]
         simp only [List.getElem?_toArray,List.append_assoc]
         rw [List.getElem?_append_left (by omega),List.getElem?_take_of_lt zD]
         simpa using qq
       . obtain ⟨v,qq,xd⟩:=hvp j c hj
         have zD:j<news.length:=(List.getElem?_eq_some_iff.1 qq).1
         refine ⟨v, ?_,aN.keep hs c v xd⟩
         rw [Nat.zero_add,hcell, <- YU,he]
         simp only [List.getElem?_toArray,List.append_assoc]
         rw [List.getElem?_append_right (by omega),ht,Nat.add_sub_cancel_left,List.getElem?_append_left zD]
         exact qq
   . rw [ae.cN _ _ _ e1] at h
     by_cases e2:i=id
     . subst e2;simp [ae.put] at h
     . rw [ae.cN _ _ _ e2] at h
       obtain ⟨g',N',Ms,Pp,Jy⟩:=hi.blk i GM h
       have hne:g'≠g:=hi.inj i id _ _ (by simp [h]) (by simp [qg]) e2 Jy.μ hB.μ
       exact ⟨g',N',Ms,Pp,Jy.keep hs (setRow_other w g g' nv hne) Jy.no⟩
 . intro i j x y hx hy hne h1 h2
   simp only [ae.app] at hx hy
   have other:∀ i,i≠p->((σ.put id none).put p (some ⟨bk.els++ys,bk.k,false⟩)) i≠none->i≠id /\ σ i≠none:=by
     intro i e h
     rw [ae.cN _ _ _ e] at h
     have e2:i≠id:=by rintro rfl;simp [ae.put] at h
     rw [ae.cN _ _ _ e2] at h
     exact ⟨e2,h⟩
   by_cases e1:i=p
   . have e1:=e1.symm
     subst e1
     have e2:j≠p:=fun e=>hne e.symm
     obtain ⟨h3,h4⟩:=other j e2 hy
     rw [Env.jQ] at h1
     rw [Env.ju _ _ _ _ _ e2] at h2
     have:=hi.inj id j (g,bk.k,N) y (by simp [qg]) h4 (fun e=>h3 e.symm) hB.μ h2
     simp only [Option.some.injEq] at h1
     rw [<- h1];exact this
   . obtain ⟨h3,h4⟩:=other i e1 hx
     rw [Env.ju _ _ _ _ _ e1] at h1
     by_cases e2:j=p
     . subst e2
       rw [Env.jQ] at h2
       have:=hi.inj i id x (g,bk.k,N) h4 (by simp [qg]) h3 h1 hB.μ
       simp only [Option.some.injEq] at h2
       rw [<- h2];exact this
     . obtain ⟨h5,h6⟩:=other j e2 hy
       rw [Env.ju _ _ _ _ _ e2] at h2
       exact hi.inj i j x y h4 h6 hne h1 h2
 . intro g' cs Pq
   obtain ⟨h1,h2⟩:=hi.glob g' cs Pq
   exact ⟨h1,bq.keep hs.bare (hs.same g' h1) cs 0 h2⟩
 . intro k hk;simp at hk;exact hi.new k hk
 . simp only [aN]
   exact ⟨g,N,N,Env.jQ _ _ _ _ _,by simp,Ps,by omega,hB.most,by simp⟩
def QP (c:AV) (val:Value):Prop:=∀ E w,aN E w c val
theorem KU {ys:List AV} (h:(ys.all fun e=>e.cells.all AV.one)=true):∀ c∈flat ys,c.one=true:=by
 intro c hc
 simp only [flat,List.mem_flatMap] at hc
 obtain ⟨e,he,hce⟩:=hc
 have:=List.all_eq_true.1 h e he
 exact List.all_eq_true.1 this c hce
theorem rP (t ty e bt:TypeId) (i:TypeInfo) (ht:P.underlying t=some (.slice e)) (hi:P.info? e=some i)
   (g Pw adh:Nat) (cur:Array Value) (hg:w.heap[g]? = some (.cells cur bt (0,0)))
   (a:Addr) (m c:Nat) (news:List Value) (hl:news.length=m*i.size) (agE:∀ j u,news[j]? = some u->w.cell? (a.add j)=some u) (h1:∀ u∈news,u.oneCell'=true)
   (hroom:Pw+m<=adh) (Ps:Pw*i.size+news.length<=cur.size) :
   (Builtin.append_ #[t,t] ty #[.slice (some ⟨g,0,none⟩) Pw adh, .slice (some a) m c]).run P w =
     .ok (.slice (some ⟨g,0,none⟩) (Pw+m) adh) (w.setRow g (cur.toList.take (Pw*i.size)++news++cur.toList.drop (Pw*i.size+news.length)).toArray):=by
 have hf:=run_firstCells_some (P:=P) w i.size m a m c news hl agE
 have hst:=run_storeCells_at P g (Pw*i.size) bt news 0 cur w hg (by simpa using Ps) h1
 simp only [Nat.add_zero] at hst
 simp [Builtin.append_,run_underlying ht,sizeOf,typeInfo,hi,Builtin.lenOf,hroom,hf,Addr.add_lit,hst]
theorem B3 {z:AV} {zv:Value} (hz:aU E w z.cells zv.cells.toList) (n:Nat) (hp:0<z.size):aU E w (flat (List.replicate n z)) (Builtin.zeroCells zv.cells n).toList:=by
 obtain ⟨hl,hp2⟩:=bT.1 hz
 have hk:∀ e∈List.replicate n z,e.size=z.size:=fun e he=>by rw [List.eq_of_mem_replicate he]
 have GN:=cO hk
 have hs:zv.cells.size=z.size:=by simpa [AV.size] using hl
 refine bT.2 ⟨by rw [GN];simp [Builtin.zeroCells,hs],fun j c hj => ?_⟩
 have zD:j<n*z.size:=by have:=(List.getElem?_eq_some_iff.1 hj).1;rw [GN] at this;simpa using this
 have hdm:j/z.size*z.size+j%z.size=j:=by rw [Nat.mul_comm];exact Nat.div_add_mod j z.size
 have adj:=Nat.mod_lt j hp
 have hdiv:j/z.size<n:=Nat.div_lt_of_lt_mul (by rwa [Nat.mul_comm] at zD)
 have hg:=flat_get (i:=j/z.size) (e:=z) hk (by simp [hdiv]) adj
 rw [hdm,hj] at hg
 obtain ⟨v,hv,hr⟩:=hp2 (j%z.size) c hg.symm
 refine ⟨v, ?_,hr⟩
 have hv':zv.cells[j%z.size]? = some v:=by simpa using hv
 simp only [Builtin.zeroCells,Array.toList_map,Array.toList_range,List.getElem?_map,hs,List.getElem?_range zD,Option.map_some]
 rw [getElem!_def,hv']
theorem G0 (hi:Inv G own E w σ) {id:Id} {off k len:Nat} {tt:Bool} {news:List AV} {v:AV} {rd:List Id} {r:fL} (h:C6 σ id off k news v rd=some r) {a:Value} (hs:aN E w (.osl id k off len tt) a)
   (hk:∀ e∈news,e.size=k) {vs:List Value} (hv:aU E w (flat news) vs) {val:Value} (hval:QP v val) :
   ∃ g cap,a = .slice (some ⟨g,off*k,none⟩) len cap/\∃ w',(storeCells ⟨g,off*k,none⟩ vs).run P w = .ok () w'/\lX G own E w σ p r val E w':=by
 unfold C6 at h
 split at h
 . rename_i bk qg
   split at h
   . rename_i hh
     obtain ⟨Pv,hle,I0,QQ⟩:=hh
     simp only [Option.some.injEq] at h;subst h
     obtain ⟨g,N,cur,ety,hB⟩:=hi.blk id bk qg
     simp only [aN] at hs
     obtain ⟨g',N',cap,KV,rfl,Mm,hoc,hNm,Vm⟩:=hs
     rw [hB.μ] at KV
     simp only [Option.some.injEq,Prod.mk.injEq] at KV
     obtain ⟨rfl,_,rfl⟩:=KV
     obtain ⟨Gw,had,Tc⟩:=Fu hi qg I0 hB (e:=off) (news:=news) (vs:=vs) hle (fun e he=>by rw [Pv];exact hk e he) hv
     have e0:off*bk.k=off*k:=by rw [Pv]
     rw [e0] at Gw had Tc
     have hst:=run_storeCells_at P g (off*k) ety vs 0 cur w hB.heap (by simpa using Gw) (GZ hv (KU QQ))
     simp only [Nat.add_zero] at hst
     exact ⟨g,cap,rfl,_,hst,had,Tc,hval E _,fun _ _=>rfl⟩
   . simp at h
 . simp at h
theorem MB (hi:Inv G own E w σ) {t e ty:TypeId} {z:AV} (hu:P.underlying t=some (.slice e)) (hz:nj P e=some z) (re:0<z.size) {x:AV} {a:Value} (hx:aN E w x a) {r:fL} (h:GO σ z.size z x=some r) :
   Sound P G own E w σ p (Builtin.clear_ #[t] ty #[a]) r:=by
 obtain ⟨it,zv,hit,Pd,KM,QL,QM⟩:=lY hz
 have hzr:=aN.cells (jh (E:=E) (w:=w) KM) (kr QM)
 unfold GO at h
 split at h
 . simp only [Option.some.injEq] at h;subst h
   simp only [aN] at hx;subst hx
   exact Sound.same (v := .tuple #[]) hi (by simp [Builtin.clear_,run_underlying hu]) (by simp only [aN];exact ⟨#[],rfl,by simp [aU]⟩)
 . rename_i id k' off len tt
   split at h
   . rename_i h0
     subst h0
     simp only [Option.some.injEq] at h;subst h
     simp only [aN] at hx
     obtain ⟨g',N',cap,KV,rfl,_⟩:=hx
     exact Sound.same (v := .tuple #[]) hi (by simp [Builtin.clear_,run_underlying hu]) (by simp only [aN];exact ⟨#[],rfl,by simp [aU]⟩)
   . rename_i h0
     split at h
     . rename_i hh
       obtain ⟨rfl,_⟩:=hh
       obtain ⟨g,cap,rfl,w',hst,hp⟩:=G0 (P:=P) (p:=p) (val := .tuple #[]) hi h hx (fun e he=>by rw [List.eq_of_mem_replicate he]) (B3 hzr len re) (fun E w=>by simp only [aN];exact ⟨#[],rfl,by simp [aU]⟩)
       refine ⟨_,w',E, ?_,hp⟩
       obtain ⟨m,rfl⟩:∃ m,len=m+1:=⟨len-1,by omega⟩
       simp [Builtin.clear_,run_underlying hu,BZ hit Pd,hst]
     . simp at h
 . simp at h
theorem Px (hi:Inv G own E w σ) {t t2 e ty:TypeId} {i:TypeInfo} (hu:P.underlying t=some (.slice e)) (dT:P.info? e=some i) {d x:AV} {a b:Value} (hd:aN E w d a) (hx:aN E w x b) {r:fL} (h:Mt σ i.size d x=some r) :
   Sound P G own E w σ p (Builtin.copy_ #[t,t2] ty #[a,b]) r:=by
 unfold Mt at h
 split at h
 . simp at h
 . rename_i ys rd C3
   obtain ⟨Jw,xa,I9,rfl,YH,xf⟩:=Bj hi hx C3
   have zero:∀ (ba:Option Addr) (n cap:Nat),Nat.min ys.length n=0->(Builtin.copy_ #[t,t2] ty #[.slice ba n cap, .slice xa ys.length I9]).run P w = .ok (.int .i64 0) w:=by
     intro ba n cap h0
     cases ba<;>cases xa<;>simp [Builtin.copy_,run_underlying hu,fO dT,Builtin.lenOf,h0,Builtin.firstCells,loadCells,loadCellsFrom,storeCells,goInt]
   split at h
   . simp only [Option.some.injEq] at h;subst h
     simp only [aN] at hd;subst hd
     exact Sound.same hi (zero none 0 0 (by simp)) (by simp only [aN])
   . rename_i id k' off len tt
     split at h
     . rename_i h0
       simp only [Option.some.injEq] at h;subst h
       simp only [aN] at hd
       obtain ⟨g',N',cap,KV,rfl,_⟩:=hd
       have h0':Nat.min ys.length len=0:=by
         have:=congrArg List.length (List.isEmpty_iff.1 h0)
         simp only [List.length_take,List.length_nil] at this
         rw [Nat.min_comm] at this;exact this
       exact Sound.same hi (zero _ len cap h0') (by simp only [aN])
     . rename_i h0
       split at h
       . rename_i hk
         subst hk
         have hne:ys≠[]:=by rintro rfl;simp at h0
         obtain ⟨xb,xo,rfl,hxr⟩:=xf.resolve_left hne
         have hkt:∀ e∈ys.take len,e.size=i.size:=fun e he=>Jw e (List.mem_of_mem_take he)
         have ak0:fy E w xb xo (flat (ys.take len)):=by
           rw [Ev Jw]
           exact (w9.1 (by rw [List.take_append_drop];exact hxr:fy E w xb xo ((flat ys).take (len*i.size)++(flat ys).drop (len*i.size)))).1
         obtain ⟨news,S9,hnc⟩:=KT ak0
         have Y4:news.length=(ys.take len).length*i.size:=by rw [aU.len S9,cO hkt]
         obtain ⟨g,cap,rfl,w',hst,hp⟩:=G0 (P:=P) (p:=p) (val := .int .i64 (ys.take len).length) hi h hd hkt S9 (fun E w=>by simp only [aN])
         refine ⟨_,w',E, ?_,hp⟩
         have agF:Nat.min ys.length len=(ys.take len).length:=by rw [List.length_take,Nat.min_comm]
         have hf:=run_firstCells_some (P:=P) w i.size (ys.take len).length ⟨xb,xo,none⟩ ys.length I9 news Y4 hnc
         generalize (ys.take len).length=m at agF hf hp ⊢
         simp [Builtin.copy_,run_underlying hu,fO dT,Builtin.lenOf,agF,hf,hst,goInt]
       . simp at h
   . simp at h
theorem Ja {d:Option TypeDesc} (h:Ep d=true):∃ e,d=some (.slice e):=by
 unfold Ep at h
 split at h
 . exact ⟨_,rfl⟩
 . cases h
theorem Ew {t t' e e' ty:TypeId} (hu:P.underlying t=some (.slice e)) (Pf:P.underlying t'=some (.slice e')) (a b:Value) (w:World) :
   (Builtin.append_ #[t,t'] ty #[a,b]).run P w=(Builtin.append_ #[t,t] ty #[a,b]).run P w:=by
 cases a<;>simp [Builtin.append_,run_underlying hu,run_underlying Pf]
theorem KW (hi:Inv G own E w σ) (hμ : E.μ p=none) (hσ : σ p=none) {t e ty:TypeId} {i:TypeInfo} (hu:P.underlying t=some (.slice e)) (dT:P.info? e=some i)
   (hz:(nj P e).isSome=true) {s x:AV} {a b:Value} (hs:aN E w s a) (hx:aN E w x b) {r:fL} (h:fK σ p i.size i.bytes s x=some r) :
   Sound P G own E w σ p (Builtin.append_ #[t,t] ty #[a,b]) r:=by
 obtain ⟨z,hz⟩:=Option.isSome_iff_exists.1 hz
 obtain ⟨it,zv,hit,Pd,KM,QL,QM⟩:=lY hz
 rw [dT] at hit
 simp only [Option.some.injEq] at hit;subst hit
 have Vn:zv.cells.size=i.size:=by
   have:=aU.len (aN.cells (jh (E:=E) (w:=w) KM) (kr QM))
   simp at this;unfold AV.size at QL;omega
 unfold fK at h
 split at h
 . simp at h
 . rename_i ys rd C3
   obtain ⟨Jw,xa,I9,rfl,YH,xf⟩:=Bj hi hx C3
   split at h
   . rename_i Py
     have hys:ys=[]:=by simpa using Py
     subst hys
     have hrun:∀ (base:Option Addr) (n cap:Nat),n<=cap->(Builtin.append_ #[t,t] ty #[.slice base n cap, .slice xa ([]:List AV).length I9]).run P w = .ok (.slice base n cap) w:=by
       intro base n cap hn
       cases base<;>cases xa<;>simp [Builtin.append_,run_underlying hu,fO dT,Builtin.lenOf,hn,Builtin.firstCells,loadCells,loadCellsFrom,storeCells]
     split at h
     . simp only [Option.some.injEq] at h;subst h
       have e8:=hs
       simp only [aN] at hs;subst hs
       exact Sound.same hi (hrun none 0 0 (Nat.le_refl _)) e8
     . simp only [Option.some.injEq] at h;subst h
       have e8:=hs
       simp only [aN] at hs;obtain ⟨q,rfl,_⟩:=hs
       exact Sound.same hi (hrun q _ _ (Nat.le_refl _)) e8
     . simp only [Option.some.injEq] at h;subst h
       have e8:=hs
       simp only [aN] at hs;obtain ⟨g,N,cap,_,rfl,hle,_⟩:=hs
       exact Sound.same hi (hrun _ _ _ hle) e8
     . simp at h
   . rename_i Py
     have hne:ys≠[]:=by simpa using Py
     have re:0<ys.length:=List.length_pos_iff.2 hne
     obtain ⟨xb,xo,rfl,hxr⟩:=xf.resolve_left hne
     obtain ⟨news,S9,hnc⟩:=KT hxr
     have GN:=cO Jw
     have Y4:news.length=ys.length*i.size:=by rw [aU.len S9,GN]
     -- an append to a row that has no room
     have grow:∀ (ba:Addr) (q:Nat) (es:List AV) (cap:Nat),(∀ e∈es,e.size=i.size)->(es=[]∨∃ b o,ba=⟨b,o,none⟩/\fy E w b o (flat es))->q=es.length->cap<q+ys.length ->
         (q+ys.length)*i.bytes<=140737488355328->q+ys.length<=maxLen->∀ rd,
         ∃ v w' E',(Builtin.append_ #[t,t] ty #[.slice (some ba) q cap, .slice (some ⟨xb,xo,none⟩) ys.length I9]).run P w = .ok v w' /\
           lX G own E w σ p { val := .osl p i.size 0 (q+ys.length) false,rd:=rd,up:=[(p,some ⟨es++ys,i.size,false⟩)] } v E' w':=by
       intro ba q es cap hk hr hq Y5 hb hm rd
       have Vl:=cO hk
       obtain ⟨Vo,YG,hoc⟩:∃ vs:List Value,aU E w (flat es) vs/\∀ j v,vs[j]? = some v->w.cell? (ba.add j)=some v:=by
         rcases hr with rfl | ⟨b,o,rfl,hr⟩
         . exact ⟨[],by simp [flat,aU],by simp⟩
         . exact KT hr
       have hol:Vo.length=q*i.size:=by rw [aU.len YG,Vl,hq]
       have hrun:=run_append_grow (P:=P) w t ty e i zv hu dT Pd ba q cap Vo hol hoc ⟨xb,xo,none⟩ ys.length I9 news Y4 hnc Y5 (by unfold maxLen at hm;omega) (growslice_fits Y5 hb)
       have G1:=grownCap_ge w (q+ys.length) cap e
       have JG:=grownCap_le_maxLen w (q+ys.length) cap e hm
       refine ⟨_,_,E.bind p w.heap.size i.size (grownCap w (q+ys.length) cap e),hrun, ?_⟩
       have:=Db (p:=p) (rd:=rd) hi hμ hσ (k:=i.size) (n:=q+ys.length) (N:=grownCap w (q+ys.length) cap e) (els:=es++ys) (fun e he=>(List.mem_append.1 he).elim (hk e) (Jw e)) (by simp [hq])
         (vs:=Vo++news) (by rw [ow];exact aU.append YG S9) (rest:=Builtin.zeroCells zv.cells (grownCap w (q+ys.length) cap e-(q+ys.length))) (by rw [size_zeroCells,Vn]) G1 JG e
       have hee:(Vo++news).toArray=Vo.toArray++news.toArray:=by simp
       rw [hee] at this
       exact this
     split at h
     . -- onto nil
       split at h
       . rename_i hh
         obtain ⟨hb,hm,_⟩:=hh
         simp only [Option.some.injEq] at h;subst h
         simp only [aN] at hs;subst hs
         have hrun:=run_append_nil (P:=P) w t ty e i zv hu dT Pd ⟨xb,xo,none⟩ ys.length I9 news Y4 hnc re (by unfold maxLen at hm;omega) (by omega)
         have G1:=grownCap_ge w ys.length 0 e
         have JG:=grownCap_le_maxLen w ys.length 0 e hm
         refine ⟨_,_,E.bind p w.heap.size i.size (grownCap w ys.length 0 e),hrun, ?_⟩
         exact Db (p:=p) (rd:=rd) hi hμ hσ (k:=i.size) (n:=ys.length) (N:=grownCap w ys.length 0 e) (els:=ys) Jw rfl S9 (by rw [size_zeroCells,Vn]) G1 JG e
       . simp at h
     . -- onto a row without room
       rename_i k' es
       split at h
       . rename_i hh
         obtain ⟨rfl,hb,hm,_⟩:=hh
         simp only [Option.some.injEq] at h;subst h
         simp only [aN] at hs
         obtain ⟨q,rfl,_,hk,hr⟩:=hs
         cases q with
         | none =>
           have hes:es=[]:=by rcases hr with h | ⟨b,o,h,_⟩;exact h;simp at h
           subst hes
           simp only [List.length_nil,Nat.zero_add,List.nil_append] at hb hm ⊢
           have hrun:=run_append_nil (P:=P) w t ty e i zv hu dT Pd ⟨xb,xo,none⟩ ys.length I9 news Y4 hnc re (by unfold maxLen at hm;omega) (by omega)
           have G1:=grownCap_ge w ys.length 0 e
           have JG:=grownCap_le_maxLen w ys.length 0 e hm
           refine ⟨_,_,E.bind p w.heap.size i.size (grownCap w ys.length 0 e),hrun, ?_⟩
           exact Db (p:=p) (rd:=rd) hi hμ hσ (k:=i.size) (n:=ys.length) (N:=grownCap w ys.length 0 e) (els:=ys) Jw rfl S9 (by rw [size_zeroCells,Vn]) G1 JG e
         | some ba =>
           exact grow ba es.length es es.length hk (hr.imp id fun ⟨b,o,e,_,r⟩=>⟨b,o,by simpa using e,dY.1 r⟩) rfl (by omega) hb hm rd
       . simp at h
     . -- onto a block of the store
       rename_i id k' off len tt
       split at h
       . rename_i bk qg
         split at h
         . rename_i hh
           obtain ⟨rfl,Pv,rfl,hle,hb,hm,QQ⟩:=hh
           obtain ⟨g,N,cur,ety,hB⟩:=hi.blk id bk qg
           simp only [aN] at hs
           obtain ⟨g',N',cap,KV,rfl,Mm,hoc,hNm,Vm⟩:=hs
           rw [hB.μ] at KV
           simp only [Option.some.injEq,Prod.mk.injEq] at KV
           obtain ⟨rfl,_,rfl⟩:=KV
           have KO:∀ e∈bk.els,e.size=i.size:=fun e he=>by rw [<- Pv];exact hB.k e he
           simp only [Nat.zero_mul]
           split at h
           . split at h
             . rename_i ht _
               simp only [Option.some.injEq] at h;subst h
               rw [if_pos ht] at Vm
               have G2:=se (l:=0) (r:=len) hB.k hB.row (Nat.zero_le _) hle
               simp only [Nat.zero_mul,Nat.add_zero,List.drop_zero] at G2
               exact grow ⟨g,0,none⟩ len (bk.els.take len) cap (fun e he=>KO e (List.mem_of_mem_take he)) (.inr ⟨g,0,rfl,G2⟩) (by simp;omega) (by omega) hb hm (id::rd)
             . simp at h
           . split at h
             . rename_i ht hh2
               obtain ⟨Y6,I0,yr⟩:=hh2
               simp only [Option.some.injEq] at h;subst h
               simp only [ht,Bool.false_eq_true,if_false,Nat.zero_add] at Vm
               subst Y6
               by_cases hroom:bk.els.length+ys.length<=cap
               . have hrun:=rP (P:=P) (w:=w) t ty e ety i hu dT g bk.els.length cap cur hB.heap ⟨xb,xo,none⟩ ys.length I9 news Y4 hnc (GZ S9 (KU QQ)) hroom
                   (by rw [Y4,hB.size,Pv, <- Nat.add_mul];exact Nat.mul_le_mul_right _ (by omega))
                 obtain rfl:cap=N:=Vm
                 refine ⟨_,_,E.bind p g i.size cap,hrun, ?_⟩
                 have:=Y3 (p:=p) (rd:=id::rd) hi hμ hσ qg I0 hB (ys:=ys) (fun e he=>by rw [Pv];exact Jw e he) S9 hroom
                 rw [Pv] at this
                 exact this
               . obtain ⟨v,w',E',hrun,QR⟩:=grow ⟨g,0,none⟩ bk.els.length bk.els cap KO (.inr ⟨g,0,rfl,hB.row⟩) rfl (by omega) hb hm (id::rd)
                 refine ⟨v,w',E',hrun,QR.I1, ?_,QR.rep,QR.ids⟩
                 have agD:id≠p:=by rintro rfl;simp [qg] at hσ
                 have:=Y2 QR.inv id
                 have he:(σ.app [(p,some ⟨bk.els++ys,i.size,false⟩)]).put id none = σ.app [(id,none),(p,some ⟨bk.els++ys,i.size,false⟩)]:=by
                   funext j
                   simp only [ae.app,ae.put]
                   by_cases e1:j=id
                   . subst e1;simp [agD]
                   . simp [e1]
                 rw [he] at this
                 exact this
             . split at h
               . -- over elements that lie behind
                 rename_i ht _ hh2
                 obtain ⟨Y6,I0⟩:=hh2
                 simp only [Option.some.injEq] at h;subst h
                 simp only [ht,Bool.false_eq_true,if_false,Nat.zero_add] at Vm
                 obtain rfl:cap=N:=Vm
                 have hroom:len+ys.length<=cap:=Nat.le_trans Y6 hB.len
                 obtain ⟨Gw,had,Tc⟩:=Fu hi qg I0 hB (e:=len) (news:=ys) (vs:=news) Y6 (fun e he=>by rw [Pv];exact Jw e he) S9
                 have e0:len*bk.k=len*i.size:=by rw [Pv]
                 rw [e0] at Gw had Tc
                 have hrun:=rP (P:=P) (w:=w) t ty e ety i hu dT g len cap cur hB.heap ⟨xb,xo,none⟩ ys.length I9 news Y4 hnc (GZ S9 (KU QQ)) hroom Gw
                 refine ⟨_,_,E,hrun,had,Tc, ?_,fun _ _=>rfl⟩
                 simp only [aN]
                 exact ⟨g,cap,cap,by rw [hB.μ,Pv],by simp,hroom,by omega,hNm,by simp⟩
               . simp at h
         . simp at h
       . simp at h
     . simp at h
theorem Pz (hi:Inv G own E w σ) (hμ : E.μ p=none) (hσ : σ p=none) {t tn e ty:TypeId} {i:TypeInfo} {kn:IntKind} (hu:P.underlying t=some (.slice e)) (dT:P.info? e=some i) (htn:P.underlying tn=some (.int kn)) {z:AV}
   (hz:nj P e=some z) (re:0<i.size) {s x:AV} {a b:Value} (hs:aN E w s a) (hx:aN E w x b) {r:fL} (h:Jz p i.size i.bytes z s x=some r) :
   Sound P G own E w σ p (Builtin.append_ #[t,tn] ty #[a,b]) r:=by
 obtain ⟨it,zv,hit,Pd,KM,QL,QM⟩:=lY hz
 rw [dT] at hit
 simp only [Option.some.injEq] at hit;subst hit
 have hzr:=aN.cells (jh (E:=E) (w:=w) KM) (kr QM)
 have Vn:zv.cells.size=i.size:=by have:=aU.len hzr;simp at this;unfold AV.size at QL;omega
 unfold Jz at h
 split at h
 . rename_i kk n
   split at h
   . rename_i hh
     obtain ⟨h0,hb,hm,hzk,_⟩:=hh
     simp only [Option.some.injEq] at h;subst h
     simp only [aN] at hs hx;subst hs;subst hx
     obtain ⟨m,rfl⟩:∃ m:Nat,n=m:=⟨n.toNat,by omega⟩
     have JI:m*i.bytes<=140737488355328:=by rw [<- Int.natCast_mul] at hb;omega
     have tI:m<=maxLen:=by omega
     have G1:=grownCap_ge w m 0 e
     have JG:=grownCap_le_maxLen w m 0 e tI
     have hrun:=Lib.run_append_nil_zeros (P:=P) w t tn ty e i zv kk kn hu htn dT Pd m (by omega) re (by unfold maxLen at tI;omega) (by omega)
     refine ⟨_,_,E.bind p w.heap.size i.size (grownCap w m 0 e),hrun, ?_⟩
     have:=Db (p:=p) (rd:=[]) hi hμ hσ (k:=i.size) (n:=m) (N:=grownCap w m 0 e) (els:=List.replicate m z) (fun e he=>by rw [List.eq_of_mem_replicate he];exact hzk) (by simp)
       (vs:=(Builtin.zeroCells zv.cells m).toList) (B3 hzr m (by omega)) (rest:=Builtin.zeroCells zv.cells (grownCap w m 0 e-m)) (by rw [size_zeroCells,Vn]) G1 JG e
     simpa using this
   . simp at h
 . simp at h
end
end Go.VL
end

section
namespace Go.VL
section
variable {P:Program} {G:Nat->Option (List AV)} {own:Nat->Prop} {E:Env} {w:World} {σ : ae} {p:Id}
def ey (P:Program) (G:Nat->Option (List AV)) (own:Nat->Prop) (E:Env) (w:World) (σ : ae) (p:Id) (r:fL) (s:Sem Next):Prop :=
 ∃ v w' E',(s.run P w = .ok (.value v) w'∨(s.run P w = .ok .skip w'/\v=undef))/\lX G own E w σ p r v E' w'
theorem ey.of {s:Sem Value} {r:fL} (h:Sound P G own E w σ p s r):ey P G own E w σ p r (do pure (.value (<- s))):=by
 obtain ⟨v,w',E',hr,hp⟩:=h
 exact ⟨v,w',E', .inl (by simp [hr]),hp⟩
theorem ey.ofU {s:Sem Unit} {r:fL} (h:∃ w',s.run P w = .ok () w'/\lX G own E w σ p r undef E w'):ey P G own E w σ p r (do s;pure .skip):=by
 obtain ⟨w',hr,hp⟩:=h
 exact ⟨undef,w',E, .inr ⟨by simp [hr],rfl⟩,hp⟩
theorem zJ {t:List AV} {a:Act} (hf:cF E w t a) (hi:Inv G own E w σ) {x:Option Operand} {vx:Option aV} (h:Eo x=some vx):pe E w (vx.map (aV.ev G t)) (x.map a.eval):=by
 cases x with
 | none=>simp only [Eo,Option.some.injEq] at h;subst h;trivial
 | some x =>
   simp only [Eo,Option.map_eq_some_iff] at h
   obtain ⟨va,BX,rfl⟩:=h
   exact aX hf hi BX
theorem PA {σ : ae} {x:AV} {oc:Option AV} {r:fL} (h:GQ σ x oc=some r):bB oc=some r∨∃ id k off len bk,x = .osl id k off len false /\ σ id=some bk/\off<=bk.els.length/\r={ val := .ige (bk.els.length-off),rd:=[id] }:=by
 unfold GQ at h
 split at h
 . exact .inl h
 . split at h
   . rename_i id k off len
     split at h
     . rename_i bk hb
       split at h
       . rename_i ho
         simp only [Option.some.injEq] at h
         exact .inr ⟨id,k,off,len,bk,rfl,hb,ho,h.symm⟩
       . simp at h
     . simp at h
   . simp at h
theorem Jb (hi : Inv G own E w σ) {t e:TypeId} {i:TypeInfo} (hu:P.underlying t=some (.slice e)) (dT:P.info? e=some i) {x:AV} {v:Value} (hx:aN E w x v)
   {lo qY mx:Option AV} {Ta QO vmx:Option Value} (zI:pe E w lo Ta) (F1:pe E w qY QO) (hmx:pe E w mx vmx) (hmh:mx.isSome->qY.isSome) {r:fL}
   (h:rT σ i.size x lo qY mx (gh i.size x lo qY mx)=some r):Sound P G own E w σ p (Instr.sliceAt t v Ta QO vmx) r:=by
 cases hs:gh i.size x lo qY mx with
 | some c =>
   rw [hs] at h
   refine Sound.gn (oc:=some c) h fun c' hc' => ?_
   simp only [Option.some.injEq] at hc';subst hc'
   exact Da hi hu dT hx zI F1 hmx hmh hs
 | none =>
   rw [hs] at h
   simp only [rT] at h
   split at h
   . rename_i id k' off len hh
     split at h
     . rename_i bk hb
       split at h
       . rename_i hc
         obtain ⟨ho,hk⟩:=hc
         simp only [Option.map_eq_some_iff] at h
         obtain ⟨c,hc,rfl⟩:=h
         simp only [aN] at hx
         obtain ⟨g,N,cap,hm,rfl,h1,h2,h3,h4⟩:=hx
         obtain ⟨g',N',cur,Pp,hB⟩:=hi.blk id bk hb
         have hμ := hB.μ
         rw [hμ] at hm
         simp only [Option.some.injEq,Prod.mk.injEq] at hm
         obtain ⟨rfl,rfl,rfl⟩:=hm
         simp only [Bool.false_eq_true,if_false] at h4
         have hl:=hB.len
         have hx':aN E w (.osl id bk.k off (bk.els.length-off) false) (.slice (some ⟨g',off*bk.k,none⟩) (bk.els.length-off) cap):=by
           simp only [aN]
           exact ⟨g',N',cap,hμ,rfl,by omega,h2,h3,by simpa using h4⟩
         have ak2:vmx=none:=by cases vmx with | none=>rfl | some _=>exact (hmx:False).elim
         subst ak2
         obtain ⟨v,w',E',hrun,hp⟩:=Da (p:=p) hi hu dT hx' zI F1 (mx:=none) (vmx:=none) hmx (by simp) hc
         cases QO with
         | none=>exact (F1:False).elim
         | some u =>
           refine ⟨v,w',E', ?_,⟨hp.I1,hp.inv,hp.rep,hp.ids⟩⟩
           rw [<- hrun]
           simp [Instr.sliceAt,Instr.slice,run_underlying hu,Instr.sliceBounds]
       . simp at h
     . simp at h
   . rename_i hh km m
     split at h
     . rename_i n hn
       split at h
       . rename_i l r' hb
         split at h
         . rename_i hc
           simp only [Option.some.injEq] at h;subst h
           obtain ⟨h1,h2⟩:=hc
           have hm0:m=((m.toNat:Nat):Int):=by omega
           obtain ⟨a,cap,rfl,Mm⟩:∃ a cap,v = .slice a n cap/\n<=cap:=by
             unfold abz at hn
             split at hn
             . simp only [Option.some.injEq] at hn;subst hn
               simp only [aN] at hx;exact ⟨_,_,hx,Nat.le_refl _⟩
             . split at hn
               . simp only [Option.some.injEq] at hn;subst hn
                 simp only [aN] at hx;obtain ⟨a,cap,rfl,h,_⟩:=hx;exact ⟨_,_,rfl,h⟩
               . simp at hn
             . split at hn
               . simp only [Option.some.injEq] at hn;subst hn
                 simp only [aN] at hx;obtain ⟨a,rfl,_⟩:=hx;exact ⟨_,_,rfl,Nat.le_refl _⟩
               . simp at hn
             . split at hn
               . simp only [Option.some.injEq] at hn;subst hn
                 simp only [aN] at hx;obtain ⟨g,N,cap,_,rfl,h,_⟩:=hx;exact ⟨_,_,rfl,h⟩
               . simp at hn
             . simp at hn
           unfold iW at hb
           split at hb
           . simp at hb
           . rename_i h1' e1
             split at hb
             . simp at hb
             . rename_i l1 e2
               simp only [Option.some.injEq,Prod.mk.injEq] at hb
               obtain ⟨rfl,rfl⟩:=hb
               obtain ⟨yr,_,_⟩:=jv (P:=P) (isSlice:=true) (len:=n) (cap:=cap) (m:=m.toNat) zI F1 hmx Mm e1 e2 (.inr ⟨km,by rw [<- hm0],by simp,by omega,by omega⟩)
               refine ⟨.slice (if m.toNat=l1 then a else a.map (·.add (l1*i.size))) (h1'-l1) (m.toNat-l1),w,E, ?_,⟨Adv.refl own E w,hi,by simp only [aN],fun _ _=>rfl⟩⟩
               simp [Instr.sliceAt,Instr.slice,run_underlying hu,yr,fO dT]
         . simp at h
       . simp at h
     . simp at h
   . simp at h
theorem QS {f:FuncId} {fn:Func} {e:Array Value->Sem Value} {c:Call} {a:Act} {o:Oper} (hop:o.op = .call c) (zK:c.callee = .value (.func f)) (hf:P.funcs[f]? = some fn) (zL:(fn.name == "runtime.NumGoroutine")=false)
   (hb:fn.body.isNone=true) (hn:Extern.findNext fn=none) (he:Extern.find fn=some e) {v:Value} {w':World} (hrun:(e (c.args.map a.eval)).run P w = .ok v w') :
   (execOp a.eval o).run P w = .ok (.value v) w':=by
 have h1:=run_callFunc_extern hf zL hb hn he (c.args.map a.eval) w
 rw [hrun] at h1
 simp only [Result.andThen] at h1
 have e0:a.eval (.func f) = .func (.func f) #[] #[]:=rfl
 simp [execOp,hop,resolve,zK,e0,Deferred.ofValue,invoke,h1]
theorem JJ {fo : Operand} {k:YW} (h:U8 P fo=some k):∃ f fn,fo = .func f/\P.funcs[f]? = some fn/\fn.body.isNone=true /\
   ((k = .idx/\fn.name = "internal/bytealg.IndexByteString" /\ fn.origin = "")∨(k = .ovl/\fn.origin = "slices.overlaps" /\ zG fn.name=true/\∃ t e i,fn.params[0]? = some t/\P.underlying t=some (.slice e)/\P.info? e=some i)):=by
 unfold U8 at h
 split at h
 . rename_i f
   split at h
   . rename_i fn Tb
     split at h
     . rename_i hb
       refine ⟨f,fn,rfl,Tb,hb, ?_⟩
       split at h
       . rename_i hn
         simp only [Option.some.injEq] at h
         simp only [Bool.and_eq_true,beq_iff_eq] at hn
         exact .inl ⟨h.symm,hn.1,hn.2⟩
       . split at h
         . rename_i ho
           simp only [Bool.and_eq_true,beq_iff_eq] at ho
           split at h
           . rename_i t ht
             split at h
             . rename_i e he
               split at h
               . rename_i hi
                 simp only [Option.some.injEq] at h
                 obtain ⟨i,hi⟩:=Option.isSome_iff_exists.1 hi
                 exact .inr ⟨h.symm,ho.1,ho.2,t,e,i,ht,he,hi⟩
               . simp at h
             . simp at h
           . simp at h
         . simp at h
     . simp at h
   . simp at h
 . simp at h
theorem Td {fn:Func} (hf:zG fn.name=true) (ho:fn.origin = "slices.overlaps"):Extern.findNext fn=none/\Extern.find fn=some (Extern.SlicesOverlaps.overlaps fn.params fn.resultTypes):=by
 unfold zG at hf
 simp only [Bool.and_eq_true,Option.isNone_iff_eq_none] at hf
 obtain ⟨⟨⟨⟨h1,h2⟩,h3⟩,h4⟩,_⟩:=hf
 have o1:Extern.allGenericRows.lookup "slices.overlaps" = none:=by kernel_rfl
 have o2:Extern.allTypedRows.lookup "slices.overlaps" = some Extern.SlicesOverlaps.overlaps:=by kernel_rfl
 have o4:Extern.allNextRows.lookup "slices.overlaps" = none:=by kernel_rfl
 constructor
 . simp [Extern.findNext,h4,ho,o4]
 . simp [Extern.find,h1,h2,h3,ho,o1,o2]
theorem Vp {fn:Func} (hn:fn.name = "internal/bytealg.IndexByteString") (ho:fn.origin = ""):Extern.findNext fn=none/\Extern.find fn=some Extern.BytealgIndexByte.indexByte:=by
 have o1:Extern.allGenericRows.lookup "internal/bytealg.IndexByteString" = none:=by kernel_rfl
 have o2:Extern.allTypedRows.lookup "internal/bytealg.IndexByteString" = none:=by kernel_rfl
 have o3:Extern.allRows.lookup "internal/bytealg.IndexByteString" = some Extern.BytealgIndexByte.indexByte:=by kernel_rfl
 have o4:Extern.allNextRows.lookup "internal/bytealg.IndexByteString" = none:=by kernel_rfl
 have o5:Extern.allNextRows.lookup "" = none:=by kernel_rfl
 constructor
 . simp [Extern.findNext,hn,ho,o4,o5]
 . simp [Extern.find,hn,o1,o2,o3]
theorem G3:∀ (l:List UInt8) (c:UInt8),Lib.indexByte l c=ud l c
 | [],_=>rfl
 | b::l,c=>by simp only [Lib.indexByte,ud,G3 l c]
theorem Te {c:Call} {a:Act} {o:Oper} {fo x y:Operand} (hop:o.op = .call c) (zK:c.callee = .value fo) (hk:U8 P fo=some .idx) (m6:c.args.toList=[x,y]) (hi:Inv G own E w σ) {vx vy:AV}
   (hx:aN E w vx (a.eval x)) (hy:aN E w vy (a.eval y)) {r:fL} (h:bB (U7 vx vy)=some r):ey P G own E w σ p r (execOp a.eval o):=by
 obtain ⟨f,fn,rfl,Tb,hb,hh⟩:=JJ hk
 rcases hh with ⟨_,hn,ho⟩ | ⟨h0,_⟩
 case inr=>simp at h0
 have key:∃ s n,vx = .str s/\vy = .int .u8 n/\r={ val := .int .i64 (ud s n.toNat.toUInt8) }:=by
   unfold U7 at h
   split at h
   . simp only [bB,Option.map_some,Option.some.injEq] at h
     exact ⟨_,_,rfl,rfl,h.symm⟩
   . simp [bB] at h
 clear h
 obtain ⟨s,n,rfl,rfl,rfl⟩:=key
 . simp only [aN] at hx hy
   obtain ⟨hn1,Y7⟩:=Vp hn ho
   have hae:c.args.map a.eval = #[.string ⟨s.toArray⟩, .int .u8 n]:=by
     apply Array.ext'
     simp [m6,hx,hy]
   refine ⟨.int .i64 (ud s n.toNat.toUInt8),w,E, .inl (QS hop zK Tb (by rw [hn];rfl) hb hn1 Y7 ?_),⟨Adv.refl own E w,hi,by simp only [aN],fun _ _=>rfl⟩⟩
   rw [hae,Lib.run_indexByteString,G3]
theorem Y8 (params res:Array TypeId) {tS e:TypeId} {i:TypeInfo} (hp:params[0]? = some tS) (ht:P.underlying tS=some (.slice e)) (dT:P.info? e=some i)
   (a b:Addr) (la ca lb cb:Nat) (hne:a.block≠b.block) {adk Y9:Array Value} {tA tB:TypeId} (ha:w.heap[a.block]? = some (.cells adk tA (0,0))) (hb:w.heap[b.block]? = some (.cells Y9 tB (0,0))) (hkB:Y9.size≠0) :
   (Extern.SlicesOverlaps.overlaps params res #[.slice (some a) la ca, .slice (some b) lb cb]).run P w = .ok (.bool false) w:=by
 have YI:(a.block != b.block)=true:=by simpa using hne
 have ak5:(a.block==b.block)=false:=by simpa using hne
 have hsa:w.shape? a.block=some (tA,adk.size):=by simp [World.shape?,ha]
 have hsb:w.shape? b.block=some (tB,Y9.size):=by simp [World.shape?,hb]
 have hfa:w.frozen? a=false:=by simp [World.frozen?,ha]
 have Vl:w.frozen? { block:=a.block,off:=adk.size }=false:=by simp [World.frozen?,ha]
 have hz:(Go.sizeOf e).run P w = .ok i.size w:=fO dT w
 change Sem.run P (α := Value) (do
   let some t:=params[0]? | stuck "slices.overlaps: no parameter types"
   let .slice elem <- underlying t | stuck "slices.overlaps: slice type expected"
   let size <- sizeOf elem
   match (some a:Option Addr),(some b:Option Addr) with
   | some a,some b =>
     if la=0∨lb=0∨size=0 then pure (Value.bool false)
     else if a.block != b.block&&(<- frozen a)&&(<- frozen b) then unsupported .addressObserved
     else do
       if a.block != b.block then do
         noView a;noView b
         if <- mayBeOne a b then return Value.bool ((<- choose (.extern "sameAddr.stringBytes" 2))==1)
       pure (Value.bool (a.block==b.block&&a.off<b.off+lb*size&&b.off<a.off+la*size))
   | _,_=>pure (Value.bool false)) w=_
 rw [hp]
 by_cases h0:la=0∨lb=0∨i.size=0
 . simp [run_underlying ht,hz,h0]
 . cases hk:Y9.size with
   | zero=>exact absurd hk hkB
   | succ kB =>
     simp [run_underlying ht,hz,h0,YI,ak5,frozen,noView,viewAt,mayBeOne,stringish,shape,Sem.run,hsa,hsb,hfa,Vl,hk]
theorem Tf {c:Call} {a:Act} {o:Oper} {fo x y:Operand} (hop:o.op = .call c) (zK:c.callee = .value fo) (hk:U8 P fo=some .ovl) (m6:c.args.toList=[x,y]) (hi:Inv G own E w σ) {vx vy:AV}
   (hx:aN E w vx (a.eval x)) (hy:aN E w vy (a.eval y)) {r:fL} (h:S2 σ vx vy=some r):ey P G own E w σ p r (execOp a.eval o):=by
 obtain ⟨f,fn,rfl,Tb,hb,hh⟩:=JJ hk
 rcases hh with ⟨h0,_⟩ | ⟨_,ho,hnf,tS,e,i,hp,ht,dT⟩
 case inl=>simp at h0
 unfold S2 at h
 split at h
 . rename_i id1 k1 o1 l1 t1 QT k2 o2 l2 t2
   split at h
   . simp at h
   . rename_i hne
     split at h
     . rename_i b1 b2 h1 h2
       split at h
       . rename_i re
         simp only [Option.some.injEq] at h;subst h
         simp only [aN] at hx hy
         obtain ⟨g1,N1,c1,hm1,qq,_⟩:=hx
         obtain ⟨g2,N2,c2,BI,xd,_⟩:=hy
         obtain ⟨g1',N1',ap7,ty1,hB1⟩:=hi.blk id1 b1 h1
         obtain ⟨g2',N2',ak6,ty2,QU⟩:=hi.blk QT b2 h2
         have hg:g1≠g2:=hi.inj id1 QT _ _ (by simp [h1]) (by simp [h2]) hne hm1 BI
         rw [hB1.μ] at hm1
         rw [QU.μ] at BI
         simp only [Option.some.injEq,Prod.mk.injEq] at hm1 BI
         obtain ⟨rfl,_,_⟩:=hm1
         obtain ⟨rfl,_,_⟩:=BI
         obtain ⟨hn1,Y7⟩:=Td hnf ho
         have zL:(fn.name == "runtime.NumGoroutine")=false:=by
           unfold zG at hnf
           simp only [Bool.and_eq_true,Bool.not_eq_true'] at hnf
           exact hnf.2
         have hae:c.args.map a.eval = #[.slice (some ⟨g1',o1*k1,none⟩) l1 c1, .slice (some ⟨g2',o2*k2,none⟩) l2 c2]:=by
           apply Array.ext'
           simp [m6,qq,xd]
         have hsz:ak6.size≠0:=by
           rw [QU.size]
           have hl:=QU.len
           exact Nat.ne_of_gt (Nat.mul_pos (by omega) re.1)
         refine ⟨.bool false,w,E, .inl (QS hop zK Tb zL hb hn1 Y7 ?_),⟨Adv.refl own E w,hi,by simp only [aN],fun _ _=>rfl⟩⟩
         rw [hae]
         exact Y8 fn.params fn.resultTypes hp ht dT _ _ _ _ _ _ hg hB1.heap QU.heap hsz
       . simp at h
     . simp at h
 . simp at h
theorem Jc (hi:Inv G own E w σ) (hμ : E.μ p=none) (hσ : σ p=none) {t:List AV} {a:Act} (hf:cF E w t a) {b:Builtin} {args:Array Operand} {ts:Array TypeId} {ty:TypeId} {cs:Array Bool} {vo:hH aV}
   (hc:C7 P b args ts=some vo) {r:fL} (h:bW σ p (vo.map (aV.ev G t))=some r) {R:Prop}
   (fin:∀ {s:Sem Value},builtin b ts ty cs (args.map a.eval)=(do pure (.value (<- s)))->Sound P G own E w σ p s r->R):R:=by
 unfold C7 at hc
 split at hc
 . -- len
   rename_i x tx m6 Za
   have qv:args = #[x]:=by apply Array.ext';simpa using m6
   have KX:ts = #[tx]:=by apply Array.ext';simpa using Za
   refine fin (s:=Builtin.len_ ts ty (args.map a.eval)) rfl ?_
   rw [qv,KX]
   split at hc
   . rename_i hu
     simp only [Option.map_eq_some_iff] at hc;obtain ⟨va,BX,rfl⟩:=hc
     simp only [hH.map,bW] at h
     have hr:=aX hf hi BX
     refine Sound.gn h fun cc hcc => ?_
     cases hx:va.ev G t<;>simp only [hx,ni,Option.some.injEq,reduceCtorEq] at hcc
     rename_i l
     rw [hx] at hr
     simp only [aN] at hr
     subst hcc
     refine Sound.same (v := .int .i64 l.length) hi ?_ (by simp only [aN])
     have hsz:(ByteArray.mk l.toArray).size=l.length:=by show l.toArray.size=l.length;simp
     simp [Builtin.len_,run_underlying hu,hr,goInt,hsz]
   . rename_i e hu
     simp only [Option.map_eq_some_iff] at hc;obtain ⟨va,BX,rfl⟩:=hc
     simp only [hH.map,bW] at h
     have hr:=aX hf hi BX
     refine Sound.gn h fun cc hcc => ?_
     have hrun:∀ (ad:Option Addr) (n c:Nat),a.eval x = .slice ad n c->(Builtin.len_ #[tx] ty (#[x].map a.eval)).run P w = .ok (.int .i64 n) w:=by
       intro ad n c he
       simp [Builtin.len_,run_underlying hu,he,goInt]
     cases hx:va.ev G t<;>simp only [hx,ni,Option.some.injEq,reduceCtorEq] at hcc<;>rw [hx] at hr<;>simp only [aN] at hr<;>subst hcc
     . obtain ⟨ad,cap,he,_⟩:=hr
       exact Sound.same hi (hrun _ _ _ he) (by simp only [aN])
     . obtain ⟨ad,he,_⟩:=hr
       exact Sound.same hi (hrun _ _ _ he) (by simp only [aN])
     . exact Sound.same hi (hrun _ _ _ hr) (by simp only [aN];rfl)
     . obtain ⟨g,N,cap,_,he,_⟩:=hr
       exact Sound.same hi (hrun _ _ _ he) (by simp only [aN])
   . rename_i n e hu
     simp only [Option.map_eq_some_iff] at hc;obtain ⟨va,BX,rfl⟩:=hc
     simp only [hH.map,bW] at h
     refine Sound.gn h fun cc hcc => ?_
     simp only [Option.some.injEq] at hcc;subst hcc
     refine Sound.same (v := .int .i64 n) hi ?_ (by simp only [aN])
     simp [Builtin.len_,run_underlying hu,goInt]
   . simp at hc
 . -- append
   rename_i s x t1 t2 m6 Za
   have qv:args = #[s,x]:=by apply Array.ext';simpa using m6
   have KX:ts = #[t1,t2]:=by apply Array.ext';simpa using Za
   refine fin (s:=Builtin.append_ ts ty (args.map a.eval)) rfl ?_
   rw [qv,KX]
   split at hc
   . rename_i e hu
     split at hc
     . rename_i i dT
       split at hc
       . rename_i hh
         obtain ⟨G4,_,_,hz⟩:=hh
         obtain ⟨e',Pf⟩:=Ja G4
         split at hc
         . rename_i vs vx Pg lj
           simp only [Option.some.injEq] at hc;subst hc
           simp only [hH.map,bW] at h
           obtain ⟨v,w',E',hr,hp⟩:=KW (ty:=ty) hi hμ hσ hu dT hz (aX hf hi Pg) (aX hf hi lj) h
           refine ⟨v,w',E', ?_,hp⟩
           rw [<- hr, <- Ew (ty:=ty) hu Pf]
           simp
         . simp at hc
       . split at hc
         . rename_i kn z vs vx Zb hz Pg lj
           split at hc
           . rename_i re
             simp only [Option.some.injEq] at hc;subst hc
             simp only [hH.map,bW] at h
             have:=Pz (P:=P) (ty:=ty) hi hμ hσ hu dT Zb hz re (aX hf hi Pg) (aX hf hi lj) h
             simpa using this
           . simp at hc
         . simp at hc
     . simp at hc
   . simp at hc
 . -- cap
   rename_i x tx m6 Za
   have qv:args = #[x]:=by apply Array.ext';simpa using m6
   have KX:ts = #[tx]:=by apply Array.ext';simpa using Za
   refine fin (s:=Builtin.cap_ ts ty (args.map a.eval)) rfl ?_
   rw [qv,KX]
   split at hc
   . rename_i e hu
     simp only [Option.map_eq_some_iff] at hc;obtain ⟨va,BX,rfl⟩:=hc
     simp only [hH.map,bW] at h
     have hr:=aX hf hi BX
     rcases PA h with h | ⟨id,k,off,len,bk,hx,qg,ap9,rfl⟩
     case inr =>
       rw [hx] at hr;simp only [aN] at hr
       obtain ⟨g,N,cap,KV,hv,h1,h2,h3,h4⟩:=hr
       obtain ⟨g',N',cur,Pp,hB⟩:=hi.blk id bk qg
       rw [hB.μ] at KV
       simp only [Option.some.injEq,Prod.mk.injEq] at KV
       obtain ⟨rfl,_,rfl⟩:=KV
       refine Sound.same (v := .int .i64 cap) hi (by simp [Builtin.cap_,run_underlying hu,hv,goInt]) ?_
       simp only [aN]
       have:=hB.len
       simp only [Bool.false_eq_true,if_false] at h4
       exact ⟨cap,by omega,rfl⟩
     refine Sound.gn h fun cc hcc => ?_
     have hrun:∀ (ad:Option Addr) (n c:Nat),a.eval x = .slice ad n c->(Builtin.cap_ #[tx] ty (#[x].map a.eval)).run P w = .ok (.int .i64 c) w:=by
       intro ad n c he
       simp [Builtin.cap_,run_underlying hu,he,goInt]
     unfold U6 at hcc
     split at hcc
     . rename_i hx
       rw [hx] at hr;simp only [aN] at hr
       simp only [Option.some.injEq] at hcc;subst hcc
       exact Sound.same hi (hrun _ _ _ hr) (by simp only [aN];rfl)
     . rename_i hx
       rw [hx] at hr;simp only [aN] at hr
       simp only [Option.some.injEq] at hcc;subst hcc
       obtain ⟨ad,he,_⟩:=hr
       exact Sound.same hi (hrun _ _ _ he) (by simp only [aN])
     . rename_i hx
       rw [hx] at hr;simp only [aN,if_true] at hr
       simp only [Option.some.injEq] at hcc;subst hcc
       obtain ⟨g,N,cap,_,he,_,_,_,Y5⟩:=hr
       subst Y5
       exact Sound.same hi (hrun _ _ _ he) (by simp only [aN])
     . simp at hcc
   . simp at hc
 . -- clear
   rename_i x tx m6 Za
   have qv:args = #[x]:=by apply Array.ext';simpa using m6
   have KX:ts = #[tx]:=by apply Array.ext';simpa using Za
   refine fin (s:=Builtin.clear_ ts ty (args.map a.eval)) rfl ?_
   rw [qv,KX]
   split at hc
   . rename_i e hu
     split at hc
     . rename_i z vx hz lj
       split at hc
       . rename_i re
         simp only [Option.some.injEq] at hc;subst hc
         simp only [hH.map,bW] at h
         have:=MB (P:=P) (p:=p) (ty:=ty) hi hu hz re (aX hf hi lj) h
         simpa using this
       . simp at hc
     . simp at hc
   . simp at hc
 . -- copy
   rename_i d x t1 t2 m6 Za
   have qv:args = #[d,x]:=by apply Array.ext';simpa using m6
   have KX:ts = #[t1,t2]:=by apply Array.ext';simpa using Za
   refine fin (s:=Builtin.copy_ ts ty (args.map a.eval)) rfl ?_
   rw [qv,KX]
   split at hc
   . rename_i e hu
     split at hc
     . rename_i i dT
       split at hc
       . split at hc
         . rename_i vd vx hvd lj
           simp only [Option.some.injEq] at hc;subst hc
           simp only [hH.map,bW] at h
           have:=Px (P:=P) (p:=p) (ty:=ty) (t2:=t2) hi hu dT (aX hf hi hvd) (aX hf hi lj) h
           simpa using this
         . simp at hc
       . simp at hc
     . simp at hc
   . simp at hc
 . -- min
   rename_i x y m6
   have qv:args = #[x,y]:=by apply Array.ext';simpa using m6
   refine fin (s:=Builtin.min_ ts ty (args.map a.eval)) rfl ?_
   rw [qv]
   split at hc
   . rename_i vx vy lj KY
     simp only [Option.some.injEq] at hc;subst hc
     simp only [hH.map,bW] at h
     have Zc:=aX hf hi lj
     have Zd:=aX hf hi KY
     split at h
     . rename_i k n k' m hx hy
       rw [hx] at Zc;rw [hy] at Zd
       simp only [aN] at Zc Zd
       refine Sound.gn h fun cc hcc => ?_
       simp only [Option.some.injEq] at hcc;subst hcc
       refine Sound.same (v := .int k (if m<n then m else n)) hi ?_ (by simp only [aN])
       simp [Builtin.min_,Zc,Zd,Builtin.min2]
     . simp at h
   . simp at hc
 . -- max
   rename_i x y m6
   have qv:args = #[x,y]:=by apply Array.ext';simpa using m6
   refine fin (s:=Builtin.max_ ts ty (args.map a.eval)) rfl ?_
   rw [qv]
   split at hc
   . rename_i vx vy lj KY
     simp only [Option.some.injEq] at hc;subst hc
     simp only [hH.map,bW] at h
     have Zc:=aX hf hi lj
     have Zd:=aX hf hi KY
     split at h
     . rename_i k n k' m hx hy
       rw [hx] at Zc;rw [hy] at Zd
       simp only [aN] at Zc Zd
       refine Sound.gn h fun cc hcc => ?_
       simp only [Option.some.injEq] at hcc;subst hcc
       refine Sound.same (v := .int k (if m>n then m else n)) hi ?_ (by simp only [aN])
       simp [Builtin.max_,Zc,Zd,Builtin.max2]
     . simp at h
   . simp at hc
 . simp at hc
theorem Dc:∀ {ys:List AV} {l:List UInt8},bytesOf ys=some l->∃ zs:List Int,ys=zs.map (AV.int .u8)/\l=zs.map fun n=>UInt8.ofNat n.toNat
 | [],l,h=>by simp only [bytesOf,Option.some.injEq] at h;subst h;exact ⟨[],rfl,rfl⟩
 | .int .u8 n::r,l,h=>by
   simp only [bytesOf,Option.map_eq_some_iff] at h
   obtain ⟨l',h1,rfl⟩:=h
   obtain ⟨zs,rfl,rfl⟩:=Dc h1
   exact ⟨n::zs,rfl,rfl⟩
theorem JK (k:IntKind):∀ zs:List Int,flat (zs.map (AV.int k))=zs.map (AV.int k)
 | []=>rfl
 | z::zs=>by have:=JK k zs;simp only [List.map_cons,flat,List.flatMap_cons,AV.cells] at this ⊢;rw [this];rfl
theorem G5 (hi:Inv G own E w σ) {src dst e:TypeId} (hs:P.underlying src=some (.slice e)) (he:P.underlying e=some (.int .u8)) (hd:P.underlying dst=some .string) {x:AV} {v:Value} (hx:aN E w x v) {r:fL} (h:sc σ x=some r) :
   Sound P G own E w σ p (convert src dst v) r:=by
 unfold sc at h
 split at h
 . rename_i ys rd C3
   simp only [Option.map_eq_some_iff] at h
   obtain ⟨l,hl,rfl⟩:=h
   obtain ⟨zs,rfl,rfl⟩:=Dc hl
   obtain ⟨_,a,cap,rfl,hle,hr⟩:=Bj hi hx C3
   refine Sound.same (v := .string ⟨(zs.map fun n=>UInt8.ofNat n.toNat).toArray⟩) hi ?_ (by simp [aN])
   rcases hr with hr | ⟨b,o,rfl,hr⟩
   . have hz:zs=[]:=by simpa using hr
     subst hz
     rw [run_convert_bytes_string w src dst e _ _ _ hs he hd]
     cases a with
     | none=>simp [Conv.bytesToString];rfl
     | some a =>
       rw [run_bytesToString w a _ _ [] (by simp [loadCells,loadCellsFrom])]
       rfl
   . rw [JK] at hr
     have:=run_convert_bytes_arg (P:=P) w src e hs he b o zs.length cap zs rfl (fun i hil=>by
       obtain ⟨v,h1,h2⟩:=hr i (.int .u8 zs[i]) (by rw [List.getElem?_map,List.getElem?_eq_getElem hil];rfl)
       simp only [aN] at h2
       subst h2
       have adl:(⟨b,o,none⟩:Addr).add i=⟨b,o+i,none⟩:=by simp [Addr.add]
       first | rw [adl] at h1 | skip
       rw [h1,List.getD_eq_getElem?_getD,List.getElem?_eq_getElem hil];rfl) dst hd
     simpa [strOfNums] using this
 . simp at h
theorem Dd {n:Int} (hn:0<=n/\n<128):Utf8.encode n=⟨[UInt8.ofNat n.toNat].toArray⟩:=by
 have hv:Utf8.valid n=true:=by unfold Utf8.valid;simp;omega
 unfold Utf8.encode
 simp only [hv,if_true]
 rw [if_pos (by omega)]
theorem Tg (hi:Inv G own E w σ) (hμ : E.μ p=none) (hσ : σ p=none) {t:List AV} {a:Act} (hf:cF E w t a) {o:Oper} {vo:hH aV} (hc:o0 P o.op=some vo) {r:fL}
   (h:bW σ p (vo.map (aV.ev G t))=some r):ey P G own E w σ p r (execOp a.eval o):=by
 unfold execOp
 cases ho:o.op<;>rw [ho] at hc<;>simp only []
 case move x =>
   simp only [o0,Option.map_eq_some_iff] at hc;obtain ⟨va,BX,rfl⟩:=hc
   simp only [hH.map,bW,bB,Option.map_some,Option.some.injEq] at h;subst h
   exact ⟨a.eval x,w,E, .inl rfl,Adv.refl own E w,hi,aX hf hi BX,fun _ _=>rfl⟩
 case assign x =>
   simp only [o0,Option.map_eq_some_iff] at hc;obtain ⟨va,BX,rfl⟩:=hc
   simp only [hH.map,bW,bB,Option.map_some,Option.some.injEq] at h;subst h
   exact ⟨a.eval x,w,E, .inl rfl,Adv.refl own E w,hi,aX hf hi BX,fun _ _=>rfl⟩
 case pick c x y =>
   simp only [o0] at hc
   cases Ze:cU c with
   | none=>simp [Ze] at hc
   | some vc =>
   cases lj:cU x with
   | none=>simp [Ze,lj] at hc
   | some vx =>
   cases KY:cU y with
   | none=>simp [Ze,lj,KY] at hc
   | some vy =>
     simp only [Ze,lj,KY,Option.some.injEq] at hc;subst hc
     simp only [hH.map,bW] at h
     have YZ:=aX hf hi Ze
     have Zc:=aX hf hi lj
     have Zd:=aX hf hi KY
     split at h
     . rename_i b hb
       rw [hb] at YZ
       simp only [aN] at YZ
       simp only [bB,Option.map_some,Option.some.injEq] at h;subst h
       refine ⟨if b then a.eval x else a.eval y,w,E, .inl (by simp [YZ,asBool]),Adv.refl own E w,hi, ?_,fun _ _=>rfl⟩
       cases b
       . exact Zd
       . exact Zc
     . simp at h
 case alloc ty =>
   simp only [o0,Option.map_eq_some_iff] at hc;obtain ⟨z,hz,rfl⟩:=hc
   simp only [hH.map,bW,aV.ev] at h
   obtain ⟨it,zv,hit,Pd,KM,QL,QM⟩:=lY hz
   split at h
   . simp only [Option.some.injEq] at h;subst h
     have:=JF (P:=P) (p:=p) hi hμ hσ (jh KM) QM ty
     refine ey.of ?_
     obtain ⟨v,w',E',hr,hp⟩:=this
     refine ⟨v,w',E', ?_,hp⟩
     simp only [Instr.alloc,Sem.run_bind,BZ hit Pd,Result.andThen_ok]
     exact hr
   . rename_i hno;exact absurd QM hno
 case box ty x =>
   simp only [o0,Option.map_eq_some_iff] at hc;obtain ⟨va,BX,rfl⟩:=hc
   simp only [hH.map,bW] at h
   split at h
   . rename_i Es
     simp only [Option.some.injEq] at h;subst h
     exact ey.of (JF hi hμ hσ (aX hf hi BX) Es ty)
   . simp at h
 case build ty ps=>exact ey.of (Mx hi hf hc h)
 case buildSlice ty n ps=>exact ey.of (I6 hi hμ hσ hf hc h)
 case load ty x =>
   simp only [o0] at hc
   cases ha:qu P ty with
   | none=>simp [ha] at hc
   | some g =>
   cases F0:P.info? ty with
   | none=>simp [ha,F0] at hc
   | some i =>
   cases lj:cU x with
   | none=>simp [ha,F0,lj] at hc
   | some vx =>
     simp only [ha,F0,lj] at hc
     split at hc
     . simp only [Option.some.injEq] at hc;subst hc
       simp only [hH.map,bW] at h
       exact ey.of (Mv hi ha F0 (aX hf hi lj) h)
     . simp at hc
 case store ty x y =>
   simp only [o0] at hc
   cases F0:P.info? ty with
   | none=>simp [F0] at hc
   | some i =>
   cases lj:cU x with
   | none=>simp [F0,lj] at hc
   | some vx =>
   cases KY:cU y with
   | none=>simp [F0,lj,KY] at hc
   | some vy =>
     simp only [F0,lj,KY,Option.some.injEq] at hc;subst hc
     simp only [hH.map,bW] at h
     exact ey.ofU (KJ hi F0 (aX hf hi lj) (aX hf hi KY) h)
 case nilCheck x =>
   simp only [o0,Option.map_eq_some_iff] at hc;obtain ⟨va,BX,rfl⟩:=hc
   simp only [hH.map,bW] at h
   have hr:=aX hf hi BX
   split at h
   . rename_i id e q hx
     simp only [bB,Option.map_some,Option.some.injEq] at h;subst h
     rw [hx] at hr ⊢
     have GX:=hr
     simp only [aN] at hr
     obtain ⟨g,k,N,hm,he⟩:=hr
     exact ⟨a.eval x,w,E, .inl (by rw [he];rfl),Adv.refl own E w,hi,GX,fun _ _=>rfl⟩
   . rename_i cs q hx
     simp only [bB,Option.map_some,Option.some.injEq] at h;subst h
     rw [hx] at hr ⊢
     have GX:=hr
     simp only [aN] at hr
     obtain ⟨b,q,he,_⟩:=hr
     exact ⟨a.eval x,w,E, .inl (by rw [he];rfl),Adv.refl own E w,hi,GX,fun _ _=>rfl⟩
   . rename_i f l1 l2 hx
     simp only [bB,Option.map_some,Option.some.injEq] at h;subst h
     rw [hx] at hr ⊢
     have GX:=hr
     simp only [aN] at hr
     obtain ⟨xs,ys,he,_⟩:=hr
     exact ⟨a.eval x,w,E, .inl (by rw [he];rfl),Adv.refl own E w,hi,GX,fun _ _=>rfl⟩
   . simp at h
 case binOp op ty x y Pp =>
   simp only [o0] at hc
   cases QK:S3 P ty with
   | none=>simp [QK] at hc
   | some sh =>
   cases lj:cU x with
   | none=>simp [QK,lj] at hc
   | some vx =>
   cases KY:cU y with
   | none=>simp [QK,lj,KY] at hc
   | some vy =>
     simp only [QK,lj,KY,Option.some.injEq] at hc;subst hc
     simp only [hH.map,bW] at h
     refine ey.of (Sound.gn h fun c hcc => ?_)
     unfold bP at hcc
     split at hcc
     . rename_i c' ak7
       simp only [Option.some.injEq] at hcc;subst hcc
       obtain ⟨h1,h2,h3,h4⟩:=Vi (P:=P) QK ak7 (aX hf hi lj) (aX hf hi KY)
       refine Sound.same hi ?_ (JB h2)
       simp only [Sem.run_bind,C9 op ty x y _ _ h3 h4,Result.andThen_ok]
       exact h1
     . obtain ⟨⟨q,h1,h2⟩,h3,h4⟩:=S8 (P:=P) QK hcc (aX hf hi lj) (aX hf hi KY)
       refine Sound.same (v := .bool q) hi ?_ h1
       simp only [Sem.run_bind,C9 op ty x y _ _ h3 h4,Result.andThen_ok]
       exact h2
 case unOp op ty x =>
   simp only [o0,Option.map_eq_some_iff] at hc;obtain ⟨va,BX,rfl⟩:=hc
   simp only [hH.map,bW] at h
   refine ey.of (Sound.gn h fun c hcc => ?_)
   obtain ⟨h1,h2⟩:=YY (P:=P) hcc (aX hf hi BX)
   exact Sound.same hi h1 (JB h2)
 case convert src dst x =>
   simp only [o0] at hc
   split at hc
   . rename_i k1 k2 h1 h2
     simp only [Option.map_eq_some_iff] at hc;obtain ⟨va,BX,rfl⟩:=hc
     simp only [hH.map,bW] at h
     have hr:=aX hf hi BX
     split at h
     . rename_i k n hx
       rw [hx] at hr
       simp only [aN] at hr
       simp only [bB,Option.map_some,Option.some.injEq] at h;subst h
       refine ey.of (Sound.same (v := .int k2 (k2.wrap n)) hi ?_ (by simp [aN]))
       rw [hr]
       simp [convert,run_underlying h1,run_underlying h2,Conv.intToInt]
     . simp at h
   . rename_i h1 h2
     simp only [Option.map_eq_some_iff] at hc;obtain ⟨va,BX,rfl⟩:=hc
     simp only [hH.map,bW] at h
     have hr:=aX hf hi BX
     split at h
     . rename_i l hx
       rw [hx] at hr h
       have GX:=hr
       simp only [aN] at hr
       simp only [bB,Option.map_some,Option.some.injEq] at h;subst h
       refine ey.of (Sound.same hi ?_ GX)
       rw [hr]
       simp [convert,run_underlying h1,run_underlying h2]
     . rename_i k n hx
       rw [hx] at hr
       simp only [aN] at hr
       split at h
       . rename_i hn
         simp only [bB,Option.map_some,Option.some.injEq] at h;subst h
         refine ey.of (Sound.same (v := .string (Utf8.encode n)) hi ?_ (by simp [aN,Dd hn]))
         rw [hr]
         simp [convert,run_underlying h1,run_underlying h2,Conv.intToString]
       . simp at h
     . simp at h
   . rename_i k1 h1 h2
     simp only [Option.map_eq_some_iff] at hc;obtain ⟨va,BX,rfl⟩:=hc
     simp only [hH.map,bW] at h
     have hr:=aX hf hi BX
     split at h
     . rename_i l hx
       rw [hx] at hr h
       have GX:=hr
       simp only [aN] at hr
       simp only [bB,Option.map_some,Option.some.injEq] at h;subst h
       refine ey.of (Sound.same hi ?_ GX)
       rw [hr]
       simp [convert,run_underlying h1,run_underlying h2]
     . rename_i k n hx
       rw [hx] at hr
       simp only [aN] at hr
       split at h
       . rename_i hn
         simp only [bB,Option.map_some,Option.some.injEq] at h;subst h
         refine ey.of (Sound.same (v := .string (Utf8.encode n)) hi ?_ (by simp [aN,Dd hn]))
         rw [hr]
         simp [convert,run_underlying h1,run_underlying h2,Conv.intToString]
       . simp at h
     . simp at h
   . rename_i e h1 h2
     split at hc
     . rename_i he
       simp only [Option.map_eq_some_iff] at hc;obtain ⟨va,BX,rfl⟩:=hc
       simp only [hH.map,bW] at h
       exact ey.of (G5 hi h1 he h2 (aX hf hi BX) h)
     . simp at hc
   . simp at hc
 case makeFunc fn first cap =>
   simp only [o0] at hc
   cases h1:GR first with
   | none=>simp [h1] at hc
   | some va =>
   cases h2:GR cap with
   | none=>simp [h1,h2] at hc
   | some vc =>
     simp only [h1,h2,Option.some.injEq] at hc;subst hc
     simp only [hH.map,bW,bB,Option.map_some,Option.some.injEq] at h;subst h
     refine ey.of (Sound.same (v := .func fn (first.map a.eval) (cap.map a.eval)) hi (by simp [Instr.makeFunc]) ?_)
     simp only [aN]
     exact ⟨_,_,rfl,Er hf hi h1,Er hf hi h2⟩
 case makeSlice ty l c =>
   simp only [o0] at hc
   cases hu:P.underlying ty with
   | none=>simp [hu] at hc
   | some d =>
   cases d<;>simp only [hu,reduceCtorEq] at hc
   rename_i e
   cases dT:P.info? e with
   | none=>simp [dT] at hc
   | some i =>
   cases hz:nj P e with
   | none=>simp [dT,hz] at hc
   | some z =>
   cases yK:cU l with
   | none=>simp [dT,hz,yK] at hc
   | some vl =>
   cases Ze:cU c with
   | none=>simp [dT,hz,yK,Ze] at hc
   | some vc =>
     simp only [dT,hz,yK,Ze] at hc
     split at hc
     . rename_i hh
       simp only [Option.some.injEq] at hc;subst hc
       simp only [hH.map,bW] at h
       exact ey.of (Pt hi hμ hσ hu dT hz hh.1 (aX hf hi yK) (aX hf hi Ze) h)
     . simp at hc
 case slice ty x lo qY mx =>
   simp only [o0] at hc
   cases hu:P.underlying ty with
   | none=>simp [hu] at hc
   | some d =>
   cases d<;>simp only [hu,reduceCtorEq] at hc
   case string =>
     cases lj:cU x with
     | none=>simp [lj] at hc
     | some vx =>
     cases yK:Eo lo with
     | none=>simp [lj,yK] at hc
     | some vl =>
     cases Zf:Eo qY with
     | none=>simp [lj,yK,Zf] at hc
     | some vh =>
     cases mx with
     | some _=>simp [lj,yK,Zf] at hc
     | none =>
       simp only [lj,yK,Zf,Option.some.injEq] at hc;subst hc
       simp only [hH.map,bW] at h
       refine ey.of (Sound.gn h fun c hcc => ?_)
       exact I8 hi hu (aX hf hi lj) (zJ hf hi yK) (zJ hf hi Zf) hcc
   case slice e =>
     cases dT:P.info? e with
     | none=>simp [dT] at hc
     | some i =>
     cases lj:cU x with
     | none=>simp [dT,lj] at hc
     | some vx =>
     cases yK:Eo lo with
     | none=>simp [dT,lj,yK] at hc
     | some vl =>
     cases Zf:Eo qY with
     | none=>simp [dT,lj,yK,Zf] at hc
     | some vh =>
     cases hvm:Eo mx with
     | none=>simp [dT,lj,yK,Zf,hvm] at hc
     | some vm =>
       simp only [dT,lj,yK,Zf,hvm] at hc
       split at hc
       . rename_i hh
         simp only [Option.some.injEq] at hc;subst hc
         simp only [hH.map,bW] at h
         exact ey.of (Jb hi hu dT (aX hf hi lj) (zJ hf hi yK) (zJ hf hi Zf) (zJ hf hi hvm) (by simpa using hh) h)
       . simp at hc
 case fieldAddr s x f =>
   simp only [o0] at hc
   cases hu:P.underlying s with
   | none=>simp [hu] at hc
   | some d =>
   cases d<;>simp only [hu,reduceCtorEq] at hc
   rename_i fs
   cases PB:fs[f]? with
   | none=>simp [PB] at hc
   | some fd =>
   simp only [PB] at hc
   cases dT:P.info? fd.type with
   | none=>simp [dT] at hc
   | some i =>
   cases lj:cU x with
   | none=>simp [dT,lj] at hc
   | some vx =>
     simp only [dT,lj] at hc
     split at hc
     . simp at hc
     . rename_i h0
       simp only [Option.some.injEq] at hc;subst hc
       exact ey.of (My hi hu PB dT h0 (aX hf hi lj) h)
 case field s x f =>
   simp only [o0] at hc
   cases hu:P.underlying s with
   | none=>simp [hu] at hc
   | some d =>
   cases d<;>simp only [hu,reduceCtorEq] at hc
   rename_i fs
   cases PB:fs[f]? with
   | none=>simp [PB] at hc
   | some fd =>
   simp only [PB] at hc
   cases UO:qu P fd.type with
   | none=>simp [UO] at hc
   | some g =>
   cases dT:P.info? fd.type with
   | none=>simp [UO,dT] at hc
   | some i =>
   cases lj:cU x with
   | none=>simp [UO,dT,lj] at hc
   | some vx =>
     simp only [UO,dT,lj,Option.some.injEq] at hc;subst hc
     simp only [hH.map,bW] at h
     have hr:=aX hf hi lj
     split at h
     . rename_i cs hx
       rw [hx] at hr
       simp only [aN] at hr
       obtain ⟨xs,he,hr⟩:=hr
       refine ey.of (Sound.gn h fun c hcc => ?_)
       obtain ⟨v,hv,GV⟩:=Mz (P:=P) UO dT hr hcc
       refine Sound.same hi ?_ GV
       rw [he]
       simp [Instr.field,run_underlying hu,PB,asAgg,hv]
     . simp at h
 case indexAddr ty x ix =>
   simp only [o0] at hc
   cases hu:P.underlying ty with
   | none=>simp [hu] at hc
   | some d =>
   cases d<;>simp only [hu,reduceCtorEq] at hc
   case slice e =>
     cases dT:P.info? e with
     | none=>simp [dT] at hc
     | some i =>
     cases lj:cU x with
     | none=>simp [dT,lj] at hc
     | some vx =>
     cases MC:cU ix with
     | none=>simp [dT,lj,MC] at hc
     | some vi =>
       simp only [dT,lj,MC,Option.some.injEq] at hc;subst hc
       simp only [hH.map,bW] at h
       refine ey.of (Sound.gn h fun c hcc => ?_)
       exact KR hi hu dT (aX hf hi lj) (aX hf hi MC) hcc
   case array n e =>
     cases dT:P.info? e with
     | none=>simp [dT] at hc
     | some i =>
     cases lj:cU x with
     | none=>simp [dT,lj] at hc
     | some vx =>
     cases MC:cU ix with
     | none=>simp [dT,lj,MC] at hc
     | some vi =>
       simp only [dT,lj,MC,Option.some.injEq] at hc;subst hc
       simp only [hH.map,bW] at h
       refine ey.of (Sound.gn h fun c hcc => ?_)
       exact KS hi hu dT (aX hf hi lj) (aX hf hi MC) hcc
 case index ty x ix =>
   simp only [o0] at hc
   cases hu:P.underlying ty with
   | none=>simp [hu] at hc
   | some d =>
   cases d<;>simp only [hu,reduceCtorEq] at hc
   case string =>
     cases lj:cU x with
     | none=>simp [lj] at hc
     | some vx =>
     cases MC:cU ix with
     | none=>simp [lj,MC] at hc
     | some vi =>
       simp only [lj,MC,Option.some.injEq] at hc;subst hc
       simp only [hH.map,bW] at h
       have hr:=aX hf hi lj
       have Zg:=aX hf hi MC
       split at h
       . rename_i s k n hx hn
         rw [hx] at hr;rw [hn] at Zg
         simp only [aN] at hr Zg
         split at h
         . rename_i h0
           refine ey.of (Sound.gn h fun c hcc => ?_)
           simp only [Option.map_eq_some_iff] at hcc
           obtain ⟨b,hb,rfl⟩:=hcc
           refine Sound.same (v := .int .u8 b.toNat) hi ?_ (by simp [aN])
           rw [hr,Zg]
           have JI:(ByteArray.mk s.toArray)[n.toNat]? = some b:=by
             have hlt:=(List.getElem?_eq_some_iff.1 hb)
             obtain ⟨h1,h2⟩:=hlt
             rw [getElem?_pos (ByteArray.mk s.toArray) n.toNat (by simpa [ByteArray.size] using h1)]
             congr 1
           simp [Instr.index,run_underlying hu,asIntOf,h0,JI]
         . simp at h
       . simp at h
   case array n e =>
     cases UO:qu P e with
     | none=>simp [UO] at hc
     | some g =>
     cases dT:P.info? e with
     | none=>simp [UO,dT] at hc
     | some i =>
     cases lj:cU x with
     | none=>simp [UO,dT,lj] at hc
     | some vx =>
     cases MC:cU ix with
     | none=>simp [UO,dT,lj,MC] at hc
     | some vi =>
       simp only [UO,dT,lj,MC,Option.some.injEq] at hc;subst hc
       simp only [hH.map,bW] at h
       have hr:=aX hf hi lj
       have Zg:=aX hf hi MC
       split at h
       . rename_i cs k m hx hn
         rw [hx] at hr;rw [hn] at Zg
         simp only [aN] at hr Zg
         obtain ⟨xs,he,hr⟩:=hr
         split at h
         . rename_i h0
           refine ey.of (Sound.gn h fun c hcc => ?_)
           obtain ⟨v,hv,GV⟩:=Mz (P:=P) UO dT hr hcc
           refine Sound.same hi ?_ GV
           rw [he,Zg]
           simp [Instr.index,run_underlying hu,asIntOf,h0,fO dT,hv]
         . simp at h
       . simp at h
 case extract x i =>
   simp only [o0,Option.map_eq_some_iff] at hc;obtain ⟨va,BX,rfl⟩:=hc
   simp only [hH.map,bW] at h
   have hr:=aX hf hi BX
   split at h
   . rename_i vs hx
     rw [hx] at hr
     simp only [aN] at hr
     obtain ⟨xs,he,hr⟩:=hr
     refine ey.of (Sound.gn h fun c hcc => ?_)
     obtain ⟨v,hv,GV⟩:=(bT.1 hr).2 i c hcc
     refine Sound.same hi ?_ GV
     rw [he]
     simp at hv
     simp [Instr.extract,hv]
   . simp at h
 case call c =>
   simp only [o0] at hc
   cases zK:c.callee with
   | value f =>
     simp only [zK] at hc
     split at hc
     . split at hc
       . simp only [Option.some.injEq] at hc;subst hc
         simp [hH.map,bW] at h
       . simp at hc
     . rename_i k hk
       unfold YX at hc
       split at hc
       . rename_i x y m6
         split at hc
         . rename_i vx vy lj KY
           simp only [Option.some.injEq] at hc;subst hc
           cases k with
           | idx =>
             simp only [hH.map,bW] at h
             have hh:=Te (p:=p) ho zK hk m6 hi (aX hf hi lj) (aX hf hi KY) h
             unfold execOp at hh;simp only [ho] at hh;exact hh
           | ovl =>
             simp only [hH.map,bW] at h
             have hh:=Tf (p:=p) ho zK hk m6 hi (aX hf hi lj) (aX hf hi KY) h
             unfold execOp at hh;simp only [ho] at hh;exact hh
         . simp at hc
       . simp at hc
   | invoke _ _=>simp [zK] at hc
   | builtin b =>
     simp only [zK] at hc
     have MD:∀ w,(do let d <- resolve a.eval c o.type;invoke d.target d.args:Sem Next).run P w =
         (builtin b c.argTypes o.type (c.args.map fun | .const _=>true | _=>false) (c.args.map a.eval)).run P w:=by
       intro w;simp [resolve,zK,invoke];rfl
     have fin:∀ {s:Sem Value},builtin b c.argTypes o.type (c.args.map fun | .const _=>true | _=>false) (c.args.map a.eval)=(do pure (.value (<- s)))->Sound P G own E w σ p s r ->
         ey P G own E w σ p r (do let d <- resolve a.eval c o.type;invoke d.target d.args):=by
       intro s he hs
       obtain ⟨v,w',E',hr,hp⟩:=hs
       exact ⟨v,w',E', .inl (by rw [MD,he];simp [hr]),hp⟩
     exact Jc hi hμ hσ hf hc h fin
 all_goals simp [o0] at hc
theorem Vq (hi:Inv G own E w σ) (hμ : E.μ p=none) (hσ : σ p=none) {t:List AV} {a:Act} (hf:cF E w t a) {o:Oper} {vo:hH aV} (hc:cOp P o.op=some vo) {r:fL}
   (h:bW σ p (vo.map (aV.ev G t))=some r):ey P G own E w σ p r (execOp a.eval o):=by
 unfold cOp at hc
 split at hc
 . rename_i v hv
   simp only [Option.some.injEq] at hc;subst hc
   exact Tg hi hμ hσ hf hv h
 . simp only [Option.some.injEq] at hc;subst hc
   simp [hH.map,bW] at h
end
end Go.VL
end

section
namespace Go.VL
def aM (P:Program) (G:Nat->Option (List AV)) (f:FuncId) (args:List AV) (p:Id) (S:List (Id × dc)) (r:fL):Prop :=
 (∃ fn,P.funcs[f]? = some fn/\(fn.name == "runtime.NumGoroutine")=false/\fn.body.isSome=true) /\
 ∀ own E w σ vs,(∀ x∈S, σ x.1=some x.2)->Inv G own E w σ -> aU E w args vs->(∀ j,p <:+ j->E.μ j=none) ->
   Calls P f vs.toArray w fun e w'=>∃ v E',e = .returned v/\lX G own E w σ p r v E' w'
def kt (P:Program) (G:Nat->Option (List AV)) (σ : ae) (p:Id) (op:hH AV) (r:fL):Prop :=
 match op with
 | .call f as=>match f with
   | .fn (.func f) first cap=>∃ S,aM P G f (first++as++cap) p S r/\(∀ x∈S, σ x.1=some x.2)/\∀ x∈S,x.1∈r.rd
   | _=>False
 | op=>bW σ p op=some r
def hJ (t:List AV) (d:Option Nat) (v:AV):List AV:=match d with | some d=>t.set d v | none=>t
def fP (t:List AV):Option (Nat × Bool)->Option Bool
 | none=>some true
 | some (d,want)=>match t[d]? with
   | some (.bool b)=>some (b==want)
   | some .top | some .anyb=>none
   | _=>some false
section
variable {P:Program} {G:Nat->Option (List AV)} {own:Nat->Prop} {E:Env} {w:World} {σ : ae} {p:Id}
theorem cF.keep {E':Env} {w':World} {t:List AV} {a:Act} (h:cF E w t a) (s:Step E E' w w'):cF E' w' t a:=aU.keep s t _ h
theorem cF.put {t:List AV} {a:Act} (h:cF E w t a) {c:AV} {v:Value} (hv:aN E w c v) (d:Option Nat):cF E w (hJ t d c) (a.put d v):=by
 cases d with
 | none=>exact h
 | some d =>
   obtain ⟨hl,hp⟩:=bT.1 h
   refine bT.2 ⟨by simpa [hJ,Act.put] using hl,fun j c' hj => ?_⟩
   simp only [hJ,List.getElem?_set] at hj
   simp only [Act.put,Array.toList_setIfInBounds,List.getElem?_set]
   split at hj
   . rename_i e
     subst e
     split at hj
     . rename_i hlt
       simp only [Option.some.injEq] at hj;subst hj
       exact ⟨v,by rw [if_pos rfl,if_pos (by omega)],hv⟩
     . simp at hj
   . rename_i e
     rw [if_neg e]
     exact hp j c' hj
theorem cF.at? {t:List AV} {a:Act} (h:cF E w t a) (d:Nat):(t[d]? = none/\a.tmps[d]? = none)∨∃ c v,t[d]? = some c/\a.tmps[d]? = some v/\aN E w c v:=by
 obtain ⟨hl,hp⟩:=bT.1 h
 by_cases hd:d<t.length
 . right
   obtain ⟨v,hv,hr⟩:=hp d t[d] (by simp [hd])
   exact ⟨t[d],v,by simp [hd],by simpa using hv,hr⟩
 . left
   have:a.tmps.size<=d:=by have:=hl;simp at this;omega
   exact ⟨by simp;omega,by simp;omega⟩
theorem KZ {c:AV} {v:Value} (h:aN E w c v) (h1:∀ b,c ≠ .bool b) (h2:c ≠ .top) (h3:c ≠ .anyb):∀ b,v ≠ .bool b:=by
 intro b e
 subst e
 cases c<;>simp only [aN,reduceCtorEq,exists_const,false_and,and_false] at h
 . exact h1 _ rfl
 all_goals first
   | exact h2 rfl
   | exact h3 rfl
   | (obtain ⟨_,_,h,_⟩:=h;cases h)
   | (obtain ⟨_,h,_⟩:=h;cases h)
   | (obtain ⟨_,_,h⟩:=h;cases h)
theorem xg {ops:Array Oper} {o:Oper} {vo:bx} (hc:BV P ops o=some vo) {t:List AV} {a:Act} (hf:cF E w t a) {b:Bool} (h:fP t vo.guard=some b):Region.wanted o (yielded ops a.tmps)=b:=by
 unfold BV at hc
 cases hop:cOp P o.op with
 | none=>simp [hop] at hc
 | some op =>
   simp only [hop] at hc
   cases hg:o.guard with
   | none =>
     simp only [hg,Option.some.injEq] at hc;subst hc
     simp only [fP,Option.some.injEq] at h;subst h
     simp [Region.wanted,hg]
   | some jw =>
     obtain ⟨j,want⟩:=jw
     simp only [hg] at hc
     cases hd:(ops[j]?).bind (·.dst) with
     | none=>simp [hd] at hc
     | some d =>
       simp only [hd,Option.some.injEq] at hc;subst hc
       simp only [fP] at h
       simp only [Region.wanted,hg,yielded,hd,Option.bind_some]
       rcases hf.at? d with ⟨h1,h2⟩ | ⟨c,v,h1,h2,hr⟩
       . simp only [h1,Option.some.injEq] at h;subst h
         simp [h2]
       . simp only [h1] at h
         simp only [h2]
         cases c with
         | bool b' =>
           simp only [Option.some.injEq] at h;subst h
           simp only [aN] at hr;subst hr
           simp
         | top=>simp at h
         | anyb=>simp at h
         | _ =>
           simp only [Option.some.injEq] at h;subst h
           have YI:=KZ hr (by simp) (by simp) (by simp)
           cases v<;>simp at YI ⊢
theorem ME {ops:Array Oper} {o:Oper} {vo:bx} (hc:BV P ops o=some vo):cOp P o.op=some vo.op/\vo.dst=o.dst:=by
 unfold BV at hc
 cases hop:cOp P o.op with
 | none=>simp [hop] at hc
 | some op =>
   simp only [hop] at hc
   split at hc
   . simp only [Option.some.injEq] at hc;subst hc;simp_all
   . split at hc
     . simp only [Option.some.injEq] at hc;subst hc;simp_all
     . simp at hc
   . simp_all
theorem Zh {k:YW} {l:List Operand} (f:aV) (as:List aV):YX k l≠some (.call f as):=by
 unfold YX
 split
 . split
   . cases k<;>simp
   . simp
 . simp
theorem G6 (hi:Inv G own E w σ) (hμ : ∀ j,p <:+ j->E.μ j=none) {t:List AV} {a:Act} (hf:cF E w t a) {o:Oper} {vo:hH aV} (hc:cOp P o.op=some vo) {r:fL}
   (h:kt P G σ p (vo.map (aV.ev G t)) r) {K:Act->World->Prop} {Q:Exit->Act->World->Prop} (hK:∀ v w' E',lX G own E w σ p r v E' w'->K (a.put o.dst v) w'):o.wp P a w K Q:=by
 have hσ : σ p=none:=by
   cases hs : σ p with
   | none=>rfl
   | some bk=>obtain ⟨g,N,cur,ty,hB⟩:=hi.blk _ _ hs;have:=hB.μ;rw [hμ _ (List.suffix_refl _)] at this;simp at this
 have plain:bW σ p (vo.map (aV.ev G t))=some r->o.wp P a w K Q:=by
   intro hv
   obtain ⟨v,w',E',hrun,hp⟩:=Vq hi (hμ p (List.suffix_refl _)) hσ hf hc hv
   unfold Oper.wp
   rcases hrun with hrun | ⟨hrun,rfl⟩
   . rw [hrun];exact hK v w' E' hp
   . rw [hrun];exact hK undef w' E' hp
 cases vo with
 | call f as =>
   replace hc:o0 P o.op=some (.call f as):=by
     unfold cOp at hc
     split at hc
     . rename_i v hv;rw [hv];exact hc
     . simp at hc
   simp only [hH.map,kt] at h
   split at h
   . rename_i f' fid first cap Vl
     obtain ⟨S,Vr,hS,_⟩:=h
     obtain ⟨⟨fn,Tb,zL,agH⟩,Vr⟩:=Vr
     cases hop:o.op with
     | call c =>
       rw [hop] at hc
       simp only [o0] at hc
       cases zK:c.callee with
       | value fo =>
         simp only [zK] at hc
         split at hc
         case h_2=>exact absurd hc (Zh _ _)
         split at hc
         . rename_i vf vas h1 h2
           simp only [Option.some.injEq,hH.call.injEq] at hc
           obtain ⟨rfl,rfl⟩:=hc
           have hrf:=aX hf hi h1
           rw [Vl] at hrf
           simp only [aN] at hrf
           obtain ⟨xs,ys,hfv,hx,hy⟩:=hrf
           have hra:=Er hf hi h2
           have m6:aU E w (first++vas.map (aV.ev G t)++cap) (xs.toList++(c.args.map a.eval).toList++ys.toList):=aU.append (aU.append hx hra) hy
           have I4:=Vr own E w σ _ hS hi m6 hμ
           have hrun:(execOp a.eval o).run P w = .ok (.enter fid (xs++c.args.map a.eval++ys)) w:=by
             have YI : ¬ fn.body=none:=by intro e;simp [e] at agH
             have YJ : ¬ fn.name = "runtime.NumGoroutine" := by intro e;simp [e] at zL
             simp [execOp,hop,resolve,zK,hfv,Deferred.ofValue,invoke,callFunc,Tb,YJ,YI]
           unfold Oper.wp
           rw [hrun,Oper.upon_enter]
           have hae:(xs.toList++(c.args.map a.eval).toList++ys.toList).toArray=xs++c.args.map a.eval++ys:=by apply Array.ext';simp
           rw [hae] at I4
           refine I4.mono fun e w' he => ?_
           obtain ⟨v,E',rfl,hp⟩:=he
           exact hK v w' E' hp
         . simp at hc
       | invoke _ _=>simp [zK] at hc
       | builtin b =>
         simp only [zK] at hc
         unfold C7 at hc
         split at hc<;>(try split at hc)<;>(try split at hc)<;>(try split at hc)<;>(try split at hc)<;>simp at hc
     | _ =>
       rw [hop] at hc
       simp only [o0] at hc
       exfalso
       revert hc
       clear plain Vl
       intro hc
       first
         | simp at hc
         | (simp only [Option.map_eq_some_iff] at hc;obtain ⟨_,_,hc⟩:=hc;cases hc)
         | ((repeat' split at hc)<;>first | (simp at hc;done) | (simp only [Option.map_eq_some_iff] at hc;obtain ⟨_,_,hc⟩:=hc;cases hc) | (cases hc))
   . exact h.elim
 | _=>exact plain h
end
end Go.VL
end

section
namespace Go.VL
abbrev Done:=Option Nat × fL
def fQ (X:Nat->Bool):List Done->Nat->List AV->List AV
 | [],_,t=>t
 | (d,r)::L,i,t=>fQ X L (i+1) (if X i then hJ t d r.val else t)
def il (X:Nat->Bool):List Done->Nat->ae->ae
 | [],_, σ => σ
 | (_,r)::L,i, σ => il X L (i+1) (if X i then σ.app r.up else σ)
theorem vK (t:List AV) (d:Option Nat) (v:AV) (s:Nat):(hJ t d v)[s]? = if d=some s then (if s<t.length then some v else none) else t[s]? := by
 cases d with
 | none=>simp [hJ]
 | some d =>
   simp only [hJ,List.getElem?_set,Option.some.injEq]
   by_cases e:d=s
   . subst e;simp
   . simp [e]
theorem MF (t:List AV) (d:Option Nat) (v:AV):(hJ t d v).length=t.length:=by cases d<;>simp [hJ]
theorem JL (X:Nat->Bool):∀ (L:List Done) (i:Nat) (t:List AV),(fQ X L i t).length=t.length
 | [],_,_=>rfl
 | (d,r)::L,i,t=>by
   simp only [fQ];rw [JL X L]
   split
   . exact MF t d r.val
   . rfl
theorem Th {t t':List AV} {s:Nat} (h:t[s]? = t'[s]?):(s<t.length)=(s<t'.length):=by
 have h1:s<t.length↔t[s]? ≠ none:=by simp
 have h2:s<t'.length↔t'[s]? ≠ none:=by simp
 exact propext (h1.trans ((by rw [h]:t[s]? ≠ none↔t'[s]? ≠ none).trans h2.symm))
theorem ue {X Y:Nat->Bool} {s:Nat}:∀ (L:List Done) (i:Nat) (t t':List AV),t[s]? = t'[s]? -> (∀ k d r,L[k]? = some (d,r)->X (i+k)≠Y (i+k)->d≠some s)->(fQ X L i t)[s]? = (fQ Y L i t')[s]?
 | [],_,_,_,h,_=>h
 | (d,r)::L,i,t,t',h,hd=>by
   simp only [fQ]
   refine ue L (i+1) _ _ ?_ (fun k d' r' hk hne=>hd (k+1) d' r' (by simpa using hk) (by rwa [show i+(k+1)=i+1+k from by omega]))
   by_cases hx:X i=Y i
   . rw [hx]
     split
     . rw [vK,vK];simp only [Th h,h]
     . exact h
   . have:=hd 0 d r rfl hx
     have e1:(hJ t d r.val)[s]? = t[s]? := by rw [vK,if_neg this]
     have e2:(hJ t' d r.val)[s]? = t'[s]? := by rw [vK,if_neg this]
     split<;>split<;>simp only [e1,e2,h]
theorem ae.Ti {σ σ':ae} {id:Id} (h : σ id = σ' id):∀ (up:List (Id × Option dc)),(σ.app up) id=(σ'.app up) id:=by
 intro up
 induction up generalizing σ σ' with
 | nil=>exact h
 | cons x up ih =>
   obtain ⟨i,b⟩:=x
   simp only [ae.app]
   refine ih ?_
   simp only [ae.put]
   split<;>first | rfl | exact h
theorem ae.Bk {σ : ae} {id:Id}:∀ {up:List (Id × Option dc)},id ∉ up.map (·.1)->(σ.app up) id = σ id:=by
 intro up
 induction up generalizing σ with
 | nil=>intro _;rfl
 | cons x up ih =>
   obtain ⟨i,b⟩:=x
   intro h
   simp only [List.map_cons,List.mem_cons,not_or] at h
   simp only [ae.app]
   rw [ih h.2,ae.cN _ _ _ h.1]
theorem ae.Vs {σ σ':ae} {id:Id}:∀ {up:List (Id × Option dc)},id∈up.map (·.1)->(σ.app up) id=(σ'.app up) id:=by
 intro up
 induction up generalizing σ σ' with
 | nil=>intro h;simp at h
 | cons x up ih =>
   obtain ⟨i,b⟩:=x
   intro h
   simp only [ae.app]
   by_cases mQ:id∈up.map (·.1)
   . exact ih mQ
   . have he:id=i:=by simpa [mQ] using h
     subst he
     rw [ae.Bk mQ,ae.Bk mQ,ae.dO,ae.dO]
theorem uf {X Y:Nat->Bool} {id:Id}:∀ (L:List Done) (i:Nat) (σ σ':ae), σ id = σ' id->(∀ k d r,L[k]? = some (d,r)->X (i+k)≠Y (i+k)->id ∉ r.up.map (·.1))->il X L i σ id=il Y L i σ' id
 | [],_,_,_,h,_=>h
 | (d,r)::L,i, σ, σ',h,hd=>by
   simp only [il]
   refine uf L (i+1) _ _ ?_ (fun k d' r' hk hne=>hd (k+1) d' r' (by simpa using hk) (by rwa [show i+(k+1)=i+1+k from by omega]))
   by_cases hx:X i=Y i
   . rw [hx]
     split
     . exact ae.Ti h _
     . exact h
   . have:=hd 0 d r rfl hx
     split<;>split<;>simp only [ae.Bk this,h]
theorem G7 {X:Nat->Bool} {s:Nat} {r:fL}:∀ (L:List Done) (i j:Nat) (t:List AV),L[j]? = some (some s,r)->X (i+j)=true->(∀ k d r',L[k]? = some (d,r')->j<k->X (i+k)=true->d≠some s) ->
   (fQ X L i t)[s]? = if s<t.length then some r.val else none
 | [],_,_,_,h,_,_=>by simp at h
 | (d,r')::L,i,0,t,h,hx,hd=>by
   simp only [List.getElem?_cons_zero,Option.some.injEq,Prod.mk.injEq] at h
   obtain ⟨rfl,rfl⟩:=h
   simp only [fQ]
   rw [Nat.add_zero] at hx
   rw [if_pos hx]
   have:=ue (X:=X) (Y:=fun _=>false) (s:=s) L (i+1) (hJ t (some s) r'.val) (hJ t (some s) r'.val) rfl (fun k d r2 hk hne=>hd (k+1) d r2 (by simpa using hk) (by omega) (by
     rw [show i+(k+1)=i+1+k from by omega]
     cases hh:X (i+1+k) with
     | true=>rfl
     | false=>simp [hh] at hne))
   rw [this]
   have none:∀ (L:List Done) (i:Nat) (t:List AV),fQ (fun _=>false) L i t=t:=by
     intro L
     induction L with
     | nil=>intro _ _;rfl
     | cons x L ih=>intro i t;obtain ⟨d,r⟩:=x;simp only [fQ];rw [ih];simp
   rw [none,vK,if_pos rfl]
 | (d,r')::L,i,j+1,t,h,hx,hd=>by
   simp only [fQ]
   have:=G7 L (i+1) j (if X i then hJ t d r'.val else t) (by simpa using h) (by rwa [show i+1+j=i+(j+1) from by omega])
     (fun k d r2 hk hlt F2=>hd (k+1) d r2 (by simpa using hk) (by omega) (by rwa [show i+(k+1)=i+1+k from by omega]))
   rw [this]
   split<;>simp [MF]
theorem G8 {X:Nat->Bool} {id:Id} {d:Option Nat} {r:fL} {σ':ae}:∀ (L:List Done) (i j:Nat) (σ : ae),L[j]? = some (d,r)->X (i+j)=true->id∈r.up.map (·.1) ->
   (∀ k d r',L[k]? = some (d,r')->j<k->X (i+k)=true->id ∉ r'.up.map (·.1))->il X L i σ id=(σ'.app r.up) id
 | [],_,_,_,h,_,_,_=>by simp at h
 | (d',r')::L,i,0, σ,h,hx,mQ,hd=>by
   simp only [List.getElem?_cons_zero,Option.some.injEq,Prod.mk.injEq] at h
   obtain ⟨rfl,rfl⟩:=h
   simp only [il]
   rw [Nat.add_zero] at hx
   rw [if_pos hx]
   have:=uf (X:=X) (Y:=fun _=>false) (id:=id) L (i+1) (σ.app r'.up) (σ.app r'.up) rfl (fun k d r2 hk hne=>hd (k+1) d r2 (by simpa using hk) (by omega) (by
     rw [show i+(k+1)=i+1+k from by omega]
     cases hh:X (i+1+k) with
     | true=>rfl
     | false=>simp [hh] at hne))
   rw [this]
   have none:∀ (L:List Done) (i:Nat) (σ : ae),il (fun _=>false) L i σ = σ := by
     intro L
     induction L with
     | nil=>intro _ _;rfl
     | cons x L ih=>intro i t;obtain ⟨d,r⟩:=x;simp only [il];rw [ih];simp
   rw [none]
   exact ae.Vs mQ
 | (d',r')::L,i,j+1, σ,h,hx,mQ,hd=>by
   simp only [il]
   exact G8 L (i+1) j _ (by simpa using h) (by rwa [show i+1+j=i+(j+1) from by omega]) mQ
     (fun k d r2 hk hlt F2=>hd (k+1) d r2 (by simpa using hk) (by omega) (by rwa [show i+(k+1)=i+1+k from by omega]))
theorem uK {X:Nat->Bool}:∀ (L:List Done) (i:Nat) (t:List AV),(∀ k,k<L.length->X (i+k)=false)->fQ X L i t=t
 | [],_,_,_=>rfl
 | (d,r)::L,i,t,h=>by
   simp only [fQ]
   have:=h 0 (by simp)
   rw [Nat.add_zero] at this
   rw [this]
   exact uK L (i+1) t (fun k hk=>by rw [show i+1+k=i+(k+1) from by omega];exact h (k+1) (by simpa using hk))
theorem uL {X:Nat->Bool}:∀ (L:List Done) (i:Nat) (σ : ae),(∀ k,k<L.length->X (i+k)=false)->il X L i σ = σ
 | [],_,_,_=>rfl
 | (d,r)::L,i,t,h=>by
   simp only [il]
   have:=h 0 (by simp)
   rw [Nat.add_zero] at this
   rw [this]
   exact uL L (i+1) t (fun k hk=>by rw [show i+1+k=i+(k+1) from by omega];exact h (k+1) (by simpa using hk))
section
variable (P:Program) (G:Nat->Option (List AV)) (π : Id)
def zM (σ : ae) (p:Id) (op:hH AV) (K:fL->Prop):Prop :=
 match op with
 | .call f as=>match f with
   | .fn (.func f) first cap=>∃ S r,aM P G f (first++as++cap) p S r/\(∀ x∈S, σ x.1=some x.2)/\(∀ x∈S,x.1∈r.rd)/\K r
   | _=>False
 | op=>match bW σ p op with
   | some r=>K r
   | none=>False
def De (base:Nat) (K:List AV->ae->Prop):List bx->Nat->List AV->ae->Prop
 | [],_,t, σ => K t σ
 | o::os,i,t, σ => match fP t o.guard with
   | none=>False
   | some false=>De base K os (i+1) (hJ t o.dst (.tup [])) σ
   | some true=>zM P G σ ((base+i) :: π) (o.op.map (aV.ev G t)) fun r=>De base K os (i+1) (hJ t o.dst r.val) (σ.app r.up)
def Df (base:Nat) (K:List fL->List AV->ae->Prop):List bx->Nat->List fL->List AV->ae->Prop
 | [],_,acc,t, σ => K acc.reverse t σ
 | o::os,i,acc,t, σ => match fP t o.guard with
   | none=>False
   | some false=>Df base K os (i+1) ({ val := .tup [] }::acc) (hJ t o.dst (.tup [])) σ
   | some true=>zM P G σ ((base+i) :: π) (o.op.map (aV.ev G t)) fun r=>Df base K os (i+1) (r::acc) (hJ t o.dst r.val) (σ.app r.up)
def apart (a b:fL):Prop:=(∀ x∈a.up,x.1 ∉ b.rd/\x.1 ∉ b.up.map (·.1))/\∀ x∈b.up,x.1 ∉ a.rd
def ag (rs:List fL) (ps:List (Nat × Nat)):Prop:=∀ q∈ps,∀ a b,rs[q.1]? = some a->rs[q.2]? = some b->apart a b
def Dg (base:Nat) (o:bx) (k:Nat) (t:List AV) (σ : ae) (r:fL):Prop :=
 (fP t o.guard=some false/\r={ val := .tup [] })∨(fP t o.guard=some true/\kt P G σ ((base+k) :: π) (o.op.map (aV.ev G t)) r)
end
section
variable {P:Program} {G:Nat->Option (List AV)} {π : Id} {own:Nat->Prop} {E:Env} {w:World} {σ : ae}
theorem G9 {σ : ae} {p:Id} {op:hH AV} {K:fL->Prop} (h:zM P G σ p op K):∃ r,kt P G σ p op r/\K r:=by
 unfold zM at h
 cases op with
 | call f as =>
   simp only [] at h
   split at h
   . obtain ⟨S,r,h1,h2,h3,h4⟩:=h
     exact ⟨r,⟨S,h1,h2,h3⟩,h4⟩
   . exact h.elim
 | _ =>
   simp only [] at h
   split at h
   . rename_i r hr;exact ⟨r,hr,h⟩
   . exact h.elim
theorem JM {base:Nat} {K:List fL->List AV->ae->Prop}:∀ {os:List bx} {i:Nat} {acc:List fL} {t:List AV} {σ : ae},Df P G π base K os i acc t σ ->
   ∃ rs:List fL,rs.length=os.length /\
     (∀ k o r,os[k]? = some o->rs[k]? = some r->Dg P G π base o (i+k) (fQ (fun m=>m<i+k) ((os.map (·.dst)).zip rs) i t) (il (fun m=>m<i+k) ((os.map (·.dst)).zip rs) i σ) r) /\
     K (acc.reverse++rs) (fQ (fun _=>true) ((os.map (·.dst)).zip rs) i t) (il (fun _=>true) ((os.map (·.dst)).zip rs) i σ)
 | [],i,acc,t, σ,h=>⟨[],rfl,by simp,by simpa [Df,fQ,il] using h⟩
 | o :: os,i,acc,t, σ,h=>by
   have go:∀ r,Dg P G π base o i t σ r->Df P G π base K os (i+1) (r::acc) (hJ t o.dst r.val) (σ.app r.up) ->
       ∃ rs:List fL,rs.length=(o::os).length /\
         (∀ k o' r,(o::os)[k]? = some o'->rs[k]? = some r->Dg P G π base o' (i+k) (fQ (fun m=>m<i+k) (((o::os).map (·.dst)).zip rs) i t) (il (fun m=>m<i+k) (((o::os).map (·.dst)).zip rs) i σ) r) /\
         K (acc.reverse++rs) (fQ (fun _=>true) (((o::os).map (·.dst)).zip rs) i t) (il (fun _=>true) (((o::os).map (·.dst)).zip rs) i σ):=by
     intro r hr hv
     obtain ⟨rs,h1,h2,h3⟩:=JM hv
     refine ⟨r::rs,by simp [h1], ?_, ?_⟩
     . intro k o' r' ho GX
       cases k with
       | zero =>
         simp only [List.getElem?_cons_zero,Option.some.injEq] at ho GX
         subst ho;subst GX
         rw [uK _ _ _ (fun k _=>by simp),uL _ _ _ (fun k _=>by simp),Nat.add_zero]
         exact hr
       | succ k =>
         have:=h2 k o' r' (by simpa using ho) (by simpa using GX)
         simp only [List.map_cons,List.zip_cons_cons,fQ,il]
         have hd:decide (i<i+(k+1))=true:=by simp
         rw [if_pos hd,if_pos hd]
         rw [show i+(k+1)=i+1+k from by omega]
         exact this
     . simpa [fQ,il] using h3
   simp only [Df] at h
   split at h
   . exact h.elim
   . rename_i hw
     exact go { val := .tup [] } (.inl ⟨hw,rfl⟩) h
   . rename_i hw
     obtain ⟨r,hr,hk⟩:=G9 h
     exact go r (.inr ⟨hw,hr⟩) hk
theorem MG {q q':Nat} {π j:Id} (h:(q :: π) <:+ j) (hne:q≠q') : ¬ (q' :: π) <:+ j:=by
 intro h'
 have:=List.suffix_of_suffix_length_le h h' (by simp)
 obtain ⟨l,hl⟩:=this
 have Mn:l=[]:=by
   have:=congrArg List.length hl
   simp at this;exact this
 subst Mn
 simp at hl
 exact hne hl
theorem lX.frame {p:Id} {r:fL} {v:Value} {E':Env} {w':World} (h:lX G own E w σ p r v E' w') {t:List AV} {a:Act} (hf:cF E w t a) (d:Option Nat):cF E' w' (hJ t d r.val) (a.put d v) :=
 (hf.keep h.I1.step).put h.rep d
theorem JN {t:List AV} {a:Act} (hf:cF E w t a) (d:Option Nat):cF E w (hJ t d (.tup [])) (a.put d undef) :=
 hf.put (by simp only [aN,undef];exact ⟨#[],rfl,by simp [aU]⟩) d
theorem ug (a:Act) (d:Option Nat) (v:Value):(a.put d v).defers=a.defers:=by cases d<;>rfl
def BJ (E:Env) (π : Id) (n:Nat):Prop:=∀ j, π <:+ j->(∀ q,q<n -> ¬ (q :: π) <:+ j)->E.μ j=none
theorem BJ.at {π : Id} {n q:Nat} (h:BJ E π n) (hq:n<=q) {j:Id} (hj:(q :: π) <:+ j):E.μ j=none :=
 h j ((List.suffix_cons q π).trans hj) fun q' hq'=>MG hj (by omega)
theorem BJ.mono {π : Id} {n n':Nat} (h:BJ E π n) (hn:n<=n'):BJ E π n':=fun j hj hq=>h j hj fun q hq'=>hq q (by omega)
theorem BJ.step {π : Id} {n:Nat} {E':Env} (h:BJ E π n) (Zi:∀ i:Id, ¬ (n :: π) <:+ i->E'.μ i=E.μ i):BJ E' π (n+1):=fun j hj hq=>by
 rw [Zi j (hq n (by omega))];exact h j hj fun q hq'=>hq q (by omega)
theorem BJ.self {π : Id} {n:Nat} (h:BJ E π n):E.μ π = none :=
 h π (List.suffix_refl _) fun q _ hs=>by have:=hs.length_le;simp at this;omega
structure nk (own:Nat->Prop) (π : Id) (E E':Env) (w w':World):Prop extends Adv own E E' w w' where
 ids:∀ i:Id, ¬ π <:+ i->E'.μ i=E.μ i
theorem nk.refl (own:Nat->Prop) (π : Id) (E:Env) (w:World):nk own π E E w w:=⟨Adv.refl own E w,fun _ _=>rfl⟩
theorem nk.trans {π : Id} {E' E'':Env} {w' w'':World} (a:nk own π E E' w w') (b:nk own π E' E'' w' w''):nk own π E E'' w w'' :=
 ⟨a.toAdv.trans b.toAdv,fun i hi=>(b.ids i hi).trans (a.ids i hi)⟩
theorem lX.agI {π : Id} {q:Nat} {r:fL} {v:Value} {E':Env} {w':World} (h:lX G own E w σ (q :: π) r v E' w'):nk own π E E' w w' :=
 ⟨h.I1,fun i hi=>h.ids i fun hs=>hi ((List.suffix_cons q π).trans hs)⟩
theorem Ha {ops:Array Oper} {base:Nat} {K:List AV->ae->Prop} {Q:Exit->Act->World->Prop} :
   ∀ (l:List Oper) (i:Nat),(∀ k,l[k]? = ops[i+k]?)->∀ (vs:List bx),l.mapM (BV P ops)=some vs->∀ (t:List AV) (σ : ae) (a:Act) (E:Env) (w:World),De P G π base K vs i t σ ->
   cF E w t a->Inv G own E w σ -> BJ E π (base+i) ->
   (∀ t' σ' a' E' w',K t' σ'->nk own π E E' w w'->cF E' w' t' a'->Inv G own E' w' σ'->BJ E' π (base+i+l.length)->a'.defers=a.defers->Q .normal a' w') ->
   wpOps P ops Q ((List.range' i l.length)) a w
 | [],i,_,vs,hm,t, σ,a,E,w,hv,hf,hi,rf,hQ=>by
   simp at hm;subst hm
   simp only [De] at hv
   simp only [List.length_nil,List.range'_zero,wpOps]
   exact hQ t σ a E w hv (nk.refl own π E w) hf hi rf rfl
 | o :: l,i,hl,vs,hm,t, σ,a,E,w,hv,hf,hi,rf,hQ=>by
   simp only [List.mapM_cons,Option.pure_def,Option.bind_eq_bind,Option.bind_eq_some_iff] at hm
   obtain ⟨vo,Cr,vs',Pg,he⟩:=hm
   simp only [Option.some.injEq] at he;subst he
   obtain ⟨hop,Vt⟩:=ME Cr
   have hoi:ops[i]? = some o:=by have:=hl 0;simpa using this.symm
   simp only [List.length_cons,List.range'_succ]
   rw [wpOps_cons]
   unfold wpOp
   rw [hoi]
   simp only []
   have rest:∀ (t':List AV) (σ':ae) (a':Act) (E':Env) (w':World),De P G π base K vs' (i+1) t' σ'->nk own π E E' w w'->cF E' w' t' a'->Inv G own E' w' σ'->BJ E' π (base+i+1)->a'.defers=a.defers ->
       wpOps P ops Q (List.range' (i+1) l.length) a' w':=by
     intro t' σ' a' E' w' hv' had YT qY PC hde
     refine Ha l (i+1) (fun k=>by rw [show i+1+k=i+(k+1) from by omega, <- hl];simp) vs' Pg t' σ' a' E' w' hv' YT qY (by rw [<- Nat.add_assoc];exact PC) ?_
     intro t2 σ2 a2 E2 w2 hk adm hf2 Tc adn xh
     exact hQ t2 σ2 a2 E2 w2 hk (had.trans adm) hf2 Tc (by rw [List.length_cons,show base+i+(l.length+1)=base+(i+1)+l.length from by omega];exact adn) (xh.trans hde)
   simp only [De] at hv
   split at hv
   . exact hv.elim
   . rename_i hw
     rw [xg Cr hf hw]
     simp only [Bool.false_eq_true,if_false]
     rw [<- Vt]
     exact rest _ _ _ E w hv (nk.refl own π E w) (JN hf _) hi (rf.mono (by omega)) (ug _ _ _)
   . rename_i hw
     rw [xg Cr hf hw]
     simp only [if_true]
     obtain ⟨r,hr,hk⟩:=G9 hv
     left
     refine G6 hi (fun j hj=>rf.at (Nat.le_refl _) hj) hf hop hr ?_
     intro v w' E' hp
     rw [<- Vt]
     exact rest _ _ _ E' w' hk hp.agI (hp.frame hf _) hp.inv (rf.step hp.ids) (ug _ _ _)
end
end Go.VL
end

section
namespace Go.VL
theorem JO (f:Nat->Nat) (b:Nat):∀ (l:List Nat) (s:Nat),(l.foldl (fun s i=>s ||| 2 ^ i ||| f i) s).testBit b=true->s.testBit b=true∨∃ e∈l,b=e∨(f e).testBit b=true
 | [],s,h => .inl h
 | i :: l,s,h=>by
   simp only [List.foldl_cons] at h
   rcases JO f b l _ h with h | ⟨e,he,h⟩
   . simp only [Nat.testBit_or,Bool.or_eq_true,Nat.testBit_two_pow,decide_eq_true_eq] at h
     rcases h with (h | h) | h
     . exact .inl h
     . exact .inr ⟨i,by simp, .inl h.symm⟩
     . exact .inr ⟨i,by simp, .inr h⟩
   . exact .inr ⟨e,by simp [he],h⟩
theorem JP:∀ (rO:List (List Nat)) (acc:List Nat),(kh rO acc).length=acc.length+rO.length
 | [],acc=>by simp [kh]
 | l::r,acc=>by simp only [kh];rw [JP r];simp;omega
theorem Ex:∀ (rO:List (List Nat)) (acc:List Nat) (k:Nat),k<acc.length->(kh rO acc)[k]? = acc[k]?
 | [],acc,k,_=>by simp [kh]
 | l::r,acc,k,h=>by
   simp only [kh]
   rw [Ex r _ k (by simp;omega),List.getElem?_append_left h]
theorem MH:∀ (rO:List (List Nat)) (acc:List Nat) (j:Nat) (l:List Nat),rO[j]? = some l->∃ Tj:List Nat,Tj.length=acc.length+j/\(∀ k,k<Tj.length->(kh rO acc)[k]? = Tj[k]?) /\
   (kh rO acc)[acc.length+j]? = some (l.foldl (fun s i=>s ||| 2 ^ i ||| Tj.getD i 0) 0)
 | [],_,_,_,h=>by simp at h
 | l'::r,acc,0,l,h=>by
   simp only [List.getElem?_cons_zero,Option.some.injEq] at h;subst h
   refine ⟨acc,rfl,fun k hk=>Ex _ _ k hk, ?_⟩
   simp only [kh]
   rw [Ex r _ _ (by simp),List.getElem?_append_right (by omega)]
   simp
 | l'::r,acc,j+1,l,h=>by
   simp only [kh]
   obtain ⟨Tj,h1,h2,h3⟩:=MH r (acc++[l'.foldl (fun s i=>s ||| 2 ^ i ||| acc.getD i 0) 0]) j l (by simpa using h)
   refine ⟨Tj,by simp at h1;omega,h2, ?_⟩
   simp only [List.length_append,List.length_singleton] at h3
   rw [show acc.length+(j+1)=acc.length+1+j from by omega]
   exact h3
theorem Tk {rO:List (List Nat)} {j b:Nat} (hlt:∀ e∈rO.getD j [],e<j) (h:((kh rO []).getD j 0).testBit b=true):∃ e∈rO.getD j [],b=e∨((kh rO []).getD e 0).testBit b=true:=by
 by_cases hj:j<rO.length
 . obtain ⟨acc,h1,h2,h3⟩:=MH rO [] j rO[j] (by simp [hj])
   simp only [List.length_nil,Nat.zero_add] at h1 h3
   have hg:(kh rO []).getD j 0=rO[j].foldl (fun s i=>s ||| 2 ^ i ||| acc.getD i 0) 0:=by simp [List.getD,h3]
   rw [hg] at h
   have ho:rO.getD j []=rO[j]:=by simp [List.getD,hj]
   rw [ho] at hlt ⊢
   rcases JO _ b _ _ h with h | ⟨e,he,h⟩
   . simp at h
   . refine ⟨e,he,h.imp id fun h => ?_⟩
     have:(kh rO []).getD e 0=acc.getD e 0:=by
       simp only [List.getD]
       rw [h2 e (by rw [h1];exact hlt e he)]
     rw [this];exact h
 . have:(kh rO []).getD j 0=0:=by
     have:=JP rO []
     simp only [List.getD]
     rw [List.getElem?_eq_none (by simp at this;omega)]
     rfl
   rw [this] at h
   simp at h
theorem Fv {rO:List (List Nat)} {X:Nat->Bool} {n:Nat} (hlt:∀ j,j<n->∀ e∈rO.getD j [],e<j) (hX:∀ k,k<n->X k=true->∀ e∈rO.getD k [],X e=true) :
   ∀ j,j<n->(∀ e∈rO.getD j [],X e=true)->∀ b,((kh rO []).getD j 0).testBit b=true->X b=true:=by
 intro j
 induction j using Nat.strongRecOn with
 | _ j ih =>
   intro hj he b hb
   obtain ⟨e,he1,h⟩:=Tk (hlt j hj) hb
   have hej:=hlt j hj e he1
   rcases h with rfl | h
   . exact he b he1
   . exact ih e hej (by omega) (hX e (by omega) (he e he1)) b h
theorem hH.map_congr {α β : Type} {g h : α -> β}:∀ (op:hH α),(∀ x∈op.args,g x=h x)->op.map g=op.map h:=by
 intro op hx
 have hl:∀ (l:List α),(∀ x∈l,x∈op.args)->l.map g=l.map h:=fun l hl=>List.map_congr_left fun x YH=>hx x (hl x YH)
 have ho:∀ (l:Option α),(∀ x,l=some x->x∈op.args)->l.map g=l.map h:=by
   intro l hl;cases l with
   | none=>rfl
   | some x=>simp [hx x (hl x rfl)]
 cases op<;>simp only [hH.map,hH.args] at hx hl ho ⊢
 case build z ps=>congr 1;apply List.map_congr_left;intro q hq;rw [hx q.2.2 (List.mem_map.2 ⟨q,hq,rfl⟩)]
 case buildSl k n z ps=>congr 1;apply List.map_congr_left;intro q hq;rw [hx q.2 (List.mem_map.2 ⟨q,hq,rfl⟩)]
 case mkfn fn a c=>rw [hl a (by simp +contextual),hl c (by simp +contextual)]
 case call f as=>rw [hx f (by simp),hl as (by simp +contextual)]
 case slice k x lo hi mx=>rw [hx x (by simp),ho lo (by simp +contextual),ho hi (by simp +contextual),ho mx (by simp +contextual)]
 case sliceS x lo hi=>rw [hx x (by simp),ho lo (by simp +contextual),ho hi (by simp +contextual)]
 all_goals try simp only [List.mem_cons,List.not_mem_nil,or_false,forall_eq_or_imp,forall_eq] at hx
 all_goals simp only [hx]
theorem Vu {G:Nat->Option (List AV)} {t t':List AV}:∀ (x:aV),(∀ s,x.ags=some s->t[s]? = t'[s]?)->x.ev G t=x.ev G t'
 | .t n,h=>by have:=h n rfl;simp [aV.ev,List.getD,this]
 | .c _,_=>rfl
 | .g _,_=>rfl
 | .f _,_=>rfl
theorem uM {σ σ':ae} {k:Nat} {x:AV} {ys:List AV} {rd:List Id} (h:gG σ k x=some (ys,rd)) (hr:∀ id∈rd, σ' id = σ id):gG σ' k x=some (ys,rd):=by
 unfold gG at h ⊢
 split at h
 . exact h
 . exact h
 . exact h
 . rename_i id k' off len t
   skip
   split at h
   . rename_i bk hb
     split at h
     . rename_i hh
       simp only [Option.some.injEq,Prod.mk.injEq] at h
       obtain ⟨rfl,rfl⟩:=h
       have:=hr id (by simp)
       rw [this,hb]
       simp [hh]
     . simp at h
   . simp at h
 . simp at h
theorem MI {σ : ae} {id:Id} {off k:Nat} {news:List AV} {v:AV} {rd:List Id} {r:fL} (h:C6 σ id off k news v rd=some r):r.rd=id::rd:=by
 unfold C6 at h
 split at h
 . split at h
   . simp only [Option.some.injEq] at h;subst h;rfl
   . simp at h
 . simp at h
theorem Fw {σ σ':ae} {id:Id} {off k:Nat} {news:List AV} {v:AV} {rd:List Id} {r:fL} (h:C6 σ id off k news v rd=some r) (hr:∀ id∈r.rd, σ' id = σ id):C6 σ' id off k news v rd=some r:=by
 have hrd:=MI h
 unfold C6 at h ⊢
 rw [hr id (by rw [hrd];simp)]
 exact h
theorem Tl {σ σ':ae} {p:Id} {op:hH AV} {r:fL} (h:bW σ p op=some r) (hr:∀ id∈r.rd, σ' id = σ id):bW σ' p op=some r:=by
 cases op with
 | load agg n x =>
   simp only [bW] at h ⊢
   unfold lK at h ⊢
   split at h
   . rename_i id e o
     skip
     cases hb : σ id with
     | none=>simp [hb] at h
     | some bk =>
       simp only [hb] at h
       cases he:bk.els[e]? with
       | none=>simp [he] at h
       | some el =>
         simp only [he,Option.map_eq_some_iff] at h
         obtain ⟨v,hv,rfl⟩:=h
         rw [hr id (by simp),hb]
         simp [he,hv]
   . exact h
   . simp at h
 | store n x v =>
   simp only [bW] at h ⊢
   unfold ir at h ⊢
   split at h
   . rename_i id e o
     skip
     cases hb : σ id with
     | none=>simp [hb] at h
     | some bk =>
       simp only [hb] at h
       cases he:bk.els[e]? with
       | none=>simp [he] at h
       | some el =>
         simp only [he] at h
         split at h
         . rename_i hh
           simp only [Option.some.injEq] at h;subst h
           rw [hr id (by simp),hb]
           simp [he,hh]
         . simp at h
   . simp at h
 | append k bytes s x =>
   simp only [bW] at h ⊢
   unfold fK at h ⊢
   cases C3:gG σ k x with
   | none=>simp [C3] at h
   | some q =>
     obtain ⟨ys,rd⟩:=q
     simp only [C3] at h
     have G2 : ∀ id∈rd,id∈r.rd:=by
       intro id qg
       split at h
       . split at h<;>first | (simp only [Option.some.injEq] at h;subst h;exact qg) | simp at h
       . split at h
         . split at h<;>first | (simp only [Option.some.injEq] at h;subst h;exact qg) | simp at h
         . split at h<;>first | (simp only [Option.some.injEq] at h;subst h;exact qg) | simp at h
         . split at h
           . split at h
             . split at h
               . split at h<;>first | (simp only [Option.some.injEq] at h;subst h;exact List.mem_cons_of_mem _ qg) | (simp at h;done)
               . split at h<;>first | (simp only [Option.some.injEq] at h;subst h;exact List.mem_cons_of_mem _ qg) | (split at h<;>first | (simp only [Option.some.injEq] at h;subst h;exact List.mem_cons_of_mem _ qg) | (simp at h;done))
             . simp at h
           . simp at h
         . simp at h
     rw [uM C3 (fun id qg=>hr id (G2 id qg))]
     simp only []
     split at h
     . rename_i Py
       rw [if_pos Py];exact h
     . rename_i Py
       rw [if_neg Py]
       split at h
       . exact h
       . exact h
       . rename_i id k' off len t
         skip
         cases hb : σ id with
         | none=>simp [hb] at h
         | some bk =>
           simp only [hb] at h
           have qg:id∈r.rd:=by
             split at h
             . split at h
               . split at h<;>first | (simp only [Option.some.injEq] at h;subst h;simp;done) | (simp at h;done)
               . split at h<;>first | (simp only [Option.some.injEq] at h;subst h;simp;done) | (split at h<;>first | (simp only [Option.some.injEq] at h;subst h;simp;done) | (simp at h;done))
             . simp at h
           rw [hr id qg,hb]
           exact h
       . simp at h
 | bytesStr x =>
   simp only [bW] at h ⊢
   unfold sc at h ⊢
   cases C3:gG σ 1 x with
   | none=>simp [C3] at h
   | some q =>
     obtain ⟨ys,rd⟩:=q
     simp only [C3,Option.map_eq_some_iff] at h
     obtain ⟨l,hl,rfl⟩:=h
     rw [uM C3 hr]
     simp [hl]
 | slice k x lo hi mx =>
   simp only [bW] at h ⊢
   cases hs:gh k x lo hi mx with
   | some v=>rw [hs] at h;exact h
   | none =>
     rw [hs] at h
     simp only [rT] at h ⊢
     split at h
     . rename_i id k' off len hh
       cases hb : σ id with
       | none=>simp [hb] at h
       | some bk =>
         simp only [hb] at h
         split at h
         . rename_i hc
           simp only [Option.map_eq_some_iff] at h
           obtain ⟨v,hv,rfl⟩:=h
           rw [hr id (by simp),hb]
           simp [hc,hv]
         . simp at h
     . exact h
     . simp at h
 | cap x =>
   simp only [bW] at h ⊢
   cases hs:U6 x with
   | some v=>rw [hs] at h;exact h
   | none =>
     rw [hs] at h
     simp only [GQ] at h ⊢
     split at h
     . rename_i id k' off len
       cases hb : σ id with
       | none=>simp [hb] at h
       | some bk =>
         simp only [hb] at h
         split at h
         . rename_i hc
           simp only [Option.some.injEq] at h;subst h
           rw [hr id (by simp),hb]
           simp [hc]
         . simp at h
     . simp at h
 | ovl x y =>
   simp only [bW] at h ⊢
   unfold S2 at h ⊢
   split at h
   . rename_i i1 _ _ _ _ i2 _ _ _ _
     split at h
     . simp at h
     . rename_i hne
       cases h1 : σ i1 with
       | none=>simp [h1] at h
       | some b1 =>
         cases h2 : σ i2 with
         | none=>simp [h1,h2] at h
         | some b2 =>
           simp only [h1,h2] at h
           split at h
           . rename_i hp
             simp only [Option.some.injEq] at h;subst h
             simp only [hr i1 (by simp),hr i2 (by simp),h1,h2]
             rw [if_neg hne,if_pos hp]
           . simp at h
   . simp at h
 | clear k z x =>
   simp only [bW] at h ⊢
   unfold GO at h ⊢
   split at h
   . exact h
   . rename_i id k' off len tt
     split at h
     . rename_i h0;simp only [h0,if_true];exact h
     . rename_i h0
       simp only [h0,if_false]
       split at h
       . rename_i hh;rw [if_pos hh];exact Fw h hr
       . simp at h
   . simp at h
 | copy k d x =>
   simp only [bW] at h ⊢
   unfold Mt at h ⊢
   cases C3:gG σ k x with
   | none=>simp [C3] at h
   | some q =>
     obtain ⟨ys,rd⟩:=q
     simp only [C3] at h
     have G2:∀ id∈rd,id∈r.rd:=by
       intro id qg
       split at h
       . simp only [Option.some.injEq] at h;subst h;exact qg
       . split at h
         . simp only [Option.some.injEq] at h;subst h;exact qg
         . split at h
           . have:=MI h;rw [this];exact List.mem_cons_of_mem _ qg
           . simp at h
       . simp at h
     rw [uM C3 (fun id qg=>hr id (G2 id qg))]
     simp only []
     split at h
     . exact h
     . split at h
       . rename_i h0;rw [if_pos h0];exact h
       . rename_i h0
         rw [if_neg h0]
         split at h
         . rename_i hk;rw [if_pos hk];exact Fw h hr
         . simp at h
     . simp at h
 | _=>exact h
theorem Jd {P:Program} {G:Nat->Option (List AV)} {σ σ':ae} {p:Id} {op:hH AV} {r:fL} (h:kt P G σ p op r) (hr:∀ id∈r.rd, σ' id = σ id):kt P G σ' p op r:=by
 cases op with
 | call f as =>
   simp only [kt] at h ⊢
   split at h
   . obtain ⟨S,h1,h2,h3⟩:=h
     exact ⟨S,h1,fun x hx=>by rw [hr _ (h3 x hx)];exact h2 x hx,h3⟩
   . exact h
 | _=>exact Tl h hr
theorem sw {oc:Option AV} {r:fL} (h:bB oc=some r):r.rd=[]/\r.up=[]:=by
 cases oc with
 | none=>simp [bB] at h
 | some c=>simp only [bB,Option.map_some,Option.some.injEq] at h;subst h;exact ⟨rfl,rfl⟩
theorem Tm {P:Program} {G:Nat->Option (List AV)} {σ : ae} {p:Id} {op:hH aV} (hp:op.pure=true) {t:List AV} {r:fL} (h:kt P G σ p (op.map (aV.ev G t)) r):r.rd=[]/\r.up=[]:=by
 cases op<;>simp only [hH.pure,Bool.false_eq_true] at hp<;>simp only [hH.map,kt,bW] at h
 all_goals first
   | exact sw h
   | (simp at h;done)
   | (split at h<;>first | exact sw h | (simp at h;done) | (split at h<;>first | exact sw h | (simp at h;done)))
theorem Tn {P:Program} {G:Nat->Option (List AV)} {σ : ae} {p:Id} {op:hH aV} (hp:op.uJ=true) {t:List AV} {r:fL} (h:kt P G σ p (op.map (aV.ev G t)) r):r.up=[]:=by
 cases op<;>simp only [hH.uJ,Bool.false_eq_true] at hp
 case bytesStr =>
   simp only [hH.map,kt,bW] at h
   unfold sc at h
   split at h
   . simp only [Option.map_eq_some_iff] at h;obtain ⟨v,_,rfl⟩:=h;rfl
   . simp at h
 case ovl =>
   simp only [hH.map,kt,bW] at h
   unfold S2 at h
   split at h
   . split at h
     . simp at h
     . split at h
       . split at h
         . simp only [Option.some.injEq] at h;subst h;rfl
         . simp at h
       . simp at h
   . simp at h
 case slice =>
   simp only [hH.map,kt,bW] at h
   unfold rT at h
   split at h
   . exact (sw h).2
   . split at h
     . split at h
       . split at h
         . simp only [Option.map_eq_some_iff] at h;obtain ⟨v,_,rfl⟩:=h;rfl
         . simp at h
       . simp at h
     . split at h
       . split at h
         . split at h
           . simp only [Option.some.injEq] at h;subst h;rfl
           . simp at h
         . simp at h
       . simp at h
     . simp at h
 case cap =>
   simp only [hH.map,kt,bW] at h
   unfold GQ at h
   split at h
   . exact (sw h).2
   . split at h
     . split at h
       . split at h
         . simp only [Option.some.injEq] at h;subst h;rfl
         . simp at h
       . simp at h
     . simp at h
 simp only [hH.map,kt,bW] at h
 unfold lK at h
 split at h
 . split at h
   . split at h
     . simp only [Option.map_eq_some_iff] at h;obtain ⟨v,_,rfl⟩:=h;rfl
     . simp at h
   . simp at h
 . simp only [Option.map_eq_some_iff] at h;obtain ⟨v,_,rfl⟩:=h;rfl
 . simp at h
end Go.VL
end
