/- For the claim of HistoryNoAliasing: parts VL9, VL2S, VL10, VL11, VL12, VL13, VL14. -/
import Derived.Test.YtcomlgfjnjpebaaGreatDoorC01
import Derived.Lib.AppendZeros
import Derived.Laws.BytesArg
import Derived.Laws.Externs
import Derived.Lib.Bytealg
import Derived.Lib.Overlaps
import Derived.Orders
set_option linter.unusedSimpArgs false
set_option linter.unusedVariables false
set_option maxRecDepth 100000
namespace Go.VL
section
variable {P:Program} {G:Nat->Option (List AV)} {own:Nat->Prop} {E:Env} {w:World} {σ : aa} {p:Id}
theorem wY {len l r:Nat} {lo hi:Option AV} (hb:cm len lo hi=some (l,r)):dT len len hi=some r/\dT 0 r lo=some l:=by
 unfold cm at hb
 split at hb
 . simp at hb
 . rename_i h1 e1
   split at hb
   . simp at hb
   . rename_i l1 e2
     simp only [Option.some.injEq,Prod.mk.injEq] at hb
     obtain ⟨rfl,rfl⟩:=hb
     exact ⟨e1,e2⟩
theorem Df (s:List UInt8) (l r:Nat):(ByteArray.mk s.toArray).extract l r=⟨((s.take r).drop l).toArray⟩:=by
 apply ByteArray.ext
 rw [ByteArray.data_extract]
 apply Array.ext'
 simp [List.extract_eq_take_drop,List.drop_take]
theorem Dg (hi:Inv G own E w σ) {t:TypeId} (hu:P.underlying t=some .string) {x:AV} {v:Value} (hx:aD E w x v)
   {lo fK:Option AV} {JN G0:Option Value} (rz:kH E w lo JN) (wW:kH E w fK G0) {c:AV} (h:o9 x lo fK=some c):Sound P G own E w σ p (Instr.sliceAt t v JN G0 none) { val:=c }:=by
 unfold o9 at h
 split at h
 . rename_i s
   simp only [aD] at hx;subst hx
   split at h
   . rename_i l r hb
     obtain ⟨wK,tp⟩:=wY hb
     simp only [Option.some.injEq] at h;subst h
     obtain ⟨sE,Fu,Fv⟩:=gQ (P:=P) (isSlice:=false) (mx:=none) (vmx:=none) (m:=s.length) rz wW trivial (Nat.le_refl _) wK tp (.inl ⟨rfl,rfl⟩)
     refine Sound.same (v := .string ⟨((s.take r).drop l).toArray⟩) hi ?_ (by simp [aD])
     have hsz:(ByteArray.mk s.toArray).size=s.length:=by simp [ByteArray.size]
     simp [Instr.sliceAt,Instr.slice,run_underlying hu,hsz,sE,Df]
   . simp at h
 . simp at h
theorem Fx {b o k:Nat} {es:List AV} (hk:∀ e∈es,e.size=k) (h:bd E w b o es) {i:Nat} {e:AV} (he:es[i]? = some e):aX E w b (o+i*k) e.cells :=
 dP.2 (Bd hk (eN.1 h) he)
theorem Fy (hi:Inv G own E w σ) {t e:TypeId} {i:TypeInfo} (hu:P.underlying t=some (.slice e)) (cI:P.info? e=some i) {x j:AV} {v u:Value} (hx:aD E w x v) (hj:aD E w j u) {c:AV}
   (h:aV i.size x j=some c):Sound P G own E w σ p (Instr.indexAt t v u) { val:=c }:=by
 have hrun:∀ (a:Addr) (len cap:Nat) (k:IntKind) (n:Int),0<=n->n<len->(Instr.indexAt t (.slice (some a) len cap) (.int k n)).run P w = .ok (.pointer (some (a.add (n.toNat*i.size)))) w:=by
   intro a len cap k n h0 h1
   simp [Instr.indexAt,run_underlying hu,asIntOf,h0,h1,eE cI]
 unfold aV at h
 split at h
 . rename_i kk n
   simp only [aD] at hj;subst hj
   have row:∀ {es:List AV} {a:Option Addr} {cap:Nat},(∀ e∈es,e.size=i.size)->(es=[]∨∃ b o,a=some ⟨b,o,none⟩/\E.ok b/\bd E w b o es)->0<=n ->
       (es[n.toNat]?).map (fun e=>AV.ep e.cells 0)=some c->Sound P G own E w σ p (Instr.indexAt t (.slice a es.length cap) (.int kk n)) { val:=c }:=by
     intro es a cap hk pQ h0 h
     simp only [Option.map_eq_some_iff] at h
     obtain ⟨el,pM,rfl⟩:=h
     have hlt:n.toNat<es.length:=(List.getElem?_eq_some_iff.1 pM).1
     rcases pQ with rfl | ⟨b,o,rfl,hb,hr⟩
     . simp at hlt
     . refine Sound.same hi (hrun _ _ cap kk n h0 (by omega)) ?_
       rw [Addr.add_lit]
       simp only [aD]
       exact ⟨b,o+n.toNat*i.size,by simp,hb,Fx hk hr pM⟩
   split at h
   . rename_i k' es
     simp only [aD] at hx
     obtain ⟨a,cap,rfl,_,_,hk,pQ⟩:=hx
     split at h
     . rename_i hh
       obtain ⟨rfl,h0⟩:=hh
       exact row hk pQ h0 h
     . simp at h
   . rename_i k' es
     simp only [aD] at hx
     obtain ⟨a,rfl,_,hk,pQ⟩:=hx
     split at h
     . rename_i hh
       obtain ⟨rfl,h0⟩:=hh
       exact row hk pQ h0 h
     . simp at h
   . rename_i id k' off len tt
     simp only [aD] at hx
     obtain ⟨g,N,cap,hm,rfl,_⟩:=hx
     split at h
     . rename_i hh
       obtain ⟨rfl,h0,h1⟩:=hh
       simp only [Option.some.injEq] at h;subst h
       refine Sound.same hi (hrun _ _ cap kk n h0 h1) ?_
       rw [Addr.add_lit]
       simp only [aD]
       exact ⟨g,i.size,N,hm,by simp [Nat.add_mul]⟩
     . simp at h
   . simp at h
 . simp at h
theorem Fz (hi:Inv G own E w σ) {t e:TypeId} {n:Nat} {i:TypeInfo} (hu:P.underlying t=some (.array n e)) (cI:P.info? e=some i) {x j:AV} {v u:Value} (hx:aD E w x v) (hj:aD E w j u) {c:AV}
   (h:AP n i.size x j=some c):Sound P G own E w σ p (Instr.indexAt t v u) { val:=c }:=by
 unfold AP at h
 split at h
 . rename_i kk m
   simp only [aD] at hj;subst hj
   split at h
   . rename_i hh
     have hrun:∀ a:Addr,(Instr.indexAt t (.pointer (some a)) (.int kk m)).run P w = .ok (.pointer (some (a.add (m.toNat*i.size)))) w:=by
       intro a
       simp [Instr.indexAt,run_underlying hu,asIntOf,hh,eE cI,Instr.sureAddr]
     split at h
     . simp only [Option.some.injEq] at h;subst h
       simp only [aD] at hx
       obtain ⟨g,k,N,hm,rfl⟩:=hx
       refine Sound.same hi (hrun _) ?_
       rw [Addr.add_lit]
       simp only [aD]
       exact ⟨g,k,N,hm,by simp [Nat.add_assoc]⟩
     . simp only [Option.some.injEq] at h;subst h
       simp only [aD] at hx
       obtain ⟨b,q,rfl,hb,hr⟩:=hx
       refine Sound.same hi (hrun _) ?_
       rw [Addr.add_lit]
       simp only [aD]
       exact ⟨b,q,by simp [Nat.add_assoc],hb,hr⟩
     . simp at h
   . simp at h
 . simp at h
theorem G1 (hi:Inv G own E w σ) {s:TypeId} {fs:Array Field} {f:Nat} {fd:Field} {i:TypeInfo} (hu:P.underlying s=some (.struct fs)) (hf:fs[f]? = some fd) (cI:P.info? fd.type=some i) (h0:i.size≠0)
   {x:AV} {v:Value} (hx:aD E w x v) {r:eB} (h:bu σ p (.faddr fd.offset x)=some r):Sound P G own E w σ p (Instr.fieldAt s v f) r:=by
 have hrun:∀ a:Addr,(Instr.fieldAt s (.pointer (some a)) f).run P w = .ok (.pointer (some (a.add fd.offset))) w:=by
   intro a
   simp [Instr.fieldAt,run_underlying hu,hf,Instr.sureAddr,fieldPlace,eE cI,h0]
 simp only [bu] at h
 split at h
 . simp only [bo,Option.map_some,Option.some.injEq] at h;subst h
   simp only [aD] at hx
   obtain ⟨g,k,N,hm,rfl⟩:=hx
   refine Sound.same hi (hrun _) ?_
   rw [Addr.add_lit]
   simp only [aD]
   exact ⟨g,k,N,hm,by simp [Nat.add_assoc]⟩
 . simp only [bo,Option.map_some,Option.some.injEq] at h;subst h
   simp only [aD] at hx
   obtain ⟨b,q,rfl,hb,hr⟩:=hx
   refine Sound.same hi (hrun _) ?_
   rw [Addr.add_lit]
   simp only [aD]
   exact ⟨b,q,by simp [Nat.add_assoc],hb,hr⟩
 . simp at h
theorem G2 {t:TypeId} {agg:Bool} {i:TypeInfo} (ha:mc P t=some agg) (cI:P.info? t=some i) {cs:List AV} {xs:Array Value} (hr:aF E w cs xs.toList) {o:Nat} {c:AV} (h:VL.part agg cs o i.size=some c) :
   ∃ v,(Go.part t xs o).run P w = .ok v w/\aD E w c v:=by
 obtain ⟨h1,h2,h3⟩:=PV h hr
 refine ⟨_, ?_,h1⟩
 cases agg with
 | true=>simp [Go.part,ru ha,eE cI]
 | false =>
   have h1':=h3 rfl
   have:o<xs.size:=by omega
   simp [Go.part,ru ha,this]
theorem ux (hi:Inv G own E w σ) {k:Nat} {x:AV} {v:Value} (hx:aD E w x v) {ys:List AV} {rd:List Id} (h:dB σ k x=some (ys,rd)) :
   (∀ e∈ys,e.size=k)/\∃ a cap,v = .slice a ys.length cap/\ys.length<=cap/\(ys=[]∨∃ b o,a=some ⟨b,o,none⟩/\eh E w b o (flat ys)):=by
 unfold dB at h
 split at h
 . simp only [Option.some.injEq,Prod.mk.injEq] at h
   obtain ⟨rfl,rfl⟩:=h
   simp only [aD] at hx;subst hx
   exact ⟨by simp,none,0,rfl,Nat.le_refl _, .inl rfl⟩
 . rename_i k' es
   split at h
   . rename_i hk
     simp only [Option.some.injEq,Prod.mk.injEq] at h
     obtain ⟨rfl,rfl⟩:=h
     subst hk
     simp only [aD] at hx
     obtain ⟨a,cap,rfl,hl,_,hk,pQ⟩:=hx
     exact ⟨hk,a,cap,rfl,hl,pQ.imp id fun ⟨b,o,e,_,r⟩=>⟨b,o,e,eN.1 r⟩⟩
   . simp at h
 . rename_i k' es
   split at h
   . rename_i hk
     simp only [Option.some.injEq,Prod.mk.injEq] at h
     obtain ⟨rfl,rfl⟩:=h
     subst hk
     simp only [aD] at hx
     obtain ⟨a,rfl,_,hk,pQ⟩:=hx
     exact ⟨hk,a,_,rfl,Nat.le_refl _,pQ.imp id fun ⟨b,o,e,_,r⟩=>⟨b,o,e,eN.1 r⟩⟩
   . simp at h
 . rename_i id k' off len tt
   split at h
   . rename_i bk hσ
     split at h
     . rename_i hh
       obtain ⟨rfl,J6,hle⟩:=hh
       simp only [Option.some.injEq,Prod.mk.injEq] at h
       obtain ⟨rfl,rfl⟩:=h
       obtain ⟨g,N,cur,ty,hB⟩:=hi.blk id bk hσ
       simp only [aD] at hx
       obtain ⟨g',N',cap,hm,rfl,Ft,_⟩:=hx
       rw [hB.μ] at hm
       simp only [Option.some.injEq,Prod.mk.injEq] at hm
       obtain ⟨rfl,_,rfl⟩:=hm
       have Fw:∀ e∈(bk.els.drop off).take len,e.size=k':=fun e he=>by rw [<- J6];exact hB.k e (List.mem_of_mem_drop (List.mem_of_mem_take he))
       have hlen:((bk.els.drop off).take len).length=len:=by simp;omega
       refine ⟨Fw,some ⟨g,off*k',none⟩,cap,by rw [hlen],by omega, .inr ⟨g,off*k',rfl, ?_⟩⟩
       have:=nN (l:=off) (r:=off+len) hB.k hB.row (by omega) hle
       rw [Nat.zero_add,J6] at this
       have e:(bk.els.take (off+len)).drop off=(bk.els.drop off).take len:=by rw [List.drop_take];congr 1;omega
       rwa [e] at this
     . simp at h
   . simp at h
 . simp at h
theorem FA {b o:Nat} {cs:List AV} (h:eh E w b o cs):∃ vs:List Value,aF E w cs vs/\∀ j v,vs[j]? = some v->w.cell? ((⟨b,o,none⟩:Addr).add j)=some v:=by
 refine ⟨(List.range cs.length).map fun j=>(w.cell? ⟨b,o+j,none⟩).getD undef,bj.2 ⟨by simp,fun j c hj => ?_⟩,fun j v hj => ?_⟩
 . obtain ⟨v,hv,hr⟩:=h j c hj
   have hlt:j<cs.length:=(List.getElem?_eq_some_iff.1 hj).1
   exact ⟨v,by simp [hlt,hv],hr⟩
 . have hlt:j<cs.length:=by have:=(List.getElem?_eq_some_iff.1 hj).1;simpa using this
   obtain ⟨v',hv',_⟩:=h j cs[j] (by simp [hlt])
   simp only [List.getElem?_map,hlt,List.getElem?_range,Option.map_some,Option.some.injEq] at hj
   rw [Addr.add_lit,hv', <- hj,hv']
   rfl
theorem Bl {cs:List AV} {vs:List Value} (h:aF E w cs vs) (h1:∀ c∈cs,c.one=true):∀ v∈vs,v.oneCell'=true:=by
 intro v hv
 obtain ⟨j,hj⟩:=List.mem_iff_getElem?.1 hv
 obtain ⟨hl,hp⟩:=bj.1 h
 have l9:j<cs.length:=by have:=(List.getElem?_eq_some_iff.1 hj).1;omega
 obtain ⟨u,hu,hru⟩:=hp j cs[j] (by simp [l9])
 have:u=v:=by rw [hj] at hu;simpa using hu.symm
 subst this
 exact aD.one hru (h1 _ (by simp))
theorem wZ (hi:Inv G own E w σ) (hμ : E.μ p=none) (hσ : σ p=none) {k n N:Nat} {els:List AV} (hk:∀ e∈els,e.size=k) (hn:els.length=n) {vs:List Value} (hv:aF E w (flat els) vs)
   {rest:Array Value} (hr:rest.size=(N-n)*k) (hnN:n<=N) (hN:N<=maxLen) (ty:TypeId) {rd:List Id} :
   j5 G own E w σ p { val := .osl p k 0 n false,rd:=rd,up:=[(p,some ⟨els,k,false⟩)] } (.slice (some ⟨w.heap.size,0,none⟩) n N) (E.bind p w.heap.size k N) (w.drew.alloc (.cells (vs.toArray++rest) ty)):=by
 have hd:=hi.drew
 obtain ⟨hl,hp⟩:=bj.1 hv
 have Bg:=cB hk
 have hstep:Step E E w w.drew:=(Adv.drew (own:=own) E w).step
 have hlen:(vs++rest.toList).length=N*k:=by
   simp only [List.length_append,Array.length_toList,hl,Bg,hn,hr, <- Nat.add_mul]
   congr 1;omega
 have:=uw (p:=p) (rd:=rd) hd hμ hσ (els:=els) (k:=k) (N:=N) (vs:=vs++rest.toList) ty hk
   (fun j c hj=>by
     obtain ⟨v,l0,oG⟩:=hp j c hj
     exact ⟨v,by rw [List.getElem?_append_left (List.getElem?_eq_some_iff.1 l0).1];exact l0,aD.keep hstep c v oG⟩) hlen (by omega) hN
   (c := .osl p k 0 n false) (v := .slice (some ⟨w.heap.size,0,none⟩) n N)
   (by simp only [aD];exact ⟨w.heap.size,N,N,Env.iO _ _ _ _ _,by simp,hnN,by omega,hN,by simp⟩)
 have he:(vs++rest.toList).toArray=vs.toArray++rest:=by apply Array.ext';simp
 rw [he] at this
 exact ⟨(Adv.drew E w).trans this.yG,this.inv,this.rep,this.ids⟩
theorem TZ (hi:Inv G own E w σ) (id:Id):Inv G own E w (σ.put id none) where
 okb:=hi.okb
 blk:=fun i bk h=>by
   by_cases e:i=id
   . subst e;simp [aa.put] at h
   . rw [aa.bb _ _ _ e] at h;exact hi.blk i bk h
 inj:=fun i j x y hx hy hne h1 h2=>by
   have ei:i≠id:=by rintro rfl;simp [aa.put] at hx
   have ej:j≠id:=by rintro rfl;simp [aa.put] at hy
   rw [aa.bb _ _ _ ei] at hx
   rw [aa.bb _ _ _ ej] at hy
   exact hi.inj i j x y hx hy hne h1 h2
 glob:=hi.glob
 new:=hi.new
end
theorem yM {k:Nat}:∀ {es:List AV} {n:Nat},(∀ x∈es,x.size=k)->flat (es.take n)=(flat es).take (n*k)
 | [],n,_=>by simp [flat]
 | x::es,0,_=>by simp [flat]
 | x::es,n+1,h=>by
   have hx:x.cells.length=k:=h x (by simp)
   have ih:=yM (es:=es) (n:=n) (fun y hy=>h y (by simp [hy]))
   have hf:flat (x::es)=x.cells++flat es:=by simp [flat]
   have TQ:flat ((x::es).take (n+1))=x.cells++flat (es.take n):=by simp [flat]
   rw [hf,TQ,ih,show (n+1)*k=x.cells.length+n*k from by rw [hx,Nat.add_mul];omega,List.take_length_add_append]
theorem DT {k:Nat}:∀ {es:List AV} {n:Nat},(∀ x∈es,x.size=k)->flat (es.drop n)=(flat es).drop (n*k)
 | [],n,_=>by simp [flat]
 | x::es,0,_=>by simp
 | x::es,n+1,h=>by
   have hx:x.cells.length=k:=h x (by simp)
   have ih:=DT (es:=es) (n:=n) (fun y hy=>h y (by simp [hy]))
   have hf:flat (x::es)=x.cells++flat es:=by simp [flat]
   rw [List.drop_succ_cons,ih,hf,show (n+1)*k=x.cells.length+n*k from by rw [hx,Nat.add_mul];omega,List.drop_length_add_append]
theorem zM {G:Nat->Option (List AV)} {own:Nat->Prop} {E:Env} {w:World} {σ : aa} (h:Inv G own E w σ) {id:Id} {bk:a8} (hσ : σ id=some bk) (Bf:bk.fr=false)
   {g N:Nat} {cur:Array Value} {ty:TypeId} (hB:o6 E own w id bk g N cur ty)
   {e:Nat} {news:List AV} {vs:List Value} (hle:e+news.length<=bk.els.length) (hk:∀ x∈news,x.size=bk.k) (hv:aF E w (flat news) vs) :
   e*bk.k+vs.length<=cur.size /\
   Adv own E E w (w.setRow g (cur.toList.take (e*bk.k)++vs++cur.toList.drop (e*bk.k+vs.length)).toArray) /\
   Inv G own E (w.setRow g (cur.toList.take (e*bk.k)++vs++cur.toList.drop (e*bk.k+vs.length)).toArray) (σ.put id (some { bk with els:=bk.els.take e++news++bk.els.drop (e+news.length) })):=by
 obtain ⟨o7,hvp⟩:=bj.1 hv
 have FB:=cB hk
 have hbound:e*bk.k+vs.length<=cur.size:=by
   rw [hB.size,o7,FB, <- Nat.add_mul]
   exact Nat.mul_le_mul_right _ (by have:=hB.len;omega)
 refine ⟨hbound, ?_⟩
 generalize TR:(cur.toList.take (e*bk.k)++vs++cur.toList.drop (e*bk.k+vs.length)).toArray=nv
 have hg:=cV hB.heap
 have qv:(w.setRow g nv).heap[g]? = some (.cells nv ty (0,0)):=setRow_heap w g cur nv ty _ hB.heap
 have hs:Step E E w (w.setRow g nv):=⟨fun _ _ h=>h,fun _ h=>h,fun b hb=>setRow_other w g b nv (fun e=>hB.no Bf (e▸hb))⟩
 have dS:Adv own E E w (w.setRow g nv) :=
   ⟨hs,rfl,rfl,rfl,by simp,fun k _ hk=>setRow_other w g k nv (fun e=>hk (e▸hB.own)),fun _ h => .inl h⟩
 refine ⟨dS, ?_, ?_, ?_, ?_, ?_⟩
 . intro b hb;simpa using h.okb b hb
 . intro i Ar hi
   by_cases cI:i=id
   . subst cI
     rw [aa.a6] at hi
     simp only [Option.some.injEq] at hi
     subst hi
     have vq:(bk.els.take e++news++bk.els.drop (e+news.length)).length=bk.els.length:=by simp;omega
     have w6:∀ x∈bk.els.take e++news++bk.els.drop (e+news.length),x.size=bk.k:=by
       intro x hx
       simp only [List.append_assoc,List.mem_append] at hx
       rcases hx with hx | hx | hx
       . exact hB.k x (List.mem_of_mem_take hx)
       . exact hk x hx
       . exact hB.k x (List.mem_of_mem_drop hx)
     refine ⟨g,N,nv,ty,hB.μ,qv, ?_,by rw [vq];exact hB.len,hB.most,hB.own,by simp [Bf],hB.no,w6, ?_⟩
     . rw [<- TR]
       simp only [List.size_toArray,List.length_append,List.length_take,List.length_drop,Array.length_toList]
       rw [<- hB.size];omega
     . show eh E (w.setRow g nv) g 0 (flat (bk.els.take e++news++bk.els.drop (e+news.length)))
       rw [ln,ln,yM hB.k,DT hB.k]
       have hlen:(flat bk.els).length=bk.els.length*bk.k:=cB hB.k
       have hcz:bk.els.length*bk.k<=cur.size:=by rw [hB.size];exact Nat.mul_le_mul_right _ hB.len
       have hmul:(e+news.length)*bk.k<=bk.els.length*bk.k:=Nat.mul_le_mul_right _ hle
       rw [Nat.add_mul] at hmul
       intro j c hj
       have hcell:(w.setRow g nv).cell? ⟨g,0+j,none⟩=nv[j]? := by rw [Nat.zero_add];exact cell_of_row _ _ _ _ _ _ qv
       rw [hcell]
       suffices Xi:∃ v,nv[j]? = some v/\aD E w c v by
         obtain ⟨v,l0,oG⟩:=Xi;exact ⟨v,l0,aD.keep hs c v oG⟩
       rw [<- TR]
       have hold:∀ (j:Nat) (c:AV),(flat bk.els)[j]? = some c->∃ v:Value,cur[j]? = some v/\aD E w c v:=by
         intro j c hj
         obtain ⟨v,l0,oG⟩:=hB.row j c hj
         rw [Nat.zero_add,cell_of_row _ _ _ _ _ _ hB.heap] at l0
         exact ⟨v,l0,oG⟩
       simp only [List.getElem?_toArray]
       have ha:(cur.toList.take (e*bk.k)).length=e*bk.k:=by simp;omega
       have hb:((flat bk.els).take (e*bk.k)).length=e*bk.k:=by simp;omega
       rw [List.append_assoc] at hj ⊢
       by_cases c1:j<e*bk.k
       . rw [List.getElem?_append_left (by omega),List.getElem?_take_of_lt c1] at hj
         rw [List.getElem?_append_left (by omega),List.getElem?_take_of_lt c1]
         obtain ⟨v,l0,oG⟩:=hold j c hj
         exact ⟨v,by simpa using l0,oG⟩
       . rw [List.getElem?_append_right (by omega),hb] at hj
         rw [List.getElem?_append_right (by omega),ha]
         by_cases c2:j-e*bk.k<(flat news).length
         . rw [List.getElem?_append_left c2] at hj
           rw [List.getElem?_append_left (by omega)]
           obtain ⟨v,l0,oG⟩:=hvp _ c hj
           exact ⟨v,l0,oG⟩
         . rw [List.getElem?_append_right (by omega),List.getElem?_drop] at hj
           rw [List.getElem?_append_right (by omega),List.getElem?_drop,o7]
           rw [FB] at hj c2 ⊢
           have e1:(e+news.length)*bk.k+(j-e*bk.k-news.length*bk.k)=j:=by rw [Nat.add_mul];omega
           have e2:e*bk.k+news.length*bk.k+(j-e*bk.k-news.length*bk.k)=j:=by omega
           rw [e1] at hj;rw [e2]
           obtain ⟨v,l0,oG⟩:=hold _ c hj
           exact ⟨v,by simpa using l0,oG⟩
   . rw [aa.bb _ _ _ cI] at hi
     obtain ⟨g',N',vK,JK,Db⟩:=h.blk i Ar hi
     have hne:g'≠g:=h.inj i id _ _ (by simp [hi]) (by simp [hσ]) cI Db.μ hB.μ
     exact ⟨g',N',vK,JK,Db.keep hs (setRow_other w g g' nv hne) Db.no⟩
 . intro i j x y hi hj hne hx hy
   refine h.inj i j x y ?_ ?_ hne hx hy
   . intro hn;by_cases cI:i=id
     . subst cI;simp [hσ] at hn
     . rw [aa.bb _ _ _ cI] at hi;exact hi hn
   . intro hn;by_cases cI:j=id
     . subst cI;simp [hσ] at hn
     . rw [aa.bb _ _ _ cI] at hj;exact hj hn
 . intro g' cs GR
   obtain ⟨h1',Tx⟩:=h.glob g' cs GR
   exact ⟨h1',aX.keep hs.bare (hs.same g' h1') cs 0 Tx⟩
 . intro k hk;simp at hk;exact h.new k hk
section
variable {P:Program} {G:Nat->Option (List AV)} {own:Nat->Prop} {E:Env} {w:World} {σ : aa} {p:Id}
theorem T1 (hi:Inv G own E w σ) (hμ : E.μ p=none) (hσ : σ p=none) {id:Id} {bk:a8} (hid : σ id=some bk) (Bf:bk.fr=false) {g N:Nat} {cur:Array Value} {ty:TypeId} (hB:o6 E own w id bk g N cur ty)
   {ys:List AV} (hk:∀ e∈ys,e.size=bk.k) {news:List Value} (hv:aF E w (flat ys) news) (J1:bk.els.length+ys.length<=N) {rd:List Id} :
   j5 G own E w σ p { val := .osl p bk.k 0 (bk.els.length+ys.length) false,rd:=rd,up:=[(id,none),(p,some ⟨bk.els++ys,bk.k,false⟩)] }
     (.slice (some ⟨g,0,none⟩) (bk.els.length+ys.length) N) (E.bind p g bk.k N)
     (w.setRow g (cur.toList.take (bk.els.length*bk.k)++news++cur.toList.drop (bk.els.length*bk.k+news.length)).toArray):=by
 obtain ⟨o7,hvp⟩:=bj.1 hv
 have hy:=cB hk
 have he:=cB hB.k
 have hle:bk.els.length*bk.k+news.length<=cur.size:=by
   rw [o7,hy,hB.size, <- Nat.add_mul];exact Nat.mul_le_mul_right _ J1
 generalize TR:(cur.toList.take (bk.els.length*bk.k)++news++cur.toList.drop (bk.els.length*bk.k+news.length)).toArray=nv
 have qv:(w.setRow g nv).heap[g]? = some (.cells nv ty (0,0)):=setRow_heap w g cur nv ty _ hB.heap
 have aaa:id≠p:=by rintro rfl;simp [hid] at hσ
 have hs:Step E (E.bind p g bk.k N) w (w.setRow g nv) :=
   ⟨fun i x h=>by rw [Env.iv];exact h;rintro rfl;simp [hμ] at h,fun _ h=>h,fun b hb=>setRow_other w g b nv (fun e=>hB.no Bf (e▸hb))⟩
 have dS:Adv own E (E.bind p g bk.k N) w (w.setRow g nv) :=
   ⟨hs,rfl,rfl,rfl,by simp,fun k _ hk=>setRow_other w g k nv (fun e=>hk (e▸hB.own)),fun _ h => .inl h⟩
 have hsz:nv.size=cur.size:=by
   rw [<- TR]
   simp only [List.size_toArray,List.length_append,List.length_take,List.length_drop,Array.length_toList]
   omega
 refine ⟨dS,⟨?_, ?_, ?_, ?_, ?_⟩, ?_,fun i hne=>Env.iv _ _ _ _ _ (fun e=>hne (by rw [e];exact List.suffix_refl _))⟩
 . intro b hb;simpa using hi.okb b hb
 . intro i Ar h
   simp only [aa.app] at h
   by_cases e1:i=p
   . subst e1
     rw [aa.a6] at h
     simp only [Option.some.injEq] at h;subst h
     refine ⟨g,N,nv,ty,Env.iO _ _ _ _ _,qv,by rw [hsz];exact hB.size,by simpa using J1,hB.most,hB.own,by simp,fun _ hb=>hB.no Bf hb, ?_, ?_⟩
     . intro e he
       rcases List.mem_append.1 he with h | h
       . exact hB.k e h
       . exact hk e h
     . show eh _ _ g 0 (flat (bk.els++ys))
       rw [ln]
       have hcell:∀ j,(w.setRow g nv).cell? ⟨g,j,none⟩=nv[j]? := fun j=>cell_of_row _ _ _ _ _ _ qv
       have ht:(cur.toList.take (bk.els.length*bk.k)).length=bk.els.length*bk.k:=by simp;omega
       refine rp.2 ⟨fun j c hj => ?_,fun j c hj => ?_⟩
       . have l9:j<bk.els.length*bk.k:=by rw [<- he];exact (List.getElem?_eq_some_iff.1 hj).1
         obtain ⟨v,l0,oG⟩:=hB.row j c hj
         rw [Nat.zero_add,cell_of_row _ _ _ _ _ _ hB.heap] at l0
         refine ⟨v, ?_,aD.keep hs c v oG⟩
         rw [Nat.zero_add,hcell, <- TR]
         simp only [List.getElem?_toArray,List.append_assoc]
         rw [List.getElem?_append_left (by omega),List.getElem?_take_of_lt l9]
         simpa using l0
       . obtain ⟨v,l0,oG⟩:=hvp j c hj
         have l9:j<news.length:=(List.getElem?_eq_some_iff.1 l0).1
         refine ⟨v, ?_,aD.keep hs c v oG⟩
         rw [Nat.zero_add,hcell, <- TR,he]
         simp only [List.getElem?_toArray,List.append_assoc]
         rw [List.getElem?_append_right (by omega),ht,Nat.add_sub_cancel_left,List.getElem?_append_left l9]
         exact l0
   . rw [aa.bb _ _ _ e1] at h
     by_cases e2:i=id
     . subst e2;simp [aa.put] at h
     . rw [aa.bb _ _ _ e2] at h
       obtain ⟨g',N',vK,JK,Db⟩:=hi.blk i Ar h
       have hne:g'≠g:=hi.inj i id _ _ (by simp [h]) (by simp [hid]) e2 Db.μ hB.μ
       exact ⟨g',N',vK,JK,Db.keep hs (setRow_other w g g' nv hne) Db.no⟩
 . intro i j x y hx hy hne h1 h2
   simp only [aa.app] at hx hy
   have other:∀ i,i≠p->((σ.put id none).put p (some ⟨bk.els++ys,bk.k,false⟩)) i≠none->i≠id /\ σ i≠none:=by
     intro i e h
     rw [aa.bb _ _ _ e] at h
     have e2:i≠id:=by rintro rfl;simp [aa.put] at h
     rw [aa.bb _ _ _ e2] at h
     exact ⟨e2,h⟩
   by_cases e1:i=p
   . have e1:=e1.symm
     subst e1
     have e2:j≠p:=fun e=>hne e.symm
     obtain ⟨h3,h4⟩:=other j e2 hy
     rw [Env.iO] at h1
     rw [Env.iv _ _ _ _ _ e2] at h2
     have:=hi.inj id j (g,bk.k,N) y (by simp [hid]) h4 (fun e=>h3 e.symm) hB.μ h2
     simp only [Option.some.injEq] at h1
     rw [<- h1];exact this
   . obtain ⟨h3,h4⟩:=other i e1 hx
     rw [Env.iv _ _ _ _ _ e1] at h1
     by_cases e2:j=p
     . subst e2
       rw [Env.iO] at h2
       have:=hi.inj i id x (g,bk.k,N) h4 (by simp [hid]) h3 h1 hB.μ
       simp only [Option.some.injEq] at h2
       rw [<- h2];exact this
     . obtain ⟨h5,h6⟩:=other j e2 hy
       rw [Env.iv _ _ _ _ _ e2] at h2
       exact hi.inj i j x y h4 h6 hne h1 h2
 . intro g' cs GR
   obtain ⟨h1,h2⟩:=hi.glob g' cs GR
   exact ⟨h1,aX.keep hs.bare (hs.same g' h1) cs 0 h2⟩
 . intro k hk;simp at hk;exact hi.new k hk
 . simp only [aD]
   exact ⟨g,N,N,Env.iO _ _ _ _ _,by simp,J1,by omega,hB.most,by simp⟩
def LB (c:AV) (val:Value):Prop:=∀ E w,aD E w c val
theorem FC {ys:List AV} (h:(ys.all fun e=>e.cells.all AV.one)=true):∀ c∈flat ys,c.one=true:=by
 intro c hc
 simp only [flat,List.mem_flatMap] at hc
 obtain ⟨e,he,hce⟩:=hc
 have:=List.all_eq_true.1 h e he
 exact List.all_eq_true.1 this c hce
theorem nx (t ty e bt:TypeId) (i:TypeInfo) (ht:P.underlying t=some (.slice e)) (hi:P.info? e=some i)
   (g J7 Xk:Nat) (cur:Array Value) (hg:w.heap[g]? = some (.cells cur bt (0,0)))
   (a:Addr) (m c:Nat) (news:List Value) (hl:news.length=m*i.size) (aab:∀ j u,news[j]? = some u->w.cell? (a.add j)=some u) (h1:∀ u∈news,u.oneCell'=true)
   (hroom:J7+m<=Xk) (J1:J7*i.size+news.length<=cur.size) :
   (Builtin.append_ #[t,t] ty #[.slice (some ⟨g,0,none⟩) J7 Xk, .slice (some a) m c]).run P w =
     .ok (.slice (some ⟨g,0,none⟩) (J7+m) Xk) (w.setRow g (cur.toList.take (J7*i.size)++news++cur.toList.drop (J7*i.size+news.length)).toArray):=by
 have hf:=run_firstCells_some (P:=P) w i.size m a m c news hl aab
 have hst:=run_storeCells_at P g (J7*i.size) bt news 0 cur w hg (by simpa using J1) h1
 simp only [Nat.add_zero] at hst
 simp [Builtin.append_,run_underlying ht,sizeOf,typeInfo,hi,Builtin.lenOf,hroom,hf,Addr.add_lit,hst]
theorem vu {z:AV} {zv:Value} (hz:aF E w z.cells zv.cells.toList) (n:Nat) (hp:0<z.size):aF E w (flat (List.replicate n z)) (Builtin.zeroCells zv.cells n).toList:=by
 obtain ⟨hl,Z7⟩:=bj.1 hz
 have hk:∀ e∈List.replicate n z,e.size=z.size:=fun e he=>by rw [List.eq_of_mem_replicate he]
 have Bg:=cB hk
 have hs:zv.cells.size=z.size:=by simpa [AV.size] using hl
 refine bj.2 ⟨by rw [Bg];simp [Builtin.zeroCells,hs],fun j c hj => ?_⟩
 have l9:j<n*z.size:=by have:=(List.getElem?_eq_some_iff.1 hj).1;rw [Bg] at this;simpa using this
 have hdm:j/z.size*z.size+j%z.size=j:=by rw [Nat.mul_comm];exact Nat.div_add_mod j z.size
 have P7:=Nat.mod_lt j hp
 have hdiv:j/z.size<n:=Nat.div_lt_of_lt_mul (by rwa [Nat.mul_comm] at l9)
 have hg:=flat_get (i:=j/z.size) (e:=z) hk (by simp [hdiv]) P7
 rw [hdm,hj] at hg
 obtain ⟨v,hv,hr⟩:=Z7 (j%z.size) c hg.symm
 refine ⟨v, ?_,hr⟩
 have hv':zv.cells[j%z.size]? = some v:=by simpa using hv
 simp only [Builtin.zeroCells,Array.toList_map,Array.toList_range,List.getElem?_map,hs,List.getElem?_range l9,Option.map_some]
 rw [getElem!_def,hv']
theorem Bm (hi:Inv G own E w σ) {id:Id} {off k len:Nat} {tt:Bool} {news:List AV} {v:AV} {rd:List Id} {r:eB} (h:sC σ id off k news v rd=some r) {a:Value} (hs:aD E w (.osl id k off len tt) a)
   (hk:∀ e∈news,e.size=k) {vs:List Value} (hv:aF E w (flat news) vs) {val:Value} (hval:LB v val) :
   ∃ g cap,a = .slice (some ⟨g,off*k,none⟩) len cap/\∃ w',(storeCells ⟨g,off*k,none⟩ vs).run P w = .ok () w'/\j5 G own E w σ p r val E w':=by
 unfold sC at h
 split at h
 . rename_i bk hid
   split at h
   . rename_i hh
     obtain ⟨J6,hle,Bf,C4⟩:=hh
     simp only [Option.some.injEq] at h;subst h
     obtain ⟨g,N,cur,ety,hB⟩:=hi.blk id bk hid
     simp only [aD] at hs
     obtain ⟨g',N',cap,Dh,rfl,Ft,P6,ZE,J5⟩:=hs
     rw [hB.μ] at Dh
     simp only [Option.some.injEq,Prod.mk.injEq] at Dh
     obtain ⟨rfl,_,rfl⟩:=Dh
     obtain ⟨vM,had,DU⟩:=zM hi hid Bf hB (e:=off) (news:=news) (vs:=vs) hle (fun e he=>by rw [J6];exact hk e he) hv
     have e0:off*bk.k=off*k:=by rw [J6]
     rw [e0] at vM had DU
     have hst:=run_storeCells_at P g (off*k) ety vs 0 cur w hB.heap (by simpa using vM) (Bl hv (FC C4))
     simp only [Nat.add_zero] at hst
     exact ⟨g,cap,rfl,_,hst,had,DU,hval E _,fun _ _=>rfl⟩
   . simp at h
 . simp at h
theorem G3 (hi:Inv G own E w σ) {t e ty:TypeId} {z:AV} (hu:P.underlying t=some (.slice e)) (hz:kG P e=some z) (mK:0<z.size) {x:AV} {a:Value} (hx:aD E w x a) {r:eB} (h:vL σ z.size z x=some r) :
   Sound P G own E w σ p (Builtin.clear_ #[t] ty #[a]) r:=by
 obtain ⟨it,zv,hit,JM,NJ,Ly,Lz⟩:=j6 hz
 have hzr:=aD.cells (ia (E:=E) (w:=w) NJ) (jd Lz)
 unfold vL at h
 split at h
 . simp only [Option.some.injEq] at h;subst h
   simp only [aD] at hx;subst hx
   exact Sound.same (v := .tuple #[]) hi (by simp [Builtin.clear_,run_underlying hu]) (by simp only [aD];exact ⟨#[],rfl,by simp [aF]⟩)
 . rename_i id k' off len tt
   split at h
   . rename_i h0
     subst h0
     simp only [Option.some.injEq] at h;subst h
     simp only [aD] at hx
     obtain ⟨g',N',cap,Dh,rfl,_⟩:=hx
     exact Sound.same (v := .tuple #[]) hi (by simp [Builtin.clear_,run_underlying hu]) (by simp only [aD];exact ⟨#[],rfl,by simp [aF]⟩)
   . rename_i h0
     split at h
     . rename_i hh
       obtain ⟨rfl,_⟩:=hh
       obtain ⟨g,cap,rfl,w',hst,hp⟩:=Bm (P:=P) (p:=p) (val := .tuple #[]) hi h hx (fun e he=>by rw [List.eq_of_mem_replicate he]) (vu hzr len mK) (fun E w=>by simp only [aD];exact ⟨#[],rfl,by simp [aF]⟩)
       refine ⟨_,w',E, ?_,hp⟩
       obtain ⟨m,rfl⟩:∃ m,len=m+1:=⟨len-1,by omega⟩
       simp [Builtin.clear_,run_underlying hu,vg hit JM,hst]
     . simp at h
 . simp at h
theorem J8 (hi:Inv G own E w σ) {t t2 e ty:TypeId} {i:TypeInfo} (hu:P.underlying t=some (.slice e)) (cI:P.info? e=some i) {d x:AV} {a b:Value} (hd:aD E w d a) (hx:aD E w x b) {r:eB} (h:wQ σ i.size d x=some r) :
   Sound P G own E w σ p (Builtin.copy_ #[t,t2] ty #[a,b]) r:=by
 unfold wQ at h
 split at h
 . simp at h
 . rename_i ys rd pM
   obtain ⟨DJ,xa,Di,rfl,NL,pQ⟩:=ux hi hx pM
   have zero:∀ (ba:Option Addr) (n cap:Nat),Nat.min ys.length n=0->(Builtin.copy_ #[t,t2] ty #[.slice ba n cap, .slice xa ys.length Di]).run P w = .ok (.int .i64 0) w:=by
     intro ba n cap h0
     cases ba<;>cases xa<;>simp [Builtin.copy_,run_underlying hu,eE cI,Builtin.lenOf,h0,Builtin.firstCells,loadCells,loadCellsFrom,storeCells,goInt]
   split at h
   . simp only [Option.some.injEq] at h;subst h
     simp only [aD] at hd;subst hd
     exact Sound.same hi (zero none 0 0 (by simp)) (by simp only [aD])
   . rename_i id k' off len tt
     split at h
     . rename_i h0
       simp only [Option.some.injEq] at h;subst h
       simp only [aD] at hd
       obtain ⟨g',N',cap,Dh,rfl,_⟩:=hd
       have h0':Nat.min ys.length len=0:=by
         have:=congrArg List.length (List.isEmpty_iff.1 h0)
         simp only [List.length_take,List.length_nil] at this
         rw [Nat.min_comm] at this;exact this
       exact Sound.same hi (zero _ len cap h0') (by simp only [aD])
     . rename_i h0
       split at h
       . rename_i hk
         subst hk
         have hne:ys≠[]:=by rintro rfl;simp at h0
         obtain ⟨xb,xo,rfl,hxr⟩:=pQ.resolve_left hne
         have hkt:∀ e∈ys.take len,e.size=i.size:=fun e he=>DJ e (List.mem_of_mem_take he)
         have adX:eh E w xb xo (flat (ys.take len)):=by
           rw [yM DJ]
           exact (rp.1 (by rw [List.take_append_drop];exact hxr:eh E w xb xo ((flat ys).take (len*i.size)++(flat ys).drop (len*i.size)))).1
         obtain ⟨news,NK,V2⟩:=FA adX
         have vN:news.length=(ys.take len).length*i.size:=by rw [aF.len NK,cB hkt]
         obtain ⟨g,cap,rfl,w',hst,hp⟩:=Bm (P:=P) (p:=p) (val := .int .i64 (ys.take len).length) hi h hd hkt NK (fun E w=>by simp only [aD])
         refine ⟨_,w',E, ?_,hp⟩
         have aac:Nat.min ys.length len=(ys.take len).length:=by rw [List.length_take,Nat.min_comm]
         have hf:=run_firstCells_some (P:=P) w i.size (ys.take len).length ⟨xb,xo,none⟩ ys.length Di news vN V2
         generalize (ys.take len).length=m at aac hf hp ⊢
         simp [Builtin.copy_,run_underlying hu,eE cI,Builtin.lenOf,aac,hf,hst,goInt]
       . simp at h
   . simp at h
theorem Dj {d:Option TypeDesc} (h:yF d=true):∃ e,d=some (.slice e):=by
 unfold yF at h
 split at h
 . exact ⟨_,rfl⟩
 . cases h
theorem yN {t t' e e' ty:TypeId} (hu:P.underlying t=some (.slice e)) (DV:P.underlying t'=some (.slice e')) (a b:Value) (w:World) :
   (Builtin.append_ #[t,t'] ty #[a,b]).run P w=(Builtin.append_ #[t,t] ty #[a,b]).run P w:=by
 cases a<;>simp [Builtin.append_,run_underlying hu,run_underlying DV]
theorem FD (hi:Inv G own E w σ) (hμ : E.μ p=none) (hσ : σ p=none) {t e ty:TypeId} {i:TypeInfo} (hu:P.underlying t=some (.slice e)) (cI:P.info? e=some i)
   (hz:(kG P e).isSome=true) {s x:AV} {a b:Value} (hs:aD E w s a) (hx:aD E w x b) {r:eB} (h:bQ σ p i.size i.bytes s x=some r) :
   Sound P G own E w σ p (Builtin.append_ #[t,t] ty #[a,b]) r:=by
 obtain ⟨z,hz⟩:=Option.isSome_iff_exists.1 hz
 obtain ⟨it,zv,hit,JM,NJ,Ly,Lz⟩:=j6 hz
 rw [cI] at hit
 simp only [Option.some.injEq] at hit;subst hit
 have P8:zv.cells.size=i.size:=by
   have:=aF.len (aD.cells (ia (E:=E) (w:=w) NJ) (jd Lz))
   simp at this;unfold AV.size at Ly;omega
 unfold bQ at h
 split at h
 . simp at h
 . rename_i ys rd pM
   obtain ⟨DJ,xa,Di,rfl,NL,pQ⟩:=ux hi hx pM
   split at h
   . rename_i J9
     have hys:ys=[]:=by simpa using J9
     subst hys
     have hrun:∀ (base:Option Addr) (n cap:Nat),n<=cap->(Builtin.append_ #[t,t] ty #[.slice base n cap, .slice xa ([]:List AV).length Di]).run P w = .ok (.slice base n cap) w:=by
       intro base n cap hn
       cases base<;>cases xa<;>simp [Builtin.append_,run_underlying hu,eE cI,Builtin.lenOf,hn,Builtin.firstCells,loadCells,loadCellsFrom,storeCells]
     split at h
     . simp only [Option.some.injEq] at h;subst h
       have dr:=hs
       simp only [aD] at hs;subst hs
       exact Sound.same hi (hrun none 0 0 (Nat.le_refl _)) dr
     . simp only [Option.some.injEq] at h;subst h
       have dr:=hs
       simp only [aD] at hs;obtain ⟨q,rfl,_⟩:=hs
       exact Sound.same hi (hrun q _ _ (Nat.le_refl _)) dr
     . simp only [Option.some.injEq] at h;subst h
       have dr:=hs
       simp only [aD] at hs;obtain ⟨g,N,cap,_,rfl,hle,_⟩:=hs
       exact Sound.same hi (hrun _ _ _ hle) dr
     . simp at h
   . rename_i J9
     have hne:ys≠[]:=by simpa using J9
     have mK:0<ys.length:=List.length_pos_iff.2 hne
     obtain ⟨xb,xo,rfl,hxr⟩:=pQ.resolve_left hne
     obtain ⟨news,NK,V2⟩:=FA hxr
     have Bg:=cB DJ
     have vN:news.length=ys.length*i.size:=by rw [aF.len NK,Bg]
     -- an append to a row that has no room
     have grow:∀ (ba:Addr) (q:Nat) (es:List AV) (cap:Nat),(∀ e∈es,e.size=i.size)->(es=[]∨∃ b o,ba=⟨b,o,none⟩/\eh E w b o (flat es))->q=es.length->cap<q+ys.length ->
         (q+ys.length)*i.bytes<=140737488355328->q+ys.length<=maxLen->∀ rd,
         ∃ v w' E',(Builtin.append_ #[t,t] ty #[.slice (some ba) q cap, .slice (some ⟨xb,xo,none⟩) ys.length Di]).run P w = .ok v w' /\
           j5 G own E w σ p { val := .osl p i.size 0 (q+ys.length) false,rd:=rd,up:=[(p,some ⟨es++ys,i.size,false⟩)] } v E' w':=by
       intro ba q es cap hk hr hq Bn hb hm rd
       have DR:=cB hk
       obtain ⟨P9,Tz,P6⟩:∃ vs:List Value,aF E w (flat es) vs/\∀ j v,vs[j]? = some v->w.cell? (ba.add j)=some v:=by
         rcases hr with rfl | ⟨b,o,rfl,hr⟩
         . exact ⟨[],by simp [flat,aF],by simp⟩
         . exact FA hr
       have TA:P9.length=q*i.size:=by rw [aF.len Tz,DR,hq]
       have hrun:=run_append_grow (P:=P) w t ty e i zv hu cI JM ba q cap P9 TA P6 ⟨xb,xo,none⟩ ys.length Di news vN V2 Bn (by unfold maxLen at hm;omega) (growslice_fits Bn hb)
       have rn:=grownCap_ge w (q+ys.length) cap e
       have LA:=grownCap_le_maxLen w (q+ys.length) cap e hm
       refine ⟨_,_,E.bind p w.heap.size i.size (grownCap w (q+ys.length) cap e),hrun, ?_⟩
       have:=wZ (p:=p) (rd:=rd) hi hμ hσ (k:=i.size) (n:=q+ys.length) (N:=grownCap w (q+ys.length) cap e) (els:=es++ys) (fun e he=>(List.mem_append.1 he).elim (hk e) (DJ e)) (by simp [hq])
         (vs:=P9++news) (by rw [ln];exact aF.append Tz NK) (rest:=Builtin.zeroCells zv.cells (grownCap w (q+ys.length) cap e-(q+ys.length))) (by rw [size_zeroCells,P8]) rn LA e
       have hee:(P9++news).toArray=P9.toArray++news.toArray:=by simp
       rw [hee] at this
       exact this
     split at h
     . -- onto nil
       split at h
       . rename_i hh
         obtain ⟨hb,hm,_⟩:=hh
         simp only [Option.some.injEq] at h;subst h
         simp only [aD] at hs;subst hs
         have hrun:=run_append_nil (P:=P) w t ty e i zv hu cI JM ⟨xb,xo,none⟩ ys.length Di news vN V2 mK (by unfold maxLen at hm;omega) (by omega)
         have rn:=grownCap_ge w ys.length 0 e
         have LA:=grownCap_le_maxLen w ys.length 0 e hm
         refine ⟨_,_,E.bind p w.heap.size i.size (grownCap w ys.length 0 e),hrun, ?_⟩
         exact wZ (p:=p) (rd:=rd) hi hμ hσ (k:=i.size) (n:=ys.length) (N:=grownCap w ys.length 0 e) (els:=ys) DJ rfl NK (by rw [size_zeroCells,P8]) rn LA e
       . simp at h
     . -- onto a row without room
       rename_i k' es
       split at h
       . rename_i hh
         obtain ⟨rfl,hb,hm,_⟩:=hh
         simp only [Option.some.injEq] at h;subst h
         simp only [aD] at hs
         obtain ⟨q,rfl,_,hk,hr⟩:=hs
         cases q with
         | none =>
           have hes:es=[]:=by rcases hr with h | ⟨b,o,h,_⟩;exact h;simp at h
           subst hes
           simp only [List.length_nil,Nat.zero_add,List.nil_append] at hb hm ⊢
           have hrun:=run_append_nil (P:=P) w t ty e i zv hu cI JM ⟨xb,xo,none⟩ ys.length Di news vN V2 mK (by unfold maxLen at hm;omega) (by omega)
           have rn:=grownCap_ge w ys.length 0 e
           have LA:=grownCap_le_maxLen w ys.length 0 e hm
           refine ⟨_,_,E.bind p w.heap.size i.size (grownCap w ys.length 0 e),hrun, ?_⟩
           exact wZ (p:=p) (rd:=rd) hi hμ hσ (k:=i.size) (n:=ys.length) (N:=grownCap w ys.length 0 e) (els:=ys) DJ rfl NK (by rw [size_zeroCells,P8]) rn LA e
         | some ba =>
           exact grow ba es.length es es.length hk (hr.imp id fun ⟨b,o,e,_,r⟩=>⟨b,o,by simpa using e,eN.1 r⟩) rfl (by omega) hb hm rd
       . simp at h
     . -- onto a block of the store
       rename_i id k' off len tt
       split at h
       . rename_i bk hid
         split at h
         . rename_i hh
           obtain ⟨rfl,J6,rfl,hle,hb,hm,C4⟩:=hh
           obtain ⟨g,N,cur,ety,hB⟩:=hi.blk id bk hid
           simp only [aD] at hs
           obtain ⟨g',N',cap,Dh,rfl,Ft,P6,ZE,J5⟩:=hs
           rw [hB.μ] at Dh
           simp only [Option.some.injEq,Prod.mk.injEq] at Dh
           obtain ⟨rfl,_,rfl⟩:=Dh
           have Fw:∀ e∈bk.els,e.size=i.size:=fun e he=>by rw [<- J6];exact hB.k e he
           simp only [Nat.zero_mul]
           split at h
           . split at h
             . rename_i ht _
               simp only [Option.some.injEq] at h;subst h
               rw [if_pos ht] at J5
               have vO:=nN (l:=0) (r:=len) hB.k hB.row (Nat.zero_le _) hle
               simp only [Nat.zero_mul,Nat.add_zero,List.drop_zero] at vO
               exact grow ⟨g,0,none⟩ len (bk.els.take len) cap (fun e he=>Fw e (List.mem_of_mem_take he)) (.inr ⟨g,0,rfl,vO⟩) (by simp;omega) (by omega) hb hm (id::rd)
             . simp at h
           . split at h
             . rename_i ht hh2
               obtain ⟨T2,Bf,sE⟩:=hh2
               simp only [Option.some.injEq] at h;subst h
               simp only [ht,Bool.false_eq_true,if_false,Nat.zero_add] at J5
               subst T2
               by_cases hroom:bk.els.length+ys.length<=cap
               . have hrun:=nx (P:=P) (w:=w) t ty e ety i hu cI g bk.els.length cap cur hB.heap ⟨xb,xo,none⟩ ys.length Di news vN V2 (Bl NK (FC C4)) hroom
                   (by rw [vN,hB.size,J6, <- Nat.add_mul];exact Nat.mul_le_mul_right _ (by omega))
                 obtain rfl:cap=N:=J5
                 refine ⟨_,_,E.bind p g i.size cap,hrun, ?_⟩
                 have:=T1 (p:=p) (rd:=id::rd) hi hμ hσ hid Bf hB (ys:=ys) (fun e he=>by rw [J6];exact DJ e he) NK hroom
                 rw [J6] at this
                 exact this
               . obtain ⟨v,w',E',hrun,LC⟩:=grow ⟨g,0,none⟩ bk.els.length bk.els cap Fw (.inr ⟨g,0,rfl,hB.row⟩) rfl (by omega) hb hm (id::rd)
                 refine ⟨v,w',E',hrun,LC.yG, ?_,LC.rep,LC.ids⟩
                 have aaa:id≠p:=by rintro rfl;simp [hid] at hσ
                 have:=TZ LC.inv id
                 have he:(σ.app [(p,some ⟨bk.els++ys,i.size,false⟩)]).put id none = σ.app [(id,none),(p,some ⟨bk.els++ys,i.size,false⟩)]:=by
                   funext j
                   simp only [aa.app,aa.put]
                   by_cases e1:j=id
                   . subst e1;simp [aaa]
                   . simp [e1]
                 rw [he] at this
                 exact this
             . split at h
               . -- over elements that lie behind
                 rename_i ht _ hh2
                 obtain ⟨T2,Bf⟩:=hh2
                 simp only [Option.some.injEq] at h;subst h
                 simp only [ht,Bool.false_eq_true,if_false,Nat.zero_add] at J5
                 obtain rfl:cap=N:=J5
                 have hroom:len+ys.length<=cap:=Nat.le_trans T2 hB.len
                 obtain ⟨vM,had,DU⟩:=zM hi hid Bf hB (e:=len) (news:=ys) (vs:=news) T2 (fun e he=>by rw [J6];exact DJ e he) NK
                 have e0:len*bk.k=len*i.size:=by rw [J6]
                 rw [e0] at vM had DU
                 have hrun:=nx (P:=P) (w:=w) t ty e ety i hu cI g len cap cur hB.heap ⟨xb,xo,none⟩ ys.length Di news vN V2 (Bl NK (FC C4)) hroom vM
                 refine ⟨_,_,E,hrun,had,DU, ?_,fun _ _=>rfl⟩
                 simp only [aD]
                 exact ⟨g,cap,cap,by rw [hB.μ,J6],by simp,hroom,by omega,ZE,by simp⟩
               . simp at h
         . simp at h
       . simp at h
     . simp at h
theorem Ka (hi:Inv G own E w σ) (hμ : E.μ p=none) (hσ : σ p=none) {t tn e ty:TypeId} {i:TypeInfo} {kn:IntKind} (hu:P.underlying t=some (.slice e)) (cI:P.info? e=some i) (htn:P.underlying tn=some (.int kn)) {z:AV}
   (hz:kG P e=some z) (mK:0<i.size) {s x:AV} {a b:Value} (hs:aD E w s a) (hx:aD E w x b) {r:eB} (h:Lv p i.size i.bytes z s x=some r) :
   Sound P G own E w σ p (Builtin.append_ #[t,tn] ty #[a,b]) r:=by
 obtain ⟨it,zv,hit,JM,NJ,Ly,Lz⟩:=j6 hz
 rw [cI] at hit
 simp only [Option.some.injEq] at hit;subst hit
 have hzr:=aD.cells (ia (E:=E) (w:=w) NJ) (jd Lz)
 have P8:zv.cells.size=i.size:=by have:=aF.len hzr;simp at this;unfold AV.size at Ly;omega
 unfold Lv at h
 split at h
 . rename_i kk n
   split at h
   . rename_i hh
     obtain ⟨h0,hb,hm,hzk,_⟩:=hh
     simp only [Option.some.injEq] at h;subst h
     simp only [aD] at hs hx;subst hs;subst hx
     obtain ⟨m,rfl⟩:∃ m:Nat,n=m:=⟨n.toNat,by omega⟩
     have PD:m*i.bytes<=140737488355328:=by rw [<- Int.natCast_mul] at hb;omega
     have mL:m<=maxLen:=by omega
     have rn:=grownCap_ge w m 0 e
     have LA:=grownCap_le_maxLen w m 0 e mL
     have hrun:=Lib.run_append_nil_zeros (P:=P) w t tn ty e i zv kk kn hu htn cI JM m (by omega) mK (by unfold maxLen at mL;omega) (by omega)
     refine ⟨_,_,E.bind p w.heap.size i.size (grownCap w m 0 e),hrun, ?_⟩
     have:=wZ (p:=p) (rd:=[]) hi hμ hσ (k:=i.size) (n:=m) (N:=grownCap w m 0 e) (els:=List.replicate m z) (fun e he=>by rw [List.eq_of_mem_replicate he];exact hzk) (by simp)
       (vs:=(Builtin.zeroCells zv.cells m).toList) (vu hzr m (by omega)) (rest:=Builtin.zeroCells zv.cells (grownCap w m 0 e-m)) (by rw [size_zeroCells,P8]) rn LA e
     simpa using this
   . simp at h
 . simp at h
end
section
variable {P:Program} {G:Nat->Option (List AV)} {own:Nat->Prop} {E:Env} {w:World} {σ : aa} {p:Id}
def dJ (P:Program) (G:Nat->Option (List AV)) (own:Nat->Prop) (E:Env) (w:World) (σ : aa) (p:Id) (r:eB) (s:Sem Next):Prop :=
 ∃ v w' E',(s.run P w = .ok (.value v) w'∨(s.run P w = .ok .skip w'/\v=undef))/\j5 G own E w σ p r v E' w'
theorem dJ.of {s:Sem Value} {r:eB} (h:Sound P G own E w σ p s r):dJ P G own E w σ p r (do pure (.value (<- s))):=by
 obtain ⟨v,w',E',hr,hp⟩:=h
 exact ⟨v,w',E', .inl (by simp [hr]),hp⟩
theorem dJ.ofU {s:Sem Unit} {r:eB} (h:∃ w',s.run P w = .ok () w'/\j5 G own E w σ p r undef E w'):dJ P G own E w σ p r (do s;pure .skip):=by
 obtain ⟨w',hr,hp⟩:=h
 exact ⟨undef,w',E, .inr ⟨by simp [hr],rfl⟩,hp⟩
theorem nU {t:List AV} {a:Act} (hf:b9 E w t a) (hi:Inv G own E w σ) {x:Option Operand} {vx:Option aO} (h:ti x=some vx):kH E w (vx.map (aO.ev G t)) (x.map a.eval):=by
 cases x with
 | none=>simp only [ti,Option.some.injEq] at h;subst h;trivial
 | some x =>
   simp only [ti,Option.map_eq_some_iff] at h
   obtain ⟨va,wJ,rfl⟩:=h
   exact aP hf hi wJ
theorem Kb {σ : aa} {x:AV} {oc:Option AV} {r:eB} (h:wR σ x oc=some r):bo oc=some r∨∃ id k off len bk,x = .osl id k off len false /\ σ id=some bk/\off<=bk.els.length/\r={ val := .ige (bk.els.length-off),rd:=[id] }:=by
 unfold wR at h
 split at h
 . exact .inl h
 . split at h
   . rename_i id k off len
     split at h
     . rename_i bk hb
       split at h
       . rename_i ho
         simp only [Option.some.injEq] at h
         exact .inr ⟨id,k,off,len,bk,rfl,hb,ho,h.symm⟩
       . simp at h
     . simp at h
   . simp at h
theorem Dk (hi : Inv G own E w σ) {t e:TypeId} {i:TypeInfo} (hu:P.underlying t=some (.slice e)) (cI:P.info? e=some i) {x:AV} {v:Value} (hx:aD E w x v)
   {lo fK mx:Option AV} {JN G0 vmx:Option Value} (rz:kH E w lo JN) (wW:kH E w fK G0) (hmx:kH E w mx vmx) (hmh:mx.isSome->fK.isSome) {r:eB}
   (h:jW σ i.size x lo fK mx (bR i.size x lo fK mx)=some r):Sound P G own E w σ p (Instr.sliceAt t v JN G0 vmx) r:=by
 cases hs:bR i.size x lo fK mx with
 | some c =>
   rw [hs] at h
   refine Sound.fD (oc:=some c) h fun c' hc' => ?_
   simp only [Option.some.injEq] at hc';subst hc'
   exact wX hi hu cI hx rz wW hmx hmh hs
 | none =>
   rw [hs] at h
   simp only [jW] at h
   split at h
   . rename_i id k' off len hh
     split at h
     . rename_i bk hb
       split at h
       . rename_i hc
         obtain ⟨ho,hk⟩:=hc
         simp only [Option.map_eq_some_iff] at h
         obtain ⟨c,hc,rfl⟩:=h
         simp only [aD] at hx
         obtain ⟨g,N,cap,hm,rfl,h1,h2,h3,h4⟩:=hx
         obtain ⟨g',N',cur,JK,hB⟩:=hi.blk id bk hb
         have hμ := hB.μ
         rw [hμ] at hm
         simp only [Option.some.injEq,Prod.mk.injEq] at hm
         obtain ⟨rfl,rfl,rfl⟩:=hm
         simp only [Bool.false_eq_true,if_false] at h4
         have hl:=hB.len
         have Qa:aD E w (.osl id bk.k off (bk.els.length-off) false) (.slice (some ⟨g',off*bk.k,none⟩) (bk.els.length-off) cap):=by
           simp only [aD]
           exact ⟨g',N',cap,hμ,rfl,by omega,h2,h3,by simpa using h4⟩
         have ad0:vmx=none:=by cases vmx with | none=>rfl | some _=>exact (hmx:False).elim
         subst ad0
         obtain ⟨v,w',E',hrun,hp⟩:=wX (p:=p) hi hu cI Qa rz wW (mx:=none) (vmx:=none) hmx (by simp) hc
         cases G0 with
         | none=>exact (wW:False).elim
         | some u =>
           refine ⟨v,w',E', ?_,⟨hp.yG,hp.inv,hp.rep,hp.ids⟩⟩
           rw [<- hrun]
           simp [Instr.sliceAt,Instr.slice,run_underlying hu,Instr.sliceBounds]
       . simp at h
     . simp at h
   . rename_i hh km m
     split at h
     . rename_i n hn
       split at h
       . rename_i l r' hb
         split at h
         . rename_i hc
           simp only [Option.some.injEq] at h;subst h
           obtain ⟨h1,h2⟩:=hc
           have Qb:m=((m.toNat:Nat):Int):=by omega
           obtain ⟨a,cap,rfl,Ft⟩:∃ a cap,v = .slice a n cap/\n<=cap:=by
             unfold PR at hn
             split at hn
             . simp only [Option.some.injEq] at hn;subst hn
               simp only [aD] at hx;exact ⟨_,_,hx,Nat.le_refl _⟩
             . split at hn
               . simp only [Option.some.injEq] at hn;subst hn
                 simp only [aD] at hx;obtain ⟨a,cap,rfl,h,_⟩:=hx;exact ⟨_,_,rfl,h⟩
               . simp at hn
             . split at hn
               . simp only [Option.some.injEq] at hn;subst hn
                 simp only [aD] at hx;obtain ⟨a,rfl,_⟩:=hx;exact ⟨_,_,rfl,Nat.le_refl _⟩
               . simp at hn
             . split at hn
               . simp only [Option.some.injEq] at hn;subst hn
                 simp only [aD] at hx;obtain ⟨g,N,cap,_,rfl,h,_⟩:=hx;exact ⟨_,_,rfl,h⟩
               . simp at hn
             . simp at hn
           unfold cm at hb
           split at hb
           . simp at hb
           . rename_i h1' e1
             split at hb
             . simp at hb
             . rename_i l1 e2
               simp only [Option.some.injEq,Prod.mk.injEq] at hb
               obtain ⟨rfl,rfl⟩:=hb
               obtain ⟨sE,_,_⟩:=gQ (P:=P) (isSlice:=true) (len:=n) (cap:=cap) (m:=m.toNat) rz wW hmx Ft e1 e2 (.inr ⟨km,by rw [<- Qb],by simp,by omega,by omega⟩)
               refine ⟨.slice (if m.toNat=l1 then a else a.map (·.add (l1*i.size))) (h1'-l1) (m.toNat-l1),w,E, ?_,⟨Adv.refl own E w,hi,by simp only [aD],fun _ _=>rfl⟩⟩
               simp [Instr.sliceAt,Instr.slice,run_underlying hu,sE,eE cI]
         . simp at h
       . simp at h
     . simp at h
   . simp at h
theorem Dl (hi:Inv G own E w σ) {t e:TypeId} {n:Nat} {i:TypeInfo} (hu:P.underlying t=some (.array n e)) (cI:P.info? e=some i) (h1:i.size=1) (hn:n<=maxLen) {x:AV} {v:Value} (hx:aD E w x v)
   {lo fK:Option AV} {JN G0:Option Value} (rz:kH E w lo JN) (wW:kH E w fK G0) {r:eB} (h:AO σ n x lo fK=some r):Sound P G own E w σ p (Instr.sliceAt t v JN G0 none) r:=by
 unfold AO at h
 split at h
 . rename_i id e'
   cases hb : σ id with
   | none=>simp [hb] at h
   | some bk =>
   simp only [hb] at h
   cases pM:bk.els[e']? with
   | none=>simp [pM] at h
   | some el =>
   simp only [pM] at h
   cases vM:cm n lo fK with
   | none=>simp [vM] at h
   | some q =>
   obtain ⟨l,r'⟩:=q
   simp only [vM] at h
   split at h
   . rename_i hc
     obtain ⟨o8,tk⟩:=hc
     simp only [Option.some.injEq] at h;subst h
     obtain ⟨g,N,cur,ty,hB⟩:=hi.blk id bk hb
     simp only [aD] at hx
     obtain ⟨g',k',N',hm,rfl⟩:=hx
     rw [hB.μ] at hm
     simp only [Option.some.injEq,Prod.mk.injEq] at hm
     obtain ⟨rfl,rfl,rfl⟩:=hm
     obtain ⟨wK,tp⟩:=wY vM
     obtain ⟨sE,Fu,Fv⟩:=gQ (P:=P) (isSlice:=false) (mx:=none) (vmx:=none) (m:=n) rz wW trivial (Nat.le_refl _) wK tp (.inl ⟨rfl,rfl⟩)
     have hstep:Step E ⟨E.μ,fun b=>E.ok b∨b=g⟩ w w:=⟨fun _ _ h=>h,fun b hb => .inl hb,fun _ _=>rfl⟩
     have dS:Adv own E ⟨E.μ,fun b=>E.ok b∨b=g⟩ w w:=⟨hstep,rfl,rfl,rfl,Nat.le_refl _,fun k hk _=>rfl,fun b hb=>by
       rcases hb with h | rfl
       . exact .inl h
       . exact .inr hB.own⟩
     have sP:∀ j, σ.app [(id,some { bk with fr:=true })] j=if j=id then some { bk with fr:=true } else σ j:=fun j=>rfl
     have hinv:Inv G own ⟨E.μ,fun b=>E.ok b∨b=g⟩ w (σ.app [(id,some { bk with fr:=true })]):=by
       refine ⟨?_, ?_, ?_, ?_,hi.new⟩
       . rintro b (hb | rfl)
         . exact hi.okb b hb
         . exact cV hB.heap
       . intro GL ZF h2
         rw [sP] at h2
         by_cases hid:GL=id
         . subst hid
           rw [if_pos rfl] at h2
           simp only [Option.some.injEq] at h2;subst h2
           exact ⟨g,N,cur,ty,hB.μ,hB.heap,hB.size,hB.len,hB.most,hB.own,fun _ => .inr rfl,fun hf=>by simp at hf,hB.k,eh.keep hstep rfl hB.row⟩
         . rw [if_neg hid] at h2
           obtain ⟨g2,N2,Kc,ZG,ny⟩:=hi.blk GL ZF h2
           refine ⟨g2,N2,Kc,ZG,ny.μ,ny.heap,ny.size,ny.len,ny.most,ny.own,fun hf => .inl (ny.ok hf),fun hf dI => ?_,ny.k,eh.keep hstep rfl ny.row⟩
           rcases dI with h | h
           . exact ny.no hf h
           . exact hi.inj GL id _ _ (by simp [h2]) (by simp [hb]) hid ny.μ hB.μ h
       . intro a b x y ha PD hne hx hy
         have keep:∀ j, σ.app [(id,some { bk with fr:=true })] j≠none -> σ j≠none:=by
           intro j hj
           rw [sP] at hj
           by_cases hid:j=id
           . subst hid;simp [hb]
           . rwa [if_neg hid] at hj
         exact hi.inj a b x y (keep a ha) (keep b PD) hne hx hy
       . intro gg cs hg
         obtain ⟨k1,k2⟩:=hi.glob gg cs hg
         exact ⟨.inl k1,aX.keep hstep.bare rfl cs 0 k2⟩
     have nT:eh E w g (0+e'*bk.k) el.cells:=Bd hB.k hB.row pM
     have cx:∀ c∈el.cells,AV.one c=true:=by simpa [List.all_eq_true] using tk
     have hlen:((el.cells.take r').drop l).length=r'-l:=by rw [List.length_drop,List.length_take];omega
     have hsz:∀ c∈(el.cells.take r').drop l,c.cells=[c]/\c.size=1:=by
       intro c hc
       have hm:=cx c (List.mem_of_mem_take (List.mem_of_mem_drop hc))
       cases c<;>first | (simp [AV.one] at hm;done) | exact ⟨rfl,rfl⟩
     have aad:flat ((el.cells.take r').drop l)=(el.cells.take r').drop l:=by
       have:∀ {es:List AV},(∀ c∈es,c.cells=[c])->flat es=es:=by
         intro es;induction es with
         | nil=>intro _;rfl
         | cons a as ih =>
           intro h
           show a.cells++flat as=a::as
           rw [h a (by simp),ih (fun c hc=>h c (by simp [hc]))];rfl
       exact this fun c hc=>(hsz c hc).1
     refine ⟨.slice (some (if n=l then ⟨g,e'*bk.k+0,none⟩ else (⟨g,e'*bk.k+0,none⟩:Addr).add (l*i.size))) (r'-l) (n-l),w,_, ?_,dS,hinv, ?_,fun _ _=>rfl⟩
     . simp [Instr.sliceAt,run_underlying hu,Instr.sureAddr,sE,eE cI]
     . simp only [aD]
       refine ⟨_,_,by rw [hlen],by rw [hlen];omega,by omega,fun c hc=>(hsz c hc).2, ?_⟩
       by_cases vN:n=l
       . left
         rw [<- List.length_eq_zero_iff,hlen];omega
       . right
         rw [if_neg vN,Addr.add_lit,h1]
         refine ⟨g,e'*bk.k+0+l*1,rfl, .inr rfl,eN.2 ?_⟩
         rw [aad]
         intro j c hj
         rw [List.getElem?_drop] at hj
         have hj2:el.cells[l+j]? = some c:=by
           rw [List.getElem?_take] at hj
           split at hj
           . exact hj
           . cases hj
         obtain ⟨u,TB,Xl⟩:=nT (l+j) c hj2
         refine ⟨u, ?_,aD.keep hstep c u Xl⟩
         rw [<- TB]
         congr 2
         omega
   . simp at h
 . simp at h
theorem LD {f:FuncId} {fn:Func} {e:Array Value->Sem Value} {c:Call} {a:Act} {o:Oper} (hop:o.op = .call c) (tq:c.callee = .value (.func f)) (hf:P.funcs[f]? = some fn) (qy:(fn.name == "runtime.NumGoroutine")=false)
   (hb:fn.body.isNone=true) (hn:Extern.findNext fn=none) (he:Extern.find fn=some e) {v:Value} {w':World} (hrun:(e (c.args.map a.eval)).run P w = .ok v w') :
   (execOp a.eval o).run P w = .ok (.value v) w':=by
 have h1:=run_callFunc_extern hf qy hb hn he (c.args.map a.eval) w
 rw [hrun] at h1
 simp only [Result.andThen] at h1
 have e0:a.eval (.func f) = .func (.func f) #[] #[]:=rfl
 simp [execOp,hop,resolve,tq,e0,Deferred.ofValue,invoke,h1]
theorem DW {fo : Operand} {k:TT} (h:PS P fo=some k):∃ f fn,fo = .func f/\P.funcs[f]? = some fn/\fn.body.isNone=true /\
   ((k = .idx/\fn.name = "internal/bytealg.IndexByteString" /\ fn.origin = "")∨(k = .ovl/\fn.origin = "slices.overlaps" /\ tj fn.name=true/\∃ t e i,fn.params[0]? = some t/\P.underlying t=some (.slice e)/\P.info? e=some i)):=by
 unfold PS at h
 split at h
 . rename_i f
   split at h
   . rename_i fn FB
     split at h
     . rename_i hb
       refine ⟨f,fn,rfl,FB,hb, ?_⟩
       split at h
       . rename_i hn
         simp only [Option.some.injEq] at h
         simp only [Bool.and_eq_true,beq_iff_eq] at hn
         exact .inl ⟨h.symm,hn.1,hn.2⟩
       . split at h
         . rename_i ho
           simp only [Bool.and_eq_true,beq_iff_eq] at ho
           split at h
           . rename_i t ht
             split at h
             . rename_i e he
               split at h
               . rename_i hi
                 simp only [Option.some.injEq] at h
                 obtain ⟨i,hi⟩:=Option.isSome_iff_exists.1 hi
                 exact .inr ⟨h.symm,ho.1,ho.2,t,e,i,ht,he,hi⟩
               . simp at h
             . simp at h
           . simp at h
         . simp at h
     . simp at h
   . simp at h
 . simp at h
theorem NM {fn:Func} (hf:tj fn.name=true) (ho:fn.origin = "slices.overlaps"):Extern.findNext fn=none/\Extern.find fn=some (Extern.SlicesOverlaps.overlaps fn.params fn.resultTypes):=by
 unfold tj at hf
 simp only [Bool.and_eq_true,Option.isNone_iff_eq_none] at hf
 obtain ⟨⟨⟨⟨h1,h2⟩,h3⟩,h4⟩,_⟩:=hf
 have o1:Extern.allGenericRows.lookup "slices.overlaps" = none:=by kernel_rfl
 have o2:Extern.allTypedRows.lookup "slices.overlaps" = some Extern.SlicesOverlaps.overlaps:=by kernel_rfl
 have o4:Extern.allNextRows.lookup "slices.overlaps" = none:=by kernel_rfl
 constructor
 . simp [Extern.findNext,h4,ho,o4]
 . simp [Extern.find,h1,h2,h3,ho,o1,o2]
theorem Qc {fn:Func} (hn:fn.name = "internal/bytealg.IndexByteString") (ho:fn.origin = ""):Extern.findNext fn=none/\Extern.find fn=some Extern.BytealgIndexByte.indexByte:=by
 have o1:Extern.allGenericRows.lookup "internal/bytealg.IndexByteString" = none:=by kernel_rfl
 have o2:Extern.allTypedRows.lookup "internal/bytealg.IndexByteString" = none:=by kernel_rfl
 have o3:Extern.allRows.lookup "internal/bytealg.IndexByteString" = some Extern.BytealgIndexByte.indexByte:=by kernel_rfl
 have o4:Extern.allNextRows.lookup "internal/bytealg.IndexByteString" = none:=by kernel_rfl
 have o5:Extern.allNextRows.lookup "" = none:=by kernel_rfl
 constructor
 . simp [Extern.findNext,hn,ho,o4,o5]
 . simp [Extern.find,hn,o1,o2,o3]
theorem Bo:∀ (l:List UInt8) (c:UInt8),Lib.indexByte l c=pa l c
 | [],_=>rfl
 | b::l,c=>by simp only [Lib.indexByte,pa,Bo l c]
theorem NN {c:Call} {a:Act} {o:Oper} {fo x y:Operand} (hop:o.op = .call c) (tq:c.callee = .value fo) (hk:PS P fo=some .idx) (jY:c.args.toList=[x,y]) (hi:Inv G own E w σ) {vx vy:AV}
   (hx:aD E w vx (a.eval x)) (hy:aD E w vy (a.eval y)) {r:eB} (h:bo (PQ vx vy)=some r):dJ P G own E w σ p r (execOp a.eval o):=by
 obtain ⟨f,fn,rfl,FB,hb,hh⟩:=DW hk
 rcases hh with ⟨_,hn,ho⟩ | ⟨h0,_⟩
 case inr=>simp at h0
 have key:∃ s n,vx = .str s/\vy = .int .u8 n/\r={ val := .int .i64 (pa s n.toNat.toUInt8) }:=by
   unfold PQ at h
   split at h
   . simp only [bo,Option.map_some,Option.some.injEq] at h
     exact ⟨_,_,rfl,rfl,h.symm⟩
   . simp [bo] at h
 clear h
 obtain ⟨s,n,rfl,rfl,rfl⟩:=key
 . simp only [aD] at hx hy
   obtain ⟨Xm,Qd⟩:=Qc hn ho
   have hae:c.args.map a.eval = #[.string ⟨s.toArray⟩, .int .u8 n]:=by
     apply Array.ext'
     simp [jY,hx,hy]
   refine ⟨.int .i64 (pa s n.toNat.toUInt8),w,E, .inl (LD hop tq FB (by rw [hn];rfl) hb Xm Qd ?_),⟨Adv.refl own E w,hi,by simp only [aD],fun _ _=>rfl⟩⟩
   rw [hae,Lib.run_indexByteString,Bo]
theorem T3 (params res:Array TypeId) {tS e:TypeId} {i:TypeInfo} (hp:params[0]? = some tS) (ht:P.underlying tS=some (.slice e)) (cI:P.info? e=some i)
   (a b:Addr) (la ca lb cb:Nat) (hne:a.block≠b.block) {Xn T4:Array Value} {tA tB:TypeId} (ha:w.heap[a.block]? = some (.cells Xn tA (0,0))) (hb:w.heap[b.block]? = some (.cells T4 tB (0,0))) (hkB:T4.size≠0) :
   (Extern.SlicesOverlaps.overlaps params res #[.slice (some a) la ca, .slice (some b) lb cb]).run P w = .ok (.bool false) w:=by
 have hnb:(a.block != b.block)=true:=by simpa using hne
 have ad1:(a.block==b.block)=false:=by simpa using hne
 have hsa:w.shape? a.block=some (tA,Xn.size):=by simp [World.shape?,ha]
 have hsb:w.shape? b.block=some (tB,T4.size):=by simp [World.shape?,hb]
 have hfa:w.frozen? a=false:=by simp [World.frozen?,ha]
 have DR:w.frozen? { block:=a.block,off:=Xn.size }=false:=by simp [World.frozen?,ha]
 have hz:(Go.sizeOf e).run P w = .ok i.size w:=eE cI w
 change Sem.run P (α := Value) (do
   let some t:=params[0]? | stuck "slices.overlaps: no parameter types"
   let .slice elem <- underlying t | stuck "slices.overlaps: slice type expected"
   let size <- sizeOf elem
   match (some a:Option Addr),(some b:Option Addr) with
   | some a,some b =>
     if la=0∨lb=0∨size=0 then pure (Value.bool false)
     else if a.block != b.block&&(<- frozen a)&&(<- frozen b) then unsupported .addressObserved
     else do
       if a.block != b.block then do
         noView a;noView b
         if <- mayBeOne a b then return Value.bool ((<- choose (.extern "sameAddr.stringBytes" 2))==1)
       pure (Value.bool (a.block==b.block&&a.off<b.off+lb*size&&b.off<a.off+la*size))
   | _,_=>pure (Value.bool false)) w=_
 rw [hp]
 by_cases h0:la=0∨lb=0∨i.size=0
 . simp [run_underlying ht,hz,h0]
 . cases hk:T4.size with
   | zero=>exact absurd hk hkB
   | succ kB =>
     simp [run_underlying ht,hz,h0,hnb,ad1,frozen,noView,viewAt,mayBeOne,stringish,shape,Sem.run,hsa,hsb,hfa,DR,hk]
theorem NP {c:Call} {a:Act} {o:Oper} {fo x y:Operand} (hop:o.op = .call c) (tq:c.callee = .value fo) (hk:PS P fo=some .ovl) (jY:c.args.toList=[x,y]) (hi:Inv G own E w σ) {vx vy:AV}
   (hx:aD E w vx (a.eval x)) (hy:aD E w vy (a.eval y)) {r:eB} (h:GU σ vx vy=some r):dJ P G own E w σ p r (execOp a.eval o):=by
 obtain ⟨f,fn,rfl,FB,hb,hh⟩:=DW hk
 rcases hh with ⟨h0,_⟩ | ⟨_,ho,hnf,tS,e,i,hp,ht,cI⟩
 case inl=>simp at h0
 unfold GU at h
 split at h
 . rename_i id1 k1 o1 l1 t1 GL k2 o2 l2 t2
   split at h
   . simp at h
   . rename_i hne
     split at h
     . rename_i b1 b2 h1 h2
       split at h
       . rename_i mK
         simp only [Option.some.injEq] at h;subst h
         simp only [aD] at hx hy
         obtain ⟨g1,N1,c1,GM,l0,_⟩:=hx
         obtain ⟨g2,N2,c2,sQ,oG,_⟩:=hy
         obtain ⟨g1',N1',ah2,ty1,hB1⟩:=hi.blk id1 b1 h1
         obtain ⟨g2',N2',Kc,ZG,ny⟩:=hi.blk GL b2 h2
         have hg:g1≠g2:=hi.inj id1 GL _ _ (by simp [h1]) (by simp [h2]) hne GM sQ
         rw [hB1.μ] at GM
         rw [ny.μ] at sQ
         simp only [Option.some.injEq,Prod.mk.injEq] at GM sQ
         obtain ⟨rfl,_,_⟩:=GM
         obtain ⟨rfl,_,_⟩:=sQ
         obtain ⟨Xm,Qd⟩:=NM hnf ho
         have qy:(fn.name == "runtime.NumGoroutine")=false:=by
           unfold tj at hnf
           simp only [Bool.and_eq_true,Bool.not_eq_true'] at hnf
           exact hnf.2
         have hae:c.args.map a.eval = #[.slice (some ⟨g1',o1*k1,none⟩) l1 c1, .slice (some ⟨g2',o2*k2,none⟩) l2 c2]:=by
           apply Array.ext'
           simp [jY,l0,oG]
         have hsz:Kc.size≠0:=by
           rw [ny.size]
           have hl:=ny.len
           exact Nat.ne_of_gt (Nat.mul_pos (by omega) mK.1)
         refine ⟨.bool false,w,E, .inl (LD hop tq FB qy hb Xm Qd ?_),⟨Adv.refl own E w,hi,by simp only [aD],fun _ _=>rfl⟩⟩
         rw [hae]
         exact T3 fn.params fn.resultTypes hp ht cI _ _ _ _ _ _ hg hB1.heap ny.heap hsz
       . simp at h
     . simp at h
 . simp at h
theorem Dm (hi:Inv G own E w σ) (hμ : E.μ p=none) (hσ : σ p=none) {t:List AV} {a:Act} (hf:b9 E w t a) {b:Builtin} {args:Array Operand} {ts:Array TypeId} {ty:TypeId} {cs:Array Bool} {vo:gj aO}
   (hc:wS P b args ts=some vo) {r:eB} (h:bu σ p (vo.map (aO.ev G t))=some r) {R:Prop}
   (fin:∀ {s:Sem Value},builtin b ts ty cs (args.map a.eval)=(do pure (.value (<- s)))->Sound P G own E w σ p s r->R):R:=by
 unfold wS at hc
 split at hc
 . -- len
   rename_i x tx jY T5
   have me:args = #[x]:=by apply Array.ext';simpa using jY
   have FF:ts = #[tx]:=by apply Array.ext';simpa using T5
   refine fin (s:=Builtin.len_ ts ty (args.map a.eval)) rfl ?_
   rw [me,FF]
   split at hc
   . rename_i hu
     simp only [Option.map_eq_some_iff] at hc;obtain ⟨va,wJ,rfl⟩:=hc
     simp only [gj.map,bu] at h
     have hr:=aP hf hi wJ
     refine Sound.fD h fun cc hcc => ?_
     cases hx:va.ev G t<;>simp only [hx,ky,Option.some.injEq,reduceCtorEq] at hcc
     rename_i l
     rw [hx] at hr
     simp only [aD] at hr
     subst hcc
     refine Sound.same (v := .int .i64 l.length) hi ?_ (by simp only [aD])
     have hsz:(ByteArray.mk l.toArray).size=l.length:=by show l.toArray.size=l.length;simp
     simp [Builtin.len_,run_underlying hu,hr,goInt,hsz]
   . rename_i e hu
     simp only [Option.map_eq_some_iff] at hc;obtain ⟨va,wJ,rfl⟩:=hc
     simp only [gj.map,bu] at h
     have hr:=aP hf hi wJ
     refine Sound.fD h fun cc hcc => ?_
     have hrun:∀ (ad:Option Addr) (n c:Nat),a.eval x = .slice ad n c->(Builtin.len_ #[tx] ty (#[x].map a.eval)).run P w = .ok (.int .i64 n) w:=by
       intro ad n c he
       simp [Builtin.len_,run_underlying hu,he,goInt]
     cases hx:va.ev G t<;>simp only [hx,ky,Option.some.injEq,reduceCtorEq] at hcc<;>rw [hx] at hr<;>simp only [aD] at hr<;>subst hcc
     . obtain ⟨ad,cap,he,_⟩:=hr
       exact Sound.same hi (hrun _ _ _ he) (by simp only [aD])
     . obtain ⟨ad,he,_⟩:=hr
       exact Sound.same hi (hrun _ _ _ he) (by simp only [aD])
     . exact Sound.same hi (hrun _ _ _ hr) (by simp only [aD];rfl)
     . obtain ⟨g,N,cap,_,he,_⟩:=hr
       exact Sound.same hi (hrun _ _ _ he) (by simp only [aD])
   . rename_i n e hu
     simp only [Option.map_eq_some_iff] at hc;obtain ⟨va,wJ,rfl⟩:=hc
     simp only [gj.map,bu] at h
     refine Sound.fD h fun cc hcc => ?_
     simp only [Option.some.injEq] at hcc;subst hcc
     refine Sound.same (v := .int .i64 n) hi ?_ (by simp only [aD])
     simp [Builtin.len_,run_underlying hu,goInt]
   . simp at hc
 . -- append
   rename_i s x t1 t2 jY T5
   have me:args = #[s,x]:=by apply Array.ext';simpa using jY
   have FF:ts = #[t1,t2]:=by apply Array.ext';simpa using T5
   refine fin (s:=Builtin.append_ ts ty (args.map a.eval)) rfl ?_
   rw [me,FF]
   split at hc
   . rename_i e hu
     split at hc
     . rename_i i cI
       split at hc
       . rename_i hh
         obtain ⟨vP,_,_,hz⟩:=hh
         obtain ⟨e',DV⟩:=Dj vP
         split at hc
         . rename_i vs vx JO iQ
           simp only [Option.some.injEq] at hc;subst hc
           simp only [gj.map,bu] at h
           obtain ⟨v,w',E',hr,hp⟩:=FD (ty:=ty) hi hμ hσ hu cI hz (aP hf hi JO) (aP hf hi iQ) h
           refine ⟨v,w',E', ?_,hp⟩
           rw [<- hr, <- yN (ty:=ty) hu DV]
           simp
         . simp at hc
       . split at hc
         . rename_i kn z vs vx T6 hz JO iQ
           split at hc
           . rename_i mK
             simp only [Option.some.injEq] at hc;subst hc
             simp only [gj.map,bu] at h
             have:=Ka (P:=P) (ty:=ty) hi hμ hσ hu cI T6 hz mK (aP hf hi JO) (aP hf hi iQ) h
             simpa using this
           . simp at hc
         . simp at hc
     . simp at hc
   . simp at hc
 . -- cap
   rename_i x tx jY T5
   have me:args = #[x]:=by apply Array.ext';simpa using jY
   have FF:ts = #[tx]:=by apply Array.ext';simpa using T5
   refine fin (s:=Builtin.cap_ ts ty (args.map a.eval)) rfl ?_
   rw [me,FF]
   split at hc
   . rename_i e hu
     simp only [Option.map_eq_some_iff] at hc;obtain ⟨va,wJ,rfl⟩:=hc
     simp only [gj.map,bu] at h
     have hr:=aP hf hi wJ
     rcases Kb h with h | ⟨id,k,off,len,bk,hx,hid,ah4,rfl⟩
     case inr =>
       rw [hx] at hr;simp only [aD] at hr
       obtain ⟨g,N,cap,Dh,hv,h1,h2,h3,h4⟩:=hr
       obtain ⟨g',N',cur,JK,hB⟩:=hi.blk id bk hid
       rw [hB.μ] at Dh
       simp only [Option.some.injEq,Prod.mk.injEq] at Dh
       obtain ⟨rfl,_,rfl⟩:=Dh
       refine Sound.same (v := .int .i64 cap) hi (by simp [Builtin.cap_,run_underlying hu,hv,goInt]) ?_
       simp only [aD]
       have:=hB.len
       simp only [Bool.false_eq_true,if_false] at h4
       exact ⟨cap,by omega,rfl⟩
     refine Sound.fD h fun cc hcc => ?_
     have hrun:∀ (ad:Option Addr) (n c:Nat),a.eval x = .slice ad n c->(Builtin.cap_ #[tx] ty (#[x].map a.eval)).run P w = .ok (.int .i64 c) w:=by
       intro ad n c he
       simp [Builtin.cap_,run_underlying hu,he,goInt]
     unfold NB at hcc
     split at hcc
     . rename_i hx
       rw [hx] at hr;simp only [aD] at hr
       simp only [Option.some.injEq] at hcc;subst hcc
       exact Sound.same hi (hrun _ _ _ hr) (by simp only [aD];rfl)
     . rename_i hx
       rw [hx] at hr;simp only [aD] at hr
       simp only [Option.some.injEq] at hcc;subst hcc
       obtain ⟨ad,he,_⟩:=hr
       exact Sound.same hi (hrun _ _ _ he) (by simp only [aD])
     . rename_i hx
       rw [hx] at hr;simp only [aD,if_true] at hr
       simp only [Option.some.injEq] at hcc;subst hcc
       obtain ⟨g,N,cap,_,he,_,_,_,Bn⟩:=hr
       subst Bn
       exact Sound.same hi (hrun _ _ _ he) (by simp only [aD])
     . simp at hcc
   . simp at hc
 . -- clear
   rename_i x tx jY T5
   have me:args = #[x]:=by apply Array.ext';simpa using jY
   have FF:ts = #[tx]:=by apply Array.ext';simpa using T5
   refine fin (s:=Builtin.clear_ ts ty (args.map a.eval)) rfl ?_
   rw [me,FF]
   split at hc
   . rename_i e hu
     split at hc
     . rename_i z vx hz iQ
       split at hc
       . rename_i mK
         simp only [Option.some.injEq] at hc;subst hc
         simp only [gj.map,bu] at h
         have:=G3 (P:=P) (p:=p) (ty:=ty) hi hu hz mK (aP hf hi iQ) h
         simpa using this
       . simp at hc
     . simp at hc
   . simp at hc
 . -- copy
   rename_i d x t1 t2 jY T5
   have me:args = #[d,x]:=by apply Array.ext';simpa using jY
   have FF:ts = #[t1,t2]:=by apply Array.ext';simpa using T5
   refine fin (s:=Builtin.copy_ ts ty (args.map a.eval)) rfl ?_
   rw [me,FF]
   split at hc
   . rename_i e hu
     split at hc
     . rename_i i cI
       split at hc
       . split at hc
         . rename_i vd vx hvd iQ
           simp only [Option.some.injEq] at hc;subst hc
           simp only [gj.map,bu] at h
           have:=J8 (P:=P) (p:=p) (ty:=ty) (t2:=t2) hi hu cI (aP hf hi hvd) (aP hf hi iQ) h
           simpa using this
         . simp at hc
       . simp at hc
     . simp at hc
   . simp at hc
 . -- min
   rename_i x y jY
   have me:args = #[x,y]:=by apply Array.ext';simpa using jY
   refine fin (s:=Builtin.min_ ts ty (args.map a.eval)) rfl ?_
   rw [me]
   split at hc
   . rename_i vx vy iQ FG
     simp only [Option.some.injEq] at hc;subst hc
     simp only [gj.map,bu] at h
     have T8:=aP hf hi iQ
     have T9:=aP hf hi FG
     split at h
     . rename_i k n k' m hx hy
       rw [hx] at T8;rw [hy] at T9
       simp only [aD] at T8 T9
       refine Sound.fD h fun cc hcc => ?_
       simp only [Option.some.injEq] at hcc;subst hcc
       refine Sound.same (v := .int k (if m<n then m else n)) hi ?_ (by simp only [aD])
       simp [Builtin.min_,T8,T9,Builtin.min2]
     . simp at h
   . simp at hc
 . -- max
   rename_i x y jY
   have me:args = #[x,y]:=by apply Array.ext';simpa using jY
   refine fin (s:=Builtin.max_ ts ty (args.map a.eval)) rfl ?_
   rw [me]
   split at hc
   . rename_i vx vy iQ FG
     simp only [Option.some.injEq] at hc;subst hc
     simp only [gj.map,bu] at h
     have T8:=aP hf hi iQ
     have T9:=aP hf hi FG
     split at h
     . rename_i k n k' m hx hy
       rw [hx] at T8;rw [hy] at T9
       simp only [aD] at T8 T9
       refine Sound.fD h fun cc hcc => ?_
       simp only [Option.some.injEq] at hcc;subst hcc
       refine Sound.same (v := .int k (if m>n then m else n)) hi ?_ (by simp only [aD])
       simp [Builtin.max_,T8,T9,Builtin.max2]
     . simp at h
   . simp at hc
 . simp at hc
theorem w7:∀ {ys:List AV} {l:List UInt8},bytesOf ys=some l->∃ zs:List Int,ys=zs.map (AV.int .u8)/\l=zs.map fun n=>UInt8.ofNat n.toNat
 | [],l,h=>by simp only [bytesOf,Option.some.injEq] at h;subst h;exact ⟨[],rfl,rfl⟩
 | .int .u8 n::r,l,h=>by
   simp only [bytesOf,Option.map_eq_some_iff] at h
   obtain ⟨l',h1,rfl⟩:=h
   obtain ⟨zs,rfl,rfl⟩:=w7 h1
   exact ⟨n::zs,rfl,rfl⟩
theorem DX (k:IntKind):∀ zs:List Int,flat (zs.map (AV.int k))=zs.map (AV.int k)
 | []=>rfl
 | z::zs=>by have:=DX k zs;simp only [List.map_cons,flat,List.flatMap_cons,AV.cells] at this ⊢;rw [this];rfl
theorem Bp (hi:Inv G own E w σ) {src dst e:TypeId} (hs:P.underlying src=some (.slice e)) (he:P.underlying e=some (.int .u8)) (hd:P.underlying dst=some .string) {x:AV} {v:Value} (hx:aD E w x v) {r:eB} (h:lq σ x=some r) :
   Sound P G own E w σ p (convert src dst v) r:=by
 unfold lq at h
 split at h
 . rename_i ys rd pM
   simp only [Option.map_eq_some_iff] at h
   obtain ⟨l,hl,rfl⟩:=h
   obtain ⟨zs,rfl,rfl⟩:=w7 hl
   obtain ⟨_,a,cap,rfl,hle,hr⟩:=ux hi hx pM
   refine Sound.same (v := .string ⟨(zs.map fun n=>UInt8.ofNat n.toNat).toArray⟩) hi ?_ (by simp [aD])
   rcases hr with hr | ⟨b,o,rfl,hr⟩
   . have hz:zs=[]:=by simpa using hr
     subst hz
     rw [run_convert_bytes_string w src dst e _ _ _ hs he hd]
     cases a with
     | none=>simp [Conv.bytesToString];rfl
     | some a =>
       rw [run_bytesToString w a _ _ [] (by simp [loadCells,loadCellsFrom])]
       rfl
   . rw [DX] at hr
     have:=run_convert_bytes_arg (P:=P) w src e hs he b o zs.length cap zs rfl (fun i LF=>by
       obtain ⟨v,h1,h2⟩:=hr i (.int .u8 zs[i]) (by rw [List.getElem?_map,List.getElem?_eq_getElem LF];rfl)
       simp only [aD] at h2
       subst h2
       have Xo:(⟨b,o,none⟩:Addr).add i=⟨b,o+i,none⟩:=by simp [Addr.add]
       first | rw [Xo] at h1 | skip
       rw [h1,List.getD_eq_getElem?_getD,List.getElem?_eq_getElem LF];rfl) dst hd
     simpa [strOfNums] using this
 . simp at h
theorem w9 {n:Int} (hn:0<=n/\n<128):Utf8.encode n=⟨[UInt8.ofNat n.toNat].toArray⟩:=by
 have hv:Utf8.valid n=true:=by unfold Utf8.valid;simp;omega
 unfold Utf8.encode
 simp only [hv,if_true]
 rw [if_pos (by omega)]
theorem NQ (hi:Inv G own E w σ) (hμ : E.μ p=none) (hσ : σ p=none) {t:List AV} {a:Act} (hf:b9 E w t a) {o:Oper} {vo:gj aO} (hc:lB P o.op=some vo) {r:eB}
   (h:bu σ p (vo.map (aO.ev G t))=some r):dJ P G own E w σ p r (execOp a.eval o):=by
 unfold execOp
 cases ho:o.op<;>rw [ho] at hc<;>simp only []
 case move x =>
   simp only [lB,Option.map_eq_some_iff] at hc;obtain ⟨va,wJ,rfl⟩:=hc
   simp only [gj.map,bu,bo,Option.map_some,Option.some.injEq] at h;subst h
   exact ⟨a.eval x,w,E, .inl rfl,Adv.refl own E w,hi,aP hf hi wJ,fun _ _=>rfl⟩
 case assign x =>
   simp only [lB,Option.map_eq_some_iff] at hc;obtain ⟨va,wJ,rfl⟩:=hc
   simp only [gj.map,bu,bo,Option.map_some,Option.some.injEq] at h;subst h
   exact ⟨a.eval x,w,E, .inl rfl,Adv.refl own E w,hi,aP hf hi wJ,fun _ _=>rfl⟩
 case pick c x y =>
   simp only [lB] at hc
   cases Ua:cC c with
   | none=>simp [Ua] at hc
   | some vc =>
   cases iQ:cC x with
   | none=>simp [Ua,iQ] at hc
   | some vx =>
   cases FG:cC y with
   | none=>simp [Ua,iQ,FG] at hc
   | some vy =>
     simp only [Ua,iQ,FG,Option.some.injEq] at hc;subst hc
     simp only [gj.map,bu] at h
     have TW:=aP hf hi Ua
     have T8:=aP hf hi iQ
     have T9:=aP hf hi FG
     split at h
     . rename_i b hb
       rw [hb] at TW
       simp only [aD] at TW
       simp only [bo,Option.map_some,Option.some.injEq] at h;subst h
       refine ⟨if b then a.eval x else a.eval y,w,E, .inl (by simp [TW,asBool]),Adv.refl own E w,hi, ?_,fun _ _=>rfl⟩
       cases b
       . exact T9
       . exact T8
     . simp at h
 case alloc ty =>
   simp only [lB,Option.map_eq_some_iff] at hc;obtain ⟨z,hz,rfl⟩:=hc
   simp only [gj.map,bu,aO.ev] at h
   obtain ⟨it,zv,hit,JM,NJ,Ly,Lz⟩:=j6 hz
   split at h
   . simp only [Option.some.injEq] at h;subst h
     have:=DO (P:=P) (p:=p) hi hμ hσ (ia NJ) Lz ty
     refine dJ.of ?_
     obtain ⟨v,w',E',hr,hp⟩:=this
     refine ⟨v,w',E', ?_,hp⟩
     simp only [Instr.alloc,Sem.run_bind,vg hit JM,Result.andThen_ok]
     exact hr
   . rename_i hno;exact absurd Lz hno
 case box ty x =>
   simp only [lB,Option.map_eq_some_iff] at hc;obtain ⟨va,wJ,rfl⟩:=hc
   simp only [gj.map,bu] at h
   split at h
   . rename_i tk
     simp only [Option.some.injEq] at h;subst h
     exact dJ.of (DO hi hμ hσ (aP hf hi wJ) tk ty)
   . simp at h
 case build ty ps=>exact dJ.of (GY hi hf hc h)
 case buildSlice ty n ps=>exact dJ.of (Dd hi hμ hσ hf hc h)
 case load ty x =>
   simp only [lB] at hc
   cases ha:mc P ty with
   | none=>simp [ha] at hc
   | some g =>
   cases Av:P.info? ty with
   | none=>simp [ha,Av] at hc
   | some i =>
   cases iQ:cC x with
   | none=>simp [ha,Av,iQ] at hc
   | some vx =>
     simp only [ha,Av,iQ] at hc
     split at hc
     . simp only [Option.some.injEq] at hc;subst hc
       simp only [gj.map,bu] at h
       exact dJ.of (GX hi ha Av (aP hf hi iQ) h)
     . simp at hc
 case store ty x y =>
   simp only [lB] at hc
   cases Av:P.info? ty with
   | none=>simp [Av] at hc
   | some i =>
   cases iQ:cC x with
   | none=>simp [Av,iQ] at hc
   | some vx =>
   cases FG:cC y with
   | none=>simp [Av,iQ,FG] at hc
   | some vy =>
     simp only [Av,iQ,FG,Option.some.injEq] at hc;subst hc
     simp only [gj.map,bu] at h
     exact dJ.ofU (Fp hi Av (aP hf hi iQ) (aP hf hi FG) h)
 case nilCheck x =>
   simp only [lB,Option.map_eq_some_iff] at hc;obtain ⟨va,wJ,rfl⟩:=hc
   simp only [gj.map,bu] at h
   have hr:=aP hf hi wJ
   split at h
   . rename_i id e q hx
     simp only [bo,Option.map_some,Option.some.injEq] at h;subst h
     rw [hx] at hr ⊢
     have yK:=hr
     simp only [aD] at hr
     obtain ⟨g,k,N,hm,he⟩:=hr
     exact ⟨a.eval x,w,E, .inl (by rw [he];rfl),Adv.refl own E w,hi,yK,fun _ _=>rfl⟩
   . rename_i cs q hx
     simp only [bo,Option.map_some,Option.some.injEq] at h;subst h
     rw [hx] at hr ⊢
     have yK:=hr
     simp only [aD] at hr
     obtain ⟨b,q,he,_⟩:=hr
     exact ⟨a.eval x,w,E, .inl (by rw [he];rfl),Adv.refl own E w,hi,yK,fun _ _=>rfl⟩
   . rename_i f l1 l2 hx
     simp only [bo,Option.map_some,Option.some.injEq] at h;subst h
     rw [hx] at hr ⊢
     have yK:=hr
     simp only [aD] at hr
     obtain ⟨xs,ys,he,_⟩:=hr
     exact ⟨a.eval x,w,E, .inl (by rw [he];rfl),Adv.refl own E w,hi,yK,fun _ _=>rfl⟩
   . simp at h
 case binOp op ty x y JK =>
   simp only [lB] at hc
   cases Au:NC P ty with
   | none=>simp [Au] at hc
   | some sh =>
   cases iQ:cC x with
   | none=>simp [Au,iQ] at hc
   | some vx =>
   cases FG:cC y with
   | none=>simp [Au,iQ,FG] at hc
   | some vy =>
     simp only [Au,iQ,FG,Option.some.injEq] at hc;subst hc
     simp only [gj.map,bu] at h
     refine dJ.of (Sound.fD h fun c hcc => ?_)
     unfold bn at hcc
     split at hcc
     . rename_i c' ad5
       simp only [Option.some.injEq] at hcc;subst hcc
       obtain ⟨h1,h2,h3,h4⟩:=P2 (P:=P) Au ad5 (aP hf hi iQ) (aP hf hi FG)
       refine Sound.same hi ?_ (DK h2)
       simp only [Sem.run_bind,wV op ty x y _ _ h3 h4,Result.andThen_ok]
       exact h1
     . obtain ⟨⟨q,h1,h2⟩,h3,h4⟩:=NI (P:=P) Au hcc (aP hf hi iQ) (aP hf hi FG)
       refine Sound.same (v := .bool q) hi ?_ h1
       simp only [Sem.run_bind,wV op ty x y _ _ h3 h4,Result.andThen_ok]
       exact h2
 case unOp op ty x =>
   simp only [lB,Option.map_eq_some_iff] at hc;obtain ⟨va,wJ,rfl⟩:=hc
   simp only [gj.map,bu] at h
   refine dJ.of (Sound.fD h fun c hcc => ?_)
   obtain ⟨h1,h2⟩:=TV (P:=P) hcc (aP hf hi wJ)
   exact Sound.same hi h1 (DK h2)
 case convert src dst x =>
   simp only [lB] at hc
   split at hc
   . rename_i k1 k2 h1 h2
     simp only [Option.map_eq_some_iff] at hc;obtain ⟨va,wJ,rfl⟩:=hc
     simp only [gj.map,bu] at h
     have hr:=aP hf hi wJ
     split at h
     . rename_i k n hx
       rw [hx] at hr
       simp only [aD] at hr
       simp only [bo,Option.map_some,Option.some.injEq] at h;subst h
       refine dJ.of (Sound.same (v := .int k2 (k2.wrap n)) hi ?_ (by simp [aD]))
       rw [hr]
       simp [convert,run_underlying h1,run_underlying h2,Conv.intToInt]
     . simp at h
   . rename_i h1 h2
     simp only [Option.map_eq_some_iff] at hc;obtain ⟨va,wJ,rfl⟩:=hc
     simp only [gj.map,bu] at h
     have hr:=aP hf hi wJ
     split at h
     . rename_i l hx
       rw [hx] at hr h
       have yK:=hr
       simp only [aD] at hr
       simp only [bo,Option.map_some,Option.some.injEq] at h;subst h
       refine dJ.of (Sound.same hi ?_ yK)
       rw [hr]
       simp [convert,run_underlying h1,run_underlying h2]
     . rename_i k n hx
       rw [hx] at hr
       simp only [aD] at hr
       split at h
       . rename_i hn
         simp only [bo,Option.map_some,Option.some.injEq] at h;subst h
         refine dJ.of (Sound.same (v := .string (Utf8.encode n)) hi ?_ (by simp [aD,w9 hn]))
         rw [hr]
         simp [convert,run_underlying h1,run_underlying h2,Conv.intToString]
       . simp at h
     . simp at h
   . rename_i k1 h1 h2
     simp only [Option.map_eq_some_iff] at hc;obtain ⟨va,wJ,rfl⟩:=hc
     simp only [gj.map,bu] at h
     have hr:=aP hf hi wJ
     split at h
     . rename_i l hx
       rw [hx] at hr h
       have yK:=hr
       simp only [aD] at hr
       simp only [bo,Option.map_some,Option.some.injEq] at h;subst h
       refine dJ.of (Sound.same hi ?_ yK)
       rw [hr]
       simp [convert,run_underlying h1,run_underlying h2]
     . rename_i k n hx
       rw [hx] at hr
       simp only [aD] at hr
       split at h
       . rename_i hn
         simp only [bo,Option.map_some,Option.some.injEq] at h;subst h
         refine dJ.of (Sound.same (v := .string (Utf8.encode n)) hi ?_ (by simp [aD,w9 hn]))
         rw [hr]
         simp [convert,run_underlying h1,run_underlying h2,Conv.intToString]
       . simp at h
     . simp at h
   . rename_i e h1 h2
     split at hc
     . rename_i he
       simp only [Option.map_eq_some_iff] at hc;obtain ⟨va,wJ,rfl⟩:=hc
       simp only [gj.map,bu] at h
       exact dJ.of (Bp hi h1 he h2 (aP hf hi wJ) h)
     . simp at hc
   . simp at hc
 case makeFunc fn first cap =>
   simp only [lB] at hc
   cases h1:Bh first with
   | none=>simp [h1] at hc
   | some va =>
   cases h2:Bh cap with
   | none=>simp [h1,h2] at hc
   | some vc =>
     simp only [h1,h2,Option.some.injEq] at hc;subst hc
     simp only [gj.map,bu,bo,Option.map_some,Option.some.injEq] at h;subst h
     refine dJ.of (Sound.same (v := .func fn (first.map a.eval) (cap.map a.eval)) hi (by simp [Instr.makeFunc]) ?_)
     simp only [aD]
     exact ⟨_,_,rfl,yH hf hi h1,yH hf hi h2⟩
 case makeSlice ty l c =>
   simp only [lB] at hc
   cases hu:P.underlying ty with
   | none=>simp [hu] at hc
   | some d =>
   cases d<;>simp only [hu,reduceCtorEq] at hc
   rename_i e
   cases cI:P.info? e with
   | none=>simp [cI] at hc
   | some i =>
   cases hz:kG P e with
   | none=>simp [cI,hz] at hc
   | some z =>
   cases o7:cC l with
   | none=>simp [cI,hz,o7] at hc
   | some vl =>
   cases Ua:cC c with
   | none=>simp [cI,hz,o7,Ua] at hc
   | some vc =>
     simp only [cI,hz,o7,Ua] at hc
     split at hc
     . rename_i hh
       simp only [Option.some.injEq] at hc;subst hc
       simp only [gj.map,bu] at h
       exact dJ.of (J4 hi hμ hσ hu cI hz hh.1 (aP hf hi o7) (aP hf hi Ua) h)
     . simp at hc
 case slice ty x lo fK mx =>
   simp only [lB] at hc
   cases hu:P.underlying ty with
   | none=>simp [hu] at hc
   | some d =>
   cases d<;>simp only [hu,reduceCtorEq] at hc
   case string =>
     cases iQ:cC x with
     | none=>simp [iQ] at hc
     | some vx =>
     cases o7:ti lo with
     | none=>simp [iQ,o7] at hc
     | some vl =>
     cases LG:ti fK with
     | none=>simp [iQ,o7,LG] at hc
     | some vh =>
     cases mx with
     | some _=>simp [iQ,o7,LG] at hc
     | none =>
       simp only [iQ,o7,LG,Option.some.injEq] at hc;subst hc
       simp only [gj.map,bu] at h
       refine dJ.of (Sound.fD h fun c hcc => ?_)
       exact Dg hi hu (aP hf hi iQ) (nU hf hi o7) (nU hf hi LG) hcc
   case array n e =>
     cases cI:P.info? e with
     | none=>simp [cI] at hc
     | some i =>
     cases iQ:cC x with
     | none=>simp [cI,iQ] at hc
     | some vx =>
     cases o7:ti lo with
     | none=>simp [cI,iQ,o7] at hc
     | some vl =>
     cases LG:ti fK with
     | none=>simp [cI,iQ,o7,LG] at hc
     | some vh =>
     cases mx with
     | some _=>simp [cI,iQ,o7,LG] at hc
     | none =>
       simp only [cI,iQ,o7,LG] at hc
       split at hc
       . rename_i hh
         simp only [Option.some.injEq] at hc;subst hc
         simp only [gj.map,bu] at h
         exact dJ.of (Dl hi hu cI hh.1 hh.2 (aP hf hi iQ) (nU hf hi o7) (nU hf hi LG) h)
       . simp at hc
   case slice e =>
     cases cI:P.info? e with
     | none=>simp [cI] at hc
     | some i =>
     cases iQ:cC x with
     | none=>simp [cI,iQ] at hc
     | some vx =>
     cases o7:ti lo with
     | none=>simp [cI,iQ,o7] at hc
     | some vl =>
     cases LG:ti fK with
     | none=>simp [cI,iQ,o7,LG] at hc
     | some vh =>
     cases Z9:ti mx with
     | none=>simp [cI,iQ,o7,LG,Z9] at hc
     | some vm =>
       simp only [cI,iQ,o7,LG,Z9] at hc
       split at hc
       . rename_i hh
         simp only [Option.some.injEq] at hc;subst hc
         simp only [gj.map,bu] at h
         exact dJ.of (Dk hi hu cI (aP hf hi iQ) (nU hf hi o7) (nU hf hi LG) (nU hf hi Z9) (by simpa using hh) h)
       . simp at hc
 case fieldAddr s x f =>
   simp only [lB] at hc
   cases hu:P.underlying s with
   | none=>simp [hu] at hc
   | some d =>
   cases d<;>simp only [hu,reduceCtorEq] at hc
   rename_i fs
   cases Xp:fs[f]? with
   | none=>simp [Xp] at hc
   | some fd =>
   simp only [Xp] at hc
   cases cI:P.info? fd.type with
   | none=>simp [cI] at hc
   | some i =>
   cases iQ:cC x with
   | none=>simp [cI,iQ] at hc
   | some vx =>
     simp only [cI,iQ] at hc
     split at hc
     . simp at hc
     . rename_i h0
       simp only [Option.some.injEq] at hc;subst hc
       exact dJ.of (G1 hi hu Xp cI h0 (aP hf hi iQ) h)
 case field s x f =>
   simp only [lB] at hc
   cases hu:P.underlying s with
   | none=>simp [hu] at hc
   | some d =>
   cases d<;>simp only [hu,reduceCtorEq] at hc
   rename_i fs
   cases Xp:fs[f]? with
   | none=>simp [Xp] at hc
   | some fd =>
   simp only [Xp] at hc
   cases PE:mc P fd.type with
   | none=>simp [PE] at hc
   | some g =>
   cases cI:P.info? fd.type with
   | none=>simp [PE,cI] at hc
   | some i =>
   cases iQ:cC x with
   | none=>simp [PE,cI,iQ] at hc
   | some vx =>
     simp only [PE,cI,iQ,Option.some.injEq] at hc;subst hc
     simp only [gj.map,bu] at h
     have hr:=aP hf hi iQ
     split at h
     . rename_i cs hx
       rw [hx] at hr
       simp only [aD] at hr
       obtain ⟨xs,he,hr⟩:=hr
       refine dJ.of (Sound.fD h fun c hcc => ?_)
       obtain ⟨v,hv,uO⟩:=G2 (P:=P) PE cI hr hcc
       refine Sound.same hi ?_ uO
       rw [he]
       simp [Instr.field,run_underlying hu,Xp,asAgg,hv]
     . simp at h
 case indexAddr ty x ix =>
   simp only [lB] at hc
   cases hu:P.underlying ty with
   | none=>simp [hu] at hc
   | some d =>
   cases d<;>simp only [hu,reduceCtorEq] at hc
   case slice e =>
     cases cI:P.info? e with
     | none=>simp [cI] at hc
     | some i =>
     cases iQ:cC x with
     | none=>simp [cI,iQ] at hc
     | some vx =>
     cases Kd:cC ix with
     | none=>simp [cI,iQ,Kd] at hc
     | some vi =>
       simp only [cI,iQ,Kd,Option.some.injEq] at hc;subst hc
       simp only [gj.map,bu] at h
       refine dJ.of (Sound.fD h fun c hcc => ?_)
       exact Fy hi hu cI (aP hf hi iQ) (aP hf hi Kd) hcc
   case array n e =>
     cases cI:P.info? e with
     | none=>simp [cI] at hc
     | some i =>
     cases iQ:cC x with
     | none=>simp [cI,iQ] at hc
     | some vx =>
     cases Kd:cC ix with
     | none=>simp [cI,iQ,Kd] at hc
     | some vi =>
       simp only [cI,iQ,Kd,Option.some.injEq] at hc;subst hc
       simp only [gj.map,bu] at h
       refine dJ.of (Sound.fD h fun c hcc => ?_)
       exact Fz hi hu cI (aP hf hi iQ) (aP hf hi Kd) hcc
 case index ty x ix =>
   simp only [lB] at hc
   cases hu:P.underlying ty with
   | none=>simp [hu] at hc
   | some d =>
   cases d<;>simp only [hu,reduceCtorEq] at hc
   case string =>
     cases iQ:cC x with
     | none=>simp [iQ] at hc
     | some vx =>
     cases Kd:cC ix with
     | none=>simp [iQ,Kd] at hc
     | some vi =>
       simp only [iQ,Kd,Option.some.injEq] at hc;subst hc
       simp only [gj.map,bu] at h
       have hr:=aP hf hi iQ
       have Qe:=aP hf hi Kd
       split at h
       . rename_i s k n hx hn
         rw [hx] at hr;rw [hn] at Qe
         simp only [aD] at hr Qe
         split at h
         . rename_i h0
           refine dJ.of (Sound.fD h fun c hcc => ?_)
           simp only [Option.map_eq_some_iff] at hcc
           obtain ⟨b,hb,rfl⟩:=hcc
           refine Sound.same (v := .int .u8 b.toNat) hi ?_ (by simp [aD])
           rw [hr,Qe]
           have PD:(ByteArray.mk s.toArray)[n.toNat]? = some b:=by
             have hlt:=(List.getElem?_eq_some_iff.1 hb)
             obtain ⟨h1,h2⟩:=hlt
             rw [getElem?_pos (ByteArray.mk s.toArray) n.toNat (by simpa [ByteArray.size] using h1)]
             congr 1
           simp [Instr.index,run_underlying hu,asIntOf,h0,PD]
         . simp at h
       . simp at h
   case array n e =>
     cases PE:mc P e with
     | none=>simp [PE] at hc
     | some g =>
     cases cI:P.info? e with
     | none=>simp [PE,cI] at hc
     | some i =>
     cases iQ:cC x with
     | none=>simp [PE,cI,iQ] at hc
     | some vx =>
     cases Kd:cC ix with
     | none=>simp [PE,cI,iQ,Kd] at hc
     | some vi =>
       simp only [PE,cI,iQ,Kd,Option.some.injEq] at hc;subst hc
       simp only [gj.map,bu] at h
       have hr:=aP hf hi iQ
       have Qe:=aP hf hi Kd
       split at h
       . rename_i cs k m hx hn
         rw [hx] at hr;rw [hn] at Qe
         simp only [aD] at hr Qe
         obtain ⟨xs,he,hr⟩:=hr
         split at h
         . rename_i h0
           refine dJ.of (Sound.fD h fun c hcc => ?_)
           obtain ⟨v,hv,uO⟩:=G2 (P:=P) PE cI hr hcc
           refine Sound.same hi ?_ uO
           rw [he,Qe]
           simp [Instr.index,run_underlying hu,asIntOf,h0,eE cI,hv]
         . simp at h
       . simp at h
 case extract x i =>
   simp only [lB,Option.map_eq_some_iff] at hc;obtain ⟨va,wJ,rfl⟩:=hc
   simp only [gj.map,bu] at h
   have hr:=aP hf hi wJ
   split at h
   . rename_i vs hx
     rw [hx] at hr
     simp only [aD] at hr
     obtain ⟨xs,he,hr⟩:=hr
     refine dJ.of (Sound.fD h fun c hcc => ?_)
     obtain ⟨v,hv,uO⟩:=(bj.1 hr).2 i c hcc
     refine Sound.same hi ?_ uO
     rw [he]
     simp at hv
     simp [Instr.extract,hv]
   . simp at h
 case call c =>
   simp only [lB] at hc
   cases tq:c.callee with
   | value f =>
     simp only [tq] at hc
     split at hc
     . split at hc
       . simp only [Option.some.injEq] at hc;subst hc
         simp [gj.map,bu] at h
       . simp at hc
     . rename_i k hk
       unfold TU at hc
       split at hc
       . rename_i x y jY
         split at hc
         . rename_i vx vy iQ FG
           simp only [Option.some.injEq] at hc;subst hc
           cases k with
           | idx =>
             simp only [gj.map,bu] at h
             have hh:=NN (p:=p) ho tq hk jY hi (aP hf hi iQ) (aP hf hi FG) h
             unfold execOp at hh;simp only [ho] at hh;exact hh
           | ovl =>
             simp only [gj.map,bu] at h
             have hh:=NP (p:=p) ho tq hk jY hi (aP hf hi iQ) (aP hf hi FG) h
             unfold execOp at hh;simp only [ho] at hh;exact hh
         . simp at hc
       . simp at hc
   | invoke _ _=>simp [tq] at hc
   | builtin b =>
     simp only [tq] at hc
     have Aw:∀ w,(do let d <- resolve a.eval c o.type;invoke d.target d.args:Sem Next).run P w =
         (builtin b c.argTypes o.type (c.args.map fun | .const _=>true | _=>false) (c.args.map a.eval)).run P w:=by
       intro w;simp [resolve,tq,invoke];rfl
     have fin:∀ {s:Sem Value},builtin b c.argTypes o.type (c.args.map fun | .const _=>true | _=>false) (c.args.map a.eval)=(do pure (.value (<- s)))->Sound P G own E w σ p s r ->
         dJ P G own E w σ p r (do let d <- resolve a.eval c o.type;invoke d.target d.args):=by
       intro s he hs
       obtain ⟨v,w',E',hr,hp⟩:=hs
       exact ⟨v,w',E', .inl (by rw [Aw,he];simp [hr]),hp⟩
     exact Dm hi hμ hσ hf hc h fin
 all_goals simp [lB] at hc
theorem Qf (hi:Inv G own E w σ) (hμ : E.μ p=none) (hσ : σ p=none) {t:List AV} {a:Act} (hf:b9 E w t a) {o:Oper} {vo:gj aO} (hc:VX P o.op=some vo) {r:eB}
   (h:bu σ p (vo.map (aO.ev G t))=some r):dJ P G own E w σ p r (execOp a.eval o):=by
 unfold VX at hc
 split at hc
 . rename_i v hv
   simp only [Option.some.injEq] at hc;subst hc
   exact NQ hi hμ hσ hf hv h
 . simp only [Option.some.injEq] at hc;subst hc
   simp [gj.map,bu] at h
end
def aq (P:Program) (G:Nat->Option (List AV)) (f:FuncId) (args:List AV) (p:Id) (S:List (Id × a8)) (r:eB):Prop :=
 (∃ fn,P.funcs[f]? = some fn/\(fn.name == "runtime.NumGoroutine")=false/\fn.body.isSome=true) /\
 ∀ own E w σ vs,(∀ x∈S, σ x.1=some x.2)->Inv G own E w σ -> aF E w args vs->(∀ j,p <:+ j->E.μ j=none) ->
   Calls P f vs.toArray w fun e w'=>∃ v E',e = .returned v/\j5 G own E w σ p r v E' w'
def je (P:Program) (G:Nat->Option (List AV)) (σ : aa) (p:Id) (op:gj AV) (r:eB):Prop :=
 match op with
 | .call f as=>match f with
   | .fn (.func f) first cap=>∃ S,aq P G f (first++as++cap) p S r/\(∀ x∈S, σ x.1=some x.2)/\∀ x∈S,x.1∈r.rd
   | _=>False
 | op=>bu σ p op=some r
def fL (t:List AV) (d:Option Nat) (v:AV):List AV:=match d with | some d=>t.set d v | none=>t
def eP (t:List AV):Option (Nat × Bool)->Option Bool
 | none=>some true
 | some (d,want)=>match t[d]? with
   | some (.bool b)=>some (b==want)
   | some .top | some .anyb=>none
   | _=>some false
section
variable {P:Program} {G:Nat->Option (List AV)} {own:Nat->Prop} {E:Env} {w:World} {σ : aa} {p:Id}
theorem b9.keep {E':Env} {w':World} {t:List AV} {a:Act} (h:b9 E w t a) (s:Step E E' w w'):b9 E' w' t a:=aF.keep s t _ h
theorem b9.put {t:List AV} {a:Act} (h:b9 E w t a) {c:AV} {v:Value} (hv:aD E w c v) (d:Option Nat):b9 E w (fL t d c) (a.put d v):=by
 cases d with
 | none=>exact h
 | some d =>
   obtain ⟨hl,hp⟩:=bj.1 h
   refine bj.2 ⟨by simpa [fL,Act.put] using hl,fun j c' hj => ?_⟩
   simp only [fL,List.getElem?_set] at hj
   simp only [Act.put,Array.toList_setIfInBounds,List.getElem?_set]
   split at hj
   . rename_i e
     subst e
     split at hj
     . rename_i hlt
       simp only [Option.some.injEq] at hj;subst hj
       exact ⟨v,by rw [if_pos rfl,if_pos (by omega)],hv⟩
     . simp at hj
   . rename_i e
     rw [if_neg e]
     exact hp j c' hj
theorem b9.at? {t:List AV} {a:Act} (h:b9 E w t a) (d:Nat):(t[d]? = none/\a.tmps[d]? = none)∨∃ c v,t[d]? = some c/\a.tmps[d]? = some v/\aD E w c v:=by
 obtain ⟨hl,hp⟩:=bj.1 h
 by_cases hd:d<t.length
 . right
   obtain ⟨v,hv,hr⟩:=hp d t[d] (by simp [hd])
   exact ⟨t[d],v,by simp [hd],by simpa using hv,hr⟩
 . left
   have:a.tmps.size<=d:=by have:=hl;simp at this;omega
   exact ⟨by simp;omega,by simp;omega⟩
theorem FH {c:AV} {v:Value} (h:aD E w c v) (h1:∀ b,c ≠ .bool b) (h2:c ≠ .top) (h3:c ≠ .anyb):∀ b,v ≠ .bool b:=by
 intro b e
 subst e
 cases c<;>simp only [aD,reduceCtorEq,exists_const,false_and,and_false] at h
 . exact h1 _ rfl
 all_goals first
   | exact h2 rfl
   | exact h3 rfl
   | (obtain ⟨_,_,h,_⟩:=h;cases h)
   | (obtain ⟨_,h,_⟩:=h;cases h)
   | (obtain ⟨_,_,h⟩:=h;cases h)
theorem rA {ops:Array Oper} {o:Oper} {vo:bg} (hc:u9 P ops o=some vo) {t:List AV} {a:Act} (hf:b9 E w t a) {b:Bool} (h:eP t vo.guard=some b):Region.wanted o (yielded ops a.tmps)=b:=by
 unfold u9 at hc
 cases hop:VX P o.op with
 | none=>simp [hop] at hc
 | some op =>
   simp only [hop] at hc
   cases hg:o.guard with
   | none =>
     simp only [hg,Option.some.injEq] at hc;subst hc
     simp only [eP,Option.some.injEq] at h;subst h
     simp [Region.wanted,hg]
   | some jw =>
     obtain ⟨j,want⟩:=jw
     simp only [hg] at hc
     cases hd:(ops[j]?).bind (·.dst) with
     | none=>simp [hd] at hc
     | some d =>
       simp only [hd,Option.some.injEq] at hc;subst hc
       simp only [eP] at h
       simp only [Region.wanted,hg,yielded,hd,Option.bind_some]
       rcases hf.at? d with ⟨h1,h2⟩ | ⟨c,v,h1,h2,hr⟩
       . simp only [h1,Option.some.injEq] at h;subst h
         simp [h2]
       . simp only [h1] at h
         simp only [h2]
         cases c with
         | bool b' =>
           simp only [Option.some.injEq] at h;subst h
           simp only [aD] at hr;subst hr
           simp
         | top=>simp at h
         | anyb=>simp at h
         | _ =>
           simp only [Option.some.injEq] at h;subst h
           have hnb:=FH hr (by simp) (by simp) (by simp)
           cases v<;>simp at hnb ⊢
theorem G4 {ops:Array Oper} {o:Oper} {vo:bg} (hc:u9 P ops o=some vo):VX P o.op=some vo.op/\vo.dst=o.dst:=by
 unfold u9 at hc
 cases hop:VX P o.op with
 | none=>simp [hop] at hc
 | some op =>
   simp only [hop] at hc
   split at hc
   . simp only [Option.some.injEq] at hc;subst hc;simp_all
   . split at hc
     . simp only [Option.some.injEq] at hc;subst hc;simp_all
     . simp at hc
   . simp_all
theorem Ub {k:TT} {l:List Operand} (f:aO) (as:List aO):TU k l≠some (.call f as):=by
 unfold TU
 split
 . split
   . cases k<;>simp
   . simp
 . simp
theorem Bq (hi:Inv G own E w σ) (hμ : ∀ j,p <:+ j->E.μ j=none) {t:List AV} {a:Act} (hf:b9 E w t a) {o:Oper} {vo:gj aO} (hc:VX P o.op=some vo) {r:eB}
   (h:je P G σ p (vo.map (aO.ev G t)) r) {K:Act->World->Prop} {Q:Exit->Act->World->Prop} (hK:∀ v w' E',j5 G own E w σ p r v E' w'->K (a.put o.dst v) w'):o.wp P a w K Q:=by
 have hσ : σ p=none:=by
   cases hs : σ p with
   | none=>rfl
   | some bk=>obtain ⟨g,N,cur,ty,hB⟩:=hi.blk _ _ hs;have:=hB.μ;rw [hμ _ (List.suffix_refl _)] at this;simp at this
 have plain:bu σ p (vo.map (aO.ev G t))=some r->o.wp P a w K Q:=by
   intro hv
   obtain ⟨v,w',E',hrun,hp⟩:=Qf hi (hμ p (List.suffix_refl _)) hσ hf hc hv
   unfold Oper.wp
   rcases hrun with hrun | ⟨hrun,rfl⟩
   . rw [hrun];exact hK v w' E' hp
   . rw [hrun];exact hK undef w' E' hp
 cases vo with
 | call f as =>
   replace hc:lB P o.op=some (.call f as):=by
     unfold VX at hc
     split at hc
     . rename_i v hv;rw [hv];exact hc
     . simp at hc
   simp only [gj.map,je] at h
   split at h
   . rename_i f' fid first cap DR
     obtain ⟨S,Qg,hS,_⟩:=h
     obtain ⟨⟨fn,FB,qy,aag⟩,Qg⟩:=Qg
     cases hop:o.op with
     | call c =>
       rw [hop] at hc
       simp only [lB] at hc
       cases tq:c.callee with
       | value fo =>
         simp only [tq] at hc
         split at hc
         case h_2=>exact absurd hc (Ub _ _)
         split at hc
         . rename_i vf vas h1 h2
           simp only [Option.some.injEq,gj.call.injEq] at hc
           obtain ⟨rfl,rfl⟩:=hc
           have hrf:=aP hf hi h1
           rw [DR] at hrf
           simp only [aD] at hrf
           obtain ⟨xs,ys,hfv,hx,hy⟩:=hrf
           have hra:=yH hf hi h2
           have jY:aF E w (first++vas.map (aO.ev G t)++cap) (xs.toList++(c.args.map a.eval).toList++ys.toList):=aF.append (aF.append hx hra) hy
           have o8:=Qg own E w σ _ hS hi jY hμ
           have hrun:(execOp a.eval o).run P w = .ok (.enter fid (xs++c.args.map a.eval++ys)) w:=by
             have hnb : ¬ fn.body=none:=by intro e;simp [e] at aag
             have Xq : ¬ fn.name = "runtime.NumGoroutine" := by intro e;simp [e] at qy
             simp [execOp,hop,resolve,tq,hfv,Deferred.ofValue,invoke,callFunc,FB,Xq,hnb]
           unfold Oper.wp
           rw [hrun,Oper.upon_enter]
           have hae:(xs.toList++(c.args.map a.eval).toList++ys.toList).toArray=xs++c.args.map a.eval++ys:=by apply Array.ext';simp
           rw [hae] at o8
           refine o8.mono fun e w' he => ?_
           obtain ⟨v,E',rfl,hp⟩:=he
           exact hK v w' E' hp
         . simp at hc
       | invoke _ _=>simp [tq] at hc
       | builtin b =>
         simp only [tq] at hc
         unfold wS at hc
         split at hc<;>(try split at hc)<;>(try split at hc)<;>(try split at hc)<;>(try split at hc)<;>simp at hc
     | _ =>
       rw [hop] at hc
       simp only [lB] at hc
       exfalso
       revert hc
       clear plain DR
       intro hc
       first
         | simp at hc
         | (simp only [Option.map_eq_some_iff] at hc;obtain ⟨_,_,hc⟩:=hc;cases hc)
         | ((repeat' split at hc)<;>first | (simp at hc;done) | (simp only [Option.map_eq_some_iff] at hc;obtain ⟨_,_,hc⟩:=hc;cases hc) | (cases hc))
   . exact h.elim
 | _=>exact plain h
end
abbrev Done:=Option Nat × eB
def eQ (X:Nat->Bool):List Done->Nat->List AV->List AV
 | [],_,t=>t
 | (d,r)::L,i,t=>eQ X L (i+1) (if X i then fL t d r.val else t)
def gw (X:Nat->Bool):List Done->Nat->aa->aa
 | [],_, σ => σ
 | (_,r)::L,i, σ => gw X L (i+1) (if X i then σ.app r.up else σ)
theorem qz (t:List AV) (d:Option Nat) (v:AV) (s:Nat):(fL t d v)[s]? = if d=some s then (if s<t.length then some v else none) else t[s]? := by
 cases d with
 | none=>simp [fL]
 | some d =>
   simp only [fL,List.getElem?_set,Option.some.injEq]
   by_cases e:d=s
   . subst e;simp
   . simp [e]
theorem G5 (t:List AV) (d:Option Nat) (v:AV):(fL t d v).length=t.length:=by cases d<;>simp [fL]
theorem DY (X:Nat->Bool):∀ (L:List Done) (i:Nat) (t:List AV),(eQ X L i t).length=t.length
 | [],_,_=>rfl
 | (d,r)::L,i,t=>by
   simp only [eQ];rw [DY X L]
   split
   . exact G5 t d r.val
   . rfl
theorem NR {t t':List AV} {s:Nat} (h:t[s]? = t'[s]?):(s<t.length)=(s<t'.length):=by
 have h1:s<t.length↔t[s]? ≠ none:=by simp
 have h2:s<t'.length↔t'[s]? ≠ none:=by simp
 exact propext (h1.trans ((by rw [h]:t[s]? ≠ none↔t'[s]? ≠ none).trans h2.symm))
theorem pb {X Y:Nat->Bool} {s:Nat}:∀ (L:List Done) (i:Nat) (t t':List AV),t[s]? = t'[s]? -> (∀ k d r,L[k]? = some (d,r)->X (i+k)≠Y (i+k)->d≠some s)->(eQ X L i t)[s]? = (eQ Y L i t')[s]?
 | [],_,_,_,h,_=>h
 | (d,r)::L,i,t,t',h,hd=>by
   simp only [eQ]
   refine pb L (i+1) _ _ ?_ (fun k d' r' hk hne=>hd (k+1) d' r' (by simpa using hk) (by rwa [show i+(k+1)=i+1+k from by omega]))
   by_cases hx:X i=Y i
   . rw [hx]
     split
     . rw [qz,qz];simp only [NR h,h]
     . exact h
   . have:=hd 0 d r rfl hx
     have e1:(fL t d r.val)[s]? = t[s]? := by rw [qz,if_neg this]
     have e2:(fL t' d r.val)[s]? = t'[s]? := by rw [qz,if_neg this]
     split<;>split<;>simp only [e1,e2,h]
theorem aa.NS {σ σ':aa} {id:Id} (h : σ id = σ' id):∀ (up:List (Id × Option a8)),(σ.app up) id=(σ'.app up) id:=by
 intro up
 induction up generalizing σ σ' with
 | nil=>exact h
 | cons x up ih =>
   obtain ⟨i,b⟩:=x
   simp only [aa.app]
   refine ih ?_
   simp only [aa.put]
   split<;>first | rfl | exact h
theorem aa.uy {σ : aa} {id:Id}:∀ {up:List (Id × Option a8)},id ∉ up.map (·.1)->(σ.app up) id = σ id:=by
 intro up
 induction up generalizing σ with
 | nil=>intro _;rfl
 | cons x up ih =>
   obtain ⟨i,b⟩:=x
   intro h
   simp only [List.map_cons,List.mem_cons,not_or] at h
   simp only [aa.app]
   rw [ih h.2,aa.bb _ _ _ h.1]
theorem aa.Xr {σ σ':aa} {id:Id}:∀ {up:List (Id × Option a8)},id∈up.map (·.1)->(σ.app up) id=(σ'.app up) id:=by
 intro up
 induction up generalizing σ σ' with
 | nil=>intro h;simp at h
 | cons x up ih =>
   obtain ⟨i,b⟩:=x
   intro h
   simp only [aa.app]
   by_cases pc:id∈up.map (·.1)
   . exact ih pc
   . have he:id=i:=by simpa [pc] using h
     subst he
     rw [aa.uy pc,aa.uy pc,aa.a6,aa.a6]
theorem pe {X Y:Nat->Bool} {id:Id}:∀ (L:List Done) (i:Nat) (σ σ':aa), σ id = σ' id->(∀ k d r,L[k]? = some (d,r)->X (i+k)≠Y (i+k)->id ∉ r.up.map (·.1))->gw X L i σ id=gw Y L i σ' id
 | [],_,_,_,h,_=>h
 | (d,r)::L,i, σ, σ',h,hd=>by
   simp only [gw]
   refine pe L (i+1) _ _ ?_ (fun k d' r' hk hne=>hd (k+1) d' r' (by simpa using hk) (by rwa [show i+(k+1)=i+1+k from by omega]))
   by_cases hx:X i=Y i
   . rw [hx]
     split
     . exact aa.NS h _
     . exact h
   . have:=hd 0 d r rfl hx
     split<;>split<;>simp only [aa.uy this,h]
theorem Br {X:Nat->Bool} {s:Nat} {r:eB}:∀ (L:List Done) (i j:Nat) (t:List AV),L[j]? = some (some s,r)->X (i+j)=true->(∀ k d r',L[k]? = some (d,r')->j<k->X (i+k)=true->d≠some s) ->
   (eQ X L i t)[s]? = if s<t.length then some r.val else none
 | [],_,_,_,h,_,_=>by simp at h
 | (d,r')::L,i,0,t,h,hx,hd=>by
   simp only [List.getElem?_cons_zero,Option.some.injEq,Prod.mk.injEq] at h
   obtain ⟨rfl,rfl⟩:=h
   simp only [eQ]
   rw [Nat.add_zero] at hx
   rw [if_pos hx]
   have:=pb (X:=X) (Y:=fun _=>false) (s:=s) L (i+1) (fL t (some s) r'.val) (fL t (some s) r'.val) rfl (fun k d r2 hk hne=>hd (k+1) d r2 (by simpa using hk) (by omega) (by
     rw [show i+(k+1)=i+1+k from by omega]
     cases hh:X (i+1+k) with
     | true=>rfl
     | false=>simp [hh] at hne))
   rw [this]
   have none:∀ (L:List Done) (i:Nat) (t:List AV),eQ (fun _=>false) L i t=t:=by
     intro L
     induction L with
     | nil=>intro _ _;rfl
     | cons x L ih=>intro i t;obtain ⟨d,r⟩:=x;simp only [eQ];rw [ih];simp
   rw [none,qz,if_pos rfl]
 | (d,r')::L,i,j+1,t,h,hx,hd=>by
   simp only [eQ]
   have:=Br L (i+1) j (if X i then fL t d r'.val else t) (by simpa using h) (by rwa [show i+1+j=i+(j+1) from by omega])
     (fun k d r2 hk hlt Ax=>hd (k+1) d r2 (by simpa using hk) (by omega) (by rwa [show i+(k+1)=i+1+k from by omega]))
   rw [this]
   split<;>simp [G5]
theorem Bt {X:Nat->Bool} {id:Id} {d:Option Nat} {r:eB} {σ':aa}:∀ (L:List Done) (i j:Nat) (σ : aa),L[j]? = some (d,r)->X (i+j)=true->id∈r.up.map (·.1) ->
   (∀ k d r',L[k]? = some (d,r')->j<k->X (i+k)=true->id ∉ r'.up.map (·.1))->gw X L i σ id=(σ'.app r.up) id
 | [],_,_,_,h,_,_,_=>by simp at h
 | (d',r')::L,i,0, σ,h,hx,pc,hd=>by
   simp only [List.getElem?_cons_zero,Option.some.injEq,Prod.mk.injEq] at h
   obtain ⟨rfl,rfl⟩:=h
   simp only [gw]
   rw [Nat.add_zero] at hx
   rw [if_pos hx]
   have:=pe (X:=X) (Y:=fun _=>false) (id:=id) L (i+1) (σ.app r'.up) (σ.app r'.up) rfl (fun k d r2 hk hne=>hd (k+1) d r2 (by simpa using hk) (by omega) (by
     rw [show i+(k+1)=i+1+k from by omega]
     cases hh:X (i+1+k) with
     | true=>rfl
     | false=>simp [hh] at hne))
   rw [this]
   have none:∀ (L:List Done) (i:Nat) (σ : aa),gw (fun _=>false) L i σ = σ := by
     intro L
     induction L with
     | nil=>intro _ _;rfl
     | cons x L ih=>intro i t;obtain ⟨d,r⟩:=x;simp only [gw];rw [ih];simp
   rw [none]
   exact aa.Xr pc
 | (d',r')::L,i,j+1, σ,h,hx,pc,hd=>by
   simp only [gw]
   exact Bt L (i+1) j _ (by simpa using h) (by rwa [show i+1+j=i+(j+1) from by omega]) pc
     (fun k d r2 hk hlt Ax=>hd (k+1) d r2 (by simpa using hk) (by omega) (by rwa [show i+(k+1)=i+1+k from by omega]))
theorem pR {X:Nat->Bool}:∀ (L:List Done) (i:Nat) (t:List AV),(∀ k,k<L.length->X (i+k)=false)->eQ X L i t=t
 | [],_,_,_=>rfl
 | (d,r)::L,i,t,h=>by
   simp only [eQ]
   have:=h 0 (by simp)
   rw [Nat.add_zero] at this
   rw [this]
   exact pR L (i+1) t (fun k hk=>by rw [show i+1+k=i+(k+1) from by omega];exact h (k+1) (by simpa using hk))
theorem pS {X:Nat->Bool}:∀ (L:List Done) (i:Nat) (σ : aa),(∀ k,k<L.length->X (i+k)=false)->gw X L i σ = σ
 | [],_,_,_=>rfl
 | (d,r)::L,i,t,h=>by
   simp only [gw]
   have:=h 0 (by simp)
   rw [Nat.add_zero] at this
   rw [this]
   exact pS L (i+1) t (fun k hk=>by rw [show i+1+k=i+(k+1) from by omega];exact h (k+1) (by simpa using hk))
section
variable (P:Program) (G:Nat->Option (List AV)) (π : Id)
def tu (σ : aa) (p:Id) (op:gj AV) (K:eB->Prop):Prop :=
 match op with
 | .call f as=>match f with
   | .fn (.func f) first cap=>∃ S r,aq P G f (first++as++cap) p S r/\(∀ x∈S, σ x.1=some x.2)/\(∀ x∈S,x.1∈r.rd)/\K r
   | _=>False
 | op=>match bu σ p op with
   | some r=>K r
   | none=>False
def xc (base:Nat) (K:List AV->aa->Prop):List bg->Nat->List AV->aa->Prop
 | [],_,t, σ => K t σ
 | o::os,i,t, σ => match eP t o.guard with
   | none=>False
   | some false=>xc base K os (i+1) (fL t o.dst (.tup [])) σ
   | some true=>tu P G σ ((base+i) :: π) (o.op.map (aO.ev G t)) fun r=>xc base K os (i+1) (fL t o.dst r.val) (σ.app r.up)
def xd (base:Nat) (K:List eB->List AV->aa->Prop):List bg->Nat->List eB->List AV->aa->Prop
 | [],_,acc,t, σ => K acc.reverse t σ
 | o::os,i,acc,t, σ => match eP t o.guard with
   | none=>False
   | some false=>xd base K os (i+1) ({ val := .tup [] }::acc) (fL t o.dst (.tup [])) σ
   | some true=>tu P G σ ((base+i) :: π) (o.op.map (aO.ev G t)) fun r=>xd base K os (i+1) (r::acc) (fL t o.dst r.val) (σ.app r.up)
def apart (a b:eB):Prop:=(∀ x∈a.up,x.1 ∉ b.rd/\x.1 ∉ b.up.map (·.1))/\∀ x∈b.up,x.1 ∉ a.rd
def aJ (rs:List eB) (ps:List (Nat × Nat)):Prop:=∀ q∈ps,∀ a b,rs[q.1]? = some a->rs[q.2]? = some b->apart a b
def xe (base:Nat) (o:bg) (k:Nat) (t:List AV) (σ : aa) (r:eB):Prop :=
 (eP t o.guard=some false/\r={ val := .tup [] })∨(eP t o.guard=some true/\je P G σ ((base+k) :: π) (o.op.map (aO.ev G t)) r)
end
section
variable {P:Program} {G:Nat->Option (List AV)} {π : Id} {own:Nat->Prop} {E:Env} {w:World} {σ : aa}
theorem Bu {σ : aa} {p:Id} {op:gj AV} {K:eB->Prop} (h:tu P G σ p op K):∃ r,je P G σ p op r/\K r:=by
 unfold tu at h
 cases op with
 | call f as =>
   simp only [] at h
   split at h
   . obtain ⟨S,r,h1,h2,h3,h4⟩:=h
     exact ⟨r,⟨S,h1,h2,h3⟩,h4⟩
   . exact h.elim
 | _ =>
   simp only [] at h
   split at h
   . rename_i r hr;exact ⟨r,hr,h⟩
   . exact h.elim
theorem DZ {base:Nat} {K:List eB->List AV->aa->Prop}:∀ {os:List bg} {i:Nat} {acc:List eB} {t:List AV} {σ : aa},xd P G π base K os i acc t σ ->
   ∃ rs:List eB,rs.length=os.length /\
     (∀ k o r,os[k]? = some o->rs[k]? = some r->xe P G π base o (i+k) (eQ (fun m=>m<i+k) ((os.map (·.dst)).zip rs) i t) (gw (fun m=>m<i+k) ((os.map (·.dst)).zip rs) i σ) r) /\
     K (acc.reverse++rs) (eQ (fun _=>true) ((os.map (·.dst)).zip rs) i t) (gw (fun _=>true) ((os.map (·.dst)).zip rs) i σ)
 | [],i,acc,t, σ,h=>⟨[],rfl,by simp,by simpa [xd,eQ,gw] using h⟩
 | o :: os,i,acc,t, σ,h=>by
   have go:∀ r,xe P G π base o i t σ r->xd P G π base K os (i+1) (r::acc) (fL t o.dst r.val) (σ.app r.up) ->
       ∃ rs:List eB,rs.length=(o::os).length /\
         (∀ k o' r,(o::os)[k]? = some o'->rs[k]? = some r->xe P G π base o' (i+k) (eQ (fun m=>m<i+k) (((o::os).map (·.dst)).zip rs) i t) (gw (fun m=>m<i+k) (((o::os).map (·.dst)).zip rs) i σ) r) /\
         K (acc.reverse++rs) (eQ (fun _=>true) (((o::os).map (·.dst)).zip rs) i t) (gw (fun _=>true) (((o::os).map (·.dst)).zip rs) i σ):=by
     intro r hr hv
     obtain ⟨rs,h1,h2,h3⟩:=DZ hv
     refine ⟨r::rs,by simp [h1], ?_, ?_⟩
     . intro k o' r' ho yK
       cases k with
       | zero =>
         simp only [List.getElem?_cons_zero,Option.some.injEq] at ho yK
         subst ho;subst yK
         rw [pR _ _ _ (fun k _=>by simp),pS _ _ _ (fun k _=>by simp),Nat.add_zero]
         exact hr
       | succ k =>
         have:=h2 k o' r' (by simpa using ho) (by simpa using yK)
         simp only [List.map_cons,List.zip_cons_cons,eQ,gw]
         have hd:decide (i<i+(k+1))=true:=by simp
         rw [if_pos hd,if_pos hd]
         rw [show i+(k+1)=i+1+k from by omega]
         exact this
     . simpa [eQ,gw] using h3
   simp only [xd] at h
   split at h
   . exact h.elim
   . rename_i hw
     exact go { val := .tup [] } (.inl ⟨hw,rfl⟩) h
   . rename_i hw
     obtain ⟨r,hr,hk⟩:=Bu h
     exact go r (.inr ⟨hw,hr⟩) hk
theorem G6 {q q':Nat} {π j:Id} (h:(q :: π) <:+ j) (hne:q≠q') : ¬ (q' :: π) <:+ j:=by
 intro h'
 have:=List.suffix_of_suffix_length_le h h' (by simp)
 obtain ⟨l,hl⟩:=this
 have De:l=[]:=by
   have:=congrArg List.length hl
   simp at this;exact this
 subst De
 simp at hl
 exact hne hl
theorem j5.frame {p:Id} {r:eB} {v:Value} {E':Env} {w':World} (h:j5 G own E w σ p r v E' w') {t:List AV} {a:Act} (hf:b9 E w t a) (d:Option Nat):b9 E' w' (fL t d r.val) (a.put d v) :=
 (hf.keep h.yG.step).put h.rep d
theorem D0 {t:List AV} {a:Act} (hf:b9 E w t a) (d:Option Nat):b9 E w (fL t d (.tup [])) (a.put d undef) :=
 hf.put (by simp only [aD,undef];exact ⟨#[],rfl,by simp [aF]⟩) d
theorem pg (a:Act) (d:Option Nat) (v:Value):(a.put d v).defers=a.defers:=by cases d<;>rfl
def uP (E:Env) (π : Id) (n:Nat):Prop:=∀ j, π <:+ j->(∀ q,q<n -> ¬ (q :: π) <:+ j)->E.μ j=none
theorem uP.at {π : Id} {n q:Nat} (h:uP E π n) (hq:n<=q) {j:Id} (hj:(q :: π) <:+ j):E.μ j=none :=
 h j ((List.suffix_cons q π).trans hj) fun q' hq'=>G6 hj (by omega)
theorem uP.mono {π : Id} {n n':Nat} (h:uP E π n) (hn:n<=n'):uP E π n':=fun j hj hq=>h j hj fun q hq'=>hq q (by omega)
theorem uP.step {π : Id} {n:Nat} {E':Env} (h:uP E π n) (Uc:∀ i:Id, ¬ (n :: π) <:+ i->E'.μ i=E.μ i):uP E' π (n+1):=fun j hj hq=>by
 rw [Uc j (hq n (by omega))];exact h j hj fun q hq'=>hq q (by omega)
theorem uP.self {π : Id} {n:Nat} (h:uP E π n):E.μ π = none :=
 h π (List.suffix_refl _) fun q _ hs=>by have:=hs.length_le;simp at this;omega
structure j7 (own:Nat->Prop) (π : Id) (E E':Env) (w w':World):Prop extends Adv own E E' w w' where
 ids:∀ i:Id, ¬ π <:+ i->E'.μ i=E.μ i
theorem j7.refl (own:Nat->Prop) (π : Id) (E:Env) (w:World):j7 own π E E w w:=⟨Adv.refl own E w,fun _ _=>rfl⟩
theorem j7.trans {π : Id} {E' VV:Env} {w' w'':World} (a:j7 own π E E' w w') (b:j7 own π E' VV w' w''):j7 own π E VV w w'' :=
 ⟨a.toAdv.trans b.toAdv,fun i hi=>(b.ids i hi).trans (a.ids i hi)⟩
theorem j5.aah {π : Id} {q:Nat} {r:eB} {v:Value} {E':Env} {w':World} (h:j5 G own E w σ (q :: π) r v E' w'):j7 own π E E' w w' :=
 ⟨h.yG,fun i hi=>h.ids i fun hs=>hi ((List.suffix_cons q π).trans hs)⟩
theorem Bv {ops:Array Oper} {base:Nat} {K:List AV->aa->Prop} {Q:Exit->Act->World->Prop} :
   ∀ (l:List Oper) (i:Nat),(∀ k,l[k]? = ops[i+k]?)->∀ (vs:List bg),l.mapM (u9 P ops)=some vs->∀ (t:List AV) (σ : aa) (a:Act) (E:Env) (w:World),xc P G π base K vs i t σ ->
   b9 E w t a->Inv G own E w σ -> uP E π (base+i) ->
   (∀ t' σ' a' E' w',K t' σ'->j7 own π E E' w w'->b9 E' w' t' a'->Inv G own E' w' σ'->uP E' π (base+i+l.length)->a'.defers=a.defers->Q .normal a' w') ->
   wpOps P ops Q ((List.range' i l.length)) a w
 | [],i,_,vs,hm,t, σ,a,E,w,hv,hf,hi,pj,hQ=>by
   simp at hm;subst hm
   simp only [xc] at hv
   simp only [List.length_nil,List.range'_zero,wpOps]
   exact hQ t σ a E w hv (j7.refl own π E w) hf hi pj rfl
 | o :: l,i,hl,vs,hm,t, σ,a,E,w,hv,hf,hi,pj,hQ=>by
   simp only [List.mapM_cons,Option.pure_def,Option.bind_eq_bind,Option.bind_eq_some_iff] at hm
   obtain ⟨vo,vQ,vs',JO,he⟩:=hm
   simp only [Option.some.injEq] at he;subst he
   obtain ⟨hop,Qh⟩:=G4 vQ
   have hoi:ops[i]? = some o:=by have:=hl 0;simpa using this.symm
   simp only [List.length_cons,List.range'_succ]
   rw [wpOps_cons]
   unfold wpOp
   rw [hoi]
   simp only []
   have rest:∀ (t':List AV) (σ':aa) (a':Act) (E':Env) (w':World),xc P G π base K vs' (i+1) t' σ'->j7 own π E E' w w'->b9 E' w' t' a'->Inv G own E' w' σ'->uP E' π (base+i+1)->a'.defers=a.defers ->
       wpOps P ops Q (List.range' (i+1) l.length) a' w':=by
     intro t' σ' a' E' w' hv' had TQ fK Ke hde
     refine Bv l (i+1) (fun k=>by rw [show i+1+k=i+(k+1) from by omega, <- hl];simp) vs' JO t' σ' a' E' w' hv' TQ fK (by rw [<- Nat.add_assoc];exact Ke) ?_
     intro t2 σ2 a2 E2 w2 hk FJ hf2 DU Xs hd2
     exact hQ t2 σ2 a2 E2 w2 hk (had.trans FJ) hf2 DU (by rw [List.length_cons,show base+i+(l.length+1)=base+(i+1)+l.length from by omega];exact Xs) (hd2.trans hde)
   simp only [xc] at hv
   split at hv
   . exact hv.elim
   . rename_i hw
     rw [rA vQ hf hw]
     simp only [Bool.false_eq_true,if_false]
     rw [<- Qh]
     exact rest _ _ _ E w hv (j7.refl own π E w) (D0 hf _) hi (pj.mono (by omega)) (pg _ _ _)
   . rename_i hw
     rw [rA vQ hf hw]
     simp only [if_true]
     obtain ⟨r,hr,hk⟩:=Bu hv
     left
     refine Bq hi (fun j hj=>pj.at (Nat.le_refl _) hj) hf hop hr ?_
     intro v w' E' hp
     rw [<- Qh]
     exact rest _ _ _ E' w' hk hp.aah (hp.frame hf _) hp.inv (pj.step hp.ids) (pg _ _ _)
end
theorem D1 (f:Nat->Nat) (b:Nat):∀ (l:List Nat) (s:Nat),(l.foldl (fun s i=>s ||| 2 ^ i ||| f i) s).testBit b=true->s.testBit b=true∨∃ e∈l,b=e∨(f e).testBit b=true
 | [],s,h => .inl h
 | i :: l,s,h=>by
   simp only [List.foldl_cons] at h
   rcases D1 f b l _ h with h | ⟨e,he,h⟩
   . simp only [Nat.testBit_or,Bool.or_eq_true,Nat.testBit_two_pow,decide_eq_true_eq] at h
     rcases h with (h | h) | h
     . exact .inl h
     . exact .inr ⟨i,by simp, .inl h.symm⟩
     . exact .inr ⟨i,by simp, .inr h⟩
   . exact .inr ⟨e,by simp [he],h⟩
theorem D2:∀ (nw:List (List Nat)) (acc:List Nat),(jc nw acc).length=acc.length+nw.length
 | [],acc=>by simp [jc]
 | l::r,acc=>by simp only [jc];rw [D2 r];simp;omega
theorem yO:∀ (nw:List (List Nat)) (acc:List Nat) (k:Nat),k<acc.length->(jc nw acc)[k]? = acc[k]?
 | [],acc,k,_=>by simp [jc]
 | l::r,acc,k,h=>by
   simp only [jc]
   rw [yO r _ k (by simp;omega),List.getElem?_append_left h]
theorem G7:∀ (nw:List (List Nat)) (acc:List Nat) (j:Nat) (l:List Nat),nw[j]? = some l->∃ NT:List Nat,NT.length=acc.length+j/\(∀ k,k<NT.length->(jc nw acc)[k]? = NT[k]?) /\
   (jc nw acc)[acc.length+j]? = some (l.foldl (fun s i=>s ||| 2 ^ i ||| NT.getD i 0) 0)
 | [],_,_,_,h=>by simp at h
 | l'::r,acc,0,l,h=>by
   simp only [List.getElem?_cons_zero,Option.some.injEq] at h;subst h
   refine ⟨acc,rfl,fun k hk=>yO _ _ k hk, ?_⟩
   simp only [jc]
   rw [yO r _ _ (by simp),List.getElem?_append_right (by omega)]
   simp
 | l'::r,acc,j+1,l,h=>by
   simp only [jc]
   obtain ⟨NT,h1,h2,h3⟩:=G7 r (acc++[l'.foldl (fun s i=>s ||| 2 ^ i ||| acc.getD i 0) 0]) j l (by simpa using h)
   refine ⟨NT,by simp at h1;omega,h2, ?_⟩
   simp only [List.length_append,List.length_singleton] at h3
   rw [show acc.length+(j+1)=acc.length+1+j from by omega]
   exact h3
theorem NU {nw:List (List Nat)} {j b:Nat} (hlt:∀ e∈nw.getD j [],e<j) (h:((jc nw []).getD j 0).testBit b=true):∃ e∈nw.getD j [],b=e∨((jc nw []).getD e 0).testBit b=true:=by
 by_cases hj:j<nw.length
 . obtain ⟨acc,h1,h2,h3⟩:=G7 nw [] j nw[j] (by simp [hj])
   simp only [List.length_nil,Nat.zero_add] at h1 h3
   have hg:(jc nw []).getD j 0=nw[j].foldl (fun s i=>s ||| 2 ^ i ||| acc.getD i 0) 0:=by simp [List.getD,h3]
   rw [hg] at h
   have ho:nw.getD j []=nw[j]:=by simp [List.getD,hj]
   rw [ho] at hlt ⊢
   rcases D1 _ b _ _ h with h | ⟨e,he,h⟩
   . simp at h
   . refine ⟨e,he,h.imp id fun h => ?_⟩
     have:(jc nw []).getD e 0=acc.getD e 0:=by
       simp only [List.getD]
       rw [h2 e (by rw [h1];exact hlt e he)]
     rw [this];exact h
 . have:(jc nw []).getD j 0=0:=by
     have:=D2 nw []
     simp only [List.getD]
     rw [List.getElem?_eq_none (by simp at this;omega)]
     rfl
   rw [this] at h
   simp at h
theorem zN {nw:List (List Nat)} {X:Nat->Bool} {n:Nat} (hlt:∀ j,j<n->∀ e∈nw.getD j [],e<j) (hX:∀ k,k<n->X k=true->∀ e∈nw.getD k [],X e=true) :
   ∀ j,j<n->(∀ e∈nw.getD j [],X e=true)->∀ b,((jc nw []).getD j 0).testBit b=true->X b=true:=by
 intro j
 induction j using Nat.strongRecOn with
 | _ j ih =>
   intro hj he b hb
   obtain ⟨e,he1,h⟩:=NU (hlt j hj) hb
   have hej:=hlt j hj e he1
   rcases h with rfl | h
   . exact he b he1
   . exact ih e hej (by omega) (hX e (by omega) (he e he1)) b h
theorem gj.map_congr {α β : Type} {g h : α -> β}:∀ (op:gj α),(∀ x∈op.args,g x=h x)->op.map g=op.map h:=by
 intro op hx
 have hl:∀ (l:List α),(∀ x∈l,x∈op.args)->l.map g=l.map h:=fun l hl=>List.map_congr_left fun x NL=>hx x (hl x NL)
 have ho:∀ (l:Option α),(∀ x,l=some x->x∈op.args)->l.map g=l.map h:=by
   intro l hl;cases l with
   | none=>rfl
   | some x=>simp [hx x (hl x rfl)]
 cases op<;>simp only [gj.map,gj.args] at hx hl ho ⊢
 case build z ps=>congr 1;apply List.map_congr_left;intro q hq;rw [hx q.2.2 (List.mem_map.2 ⟨q,hq,rfl⟩)]
 case buildSl k n z ps=>congr 1;apply List.map_congr_left;intro q hq;rw [hx q.2 (List.mem_map.2 ⟨q,hq,rfl⟩)]
 case mkfn fn a c=>rw [hl a (by simp +contextual),hl c (by simp +contextual)]
 case call f as=>rw [hx f (by simp),hl as (by simp +contextual)]
 case slice k x lo hi mx=>rw [hx x (by simp),ho lo (by simp +contextual),ho hi (by simp +contextual),ho mx (by simp +contextual)]
 case sliceS x lo hi=>rw [hx x (by simp),ho lo (by simp +contextual),ho hi (by simp +contextual)]
 case sliceA n x lo hi=>rw [hx x (by simp),ho lo (by simp +contextual),ho hi (by simp +contextual)]
 all_goals try simp only [List.mem_cons,List.not_mem_nil,or_false,forall_eq_or_imp,forall_eq] at hx
 all_goals simp only [hx]
theorem Qi {G:Nat->Option (List AV)} {t t':List AV}:∀ (x:aO),(∀ s,x.Z6=some s->t[s]? = t'[s]?)->x.ev G t=x.ev G t'
 | .t n,h=>by have:=h n rfl;simp [aO.ev,List.getD,this]
 | .c _,_=>rfl
 | .g _,_=>rfl
 | .f _,_=>rfl
theorem pU {σ σ':aa} {k:Nat} {x:AV} {ys:List AV} {rd:List Id} (h:dB σ k x=some (ys,rd)) (hr:∀ id∈rd, σ' id = σ id):dB σ' k x=some (ys,rd):=by
 unfold dB at h ⊢
 split at h
 . exact h
 . exact h
 . exact h
 . rename_i id k' off len t
   skip
   split at h
   . rename_i bk hb
     split at h
     . rename_i hh
       simp only [Option.some.injEq,Prod.mk.injEq] at h
       obtain ⟨rfl,rfl⟩:=h
       have:=hr id (by simp)
       rw [this,hb]
       simp [hh]
     . simp at h
   . simp at h
 . simp at h
theorem G8 {σ : aa} {id:Id} {off k:Nat} {news:List AV} {v:AV} {rd:List Id} {r:eB} (h:sC σ id off k news v rd=some r):r.rd=id::rd:=by
 unfold sC at h
 split at h
 . split at h
   . simp only [Option.some.injEq] at h;subst h;rfl
   . simp at h
 . simp at h
theorem zO {σ σ':aa} {id:Id} {off k:Nat} {news:List AV} {v:AV} {rd:List Id} {r:eB} (h:sC σ id off k news v rd=some r) (hr:∀ id∈r.rd, σ' id = σ id):sC σ' id off k news v rd=some r:=by
 have J0:=G8 h
 unfold sC at h ⊢
 rw [hr id (by rw [J0];simp)]
 exact h
theorem NV {σ σ':aa} {p:Id} {op:gj AV} {r:eB} (h:bu σ p op=some r) (hr:∀ id∈r.rd, σ' id = σ id):bu σ' p op=some r:=by
 cases op with
 | load agg n x =>
   simp only [bu] at h ⊢
   unfold fX at h ⊢
   split at h
   . rename_i id e o
     skip
     cases hb : σ id with
     | none=>simp [hb] at h
     | some bk =>
       simp only [hb] at h
       cases he:bk.els[e]? with
       | none=>simp [he] at h
       | some el =>
         simp only [he,Option.map_eq_some_iff] at h
         obtain ⟨v,hv,rfl⟩:=h
         rw [hr id (by simp),hb]
         simp [he,hv]
   . exact h
   . simp at h
 | store n x v =>
   simp only [bu] at h ⊢
   unfold eO at h ⊢
   split at h
   . rename_i id e o
     skip
     cases hb : σ id with
     | none=>simp [hb] at h
     | some bk =>
       simp only [hb] at h
       cases he:bk.els[e]? with
       | none=>simp [he] at h
       | some el =>
         simp only [he] at h
         split at h
         . rename_i hh
           simp only [Option.some.injEq] at h;subst h
           rw [hr id (by simp),hb]
           simp [he,hh]
         . simp at h
   . simp at h
 | append k bytes s x =>
   simp only [bu] at h ⊢
   unfold bQ at h ⊢
   cases pM:dB σ k x with
   | none=>simp [pM] at h
   | some q =>
     obtain ⟨ys,rd⟩:=q
     simp only [pM] at h
     have vO : ∀ id∈rd,id∈r.rd:=by
       intro id hid
       split at h
       . split at h<;>first | (simp only [Option.some.injEq] at h;subst h;exact hid) | simp at h
       . split at h
         . split at h<;>first | (simp only [Option.some.injEq] at h;subst h;exact hid) | simp at h
         . split at h<;>first | (simp only [Option.some.injEq] at h;subst h;exact hid) | simp at h
         . split at h
           . split at h
             . split at h
               . split at h<;>first | (simp only [Option.some.injEq] at h;subst h;exact List.mem_cons_of_mem _ hid) | (simp at h;done)
               . split at h<;>first | (simp only [Option.some.injEq] at h;subst h;exact List.mem_cons_of_mem _ hid) | (split at h<;>first | (simp only [Option.some.injEq] at h;subst h;exact List.mem_cons_of_mem _ hid) | (simp at h;done))
             . simp at h
           . simp at h
         . simp at h
     rw [pU pM (fun id hid=>hr id (vO id hid))]
     simp only []
     split at h
     . rename_i J9
       rw [if_pos J9];exact h
     . rename_i J9
       rw [if_neg J9]
       split at h
       . exact h
       . exact h
       . rename_i id k' off len t
         skip
         cases hb : σ id with
         | none=>simp [hb] at h
         | some bk =>
           simp only [hb] at h
           have hid:id∈r.rd:=by
             split at h
             . split at h
               . split at h<;>first | (simp only [Option.some.injEq] at h;subst h;simp;done) | (simp at h;done)
               . split at h<;>first | (simp only [Option.some.injEq] at h;subst h;simp;done) | (split at h<;>first | (simp only [Option.some.injEq] at h;subst h;simp;done) | (simp at h;done))
             . simp at h
           rw [hr id hid,hb]
           exact h
       . simp at h
 | bytesStr x =>
   simp only [bu] at h ⊢
   unfold lq at h ⊢
   cases pM:dB σ 1 x with
   | none=>simp [pM] at h
   | some q =>
     obtain ⟨ys,rd⟩:=q
     simp only [pM,Option.map_eq_some_iff] at h
     obtain ⟨l,hl,rfl⟩:=h
     rw [pU pM hr]
     simp [hl]
 | slice k x lo hi mx =>
   simp only [bu] at h ⊢
   cases hs:bR k x lo hi mx with
   | some v=>rw [hs] at h;exact h
   | none =>
     rw [hs] at h
     simp only [jW] at h ⊢
     split at h
     . rename_i id k' off len hh
       cases hb : σ id with
       | none=>simp [hb] at h
       | some bk =>
         simp only [hb] at h
         split at h
         . rename_i hc
           simp only [Option.map_eq_some_iff] at h
           obtain ⟨v,hv,rfl⟩:=h
           rw [hr id (by simp),hb]
           simp [hc,hv]
         . simp at h
     . exact h
     . simp at h
 | sliceA n x lo hi =>
   simp only [bu] at h ⊢
   unfold AO at h ⊢
   split at h
   . rename_i id e
     cases hb : σ id with
     | none=>simp [hb] at h
     | some bk =>
       have J0:id∈r.rd:=by
         simp only [hb] at h
         cases pM:bk.els[e]? with
         | none=>simp [pM] at h
         | some el =>
           simp only [pM] at h
           cases vM:cm n lo hi with
           | none=>simp [vM] at h
           | some q =>
             obtain ⟨l,r'⟩:=q
             simp only [vM] at h
             split at h
             . simp only [Option.some.injEq] at h;subst h;simp
             . simp at h
       simp only [hr id J0]
       exact h
   . simp at h
 | cap x =>
   simp only [bu] at h ⊢
   cases hs:NB x with
   | some v=>rw [hs] at h;exact h
   | none =>
     rw [hs] at h
     simp only [wR] at h ⊢
     split at h
     . rename_i id k' off len
       cases hb : σ id with
       | none=>simp [hb] at h
       | some bk =>
         simp only [hb] at h
         split at h
         . rename_i hc
           simp only [Option.some.injEq] at h;subst h
           rw [hr id (by simp),hb]
           simp [hc]
         . simp at h
     . simp at h
 | ovl x y =>
   simp only [bu] at h ⊢
   unfold GU at h ⊢
   split at h
   . rename_i i1 _ _ _ _ i2 _ _ _ _
     split at h
     . simp at h
     . rename_i hne
       cases h1 : σ i1 with
       | none=>simp [h1] at h
       | some b1 =>
         cases h2 : σ i2 with
         | none=>simp [h1,h2] at h
         | some b2 =>
           simp only [h1,h2] at h
           split at h
           . rename_i hp
             simp only [Option.some.injEq] at h;subst h
             simp only [hr i1 (by simp),hr i2 (by simp),h1,h2]
             rw [if_neg hne,if_pos hp]
           . simp at h
   . simp at h
 | clear k z x =>
   simp only [bu] at h ⊢
   unfold vL at h ⊢
   split at h
   . exact h
   . rename_i id k' off len tt
     split at h
     . rename_i h0;simp only [h0,if_true];exact h
     . rename_i h0
       simp only [h0,if_false]
       split at h
       . rename_i hh;rw [if_pos hh];exact zO h hr
       . simp at h
   . simp at h
 | copy k d x =>
   simp only [bu] at h ⊢
   unfold wQ at h ⊢
   cases pM:dB σ k x with
   | none=>simp [pM] at h
   | some q =>
     obtain ⟨ys,rd⟩:=q
     simp only [pM] at h
     have vO:∀ id∈rd,id∈r.rd:=by
       intro id hid
       split at h
       . simp only [Option.some.injEq] at h;subst h;exact hid
       . split at h
         . simp only [Option.some.injEq] at h;subst h;exact hid
         . split at h
           . have:=G8 h;rw [this];exact List.mem_cons_of_mem _ hid
           . simp at h
       . simp at h
     rw [pU pM (fun id hid=>hr id (vO id hid))]
     simp only []
     split at h
     . exact h
     . split at h
       . rename_i h0;rw [if_pos h0];exact h
       . rename_i h0
         rw [if_neg h0]
         split at h
         . rename_i hk;rw [if_pos hk];exact zO h hr
         . simp at h
     . simp at h
 | _=>exact h
theorem Dn {P:Program} {G:Nat->Option (List AV)} {σ σ':aa} {p:Id} {op:gj AV} {r:eB} (h:je P G σ p op r) (hr:∀ id∈r.rd, σ' id = σ id):je P G σ' p op r:=by
 cases op with
 | call f as =>
   simp only [je] at h ⊢
   split at h
   . obtain ⟨S,h1,h2,h3⟩:=h
     exact ⟨S,h1,fun x hx=>by rw [hr _ (h3 x hx)];exact h2 x hx,h3⟩
   . exact h
 | _=>exact NV h hr
theorem nV {oc:Option AV} {r:eB} (h:bo oc=some r):r.rd=[]/\r.up=[]:=by
 cases oc with
 | none=>simp [bo] at h
 | some c=>simp only [bo,Option.map_some,Option.some.injEq] at h;subst h;exact ⟨rfl,rfl⟩
theorem NW {P:Program} {G:Nat->Option (List AV)} {σ : aa} {p:Id} {op:gj aO} (hp:op.pure=true) {t:List AV} {r:eB} (h:je P G σ p (op.map (aO.ev G t)) r):r.rd=[]/\r.up=[]:=by
 cases op<;>simp only [gj.pure,Bool.false_eq_true] at hp<;>simp only [gj.map,je,bu] at h
 all_goals first
   | exact nV h
   | (simp at h;done)
   | (split at h<;>first | exact nV h | (simp at h;done) | (split at h<;>first | exact nV h | (simp at h;done)))
theorem NY {P:Program} {G:Nat->Option (List AV)} {σ : aa} {p:Id} {op:gj aO} (hp:op.pP=true) {t:List AV} {r:eB} (h:je P G σ p (op.map (aO.ev G t)) r):r.up=[]:=by
 cases op<;>simp only [gj.pP,Bool.false_eq_true] at hp
 case bytesStr =>
   simp only [gj.map,je,bu] at h
   unfold lq at h
   split at h
   . simp only [Option.map_eq_some_iff] at h;obtain ⟨v,_,rfl⟩:=h;rfl
   . simp at h
 case ovl =>
   simp only [gj.map,je,bu] at h
   unfold GU at h
   split at h
   . split at h
     . simp at h
     . split at h
       . split at h
         . simp only [Option.some.injEq] at h;subst h;rfl
         . simp at h
       . simp at h
   . simp at h
 case slice =>
   simp only [gj.map,je,bu] at h
   unfold jW at h
   split at h
   . exact (nV h).2
   . split at h
     . split at h
       . split at h
         . simp only [Option.map_eq_some_iff] at h;obtain ⟨v,_,rfl⟩:=h;rfl
         . simp at h
       . simp at h
     . split at h
       . split at h
         . split at h
           . simp only [Option.some.injEq] at h;subst h;rfl
           . simp at h
         . simp at h
       . simp at h
     . simp at h
 case cap =>
   simp only [gj.map,je,bu] at h
   unfold wR at h
   split at h
   . exact (nV h).2
   . split at h
     . split at h
       . split at h
         . simp only [Option.some.injEq] at h;subst h;rfl
         . simp at h
       . simp at h
     . simp at h
 simp only [gj.map,je,bu] at h
 unfold fX at h
 split at h
 . split at h
   . split at h
     . simp only [Option.map_eq_some_iff] at h;obtain ⟨v,_,rfl⟩:=h;rfl
     . simp at h
   . simp at h
 . simp only [Option.map_eq_some_iff] at h;obtain ⟨v,_,rfl⟩:=h;rfl
 . simp at h
end Go.VL
