/- For the claim of FeatureFillet: parts VL9, VL2S, VL10, VL11, VL12, VL13. -/
import Derived.Test.YtndoagbiakehnaaGreatC01
import Derived.Lib.AppendZeros
import Derived.Laws.BytesArg
import Derived.Laws.Externs
import Derived.Lib.Bytealg
import Derived.Lib.Overlaps
import Derived.Orders
set_option linter.unusedSimpArgs false
set_option linter.unusedVariables false
section
namespace Go.VL
section
variable {P:Program} {G:Nat->Option (List AV)} {own:Nat->Prop} {E:Env} {w:World} {σ : ae} {p:Id}
theorem ud {len l r:Nat} {lo hi:Option AV} (hb:et len lo hi=some (l,r)):iI len len hi=some r/\iI 0 r lo=some l:=by
 unfold et at hb
 split at hb
 . simp at hb
 . rename_i h1 e1
   split at hb
   . simp at hb
   . rename_i l1 e2
     simp only [Option.some.injEq,Prod.mk.injEq] at hb
     obtain ⟨rfl,rfl⟩:=hb
     exact ⟨e1,e2⟩
theorem AD (s:List UInt8) (l r:Nat):(ByteArray.mk s.toArray).extract l r=⟨((s.take r).drop l).toArray⟩:=by
 apply ByteArray.ext
 rw [ByteArray.data_extract]
 apply Array.ext'
 simp [List.extract_eq_take_drop,List.drop_take]
theorem AE (hi:Inv G own E w σ) {t:TypeId} (hu:P.underlying t=some .string) {x:AV} {v:Value} (hx:aG E w x v)
   {lo kN:Option AV} {Hl En:Option Value} (qg:jl E w lo Hl) (vP:jl E w kN En) {c:AV} (h:pj x lo kN=some c):Sound P G own E w σ p (Instr.sliceAt t v Hl En none) { val:=c }:=by
 unfold pj at h
 split at h
 . rename_i s
   simp only [aG] at hx;subst hx
   split at h
   . rename_i l r hb
     obtain ⟨tV,rp⟩:=ud hb
     simp only [Option.some.injEq] at h;subst h
     obtain ⟨pZ,qh,Hm⟩:=fH (P:=P) (isSlice:=false) (mx:=none) (vmx:=none) (m:=s.length) qg vP trivial (Nat.le_refl _) tV rp (.inl ⟨rfl,rfl⟩)
     refine Sound.same (v := .string ⟨((s.take r).drop l).toArray⟩) hi ?_ (by simp [aG])
     have hsz:(ByteArray.mk s.toArray).size=s.length:=by simp [ByteArray.size]
     simp [Instr.sliceAt,Instr.slice,run_underlying hu,hsz,pZ,AD]
   . simp at h
 . simp at h
theorem CJ {b o k:Nat} {es:List AV} (hk:∀ e∈es,e.size=k) (h:aX E w b o es) {i:Nat} {e:AV} (he:es[i]? = some e):aZ E w b (o+i*k) e.cells :=
 dK.2 (yx hk (dw.1 h) he)
theorem CK (hi:Inv G own E w σ) {t e:TypeId} {i:TypeInfo} (hu:P.underlying t=some (.slice e)) (cL:P.info? e=some i) {x j:AV} {v u:Value} (hx:aG E w x v) (hj:aG E w j u) {c:AV}
   (h:bG i.size x j=some c):Sound P G own E w σ p (Instr.indexAt t v u) { val:=c }:=by
 have hrun:∀ (a:Addr) (len cap:Nat) (k:IntKind) (n:Int),0<=n->n<len->(Instr.indexAt t (.slice (some a) len cap) (.int k n)).run P w = .ok (.pointer (some (a.add (n.toNat*i.size)))) w:=by
   intro a len cap k n h0 h1
   simp [Instr.indexAt,run_underlying hu,asIntOf,h0,h1,dE cL]
 unfold bG at h
 split at h
 . rename_i kk n
   simp only [aG] at hj;subst hj
   have row:∀ {es:List AV} {a:Option Addr} {cap:Nat},(∀ e∈es,e.size=i.size)->(es=[]∨∃ b o,a=some ⟨b,o,none⟩/\E.ok b/\aX E w b o es)->0<=n ->
       (es[n.toNat]?).map (fun e=>AV.ep e.cells 0)=some c->Sound P G own E w σ p (Instr.indexAt t (.slice a es.length cap) (.int kk n)) { val:=c }:=by
     intro es a cap hk po h0 h
     simp only [Option.map_eq_some_iff] at h
     obtain ⟨el,qf,rfl⟩:=h
     have hlt:n.toNat<es.length:=(List.getElem?_eq_some_iff.1 qf).1
     rcases po with rfl | ⟨b,o,rfl,hb,hr⟩
     . simp at hlt
     . refine Sound.same hi (hrun _ _ cap kk n h0 (by omega)) ?_
       rw [Addr.add_lit]
       simp only [aG]
       exact ⟨b,o+n.toNat*i.size,by simp,hb,CJ hk hr qf⟩
   split at h
   . rename_i k' es
     simp only [aG] at hx
     obtain ⟨a,cap,rfl,_,_,hk,po⟩:=hx
     split at h
     . rename_i hh
       obtain ⟨rfl,h0⟩:=hh
       exact row hk po h0 h
     . simp at h
   . rename_i k' es
     simp only [aG] at hx
     obtain ⟨a,rfl,_,hk,po⟩:=hx
     split at h
     . rename_i hh
       obtain ⟨rfl,h0⟩:=hh
       exact row hk po h0 h
     . simp at h
   . rename_i id k' off len tt
     simp only [aG] at hx
     obtain ⟨g,N,cap,hm,rfl,_⟩:=hx
     split at h
     . rename_i hh
       obtain ⟨rfl,h0,h1⟩:=hh
       simp only [Option.some.injEq] at h;subst h
       refine Sound.same hi (hrun _ _ cap kk n h0 h1) ?_
       rw [Addr.add_lit]
       simp only [aG]
       exact ⟨g,i.size,N,hm,by simp [Nat.add_mul]⟩
     . simp at h
   . simp at h
 . simp at h
theorem CL (hi:Inv G own E w σ) {t e:TypeId} {n:Nat} {i:TypeInfo} (hu:P.underlying t=some (.array n e)) (cL:P.info? e=some i) {x j:AV} {v u:Value} (hx:aG E w x v) (hj:aG E w j u) {c:AV}
   (h:j6 n i.size x j=some c):Sound P G own E w σ p (Instr.indexAt t v u) { val:=c }:=by
 unfold j6 at h
 split at h
 . rename_i kk m
   simp only [aG] at hj;subst hj
   split at h
   . rename_i hh
     have hrun:∀ a:Addr,(Instr.indexAt t (.pointer (some a)) (.int kk m)).run P w = .ok (.pointer (some (a.add (m.toNat*i.size)))) w:=by
       intro a
       simp [Instr.indexAt,run_underlying hu,asIntOf,hh,dE cL,Instr.sureAddr]
     split at h
     . simp only [Option.some.injEq] at h;subst h
       simp only [aG] at hx
       obtain ⟨g,k,N,hm,rfl⟩:=hx
       refine Sound.same hi (hrun _) ?_
       rw [Addr.add_lit]
       simp only [aG]
       exact ⟨g,k,N,hm,by simp [Nat.add_assoc]⟩
     . simp only [Option.some.injEq] at h;subst h
       simp only [aG] at hx
       obtain ⟨b,q,rfl,hb,hr⟩:=hx
       refine Sound.same hi (hrun _) ?_
       rw [Addr.add_lit]
       simp only [aG]
       exact ⟨b,q,by simp [Nat.add_assoc],hb,hr⟩
     . simp at h
   . simp at h
 . simp at h
theorem Eo (hi:Inv G own E w σ) {s:TypeId} {fs:Array Field} {f:Nat} {fd:Field} {i:TypeInfo} (hu:P.underlying s=some (.struct fs)) (hf:fs[f]? = some fd) (cL:P.info? fd.type=some i) (h0:i.size≠0)
   {x:AV} {v:Value} (hx:aG E w x v) {r:dH} (h:bu σ p (.faddr fd.offset x)=some r):Sound P G own E w σ p (Instr.fieldAt s v f) r:=by
 have hrun:∀ a:Addr,(Instr.fieldAt s (.pointer (some a)) f).run P w = .ok (.pointer (some (a.add fd.offset))) w:=by
   intro a
   simp [Instr.fieldAt,run_underlying hu,hf,Instr.sureAddr,fieldPlace,dE cL,h0]
 simp only [bu] at h
 split at h
 . simp only [bd,Option.map_some,Option.some.injEq] at h;subst h
   simp only [aG] at hx
   obtain ⟨g,k,N,hm,rfl⟩:=hx
   refine Sound.same hi (hrun _) ?_
   rw [Addr.add_lit]
   simp only [aG]
   exact ⟨g,k,N,hm,by simp [Nat.add_assoc]⟩
 . simp only [bd,Option.map_some,Option.some.injEq] at h;subst h
   simp only [aG] at hx
   obtain ⟨b,q,rfl,hb,hr⟩:=hx
   refine Sound.same hi (hrun _) ?_
   rw [Addr.add_lit]
   simp only [aG]
   exact ⟨b,q,by simp [Nat.add_assoc],hb,hr⟩
 . simp at h
theorem Ep {t:TypeId} {agg:Bool} {i:TypeInfo} (ha:kM P t=some agg) (cL:P.info? t=some i) {cs:List AV} {xs:Array Value} (hr:aK E w cs xs.toList) {o:Nat} {c:AV} (h:VL.part agg cs o i.size=some c) :
   ∃ v,(Go.part t xs o).run P w = .ok v w/\aG E w c v:=by
 obtain ⟨h1,h2,h3⟩:=NR h hr
 refine ⟨_, ?_,h1⟩
 cases agg with
 | true=>simp [Go.part,pk ha,dE cL]
 | false =>
   have h1':=h3 rfl
   have:o<xs.size:=by omega
   simp [Go.part,pk ha,this]
theorem rq (hi:Inv G own E w σ) {k:Nat} {x:AV} {v:Value} (hx:aG E w x v) {ys:List AV} {rd:List Id} (h:er σ k x=some (ys,rd)) :
   (∀ e∈ys,e.size=k)/\∃ a cap,v = .slice a ys.length cap/\ys.length<=cap/\(ys=[]∨∃ b o,a=some ⟨b,o,none⟩/\dC E w b o (flat ys)):=by
 unfold er at h
 split at h
 . simp only [Option.some.injEq,Prod.mk.injEq] at h
   obtain ⟨rfl,rfl⟩:=h
   simp only [aG] at hx;subst hx
   exact ⟨by simp,none,0,rfl,Nat.le_refl _, .inl rfl⟩
 . rename_i k' es
   split at h
   . rename_i hk
     simp only [Option.some.injEq,Prod.mk.injEq] at h
     obtain ⟨rfl,rfl⟩:=h
     subst hk
     simp only [aG] at hx
     obtain ⟨a,cap,rfl,hl,_,hk,po⟩:=hx
     exact ⟨hk,a,cap,rfl,hl,po.imp id fun ⟨b,o,e,_,r⟩=>⟨b,o,e,dw.1 r⟩⟩
   . simp at h
 . rename_i k' es
   split at h
   . rename_i hk
     simp only [Option.some.injEq,Prod.mk.injEq] at h
     obtain ⟨rfl,rfl⟩:=h
     subst hk
     simp only [aG] at hx
     obtain ⟨a,rfl,_,hk,po⟩:=hx
     exact ⟨hk,a,_,rfl,Nat.le_refl _,po.imp id fun ⟨b,o,e,_,r⟩=>⟨b,o,e,dw.1 r⟩⟩
   . simp at h
 . rename_i id k' off len tt
   split at h
   . rename_i bk hσ
     split at h
     . rename_i hh
       obtain ⟨rfl,HD,hle⟩:=hh
       simp only [Option.some.injEq,Prod.mk.injEq] at h
       obtain ⟨rfl,rfl⟩:=h
       obtain ⟨g,N,cur,ty,hB⟩:=hi.blk id bk hσ
       simp only [aG] at hx
       obtain ⟨g',N',cap,hm,rfl,Ee,_⟩:=hx
       rw [hB.μ] at hm
       simp only [Option.some.injEq,Prod.mk.injEq] at hm
       obtain ⟨rfl,_,rfl⟩:=hm
       have CI:∀ e∈(bk.els.drop off).take len,e.size=k':=fun e he=>by rw [<- HD];exact hB.k e (List.mem_of_mem_drop (List.mem_of_mem_take he))
       have hlen:((bk.els.drop off).take len).length=len:=by simp;omega
       refine ⟨CI,some ⟨g,off*k',none⟩,cap,by rw [hlen],by omega, .inr ⟨g,off*k',rfl, ?_⟩⟩
       have:=lW (l:=off) (r:=off+len) hB.k hB.row (by omega) hle
       rw [Nat.zero_add,HD] at this
       have e:(bk.els.take (off+len)).drop off=(bk.els.drop off).take len:=by rw [List.drop_take];congr 1;omega
       rwa [e] at this
     . simp at h
   . simp at h
 . simp at h
theorem CM {b o:Nat} {cs:List AV} (h:dC E w b o cs):∃ vs:List Value,aK E w cs vs/\∀ j v,vs[j]? = some v->w.cell? ((⟨b,o,none⟩:Addr).add j)=some v:=by
 refine ⟨(List.range cs.length).map fun j=>(w.cell? ⟨b,o+j,none⟩).getD undef,bz.2 ⟨by simp,fun j c hj => ?_⟩,fun j v hj => ?_⟩
 . obtain ⟨v,hv,hr⟩:=h j c hj
   have hlt:j<cs.length:=(List.getElem?_eq_some_iff.1 hj).1
   exact ⟨v,by simp [hlt,hv],hr⟩
 . have hlt:j<cs.length:=by have:=(List.getElem?_eq_some_iff.1 hj).1;simpa using this
   obtain ⟨v',hv',_⟩:=h j cs[j] (by simp [hlt])
   simp only [List.getElem?_map,hlt,List.getElem?_range,Option.map_some,Option.some.injEq] at hj
   rw [Addr.add_lit,hv', <- hj,hv']
   rfl
theorem yI {cs:List AV} {vs:List Value} (h:aK E w cs vs) (h1:∀ c∈cs,c.one=true):∀ v∈vs,v.oneCell'=true:=by
 intro v hv
 obtain ⟨j,hj⟩:=List.mem_iff_getElem?.1 hv
 obtain ⟨hl,hp⟩:=bz.1 h
 have qu:j<cs.length:=by have:=(List.getElem?_eq_some_iff.1 hj).1;omega
 obtain ⟨u,hu,hru⟩:=hp j cs[j] (by simp [qu])
 have:u=v:=by rw [hj] at hu;simpa using hu.symm
 subst this
 exact aG.one hru (h1 _ (by simp))
theorem ue (hi:Inv G own E w σ) (hμ : E.μ p=none) (hσ : σ p=none) {k n N:Nat} {els:List AV} (hk:∀ e∈els,e.size=k) (hn:els.length=n) {vs:List Value} (hv:aK E w (flat els) vs)
   {rest:Array Value} (hr:rest.size=(N-n)*k) (hnN:n<=N) (hN:N<=maxLen) (ty:TypeId) {rd:List Id} :
   iJ G own E w σ p { val := .osl p k 0 n false,rd:=rd,up:=[(p,some ⟨els,k,false⟩)] } (.slice (some ⟨w.heap.size,0,none⟩) n N) (E.bind p w.heap.size k N) (w.drew.alloc (.cells (vs.toArray++rest) ty)):=by
 have hd:=hi.drew
 obtain ⟨hl,hp⟩:=bz.1 hv
 have yz:=b9 hk
 have hstep:Step E E w w.drew:=(Adv.drew (own:=own) E w).step
 have hlen:(vs++rest.toList).length=N*k:=by
   simp only [List.length_append,Array.length_toList,hl,yz,hn,hr, <- Nat.add_mul]
   congr 1;omega
 have:=rk (p:=p) (rd:=rd) hd hμ hσ (els:=els) (k:=k) (N:=N) (vs:=vs++rest.toList) ty hk
   (fun j c hj=>by
     obtain ⟨v,kL,qe⟩:=hp j c hj
     exact ⟨v,by rw [List.getElem?_append_left (List.getElem?_eq_some_iff.1 kL).1];exact kL,aG.keep hstep c v qe⟩) hlen (by omega) hN
   (c := .osl p k 0 n false) (v := .slice (some ⟨w.heap.size,0,none⟩) n N)
   (by simp only [aG];exact ⟨w.heap.size,N,N,Env.gG _ _ _ _ _,by simp,hnN,by omega,hN,by simp⟩)
 have he:(vs++rest.toList).toArray=vs.toArray++rest:=by apply Array.ext';simp
 rw [he] at this
 exact ⟨(Adv.drew E w).trans this.Au,this.inv,this.rep,this.ids⟩
theorem SF (hi:Inv G own E w σ) (id:Id):Inv G own E w (σ.put id none) where
 okb:=hi.okb
 blk:=fun i bk h=>by
   by_cases e:i=id
   . subst e;simp [ae.put] at h
   . rw [ae.b8 _ _ _ e] at h;exact hi.blk i bk h
 inj:=fun i j x y hx hy hne h1 h2=>by
   have ei:i≠id:=by rintro rfl;simp [ae.put] at hx
   have ej:j≠id:=by rintro rfl;simp [ae.put] at hy
   rw [ae.b8 _ _ _ ei] at hx
   rw [ae.b8 _ _ _ ej] at hy
   exact hi.inj i j x y hx hy hne h1 h2
 glob:=hi.glob
 new:=hi.new
end
end Go.VL
end

section
namespace Go.VL
theorem vS {k:Nat}:∀ {es:List AV} {n:Nat},(∀ x∈es,x.size=k)->flat (es.take n)=(flat es).take (n*k)
 | [],n,_=>by simp [flat]
 | x::es,0,_=>by simp [flat]
 | x::es,n+1,h=>by
   have hx:x.cells.length=k:=h x (by simp)
   have ih:=vS (es:=es) (n:=n) (fun y hy=>h y (by simp [hy]))
   have hf:flat (x::es)=x.cells++flat es:=by simp [flat]
   have Sw:flat ((x::es).take (n+1))=x.cells++flat (es.take n):=by simp [flat]
   rw [hf,Sw,ih,show (n+1)*k=x.cells.length+n*k from by rw [hx,Nat.add_mul];omega,List.take_length_add_append]
theorem Bk {k:Nat}:∀ {es:List AV} {n:Nat},(∀ x∈es,x.size=k)->flat (es.drop n)=(flat es).drop (n*k)
 | [],n,_=>by simp [flat]
 | x::es,0,_=>by simp
 | x::es,n+1,h=>by
   have hx:x.cells.length=k:=h x (by simp)
   have ih:=Bk (es:=es) (n:=n) (fun y hy=>h y (by simp [hy]))
   have hf:flat (x::es)=x.cells++flat es:=by simp [flat]
   rw [List.drop_succ_cons,ih,hf,show (n+1)*k=x.cells.length+n*k from by rw [hx,Nat.add_mul];omega,List.drop_length_add_append]
theorem wV {G:Nat->Option (List AV)} {own:Nat->Prop} {E:Env} {w:World} {σ : ae} (h:Inv G own E w σ) {id:Id} {bk:cN} (hσ : σ id=some bk) (Aq:bk.fr=false)
   {g N:Nat} {cur:Array Value} {ty:TypeId} (hB:pY E own w id bk g N cur ty)
   {e:Nat} {news:List AV} {vs:List Value} (hle:e+news.length<=bk.els.length) (hk:∀ x∈news,x.size=bk.k) (hv:aK E w (flat news) vs) :
   e*bk.k+vs.length<=cur.size /\
   Adv own E E w (w.setRow g (cur.toList.take (e*bk.k)++vs++cur.toList.drop (e*bk.k+vs.length)).toArray) /\
   Inv G own E (w.setRow g (cur.toList.take (e*bk.k)++vs++cur.toList.drop (e*bk.k+vs.length)).toArray) (σ.put id (some { bk with els:=bk.els.take e++news++bk.els.drop (e+news.length) })):=by
 obtain ⟨nw,hvp⟩:=bz.1 hv
 have Ly:=b9 hk
 have hbound:e*bk.k+vs.length<=cur.size:=by
   rw [hB.size,nw,Ly, <- Nat.add_mul]
   exact Nat.mul_le_mul_right _ (by have:=hB.len;omega)
 refine ⟨hbound, ?_⟩
 generalize Sx:(cur.toList.take (e*bk.k)++vs++cur.toList.drop (e*bk.k+vs.length)).toArray=nv
 have hg:=eS hB.heap
 have vK:(w.setRow g nv).heap[g]? = some (.cells nv ty (0,0)):=setRow_heap w g cur nv ty _ hB.heap
 have hs:Step E E w (w.setRow g nv):=⟨fun _ _ h=>h,fun _ h=>h,fun b hb=>setRow_other w g b nv (fun e=>hB.no Aq (e▸hb))⟩
 have gu:Adv own E E w (w.setRow g nv) :=
   ⟨hs,rfl,rfl,rfl,by simp,fun k _ hk=>setRow_other w g k nv (fun e=>hk (e▸hB.own)),fun _ h => .inl h⟩
 refine ⟨gu, ?_, ?_, ?_, ?_, ?_⟩
 . intro b hb;simpa using h.okb b hb
 . intro i bk' hi
   by_cases cL:i=id
   . subst cL
     rw [ae.dG] at hi
     simp only [Option.some.injEq] at hi
     subst hi
     have Er:(bk.els.take e++news++bk.els.drop (e+news.length)).length=bk.els.length:=by simp;omega
     have abj:∀ x∈bk.els.take e++news++bk.els.drop (e+news.length),x.size=bk.k:=by
       intro x hx
       simp only [List.append_assoc,List.mem_append] at hx
       rcases hx with hx | hx | hx
       . exact hB.k x (List.mem_of_mem_take hx)
       . exact hk x hx
       . exact hB.k x (List.mem_of_mem_drop hx)
     refine ⟨g,N,nv,ty,hB.μ,vK, ?_,by rw [Er];exact hB.len,hB.most,hB.own,by simp [Aq],hB.no,abj, ?_⟩
     . rw [<- Sx]
       simp only [List.size_toArray,List.length_append,List.length_take,List.length_drop,Array.length_toList]
       rw [<- hB.size];omega
     . show dC E (w.setRow g nv) g 0 (flat (bk.els.take e++news++bk.els.drop (e+news.length)))
       rw [jP,jP,vS hB.k,Bk hB.k]
       have hlen:(flat bk.els).length=bk.els.length*bk.k:=b9 hB.k
       have hcz:bk.els.length*bk.k<=cur.size:=by rw [hB.size];exact Nat.mul_le_mul_right _ hB.len
       have hmul:(e+news.length)*bk.k<=bk.els.length*bk.k:=Nat.mul_le_mul_right _ hle
       rw [Nat.add_mul] at hmul
       intro j c hj
       have hcell:(w.setRow g nv).cell? ⟨g,0+j,none⟩=nv[j]? := by rw [Nat.zero_add];exact cell_of_row _ _ _ _ _ _ vK
       rw [hcell]
       suffices Xb:∃ v,nv[j]? = some v/\aG E w c v by
         obtain ⟨v,kL,qe⟩:=Xb;exact ⟨v,kL,aG.keep hs c v qe⟩
       rw [<- Sx]
       have hold:∀ (j:Nat) (c:AV),(flat bk.els)[j]? = some c->∃ v:Value,cur[j]? = some v/\aG E w c v:=by
         intro j c hj
         obtain ⟨v,kL,qe⟩:=hB.row j c hj
         rw [Nat.zero_add,cell_of_row _ _ _ _ _ _ hB.heap] at kL
         exact ⟨v,kL,qe⟩
       simp only [List.getElem?_toArray]
       have ha:(cur.toList.take (e*bk.k)).length=e*bk.k:=by simp;omega
       have hb:((flat bk.els).take (e*bk.k)).length=e*bk.k:=by simp;omega
       rw [List.append_assoc] at hj ⊢
       by_cases c1:j<e*bk.k
       . rw [List.getElem?_append_left (by omega),List.getElem?_take_of_lt c1] at hj
         rw [List.getElem?_append_left (by omega),List.getElem?_take_of_lt c1]
         obtain ⟨v,kL,qe⟩:=hold j c hj
         exact ⟨v,by simpa using kL,qe⟩
       . rw [List.getElem?_append_right (by omega),hb] at hj
         rw [List.getElem?_append_right (by omega),ha]
         by_cases c2:j-e*bk.k<(flat news).length
         . rw [List.getElem?_append_left c2] at hj
           rw [List.getElem?_append_left (by omega)]
           obtain ⟨v,kL,qe⟩:=hvp _ c hj
           exact ⟨v,kL,qe⟩
         . rw [List.getElem?_append_right (by omega),List.getElem?_drop] at hj
           rw [List.getElem?_append_right (by omega),List.getElem?_drop,nw]
           rw [Ly] at hj c2 ⊢
           have e1:(e+news.length)*bk.k+(j-e*bk.k-news.length*bk.k)=j:=by rw [Nat.add_mul];omega
           have e2:e*bk.k+news.length*bk.k+(j-e*bk.k-news.length*bk.k)=j:=by omega
           rw [e1] at hj;rw [e2]
           obtain ⟨v,kL,qe⟩:=hold _ c hj
           exact ⟨v,by simpa using kL,qe⟩
   . rw [ae.b8 _ _ _ cL] at hi
     obtain ⟨g',N',Eh,Hy,Bc⟩:=h.blk i bk' hi
     have hne:g'≠g:=h.inj i id _ _ (by simp [hi]) (by simp [hσ]) cL Bc.μ hB.μ
     exact ⟨g',N',Eh,Hy,Bc.keep hs (setRow_other w g g' nv hne) Bc.no⟩
 . intro i j x y hi hj hne hx hy
   refine h.inj i j x y ?_ ?_ hne hx hy
   . intro hn;by_cases cL:i=id
     . subst cL;simp [hσ] at hn
     . rw [ae.b8 _ _ _ cL] at hi;exact hi hn
   . intro hn;by_cases cL:j=id
     . subst cL;simp [hσ] at hn
     . rw [ae.b8 _ _ _ cL] at hj;exact hj hn
 . intro g' cs Hz
   obtain ⟨h1',Ns⟩:=h.glob g' cs Hz
   exact ⟨h1',aZ.keep hs.bare (hs.same g' h1') cs 0 Ns⟩
 . intro k hk;simp at hk;exact h.new k hk
end Go.VL
end

section
namespace Go.VL
section
variable {P:Program} {G:Nat->Option (List AV)} {own:Nat->Prop} {E:Env} {w:World} {σ : ae} {p:Id}
theorem SG (hi:Inv G own E w σ) (hμ : E.μ p=none) (hσ : σ p=none) {id:Id} {bk:cN} (kY : σ id=some bk) (Aq:bk.fr=false) {g N:Nat} {cur:Array Value} {ty:TypeId} (hB:pY E own w id bk g N cur ty)
   {ys:List AV} (hk:∀ e∈ys,e.size=bk.k) {news:List Value} (hv:aK E w (flat ys) news) (HA:bk.els.length+ys.length<=N) {rd:List Id} :
   iJ G own E w σ p { val := .osl p bk.k 0 (bk.els.length+ys.length) false,rd:=rd,up:=[(id,none),(p,some ⟨bk.els++ys,bk.k,false⟩)] }
     (.slice (some ⟨g,0,none⟩) (bk.els.length+ys.length) N) (E.bind p g bk.k N)
     (w.setRow g (cur.toList.take (bk.els.length*bk.k)++news++cur.toList.drop (bk.els.length*bk.k+news.length)).toArray):=by
 obtain ⟨nw,hvp⟩:=bz.1 hv
 have hy:=b9 hk
 have he:=b9 hB.k
 have hle:bk.els.length*bk.k+news.length<=cur.size:=by
   rw [nw,hy,hB.size, <- Nat.add_mul];exact Nat.mul_le_mul_right _ HA
 generalize Sx:(cur.toList.take (bk.els.length*bk.k)++news++cur.toList.drop (bk.els.length*bk.k+news.length)).toArray=nv
 have vK:(w.setRow g nv).heap[g]? = some (.cells nv ty (0,0)):=setRow_heap w g cur nv ty _ hB.heap
 have abk:id≠p:=by rintro rfl;simp [kY] at hσ
 have hs:Step E (E.bind p g bk.k N) w (w.setRow g nv) :=
   ⟨fun i x h=>by rw [Env.gi];exact h;rintro rfl;simp [hμ] at h,fun _ h=>h,fun b hb=>setRow_other w g b nv (fun e=>hB.no Aq (e▸hb))⟩
 have gu:Adv own E (E.bind p g bk.k N) w (w.setRow g nv) :=
   ⟨hs,rfl,rfl,rfl,by simp,fun k _ hk=>setRow_other w g k nv (fun e=>hk (e▸hB.own)),fun _ h => .inl h⟩
 have hsz:nv.size=cur.size:=by
   rw [<- Sx]
   simp only [List.size_toArray,List.length_append,List.length_take,List.length_drop,Array.length_toList]
   omega
 refine ⟨gu,⟨?_, ?_, ?_, ?_, ?_⟩, ?_,fun i hne=>Env.gi _ _ _ _ _ (fun e=>hne (by rw [e];exact List.suffix_refl _))⟩
 . intro b hb;simpa using hi.okb b hb
 . intro i bk' h
   simp only [ae.app] at h
   by_cases e1:i=p
   . subst e1
     rw [ae.dG] at h
     simp only [Option.some.injEq] at h;subst h
     refine ⟨g,N,nv,ty,Env.gG _ _ _ _ _,vK,by rw [hsz];exact hB.size,by simpa using HA,hB.most,hB.own,by simp,fun _ hb=>hB.no Aq hb, ?_, ?_⟩
     . intro e he
       rcases List.mem_append.1 he with h | h
       . exact hB.k e h
       . exact hk e h
     . show dC _ _ g 0 (flat (bk.els++ys))
       rw [jP]
       have hcell:∀ j,(w.setRow g nv).cell? ⟨g,j,none⟩=nv[j]? := fun j=>cell_of_row _ _ _ _ _ _ vK
       have ht:(cur.toList.take (bk.els.length*bk.k)).length=bk.els.length*bk.k:=by simp;omega
       refine pg.2 ⟨fun j c hj => ?_,fun j c hj => ?_⟩
       . have qu:j<bk.els.length*bk.k:=by rw [<- he];exact (List.getElem?_eq_some_iff.1 hj).1
         obtain ⟨v,kL,qe⟩:=hB.row j c hj
         rw [Nat.zero_add,cell_of_row _ _ _ _ _ _ hB.heap] at kL
         refine ⟨v, ?_,aG.keep hs c v qe⟩
         rw [Nat.zero_add,hcell, <- Sx]
         simp only [List.getElem?_toArray,List.append_assoc]
         rw [List.getElem?_append_left (by omega),List.getElem?_take_of_lt qu]
         simpa using kL
       . obtain ⟨v,kL,qe⟩:=hvp j c hj
         have qu:j<news.length:=(List.getElem?_eq_some_iff.1 kL).1
         refine ⟨v, ?_,aG.keep hs c v qe⟩
         rw [Nat.zero_add,hcell, <- Sx,he]
         simp only [List.getElem?_toArray,List.append_assoc]
         rw [List.getElem?_append_right (by omega),ht,Nat.add_sub_cancel_left,List.getElem?_append_left qu]
         exact kL
   . rw [ae.b8 _ _ _ e1] at h
     by_cases e2:i=id
     . subst e2;simp [ae.put] at h
     . rw [ae.b8 _ _ _ e2] at h
       obtain ⟨g',N',Eh,Hy,Bc⟩:=hi.blk i bk' h
       have hne:g'≠g:=hi.inj i id _ _ (by simp [h]) (by simp [kY]) e2 Bc.μ hB.μ
       exact ⟨g',N',Eh,Hy,Bc.keep hs (setRow_other w g g' nv hne) Bc.no⟩
 . intro i j x y hx hy hne h1 h2
   simp only [ae.app] at hx hy
   have other:∀ i,i≠p->((σ.put id none).put p (some ⟨bk.els++ys,bk.k,false⟩)) i≠none->i≠id /\ σ i≠none:=by
     intro i e h
     rw [ae.b8 _ _ _ e] at h
     have e2:i≠id:=by rintro rfl;simp [ae.put] at h
     rw [ae.b8 _ _ _ e2] at h
     exact ⟨e2,h⟩
   by_cases e1:i=p
   . have e1:=e1.symm
     subst e1
     have e2:j≠p:=fun e=>hne e.symm
     obtain ⟨h3,h4⟩:=other j e2 hy
     rw [Env.gG] at h1
     rw [Env.gi _ _ _ _ _ e2] at h2
     have:=hi.inj id j (g,bk.k,N) y (by simp [kY]) h4 (fun e=>h3 e.symm) hB.μ h2
     simp only [Option.some.injEq] at h1
     rw [<- h1];exact this
   . obtain ⟨h3,h4⟩:=other i e1 hx
     rw [Env.gi _ _ _ _ _ e1] at h1
     by_cases e2:j=p
     . subst e2
       rw [Env.gG] at h2
       have:=hi.inj i id x (g,bk.k,N) h4 (by simp [kY]) h3 h1 hB.μ
       simp only [Option.some.injEq] at h2
       rw [<- h2];exact this
     . obtain ⟨h5,h6⟩:=other j e2 hy
       rw [Env.gi _ _ _ _ _ e2] at h2
       exact hi.inj i j x y h4 h6 hne h1 h2
 . intro g' cs Hz
   obtain ⟨h1,h2⟩:=hi.glob g' cs Hz
   exact ⟨h1,aZ.keep hs.bare (hs.same g' h1) cs 0 h2⟩
 . intro k hk;simp at hk;exact hi.new k hk
 . simp only [aG]
   exact ⟨g,N,N,Env.gG _ _ _ _ _,by simp,HA,by omega,hB.most,by simp⟩
def I8 (c:AV) (val:Value):Prop:=∀ E w,aG E w c val
theorem CN {ys:List AV} (h:(ys.all fun e=>e.cells.all AV.one)=true):∀ c∈flat ys,c.one=true:=by
 intro c hc
 simp only [flat,List.mem_flatMap] at hc
 obtain ⟨e,he,hce⟩:=hc
 have:=List.all_eq_true.1 h e he
 exact List.all_eq_true.1 this c hce
theorem lN (t ty e bt:TypeId) (i:TypeInfo) (ht:P.underlying t=some (.slice e)) (hi:P.info? e=some i)
   (g HE Xf:Nat) (cur:Array Value) (hg:w.heap[g]? = some (.cells cur bt (0,0)))
   (a:Addr) (m c:Nat) (news:List Value) (hl:news.length=m*i.size) (abl:∀ j u,news[j]? = some u->w.cell? (a.add j)=some u) (h1:∀ u∈news,u.oneCell'=true)
   (hroom:HE+m<=Xf) (HA:HE*i.size+news.length<=cur.size) :
   (Builtin.append_ #[t,t] ty #[.slice (some ⟨g,0,none⟩) HE Xf, .slice (some a) m c]).run P w =
     .ok (.slice (some ⟨g,0,none⟩) (HE+m) Xf) (w.setRow g (cur.toList.take (HE*i.size)++news++cur.toList.drop (HE*i.size+news.length)).toArray):=by
 have hf:=run_firstCells_some (P:=P) w i.size m a m c news hl abl
 have hst:=run_storeCells_at P g (HE*i.size) bt news 0 cur w hg (by simpa using HA) h1
 simp only [Nat.add_zero] at hst
 simp [Builtin.append_,run_underlying ht,sizeOf,typeInfo,hi,Builtin.lenOf,hroom,hf,Addr.add_lit,hst]
theorem sH {z:AV} {zv:Value} (hz:aK E w z.cells zv.cells.toList) (n:Nat) (hp:0<z.size):aK E w (flat (List.replicate n z)) (Builtin.zeroCells zv.cells n).toList:=by
 obtain ⟨hl,hp2⟩:=bz.1 hz
 have hk:∀ e∈List.replicate n z,e.size=z.size:=fun e he=>by rw [List.eq_of_mem_replicate he]
 have yz:=b9 hk
 have hs:zv.cells.size=z.size:=by simpa [AV.size] using hl
 refine bz.2 ⟨by rw [yz];simp [Builtin.zeroCells,hs],fun j c hj => ?_⟩
 have qu:j<n*z.size:=by have:=(List.getElem?_eq_some_iff.1 hj).1;rw [yz] at this;simpa using this
 have Xg:j/z.size*z.size+j%z.size=j:=by rw [Nat.mul_comm];exact Nat.div_add_mod j z.size
 have Xh:=Nat.mod_lt j hp
 have hdiv:j/z.size<n:=Nat.div_lt_of_lt_mul (by rwa [Nat.mul_comm] at qu)
 have hg:=flat_get (i:=j/z.size) (e:=z) hk (by simp [hdiv]) Xh
 rw [Xg,hj] at hg
 obtain ⟨v,hv,hr⟩:=hp2 (j%z.size) c hg.symm
 refine ⟨v, ?_,hr⟩
 have hv':zv.cells[j%z.size]? = some v:=by simpa using hv
 simp only [Builtin.zeroCells,Array.toList_map,Array.toList_range,List.getElem?_map,hs,List.getElem?_range qu,Option.map_some]
 rw [getElem!_def,hv']
theorem yJ (hi:Inv G own E w σ) {id:Id} {off k len:Nat} {tt:Bool} {news:List AV} {v:AV} {rd:List Id} {r:dH} (h:tX σ id off k news v rd=some r) {a:Value} (hs:aG E w (.osl id k off len tt) a)
   (hk:∀ e∈news,e.size=k) {vs:List Value} (hv:aK E w (flat news) vs) {val:Value} (hval:I8 v val) :
   ∃ g cap,a = .slice (some ⟨g,off*k,none⟩) len cap/\∃ w',(storeCells ⟨g,off*k,none⟩ vs).run P w = .ok () w'/\iJ G own E w σ p r val E w':=by
 unfold tX at h
 split at h
 . rename_i bk kY
   split at h
   . rename_i hh
     obtain ⟨HD,hle,Aq,I9⟩:=hh
     simp only [Option.some.injEq] at h;subst h
     obtain ⟨g,N,cur,ety,hB⟩:=hi.blk id bk kY
     simp only [aG] at hs
     obtain ⟨g',N',cap,CO,rfl,Ee,hoc,hNm,N7⟩:=hs
     rw [hB.μ] at CO
     simp only [Option.some.injEq,Prod.mk.injEq] at CO
     obtain ⟨rfl,_,rfl⟩:=CO
     obtain ⟨s6,had,Lz⟩:=wV hi kY Aq hB (e:=off) (news:=news) (vs:=vs) hle (fun e he=>by rw [HD];exact hk e he) hv
     have e0:off*bk.k=off*k:=by rw [HD]
     rw [e0] at s6 had Lz
     have hst:=run_storeCells_at P g (off*k) ety vs 0 cur w hB.heap (by simpa using s6) (yI hv (CN I9))
     simp only [Nat.add_zero] at hst
     exact ⟨g,cap,rfl,_,hst,had,Lz,hval E _,fun _ _=>rfl⟩
   . simp at h
 . simp at h
theorem Es (hi:Inv G own E w σ) {t e ty:TypeId} {z:AV} (hu:P.underlying t=some (.slice e)) (hz:jk P e=some z) (lq:0<z.size) {x:AV} {a:Value} (hx:aG E w x a) {r:dH} (h:yA σ z.size z x=some r) :
   Sound P G own E w σ p (Builtin.clear_ #[t] ty #[a]) r:=by
 obtain ⟨it,zv,hit,Hj,Lw,I5,I6⟩:=iK hz
 have hzr:=aG.cells (fT (E:=E) (w:=w) Lw) (hP I6)
 unfold yA at h
 split at h
 . simp only [Option.some.injEq] at h;subst h
   simp only [aG] at hx;subst hx
   exact Sound.same (v := .tuple #[]) hi (by simp [Builtin.clear_,run_underlying hu]) (by simp only [aG];exact ⟨#[],rfl,by simp [aK]⟩)
 . rename_i id k' off len tt
   split at h
   . rename_i h0
     subst h0
     simp only [Option.some.injEq] at h;subst h
     simp only [aG] at hx
     obtain ⟨g',N',cap,CO,rfl,_⟩:=hx
     exact Sound.same (v := .tuple #[]) hi (by simp [Builtin.clear_,run_underlying hu]) (by simp only [aG];exact ⟨#[],rfl,by simp [aK]⟩)
   . rename_i h0
     split at h
     . rename_i hh
       obtain ⟨rfl,_⟩:=hh
       obtain ⟨g,cap,rfl,w',hst,hp⟩:=yJ (P:=P) (p:=p) (val := .tuple #[]) hi h hx (fun e he=>by rw [List.eq_of_mem_replicate he]) (sH hzr len lq) (fun E w=>by simp only [aG];exact ⟨#[],rfl,by simp [aK]⟩)
       refine ⟨_,w',E, ?_,hp⟩
       obtain ⟨m,rfl⟩:∃ m,len=m+1:=⟨len-1,by omega⟩
       simp [Builtin.clear_,run_underlying hu,sC hit Hj,hst]
     . simp at h
 . simp at h
theorem HF (hi:Inv G own E w σ) {t t2 e ty:TypeId} {i:TypeInfo} (hu:P.underlying t=some (.slice e)) (cL:P.info? e=some i) {d x:AV} {a b:Value} (hd:aG E w d a) (hx:aG E w x b) {r:dH} (h:Ei σ i.size d x=some r) :
   Sound P G own E w σ p (Builtin.copy_ #[t,t2] ty #[a,b]) r:=by
 unfold Ei at h
 split at h
 . simp at h
 . rename_i ys rd qf
   obtain ⟨Bb,xa,AG,rfl,N8,po⟩:=rq hi hx qf
   have zero:∀ (ba:Option Addr) (n cap:Nat),Nat.min ys.length n=0->(Builtin.copy_ #[t,t2] ty #[.slice ba n cap, .slice xa ys.length AG]).run P w = .ok (.int .i64 0) w:=by
     intro ba n cap h0
     cases ba<;>cases xa<;>simp [Builtin.copy_,run_underlying hu,dE cL,Builtin.lenOf,h0,Builtin.firstCells,loadCells,loadCellsFrom,storeCells,goInt]
   split at h
   . simp only [Option.some.injEq] at h;subst h
     simp only [aG] at hd;subst hd
     exact Sound.same hi (zero none 0 0 (by simp)) (by simp only [aG])
   . rename_i id k' off len tt
     split at h
     . rename_i h0
       simp only [Option.some.injEq] at h;subst h
       simp only [aG] at hd
       obtain ⟨g',N',cap,CO,rfl,_⟩:=hd
       have h0':Nat.min ys.length len=0:=by
         have:=congrArg List.length (List.isEmpty_iff.1 h0)
         simp only [List.length_take,List.length_nil] at this
         rw [Nat.min_comm] at this;exact this
       exact Sound.same hi (zero _ len cap h0') (by simp only [aG])
     . rename_i h0
       split at h
       . rename_i hk
         subst hk
         have hne:ys≠[]:=by rintro rfl;simp at h0
         obtain ⟨xb,xo,rfl,hxr⟩:=po.resolve_left hne
         have hkt:∀ e∈ys.take len,e.size=i.size:=fun e he=>Bb e (List.mem_of_mem_take he)
         have ahb:dC E w xb xo (flat (ys.take len)):=by
           rw [vS Bb]
           exact (pg.1 (by rw [List.take_append_drop];exact hxr:dC E w xb xo ((flat ys).take (len*i.size)++(flat ys).drop (len*i.size)))).1
         obtain ⟨news,Lx,UZ⟩:=CM ahb
         have Sl:news.length=(ys.take len).length*i.size:=by rw [aK.len Lx,b9 hkt]
         obtain ⟨g,cap,rfl,w',hst,hp⟩:=yJ (P:=P) (p:=p) (val := .int .i64 (ys.take len).length) hi h hd hkt Lx (fun E w=>by simp only [aG])
         refine ⟨_,w',E, ?_,hp⟩
         have abm:Nat.min ys.length len=(ys.take len).length:=by rw [List.length_take,Nat.min_comm]
         have hf:=run_firstCells_some (P:=P) w i.size (ys.take len).length ⟨xb,xo,none⟩ ys.length AG news Sl UZ
         generalize (ys.take len).length=m at abm hf hp ⊢
         simp [Builtin.copy_,run_underlying hu,dE cL,Builtin.lenOf,abm,hf,hst,goInt]
       . simp at h
   . simp at h
theorem AH {d:Option TypeDesc} (h:vL d=true):∃ e,d=some (.slice e):=by
 unfold vL at h
 split at h
 . exact ⟨_,rfl⟩
 . cases h
theorem vU {t t' e e' ty:TypeId} (hu:P.underlying t=some (.slice e)) (Bl:P.underlying t'=some (.slice e')) (a b:Value) (w:World) :
   (Builtin.append_ #[t,t'] ty #[a,b]).run P w=(Builtin.append_ #[t,t] ty #[a,b]).run P w:=by
 cases a<;>simp [Builtin.append_,run_underlying hu,run_underlying Bl]
theorem CP (hi:Inv G own E w σ) (hμ : E.μ p=none) (hσ : σ p=none) {t e ty:TypeId} {i:TypeInfo} (hu:P.underlying t=some (.slice e)) (cL:P.info? e=some i)
   (hz:(jk P e).isSome=true) {s x:AV} {a b:Value} (hs:aG E w s a) (hx:aG E w x b) {r:dH} (h:dR σ p i.size i.bytes s x=some r) :
   Sound P G own E w σ p (Builtin.append_ #[t,t] ty #[a,b]) r:=by
 obtain ⟨z,hz⟩:=Option.isSome_iff_exists.1 hz
 obtain ⟨it,zv,hit,Hj,Lw,I5,I6⟩:=iK hz
 rw [cL] at hit
 simp only [Option.some.injEq] at hit;subst hit
 have N9:zv.cells.size=i.size:=by
   have:=aK.len (aG.cells (fT (E:=E) (w:=w) Lw) (hP I6))
   simp at this;unfold AV.size at I5;omega
 unfold dR at h
 split at h
 . simp at h
 . rename_i ys rd qf
   obtain ⟨Bb,xa,AG,rfl,N8,po⟩:=rq hi hx qf
   split at h
   . rename_i HG
     have hys:ys=[]:=by simpa using HG
     subst hys
     have hrun:∀ (base:Option Addr) (n cap:Nat),n<=cap->(Builtin.append_ #[t,t] ty #[.slice base n cap, .slice xa ([]:List AV).length AG]).run P w = .ok (.slice base n cap) w:=by
       intro base n cap hn
       cases base<;>cases xa<;>simp [Builtin.append_,run_underlying hu,dE cL,Builtin.lenOf,hn,Builtin.firstCells,loadCells,loadCellsFrom,storeCells]
     split at h
     . simp only [Option.some.injEq] at h;subst h
       have dP:=hs
       simp only [aG] at hs;subst hs
       exact Sound.same hi (hrun none 0 0 (Nat.le_refl _)) dP
     . simp only [Option.some.injEq] at h;subst h
       have dP:=hs
       simp only [aG] at hs;obtain ⟨q,rfl,_⟩:=hs
       exact Sound.same hi (hrun q _ _ (Nat.le_refl _)) dP
     . simp only [Option.some.injEq] at h;subst h
       have dP:=hs
       simp only [aG] at hs;obtain ⟨g,N,cap,_,rfl,hle,_⟩:=hs
       exact Sound.same hi (hrun _ _ _ hle) dP
     . simp at h
   . rename_i HG
     have hne:ys≠[]:=by simpa using HG
     have lq:0<ys.length:=List.length_pos_iff.2 hne
     obtain ⟨xb,xo,rfl,hxr⟩:=po.resolve_left hne
     obtain ⟨news,Lx,UZ⟩:=CM hxr
     have yz:=b9 Bb
     have Sl:news.length=ys.length*i.size:=by rw [aK.len Lx,yz]
     -- an append to a row that has no room
     have grow:∀ (ba:Addr) (q:Nat) (es:List AV) (cap:Nat),(∀ e∈es,e.size=i.size)->(es=[]∨∃ b o,ba=⟨b,o,none⟩/\dC E w b o (flat es))->q=es.length->cap<q+ys.length ->
         (q+ys.length)*i.bytes<=140737488355328->q+ys.length<=maxLen->∀ rd,
         ∃ v w' E',(Builtin.append_ #[t,t] ty #[.slice (some ba) q cap, .slice (some ⟨xb,xo,none⟩) ys.length AG]).run P w = .ok v w' /\
           iJ G own E w σ p { val := .osl p i.size 0 (q+ys.length) false,rd:=rd,up:=[(p,some ⟨es++ys,i.size,false⟩)] } v E' w':=by
       intro ba q es cap hk hr hq SH hb hm rd
       have N6:=b9 hk
       obtain ⟨Oa,Sk,hoc⟩:∃ vs:List Value,aK E w (flat es) vs/\∀ j v,vs[j]? = some v->w.cell? (ba.add j)=some v:=by
         rcases hr with rfl | ⟨b,o,rfl,hr⟩
         . exact ⟨[],by simp [flat,aK],by simp⟩
         . exact CM hr
       have U0:Oa.length=q*i.size:=by rw [aK.len Sk,N6,hq]
       have hrun:=run_append_grow (P:=P) w t ty e i zv hu cL Hj ba q cap Oa U0 hoc ⟨xb,xo,none⟩ ys.length AG news Sl UZ SH (by unfold maxLen at hm;omega) (growslice_fits SH hb)
       have wW:=grownCap_ge w (q+ys.length) cap e
       have Bj:=grownCap_le_maxLen w (q+ys.length) cap e hm
       refine ⟨_,_,E.bind p w.heap.size i.size (grownCap w (q+ys.length) cap e),hrun, ?_⟩
       have:=ue (p:=p) (rd:=rd) hi hμ hσ (k:=i.size) (n:=q+ys.length) (N:=grownCap w (q+ys.length) cap e) (els:=es++ys) (fun e he=>(List.mem_append.1 he).elim (hk e) (Bb e)) (by simp [hq])
         (vs:=Oa++news) (by rw [jP];exact aK.append Sk Lx) (rest:=Builtin.zeroCells zv.cells (grownCap w (q+ys.length) cap e-(q+ys.length))) (by rw [size_zeroCells,N9]) wW Bj e
       have hee:(Oa++news).toArray=Oa.toArray++news.toArray:=by simp
       rw [hee] at this
       exact this
     split at h
     . -- onto nil
       split at h
       . rename_i hh
         obtain ⟨hb,hm,_⟩:=hh
         simp only [Option.some.injEq] at h;subst h
         simp only [aG] at hs;subst hs
         have hrun:=run_append_nil (P:=P) w t ty e i zv hu cL Hj ⟨xb,xo,none⟩ ys.length AG news Sl UZ lq (by unfold maxLen at hm;omega) (by omega)
         have wW:=grownCap_ge w ys.length 0 e
         have Bj:=grownCap_le_maxLen w ys.length 0 e hm
         refine ⟨_,_,E.bind p w.heap.size i.size (grownCap w ys.length 0 e),hrun, ?_⟩
         exact ue (p:=p) (rd:=rd) hi hμ hσ (k:=i.size) (n:=ys.length) (N:=grownCap w ys.length 0 e) (els:=ys) Bb rfl Lx (by rw [size_zeroCells,N9]) wW Bj e
       . simp at h
     . -- onto a row without room
       rename_i k' es
       split at h
       . rename_i hh
         obtain ⟨rfl,hb,hm,_⟩:=hh
         simp only [Option.some.injEq] at h;subst h
         simp only [aG] at hs
         obtain ⟨q,rfl,_,hk,hr⟩:=hs
         cases q with
         | none =>
           have hes:es=[]:=by rcases hr with h | ⟨b,o,h,_⟩;exact h;simp at h
           subst hes
           simp only [List.length_nil,Nat.zero_add,List.nil_append] at hb hm ⊢
           have hrun:=run_append_nil (P:=P) w t ty e i zv hu cL Hj ⟨xb,xo,none⟩ ys.length AG news Sl UZ lq (by unfold maxLen at hm;omega) (by omega)
           have wW:=grownCap_ge w ys.length 0 e
           have Bj:=grownCap_le_maxLen w ys.length 0 e hm
           refine ⟨_,_,E.bind p w.heap.size i.size (grownCap w ys.length 0 e),hrun, ?_⟩
           exact ue (p:=p) (rd:=rd) hi hμ hσ (k:=i.size) (n:=ys.length) (N:=grownCap w ys.length 0 e) (els:=ys) Bb rfl Lx (by rw [size_zeroCells,N9]) wW Bj e
         | some ba =>
           exact grow ba es.length es es.length hk (hr.imp id fun ⟨b,o,e,_,r⟩=>⟨b,o,by simpa using e,dw.1 r⟩) rfl (by omega) hb hm rd
       . simp at h
     . -- onto a block of the store
       rename_i id k' off len tt
       split at h
       . rename_i bk kY
         split at h
         . rename_i hh
           obtain ⟨rfl,HD,rfl,hle,hb,hm,I9⟩:=hh
           obtain ⟨g,N,cur,ety,hB⟩:=hi.blk id bk kY
           simp only [aG] at hs
           obtain ⟨g',N',cap,CO,rfl,Ee,hoc,hNm,N7⟩:=hs
           rw [hB.μ] at CO
           simp only [Option.some.injEq,Prod.mk.injEq] at CO
           obtain ⟨rfl,_,rfl⟩:=CO
           have CI:∀ e∈bk.els,e.size=i.size:=fun e he=>by rw [<- HD];exact hB.k e he
           simp only [Nat.zero_mul]
           split at h
           . split at h
             . rename_i ht _
               simp only [Option.some.injEq] at h;subst h
               rw [if_pos ht] at N7
               have yK:=lW (l:=0) (r:=len) hB.k hB.row (Nat.zero_le _) hle
               simp only [Nat.zero_mul,Nat.add_zero,List.drop_zero] at yK
               exact grow ⟨g,0,none⟩ len (bk.els.take len) cap (fun e he=>CI e (List.mem_of_mem_take he)) (.inr ⟨g,0,rfl,yK⟩) (by simp;omega) (by omega) hb hm (id::rd)
             . simp at h
           . split at h
             . rename_i ht hh2
               obtain ⟨SI,Aq,pZ⟩:=hh2
               simp only [Option.some.injEq] at h;subst h
               simp only [ht,Bool.false_eq_true,if_false,Nat.zero_add] at N7
               subst SI
               by_cases hroom:bk.els.length+ys.length<=cap
               . have hrun:=lN (P:=P) (w:=w) t ty e ety i hu cL g bk.els.length cap cur hB.heap ⟨xb,xo,none⟩ ys.length AG news Sl UZ (yI Lx (CN I9)) hroom
                   (by rw [Sl,hB.size,HD, <- Nat.add_mul];exact Nat.mul_le_mul_right _ (by omega))
                 obtain rfl:cap=N:=N7
                 refine ⟨_,_,E.bind p g i.size cap,hrun, ?_⟩
                 have:=SG (p:=p) (rd:=id::rd) hi hμ hσ kY Aq hB (ys:=ys) (fun e he=>by rw [HD];exact Bb e he) Lx hroom
                 rw [HD] at this
                 exact this
               . obtain ⟨v,w',E',hrun,Ja⟩:=grow ⟨g,0,none⟩ bk.els.length bk.els cap CI (.inr ⟨g,0,rfl,hB.row⟩) rfl (by omega) hb hm (id::rd)
                 refine ⟨v,w',E',hrun,Ja.Au, ?_,Ja.rep,Ja.ids⟩
                 have abk:id≠p:=by rintro rfl;simp [kY] at hσ
                 have:=SF Ja.inv id
                 have he:(σ.app [(p,some ⟨bk.els++ys,i.size,false⟩)]).put id none = σ.app [(id,none),(p,some ⟨bk.els++ys,i.size,false⟩)]:=by
                   funext j
                   simp only [ae.app,ae.put]
                   by_cases e1:j=id
                   . subst e1;simp [abk]
                   . simp [e1]
                 rw [he] at this
                 exact this
             . split at h
               . -- over elements that lie behind
                 rename_i ht _ hh2
                 obtain ⟨SI,Aq⟩:=hh2
                 simp only [Option.some.injEq] at h;subst h
                 simp only [ht,Bool.false_eq_true,if_false,Nat.zero_add] at N7
                 obtain rfl:cap=N:=N7
                 have hroom:len+ys.length<=cap:=Nat.le_trans SI hB.len
                 obtain ⟨s6,had,Lz⟩:=wV hi kY Aq hB (e:=len) (news:=ys) (vs:=news) SI (fun e he=>by rw [HD];exact Bb e he) Lx
                 have e0:len*bk.k=len*i.size:=by rw [HD]
                 rw [e0] at s6 had Lz
                 have hrun:=lN (P:=P) (w:=w) t ty e ety i hu cL g len cap cur hB.heap ⟨xb,xo,none⟩ ys.length AG news Sl UZ (yI Lx (CN I9)) hroom s6
                 refine ⟨_,_,E,hrun,had,Lz, ?_,fun _ _=>rfl⟩
                 simp only [aG]
                 exact ⟨g,cap,cap,by rw [hB.μ,HD],by simp,hroom,by omega,hNm,by simp⟩
               . simp at h
         . simp at h
       . simp at h
     . simp at h
theorem HH (hi:Inv G own E w σ) (hμ : E.μ p=none) (hσ : σ p=none) {t tn e ty:TypeId} {i:TypeInfo} {kn:IntKind} (hu:P.underlying t=some (.slice e)) (cL:P.info? e=some i) (htn:P.underlying tn=some (.int kn)) {z:AV}
   (hz:jk P e=some z) (lq:0<i.size) {s x:AV} {a b:Value} (hs:aG E w s a) (hx:aG E w x b) {r:dH} (h:Bd p i.size i.bytes z s x=some r) :
   Sound P G own E w σ p (Builtin.append_ #[t,tn] ty #[a,b]) r:=by
 obtain ⟨it,zv,hit,Hj,Lw,I5,I6⟩:=iK hz
 rw [cL] at hit
 simp only [Option.some.injEq] at hit;subst hit
 have hzr:=aG.cells (fT (E:=E) (w:=w) Lw) (hP I6)
 have N9:zv.cells.size=i.size:=by have:=aK.len hzr;simp at this;unfold AV.size at I5;omega
 unfold Bd at h
 split at h
 . rename_i kk n
   split at h
   . rename_i hh
     obtain ⟨h0,hb,hm,hzk,_⟩:=hh
     simp only [Option.some.injEq] at h;subst h
     simp only [aG] at hs hx;subst hs;subst hx
     obtain ⟨m,rfl⟩:∃ m:Nat,n=m:=⟨n.toNat,by omega⟩
     have Ho:m*i.bytes<=140737488355328:=by rw [<- Int.natCast_mul] at hb;omega
     have mG:m<=maxLen:=by omega
     have wW:=grownCap_ge w m 0 e
     have Bj:=grownCap_le_maxLen w m 0 e mG
     have hrun:=Lib.run_append_nil_zeros (P:=P) w t tn ty e i zv kk kn hu htn cL Hj m (by omega) lq (by unfold maxLen at mG;omega) (by omega)
     refine ⟨_,_,E.bind p w.heap.size i.size (grownCap w m 0 e),hrun, ?_⟩
     have:=ue (p:=p) (rd:=[]) hi hμ hσ (k:=i.size) (n:=m) (N:=grownCap w m 0 e) (els:=List.replicate m z) (fun e he=>by rw [List.eq_of_mem_replicate he];exact hzk) (by simp)
       (vs:=(Builtin.zeroCells zv.cells m).toList) (sH hzr m (by omega)) (rest:=Builtin.zeroCells zv.cells (grownCap w m 0 e-m)) (by rw [size_zeroCells,N9]) wW Bj e
     simpa using this
   . simp at h
 . simp at h
end
end Go.VL
end

section
namespace Go.VL
section
variable {P:Program} {G:Nat->Option (List AV)} {own:Nat->Prop} {E:Env} {w:World} {σ : ae} {p:Id}
def cT (P:Program) (G:Nat->Option (List AV)) (own:Nat->Prop) (E:Env) (w:World) (σ : ae) (p:Id) (r:dH) (s:Sem Next):Prop :=
 ∃ v w' E',(s.run P w = .ok (.value v) w'∨(s.run P w = .ok .skip w'/\v=undef))/\iJ G own E w σ p r v E' w'
theorem cT.of {s:Sem Value} {r:dH} (h:Sound P G own E w σ p s r):cT P G own E w σ p r (do pure (.value (<- s))):=by
 obtain ⟨v,w',E',hr,hp⟩:=h
 exact ⟨v,w',E', .inl (by simp [hr]),hp⟩
theorem cT.ofU {s:Sem Unit} {r:dH} (h:∃ w',s.run P w = .ok () w'/\iJ G own E w σ p r undef E w'):cT P G own E w σ p r (do s;pure .skip):=by
 obtain ⟨w',hr,hp⟩:=h
 exact ⟨undef,w',E, .inr ⟨by simp [hr],rfl⟩,hp⟩
theorem mf {t:List AV} {a:Act} (hf:bW E w t a) (hi:Inv G own E w σ) {x:Option Operand} {vx:Option aI} (h:qw x=some vx):jl E w (vx.map (aI.ev G t)) (x.map a.eval):=by
 cases x with
 | none=>simp only [qw,Option.some.injEq] at h;subst h;trivial
 | some x =>
   simp only [qw,Option.map_eq_some_iff] at h
   obtain ⟨va,sz,rfl⟩:=h
   exact aJ hf hi sz
theorem HI {σ : ae} {x:AV} {oc:Option AV} {r:dH} (h:yB σ x oc=some r):bd oc=some r∨∃ id k off len bk,x = .osl id k off len false /\ σ id=some bk/\off<=bk.els.length/\r={ val := .ige (bk.els.length-off),rd:=[id] }:=by
 unfold yB at h
 split at h
 . exact .inl h
 . split at h
   . rename_i id k off len
     split at h
     . rename_i bk hb
       split at h
       . rename_i ho
         simp only [Option.some.injEq] at h
         exact .inr ⟨id,k,off,len,bk,rfl,hb,ho,h.symm⟩
       . simp at h
     . simp at h
   . simp at h
theorem AJ (hi : Inv G own E w σ) {t e:TypeId} {i:TypeInfo} (hu:P.underlying t=some (.slice e)) (cL:P.info? e=some i) {x:AV} {v:Value} (hx:aG E w x v)
   {lo kN mx:Option AV} {Hl En vmx:Option Value} (qg:jl E w lo Hl) (vP:jl E w kN En) (hmx:jl E w mx vmx) (hmh:mx.isSome->kN.isSome) {r:dH}
   (h:mQ σ i.size x lo kN mx (fC i.size x lo kN mx)=some r):Sound P G own E w σ p (Instr.sliceAt t v Hl En vmx) r:=by
 cases hs:fC i.size x lo kN mx with
 | some c =>
   rw [hs] at h
   refine Sound.dT (oc:=some c) h fun c' hc' => ?_
   simp only [Option.some.injEq] at hc';subst hc'
   exact uc hi hu cL hx qg vP hmx hmh hs
 | none =>
   rw [hs] at h
   simp only [mQ] at h
   split at h
   . rename_i id k' off len hh
     split at h
     . rename_i bk hb
       split at h
       . rename_i hc
         obtain ⟨ho,hk⟩:=hc
         simp only [Option.map_eq_some_iff] at h
         obtain ⟨c,hc,rfl⟩:=h
         simp only [aG] at hx
         obtain ⟨g,N,cap,hm,rfl,h1,h2,h3,h4⟩:=hx
         obtain ⟨g',N',cur,Hy,hB⟩:=hi.blk id bk hb
         have hμ := hB.μ
         rw [hμ] at hm
         simp only [Option.some.injEq,Prod.mk.injEq] at hm
         obtain ⟨rfl,rfl,rfl⟩:=hm
         simp only [Bool.false_eq_true,if_false] at h4
         have hl:=hB.len
         have hx':aG E w (.osl id bk.k off (bk.els.length-off) false) (.slice (some ⟨g',off*bk.k,none⟩) (bk.els.length-off) cap):=by
           simp only [aG]
           exact ⟨g',N',cap,hμ,rfl,by omega,h2,h3,by simpa using h4⟩
         have ahd:vmx=none:=by cases vmx with | none=>rfl | some _=>exact (hmx:False).elim
         subst ahd
         obtain ⟨v,w',E',hrun,hp⟩:=uc (p:=p) hi hu cL hx' qg vP (mx:=none) (vmx:=none) hmx (by simp) hc
         cases En with
         | none=>exact (vP:False).elim
         | some u =>
           refine ⟨v,w',E', ?_,⟨hp.Au,hp.inv,hp.rep,hp.ids⟩⟩
           rw [<- hrun]
           simp [Instr.sliceAt,Instr.slice,run_underlying hu,Instr.sliceBounds]
       . simp at h
     . simp at h
   . rename_i hh km m
     split at h
     . rename_i n hn
       split at h
       . rename_i l r' hb
         split at h
         . rename_i hc
           simp only [Option.some.injEq] at h;subst h
           obtain ⟨h1,h2⟩:=hc
           have hm0:m=((m.toNat:Nat):Int):=by omega
           obtain ⟨a,cap,rfl,Ee⟩:∃ a cap,v = .slice a n cap/\n<=cap:=by
             unfold UU at hn
             split at hn
             . simp only [Option.some.injEq] at hn;subst hn
               simp only [aG] at hx;exact ⟨_,_,hx,Nat.le_refl _⟩
             . split at hn
               . simp only [Option.some.injEq] at hn;subst hn
                 simp only [aG] at hx;obtain ⟨a,cap,rfl,h,_⟩:=hx;exact ⟨_,_,rfl,h⟩
               . simp at hn
             . split at hn
               . simp only [Option.some.injEq] at hn;subst hn
                 simp only [aG] at hx;obtain ⟨a,rfl,_⟩:=hx;exact ⟨_,_,rfl,Nat.le_refl _⟩
               . simp at hn
             . split at hn
               . simp only [Option.some.injEq] at hn;subst hn
                 simp only [aG] at hx;obtain ⟨g,N,cap,_,rfl,h,_⟩:=hx;exact ⟨_,_,rfl,h⟩
               . simp at hn
             . simp at hn
           unfold et at hb
           split at hb
           . simp at hb
           . rename_i h1' e1
             split at hb
             . simp at hb
             . rename_i l1 e2
               simp only [Option.some.injEq,Prod.mk.injEq] at hb
               obtain ⟨rfl,rfl⟩:=hb
               obtain ⟨pZ,_,_⟩:=fH (P:=P) (isSlice:=true) (len:=n) (cap:=cap) (m:=m.toNat) qg vP hmx Ee e1 e2 (.inr ⟨km,by rw [<- hm0],by simp,by omega,by omega⟩)
               refine ⟨.slice (if m.toNat=l1 then a else a.map (·.add (l1*i.size))) (h1'-l1) (m.toNat-l1),w,E, ?_,⟨Adv.refl own E w,hi,by simp only [aG],fun _ _=>rfl⟩⟩
               simp [Instr.sliceAt,Instr.slice,run_underlying hu,pZ,dE cL]
         . simp at h
       . simp at h
     . simp at h
   . simp at h
theorem AK (hi:Inv G own E w σ) {t e:TypeId} {n:Nat} {i:TypeInfo} (hu:P.underlying t=some (.array n e)) (cL:P.info? e=some i) (h1:i.size=1) (hn:n<=maxLen) {x:AV} {v:Value} (hx:aG E w x v)
   {lo kN:Option AV} {Hl En:Option Value} (qg:jl E w lo Hl) (vP:jl E w kN En) {r:dH} (h:xY σ n x lo kN=some r):Sound P G own E w σ p (Instr.sliceAt t v Hl En none) r:=by
 unfold xY at h
 split at h
 . rename_i id e'
   cases hb : σ id with
   | none=>simp [hb] at h
   | some bk =>
   simp only [hb] at h
   cases qf:bk.els[e']? with
   | none=>simp [qf] at h
   | some el =>
   simp only [qf] at h
   cases s6:et n lo kN with
   | none=>simp [s6] at h
   | some q =>
   obtain ⟨l,r'⟩:=q
   simp only [s6] at h
   split at h
   . rename_i hc
     obtain ⟨Ar,me⟩:=hc
     simp only [Option.some.injEq] at h;subst h
     obtain ⟨g,N,cur,ty,hB⟩:=hi.blk id bk hb
     simp only [aG] at hx
     obtain ⟨g',k',N',hm,rfl⟩:=hx
     rw [hB.μ] at hm
     simp only [Option.some.injEq,Prod.mk.injEq] at hm
     obtain ⟨rfl,rfl,rfl⟩:=hm
     obtain ⟨tV,rp⟩:=ud s6
     obtain ⟨pZ,qh,Hm⟩:=fH (P:=P) (isSlice:=false) (mx:=none) (vmx:=none) (m:=n) qg vP trivial (Nat.le_refl _) tV rp (.inl ⟨rfl,rfl⟩)
     have hstep:Step E ⟨E.μ,fun b=>E.ok b∨b=g⟩ w w:=⟨fun _ _ h=>h,fun b hb => .inl hb,fun _ _=>rfl⟩
     have gu:Adv own E ⟨E.μ,fun b=>E.ok b∨b=g⟩ w w:=⟨hstep,rfl,rfl,rfl,Nat.le_refl _,fun k hk _=>rfl,fun b hb=>by
       rcases hb with h | rfl
       . exact .inl h
       . exact .inr hB.own⟩
     have Ob:∀ j, σ.app [(id,some { bk with fr:=true })] j=if j=id then some { bk with fr:=true } else σ j:=fun j=>rfl
     have hinv:Inv G own ⟨E.μ,fun b=>E.ok b∨b=g⟩ w (σ.app [(id,some { bk with fr:=true })]):=by
       refine ⟨?_, ?_, ?_, ?_,hi.new⟩
       . rintro b (hb | rfl)
         . exact hi.okb b hb
         . exact eS hB.heap
       . intro Hp bk2 h2
         rw [Ob] at h2
         by_cases kY:Hp=id
         . subst kY
           rw [if_pos rfl] at h2
           simp only [Option.some.injEq] at h2;subst h2
           exact ⟨g,N,cur,ty,hB.μ,hB.heap,hB.size,hB.len,hB.most,hB.own,fun _ => .inr rfl,fun hf=>by simp at hf,hB.k,dC.keep hstep rfl hB.row⟩
         . rw [if_neg kY] at h2
           obtain ⟨g2,N2,Xi,ty2,wX⟩:=hi.blk Hp bk2 h2
           refine ⟨g2,N2,Xi,ty2,wX.μ,wX.heap,wX.size,wX.len,wX.most,wX.own,fun hf => .inl (wX.ok hf),fun hf eQ => ?_,wX.k,dC.keep hstep rfl wX.row⟩
           rcases eQ with h | h
           . exact wX.no hf h
           . exact hi.inj Hp id _ _ (by simp [h2]) (by simp [hb]) kY wX.μ hB.μ h
       . intro a b x y ha Ho hne hx hy
         have keep:∀ j, σ.app [(id,some { bk with fr:=true })] j≠none -> σ j≠none:=by
           intro j hj
           rw [Ob] at hj
           by_cases kY:j=id
           . subst kY;simp [hb]
           . rwa [if_neg kY] at hj
         exact hi.inj a b x y (keep a ha) (keep b Ho) hne hx hy
       . intro gg cs hg
         obtain ⟨k1,k2⟩:=hi.glob gg cs hg
         exact ⟨.inl k1,aZ.keep hstep.bare rfl cs 0 k2⟩
     have pn:dC E w g (0+e'*bk.k) el.cells:=yx hB.k hB.row qf
     have Et:∀ c∈el.cells,AV.one c=true:=by simpa [List.all_eq_true] using me
     have hlen:((el.cells.take r').drop l).length=r'-l:=by rw [List.length_drop,List.length_take];omega
     have hsz:∀ c∈(el.cells.take r').drop l,c.cells=[c]/\c.size=1:=by
       intro c hc
       have hm:=Et c (List.mem_of_mem_take (List.mem_of_mem_drop hc))
       cases c<;>first | (simp [AV.one] at hm;done) | exact ⟨rfl,rfl⟩
     have abn:flat ((el.cells.take r').drop l)=(el.cells.take r').drop l:=by
       have:∀ {es:List AV},(∀ c∈es,c.cells=[c])->flat es=es:=by
         intro es;induction es with
         | nil=>intro _;rfl
         | cons a as ih =>
           intro h
           show a.cells++flat as=a::as
           rw [h a (by simp),ih (fun c hc=>h c (by simp [hc]))];rfl
       exact this fun c hc=>(hsz c hc).1
     refine ⟨.slice (some (if n=l then ⟨g,e'*bk.k+0,none⟩ else (⟨g,e'*bk.k+0,none⟩:Addr).add (l*i.size))) (r'-l) (n-l),w,_, ?_,gu,hinv, ?_,fun _ _=>rfl⟩
     . simp [Instr.sliceAt,run_underlying hu,Instr.sureAddr,pZ,dE cL]
     . simp only [aG]
       refine ⟨_,_,by rw [hlen],by rw [hlen];omega,by omega,fun c hc=>(hsz c hc).2, ?_⟩
       by_cases Sl:n=l
       . left
         rw [<- List.length_eq_zero_iff,hlen];omega
       . right
         rw [if_neg Sl,Addr.add_lit,h1]
         refine ⟨g,e'*bk.k+0+l*1,rfl, .inr rfl,dw.2 ?_⟩
         rw [abn]
         intro j c hj
         rw [List.getElem?_drop] at hj
         have hj2:el.cells[l+j]? = some c:=by
           rw [List.getElem?_take] at hj
           split at hj
           . exact hj
           . cases hj
         obtain ⟨u,hu1,hu2⟩:=pn (l+j) c hj2
         refine ⟨u, ?_,aG.keep hstep c u hu2⟩
         rw [<- hu1]
         congr 2
         omega
   . simp at h
 . simp at h
theorem Jb {f:FuncId} {fn:Func} {e:Array Value->Sem Value} {c:Call} {a:Act} {o:Oper} (hop:o.op = .call c) (qy:c.callee = .value (.func f)) (hf:P.funcs[f]? = some fn) (qz:(fn.name == "runtime.NumGoroutine")=false)
   (hb:fn.body.isNone=true) (hn:Extern.findNext fn=none) (he:Extern.find fn=some e) {v:Value} {w':World} (hrun:(e (c.args.map a.eval)).run P w = .ok v w') :
   (execOp a.eval o).run P w = .ok (.value v) w':=by
 have h1:=run_callFunc_extern hf qz hb hn he (c.args.map a.eval) w
 rw [hrun] at h1
 simp only [Result.andThen] at h1
 have e0:a.eval (.func f) = .func (.func f) #[] #[]:=rfl
 simp [execOp,hop,resolve,qy,e0,Deferred.ofValue,invoke,h1]
theorem Bm {fo : Operand} {k:Sz} (h:NP P fo=some k):∃ f fn,fo = .func f/\P.funcs[f]? = some fn/\fn.body.isNone=true /\
   ((k = .idx/\fn.name = "internal/bytealg.IndexByteString" /\ fn.origin = "")∨(k = .ovl/\fn.origin = "slices.overlaps" /\ qx fn.name=true/\∃ t e i,fn.params[0]? = some t/\P.underlying t=some (.slice e)/\P.info? e=some i)):=by
 unfold NP at h
 split at h
 . rename_i f
   split at h
   . rename_i fn Ly
     split at h
     . rename_i hb
       refine ⟨f,fn,rfl,Ly,hb, ?_⟩
       split at h
       . rename_i hn
         simp only [Option.some.injEq] at h
         simp only [Bool.and_eq_true,beq_iff_eq] at hn
         exact .inl ⟨h.symm,hn.1,hn.2⟩
       . split at h
         . rename_i ho
           simp only [Bool.and_eq_true,beq_iff_eq] at ho
           split at h
           . rename_i t ht
             split at h
             . rename_i e he
               split at h
               . rename_i hi
                 simp only [Option.some.injEq] at h
                 obtain ⟨i,hi⟩:=Option.isSome_iff_exists.1 hi
                 exact .inr ⟨h.symm,ho.1,ho.2,t,e,i,ht,he,hi⟩
               . simp at h
             . simp at h
           . simp at h
         . simp at h
     . simp at h
   . simp at h
 . simp at h
theorem LA {fn:Func} (hf:qx fn.name=true) (ho:fn.origin = "slices.overlaps"):Extern.findNext fn=none/\Extern.find fn=some (Extern.SlicesOverlaps.overlaps fn.params fn.resultTypes):=by
 unfold qx at hf
 simp only [Bool.and_eq_true,Option.isNone_iff_eq_none] at hf
 obtain ⟨⟨⟨⟨h1,h2⟩,h3⟩,h4⟩,_⟩:=hf
 have o1:Extern.allGenericRows.lookup "slices.overlaps" = none:=by kernel_rfl
 have o2:Extern.allTypedRows.lookup "slices.overlaps" = some Extern.SlicesOverlaps.overlaps:=by kernel_rfl
 have o4:Extern.allNextRows.lookup "slices.overlaps" = none:=by kernel_rfl
 constructor
 . simp [Extern.findNext,h4,ho,o4]
 . simp [Extern.find,h1,h2,h3,ho,o1,o2]
theorem Oc {fn:Func} (hn:fn.name = "internal/bytealg.IndexByteString") (ho:fn.origin = ""):Extern.findNext fn=none/\Extern.find fn=some Extern.BytealgIndexByte.indexByte:=by
 have o1:Extern.allGenericRows.lookup "internal/bytealg.IndexByteString" = none:=by kernel_rfl
 have o2:Extern.allTypedRows.lookup "internal/bytealg.IndexByteString" = none:=by kernel_rfl
 have o3:Extern.allRows.lookup "internal/bytealg.IndexByteString" = some Extern.BytealgIndexByte.indexByte:=by kernel_rfl
 have o4:Extern.allNextRows.lookup "internal/bytealg.IndexByteString" = none:=by kernel_rfl
 have o5:Extern.allNextRows.lookup "" = none:=by kernel_rfl
 constructor
 . simp [Extern.findNext,hn,ho,o4,o5]
 . simp [Extern.find,hn,o1,o2,o3]
theorem yL:∀ (l:List UInt8) (c:UInt8),Lib.indexByte l c=mP l c
 | [],_=>rfl
 | b::l,c=>by simp only [Lib.indexByte,mP,yL l c]
theorem LB {c:Call} {a:Act} {o:Oper} {fo x y:Operand} (hop:o.op = .call c) (qy:c.callee = .value fo) (hk:NP P fo=some .idx) (jg:c.args.toList=[x,y]) (hi:Inv G own E w σ) {vx vy:AV}
   (hx:aG E w vx (a.eval x)) (hy:aG E w vy (a.eval y)) {r:dH} (h:bd (NN vx vy)=some r):cT P G own E w σ p r (execOp a.eval o):=by
 obtain ⟨f,fn,rfl,Ly,hb,hh⟩:=Bm hk
 rcases hh with ⟨_,hn,ho⟩ | ⟨h0,_⟩
 case inr=>simp at h0
 have key:∃ s n,vx = .str s/\vy = .int .u8 n/\r={ val := .int .i64 (mP s n.toNat.toUInt8) }:=by
   unfold NN at h
   split at h
   . simp only [bd,Option.map_some,Option.some.injEq] at h
     exact ⟨_,_,rfl,rfl,h.symm⟩
   . simp [bd] at h
 clear h
 obtain ⟨s,n,rfl,rfl,rfl⟩:=key
 . simp only [aG] at hx hy
   obtain ⟨hn1,SJ⟩:=Oc hn ho
   have hae:c.args.map a.eval = #[.string ⟨s.toArray⟩, .int .u8 n]:=by
     apply Array.ext'
     simp [jg,hx,hy]
   refine ⟨.int .i64 (mP s n.toNat.toUInt8),w,E, .inl (Jb hop qy Ly (by rw [hn];rfl) hb hn1 SJ ?_),⟨Adv.refl own E w,hi,by simp only [aG],fun _ _=>rfl⟩⟩
   rw [hae,Lib.run_indexByteString,yL]
theorem SK (params res:Array TypeId) {tS e:TypeId} {i:TypeInfo} (hp:params[0]? = some tS) (ht:P.underlying tS=some (.slice e)) (cL:P.info? e=some i)
   (a b:Addr) (la ca lb cb:Nat) (hne:a.block≠b.block) {Xj SL:Array Value} {tA tB:TypeId} (ha:w.heap[a.block]? = some (.cells Xj tA (0,0))) (hb:w.heap[b.block]? = some (.cells SL tB (0,0))) (hkB:SL.size≠0) :
   (Extern.SlicesOverlaps.overlaps params res #[.slice (some a) la ca, .slice (some b) lb cb]).run P w = .ok (.bool false) w:=by
 have hnb:(a.block != b.block)=true:=by simpa using hne
 have ahg:(a.block==b.block)=false:=by simpa using hne
 have hsa:w.shape? a.block=some (tA,Xj.size):=by simp [World.shape?,ha]
 have hsb:w.shape? b.block=some (tB,SL.size):=by simp [World.shape?,hb]
 have hfa:w.frozen? a=false:=by simp [World.frozen?,ha]
 have N6:w.frozen? { block:=a.block,off:=Xj.size }=false:=by simp [World.frozen?,ha]
 have hz:(Go.sizeOf e).run P w = .ok i.size w:=dE cL w
 change Sem.run P (α := Value) (do
   let some t:=params[0]? | stuck "slices.overlaps: no parameter types"
   let .slice elem <- underlying t | stuck "slices.overlaps: slice type expected"
   let size <- sizeOf elem
   match (some a:Option Addr),(some b:Option Addr) with
   | some a,some b =>
     if la=0∨lb=0∨size=0 then pure (Value.bool false)
     else if a.block != b.block&&(<- frozen a)&&(<- frozen b) then unsupported .addressObserved
     else do
       if a.block != b.block then do
         noView a;noView b
         if <- mayBeOne a b then return Value.bool ((<- choose (.extern "sameAddr.stringBytes" 2))==1)
       pure (Value.bool (a.block==b.block&&a.off<b.off+lb*size&&b.off<a.off+la*size))
   | _,_=>pure (Value.bool false)) w=_
 rw [hp]
 by_cases h0:la=0∨lb=0∨i.size=0
 . simp [run_underlying ht,hz,h0]
 . cases hk:SL.size with
   | zero=>exact absurd hk hkB
   | succ kB =>
     simp [run_underlying ht,hz,h0,hnb,ahg,frozen,noView,viewAt,mayBeOne,stringish,shape,Sem.run,hsa,hsb,hfa,N6,hk]
theorem LC {c:Call} {a:Act} {o:Oper} {fo x y:Operand} (hop:o.op = .call c) (qy:c.callee = .value fo) (hk:NP P fo=some .ovl) (jg:c.args.toList=[x,y]) (hi:Inv G own E w σ) {vx vy:AV}
   (hx:aG E w vx (a.eval x)) (hy:aG E w vy (a.eval y)) {r:dH} (h:Lp σ vx vy=some r):cT P G own E w σ p r (execOp a.eval o):=by
 obtain ⟨f,fn,rfl,Ly,hb,hh⟩:=Bm hk
 rcases hh with ⟨h0,_⟩ | ⟨_,ho,hnf,tS,e,i,hp,ht,cL⟩
 case inl=>simp at h0
 unfold Lp at h
 split at h
 . rename_i id1 k1 o1 l1 t1 Hp k2 o2 l2 t2
   split at h
   . simp at h
   . rename_i hne
     split at h
     . rename_i b1 b2 h1 h2
       split at h
       . rename_i lq
         simp only [Option.some.injEq] at h;subst h
         simp only [aG] at hx hy
         obtain ⟨g1,N1,c1,U1,kL,_⟩:=hx
         obtain ⟨g2,N2,c2,uf,qe,_⟩:=hy
         obtain ⟨g1',N1',anc,ty1,hB1⟩:=hi.blk id1 b1 h1
         obtain ⟨g2',N2',Xi,ty2,wX⟩:=hi.blk Hp b2 h2
         have hg:g1≠g2:=hi.inj id1 Hp _ _ (by simp [h1]) (by simp [h2]) hne U1 uf
         rw [hB1.μ] at U1
         rw [wX.μ] at uf
         simp only [Option.some.injEq,Prod.mk.injEq] at U1 uf
         obtain ⟨rfl,_,_⟩:=U1
         obtain ⟨rfl,_,_⟩:=uf
         obtain ⟨hn1,SJ⟩:=LA hnf ho
         have qz:(fn.name == "runtime.NumGoroutine")=false:=by
           unfold qx at hnf
           simp only [Bool.and_eq_true,Bool.not_eq_true'] at hnf
           exact hnf.2
         have hae:c.args.map a.eval = #[.slice (some ⟨g1',o1*k1,none⟩) l1 c1, .slice (some ⟨g2',o2*k2,none⟩) l2 c2]:=by
           apply Array.ext'
           simp [jg,kL,qe]
         have hsz:Xi.size≠0:=by
           rw [wX.size]
           have hl:=wX.len
           exact Nat.ne_of_gt (Nat.mul_pos (by omega) lq.1)
         refine ⟨.bool false,w,E, .inl (Jb hop qy Ly qz hb hn1 SJ ?_),⟨Adv.refl own E w,hi,by simp only [aG],fun _ _=>rfl⟩⟩
         rw [hae]
         exact SK fn.params fn.resultTypes hp ht cL _ _ _ _ _ _ hg hB1.heap wX.heap hsz
       . simp at h
     . simp at h
 . simp at h
theorem AL (hi:Inv G own E w σ) (hμ : E.μ p=none) (hσ : σ p=none) {t:List AV} {a:Act} (hf:bW E w t a) {b:Builtin} {args:Array Operand} {ts:Array TypeId} {ty:TypeId} {cs:Array Bool} {vo:eL aI}
   (hc:tY P b args ts=some vo) {r:dH} (h:bu σ p (vo.map (aI.ev G t))=some r) {R:Prop}
   (fin:∀ {s:Sem Value},builtin b ts ty cs (args.map a.eval)=(do pure (.value (<- s)))->Sound P G own E w σ p s r->R):R:=by
 unfold tY at hc
 split at hc
 . -- len
   rename_i x tx jg SM
   have kO:args = #[x]:=by apply Array.ext';simpa using jg
   have CQ:ts = #[tx]:=by apply Array.ext';simpa using SM
   refine fin (s:=Builtin.len_ ts ty (args.map a.eval)) rfl ?_
   rw [kO,CQ]
   split at hc
   . rename_i hu
     simp only [Option.map_eq_some_iff] at hc;obtain ⟨va,sz,rfl⟩:=hc
     simp only [eL.map,bu] at h
     have hr:=aJ hf hi sz
     refine Sound.dT h fun cc hcc => ?_
     cases hx:va.ev G t<;>simp only [hx,jY,Option.some.injEq,reduceCtorEq] at hcc
     rename_i l
     rw [hx] at hr
     simp only [aG] at hr
     subst hcc
     refine Sound.same (v := .int .i64 l.length) hi ?_ (by simp only [aG])
     have hsz:(ByteArray.mk l.toArray).size=l.length:=by show l.toArray.size=l.length;simp
     simp [Builtin.len_,run_underlying hu,hr,goInt,hsz]
   . rename_i e hu
     simp only [Option.map_eq_some_iff] at hc;obtain ⟨va,sz,rfl⟩:=hc
     simp only [eL.map,bu] at h
     have hr:=aJ hf hi sz
     refine Sound.dT h fun cc hcc => ?_
     have hrun:∀ (ad:Option Addr) (n c:Nat),a.eval x = .slice ad n c->(Builtin.len_ #[tx] ty (#[x].map a.eval)).run P w = .ok (.int .i64 n) w:=by
       intro ad n c he
       simp [Builtin.len_,run_underlying hu,he,goInt]
     cases hx:va.ev G t<;>simp only [hx,jY,Option.some.injEq,reduceCtorEq] at hcc<;>rw [hx] at hr<;>simp only [aG] at hr<;>subst hcc
     . obtain ⟨ad,cap,he,_⟩:=hr
       exact Sound.same hi (hrun _ _ _ he) (by simp only [aG])
     . obtain ⟨ad,he,_⟩:=hr
       exact Sound.same hi (hrun _ _ _ he) (by simp only [aG])
     . exact Sound.same hi (hrun _ _ _ hr) (by simp only [aG];rfl)
     . obtain ⟨g,N,cap,_,he,_⟩:=hr
       exact Sound.same hi (hrun _ _ _ he) (by simp only [aG])
   . rename_i n e hu
     simp only [Option.map_eq_some_iff] at hc;obtain ⟨va,sz,rfl⟩:=hc
     simp only [eL.map,bu] at h
     refine Sound.dT h fun cc hcc => ?_
     simp only [Option.some.injEq] at hcc;subst hcc
     refine Sound.same (v := .int .i64 n) hi ?_ (by simp only [aG])
     simp [Builtin.len_,run_underlying hu,goInt]
   . simp at hc
 . -- append
   rename_i s x t1 t2 jg SM
   have kO:args = #[s,x]:=by apply Array.ext';simpa using jg
   have CQ:ts = #[t1,t2]:=by apply Array.ext';simpa using SM
   refine fin (s:=Builtin.append_ ts ty (args.map a.eval)) rfl ?_
   rw [kO,CQ]
   split at hc
   . rename_i e hu
     split at hc
     . rename_i i cL
       split at hc
       . rename_i hh
         obtain ⟨Xk,_,_,hz⟩:=hh
         obtain ⟨e',Bl⟩:=AH Xk
         split at hc
         . rename_i vs vx Hq gI
           simp only [Option.some.injEq] at hc;subst hc
           simp only [eL.map,bu] at h
           obtain ⟨v,w',E',hr,hp⟩:=CP (ty:=ty) hi hμ hσ hu cL hz (aJ hf hi Hq) (aJ hf hi gI) h
           refine ⟨v,w',E', ?_,hp⟩
           rw [<- hr, <- vU (ty:=ty) hu Bl]
           simp
         . simp at hc
       . split at hc
         . rename_i kn z vs vx SN hz Hq gI
           split at hc
           . rename_i lq
             simp only [Option.some.injEq] at hc;subst hc
             simp only [eL.map,bu] at h
             have:=HH (P:=P) (ty:=ty) hi hμ hσ hu cL SN hz lq (aJ hf hi Hq) (aJ hf hi gI) h
             simpa using this
           . simp at hc
         . simp at hc
     . simp at hc
   . simp at hc
 . -- cap
   rename_i x tx jg SM
   have kO:args = #[x]:=by apply Array.ext';simpa using jg
   have CQ:ts = #[tx]:=by apply Array.ext';simpa using SM
   refine fin (s:=Builtin.cap_ ts ty (args.map a.eval)) rfl ?_
   rw [kO,CQ]
   split at hc
   . rename_i e hu
     simp only [Option.map_eq_some_iff] at hc;obtain ⟨va,sz,rfl⟩:=hc
     simp only [eL.map,bu] at h
     have hr:=aJ hf hi sz
     rcases HI h with h | ⟨id,k,off,len,bk,hx,kY,anf,rfl⟩
     case inr =>
       rw [hx] at hr;simp only [aG] at hr
       obtain ⟨g,N,cap,CO,hv,h1,h2,h3,h4⟩:=hr
       obtain ⟨g',N',cur,Hy,hB⟩:=hi.blk id bk kY
       rw [hB.μ] at CO
       simp only [Option.some.injEq,Prod.mk.injEq] at CO
       obtain ⟨rfl,_,rfl⟩:=CO
       refine Sound.same (v := .int .i64 cap) hi (by simp [Builtin.cap_,run_underlying hu,hv,goInt]) ?_
       simp only [aG]
       have:=hB.len
       simp only [Bool.false_eq_true,if_false] at h4
       exact ⟨cap,by omega,rfl⟩
     refine Sound.dT h fun cc hcc => ?_
     have hrun:∀ (ad:Option Addr) (n c:Nat),a.eval x = .slice ad n c->(Builtin.cap_ #[tx] ty (#[x].map a.eval)).run P w = .ok (.int .i64 c) w:=by
       intro ad n c he
       simp [Builtin.cap_,run_underlying hu,he,goInt]
     unfold NM at hcc
     split at hcc
     . rename_i hx
       rw [hx] at hr;simp only [aG] at hr
       simp only [Option.some.injEq] at hcc;subst hcc
       exact Sound.same hi (hrun _ _ _ hr) (by simp only [aG];rfl)
     . rename_i hx
       rw [hx] at hr;simp only [aG] at hr
       simp only [Option.some.injEq] at hcc;subst hcc
       obtain ⟨ad,he,_⟩:=hr
       exact Sound.same hi (hrun _ _ _ he) (by simp only [aG])
     . rename_i hx
       rw [hx] at hr;simp only [aG,if_true] at hr
       simp only [Option.some.injEq] at hcc;subst hcc
       obtain ⟨g,N,cap,_,he,_,_,_,SH⟩:=hr
       subst SH
       exact Sound.same hi (hrun _ _ _ he) (by simp only [aG])
     . simp at hcc
   . simp at hc
 . -- clear
   rename_i x tx jg SM
   have kO:args = #[x]:=by apply Array.ext';simpa using jg
   have CQ:ts = #[tx]:=by apply Array.ext';simpa using SM
   refine fin (s:=Builtin.clear_ ts ty (args.map a.eval)) rfl ?_
   rw [kO,CQ]
   split at hc
   . rename_i e hu
     split at hc
     . rename_i z vx hz gI
       split at hc
       . rename_i lq
         simp only [Option.some.injEq] at hc;subst hc
         simp only [eL.map,bu] at h
         have:=Es (P:=P) (p:=p) (ty:=ty) hi hu hz lq (aJ hf hi gI) h
         simpa using this
       . simp at hc
     . simp at hc
   . simp at hc
 . -- copy
   rename_i d x t1 t2 jg SM
   have kO:args = #[d,x]:=by apply Array.ext';simpa using jg
   have CQ:ts = #[t1,t2]:=by apply Array.ext';simpa using SM
   refine fin (s:=Builtin.copy_ ts ty (args.map a.eval)) rfl ?_
   rw [kO,CQ]
   split at hc
   . rename_i e hu
     split at hc
     . rename_i i cL
       split at hc
       . split at hc
         . rename_i vd vx hvd gI
           simp only [Option.some.injEq] at hc;subst hc
           simp only [eL.map,bu] at h
           have:=HF (P:=P) (p:=p) (ty:=ty) (t2:=t2) hi hu cL (aJ hf hi hvd) (aJ hf hi gI) h
           simpa using this
         . simp at hc
       . simp at hc
     . simp at hc
   . simp at hc
 . -- min
   rename_i x y jg
   have kO:args = #[x,y]:=by apply Array.ext';simpa using jg
   refine fin (s:=Builtin.min_ ts ty (args.map a.eval)) rfl ?_
   rw [kO]
   split at hc
   . rename_i vx vy gI CR
     simp only [Option.some.injEq] at hc;subst hc
     simp only [eL.map,bu] at h
     have SP:=aJ hf hi gI
     have SQ:=aJ hf hi CR
     split at h
     . rename_i k n k' m hx hy
       rw [hx] at SP;rw [hy] at SQ
       simp only [aG] at SP SQ
       refine Sound.dT h fun cc hcc => ?_
       simp only [Option.some.injEq] at hcc;subst hcc
       refine Sound.same (v := .int k (if m<n then m else n)) hi ?_ (by simp only [aG])
       simp [Builtin.min_,SP,SQ,Builtin.min2]
     . simp at h
   . simp at hc
 . -- max
   rename_i x y jg
   have kO:args = #[x,y]:=by apply Array.ext';simpa using jg
   refine fin (s:=Builtin.max_ ts ty (args.map a.eval)) rfl ?_
   rw [kO]
   split at hc
   . rename_i vx vy gI CR
     simp only [Option.some.injEq] at hc;subst hc
     simp only [eL.map,bu] at h
     have SP:=aJ hf hi gI
     have SQ:=aJ hf hi CR
     split at h
     . rename_i k n k' m hx hy
       rw [hx] at SP;rw [hy] at SQ
       simp only [aG] at SP SQ
       refine Sound.dT h fun cc hcc => ?_
       simp only [Option.some.injEq] at hcc;subst hcc
       refine Sound.same (v := .int k (if m>n then m else n)) hi ?_ (by simp only [aG])
       simp [Builtin.max_,SP,SQ,Builtin.max2]
     . simp at h
   . simp at hc
 . simp at hc
theorem ug:∀ {ys:List AV} {l:List UInt8},bytesOf ys=some l->∃ zs:List Int,ys=zs.map (AV.int .u8)/\l=zs.map fun n=>UInt8.ofNat n.toNat
 | [],l,h=>by simp only [bytesOf,Option.some.injEq] at h;subst h;exact ⟨[],rfl,rfl⟩
 | .int .u8 n::r,l,h=>by
   simp only [bytesOf,Option.map_eq_some_iff] at h
   obtain ⟨l',h1,rfl⟩:=h
   obtain ⟨zs,rfl,rfl⟩:=ug h1
   exact ⟨n::zs,rfl,rfl⟩
theorem Bn (k:IntKind):∀ zs:List Int,flat (zs.map (AV.int k))=zs.map (AV.int k)
 | []=>rfl
 | z::zs=>by have:=Bn k zs;simp only [List.map_cons,flat,List.flatMap_cons,AV.cells] at this ⊢;rw [this];rfl
theorem yM (hi:Inv G own E w σ) {src dst e:TypeId} (hs:P.underlying src=some (.slice e)) (he:P.underlying e=some (.int .u8)) (hd:P.underlying dst=some .string) {x:AV} {v:Value} (hx:aG E w x v) {r:dH} (h:lV σ x=some r) :
   Sound P G own E w σ p (convert src dst v) r:=by
 unfold lV at h
 split at h
 . rename_i ys rd qf
   simp only [Option.map_eq_some_iff] at h
   obtain ⟨l,hl,rfl⟩:=h
   obtain ⟨zs,rfl,rfl⟩:=ug hl
   obtain ⟨_,a,cap,rfl,hle,hr⟩:=rq hi hx qf
   refine Sound.same (v := .string ⟨(zs.map fun n=>UInt8.ofNat n.toNat).toArray⟩) hi ?_ (by simp [aG])
   rcases hr with hr | ⟨b,o,rfl,hr⟩
   . have hz:zs=[]:=by simpa using hr
     subst hz
     rw [run_convert_bytes_string w src dst e _ _ _ hs he hd]
     cases a with
     | none=>simp [Conv.bytesToString];rfl
     | some a =>
       rw [run_bytesToString w a _ _ [] (by simp [loadCells,loadCellsFrom])]
       rfl
   . rw [Bn] at hr
     have:=run_convert_bytes_arg (P:=P) w src e hs he b o zs.length cap zs rfl (fun i hil=>by
       obtain ⟨v,h1,h2⟩:=hr i (.int .u8 zs[i]) (by rw [List.getElem?_map,List.getElem?_eq_getElem hil];rfl)
       simp only [aG] at h2
       subst h2
       have Xl:(⟨b,o,none⟩:Addr).add i=⟨b,o+i,none⟩:=by simp [Addr.add]
       first | rw [Xl] at h1 | skip
       rw [h1,List.getD_eq_getElem?_getD,List.getElem?_eq_getElem hil];rfl) dst hd
     simpa [strOfNums] using this
 . simp at h
theorem uh {n:Int} (hn:0<=n/\n<128):Utf8.encode n=⟨[UInt8.ofNat n.toNat].toArray⟩:=by
 have hv:Utf8.valid n=true:=by unfold Utf8.valid;simp;omega
 unfold Utf8.encode
 simp only [hv,if_true]
 rw [if_pos (by omega)]
theorem LD (hi:Inv G own E w σ) (hμ : E.μ p=none) (hσ : σ p=none) {t:List AV} {a:Act} (hf:bW E w t a) {o:Oper} {vo:eL aI} (hc:jZ P o.op=some vo) {r:dH}
   (h:bu σ p (vo.map (aI.ev G t))=some r):cT P G own E w σ p r (execOp a.eval o):=by
 unfold execOp
 cases ho:o.op<;>rw [ho] at hc<;>simp only []
 case move x =>
   simp only [jZ,Option.map_eq_some_iff] at hc;obtain ⟨va,sz,rfl⟩:=hc
   simp only [eL.map,bu,bd,Option.map_some,Option.some.injEq] at h;subst h
   exact ⟨a.eval x,w,E, .inl rfl,Adv.refl own E w,hi,aJ hf hi sz,fun _ _=>rfl⟩
 case assign x =>
   simp only [jZ,Option.map_eq_some_iff] at hc;obtain ⟨va,sz,rfl⟩:=hc
   simp only [eL.map,bu,bd,Option.map_some,Option.some.injEq] at h;subst h
   exact ⟨a.eval x,w,E, .inl rfl,Adv.refl own E w,hi,aJ hf hi sz,fun _ _=>rfl⟩
 case pick c x y =>
   simp only [jZ] at hc
   cases SR:cg c with
   | none=>simp [SR] at hc
   | some vc =>
   cases gI:cg x with
   | none=>simp [SR,gI] at hc
   | some vx =>
   cases CR:cg y with
   | none=>simp [SR,gI,CR] at hc
   | some vy =>
     simp only [SR,gI,CR,Option.some.injEq] at hc;subst hc
     simp only [eL.map,bu] at h
     have SC:=aJ hf hi SR
     have SP:=aJ hf hi gI
     have SQ:=aJ hf hi CR
     split at h
     . rename_i b hb
       rw [hb] at SC
       simp only [aG] at SC
       simp only [bd,Option.map_some,Option.some.injEq] at h;subst h
       refine ⟨if b then a.eval x else a.eval y,w,E, .inl (by simp [SC,asBool]),Adv.refl own E w,hi, ?_,fun _ _=>rfl⟩
       cases b
       . exact SQ
       . exact SP
     . simp at h
 case alloc ty =>
   simp only [jZ,Option.map_eq_some_iff] at hc;obtain ⟨z,hz,rfl⟩:=hc
   simp only [eL.map,bu,aI.ev] at h
   obtain ⟨it,zv,hit,Hj,Lw,I5,I6⟩:=iK hz
   split at h
   . simp only [Option.some.injEq] at h;subst h
     have:=Bi (P:=P) (p:=p) hi hμ hσ (fT Lw) I6 ty
     refine cT.of ?_
     obtain ⟨v,w',E',hr,hp⟩:=this
     refine ⟨v,w',E', ?_,hp⟩
     simp only [Instr.alloc,Sem.run_bind,sC hit Hj,Result.andThen_ok]
     exact hr
   . rename_i hno;exact absurd I6 hno
 case box ty x =>
   simp only [jZ,Option.map_eq_some_iff] at hc;obtain ⟨va,sz,rfl⟩:=hc
   simp only [eL.map,bu] at h
   split at h
   . rename_i me
     simp only [Option.some.injEq] at h;subst h
     exact cT.of (Bi hi hμ hσ (aJ hf hi sz) me ty)
   . simp at h
 case build ty ps=>exact cT.of (Em hi hf hc h)
 case buildSlice ty n ps=>exact cT.of (AB hi hμ hσ hf hc h)
 case load ty x =>
   simp only [jZ] at hc
   cases ha:kM P ty with
   | none=>simp [ha] at hc
   | some g =>
   cases xK:P.info? ty with
   | none=>simp [ha,xK] at hc
   | some i =>
   cases gI:cg x with
   | none=>simp [ha,xK,gI] at hc
   | some vx =>
     simp only [ha,xK,gI] at hc
     split at hc
     . simp only [Option.some.injEq] at hc;subst hc
       simp only [eL.map,bu] at h
       exact cT.of (Ek hi ha xK (aJ hf hi gI) h)
     . simp at hc
 case store ty x y =>
   simp only [jZ] at hc
   cases xK:P.info? ty with
   | none=>simp [xK] at hc
   | some i =>
   cases gI:cg x with
   | none=>simp [xK,gI] at hc
   | some vx =>
   cases CR:cg y with
   | none=>simp [xK,gI,CR] at hc
   | some vy =>
     simp only [xK,gI,CR,Option.some.injEq] at hc;subst hc
     simp only [eL.map,bu] at h
     exact cT.ofU (CF hi xK (aJ hf hi gI) (aJ hf hi CR) h)
 case nilCheck x =>
   simp only [jZ,Option.map_eq_some_iff] at hc;obtain ⟨va,sz,rfl⟩:=hc
   simp only [eL.map,bu] at h
   have hr:=aJ hf hi sz
   split at h
   . rename_i id e q hx
     simp only [bd,Option.map_some,Option.some.injEq] at h;subst h
     rw [hx] at hr ⊢
     have yG:=hr
     simp only [aG] at hr
     obtain ⟨g,k,N,hm,he⟩:=hr
     exact ⟨a.eval x,w,E, .inl (by rw [he];rfl),Adv.refl own E w,hi,yG,fun _ _=>rfl⟩
   . rename_i cs q hx
     simp only [bd,Option.map_some,Option.some.injEq] at h;subst h
     rw [hx] at hr ⊢
     have yG:=hr
     simp only [aG] at hr
     obtain ⟨b,q,he,_⟩:=hr
     exact ⟨a.eval x,w,E, .inl (by rw [he];rfl),Adv.refl own E w,hi,yG,fun _ _=>rfl⟩
   . rename_i f l1 l2 hx
     simp only [bd,Option.map_some,Option.some.injEq] at h;subst h
     rw [hx] at hr ⊢
     have yG:=hr
     simp only [aG] at hr
     obtain ⟨xs,ys,he,_⟩:=hr
     exact ⟨a.eval x,w,E, .inl (by rw [he];rfl),Adv.refl own E w,hi,yG,fun _ _=>rfl⟩
   . simp at h
 case binOp op ty x y Hy =>
   simp only [jZ] at hc
   cases I4:Lq P ty with
   | none=>simp [I4] at hc
   | some sh =>
   cases gI:cg x with
   | none=>simp [I4,gI] at hc
   | some vx =>
   cases CR:cg y with
   | none=>simp [I4,gI,CR] at hc
   | some vy =>
     simp only [I4,gI,CR,Option.some.injEq] at hc;subst hc
     simp only [eL.map,bu] at h
     refine cT.of (Sound.dT h fun c hcc => ?_)
     unfold bo at hcc
     split at hcc
     . rename_i c' ahh
       simp only [Option.some.injEq] at hcc;subst hcc
       obtain ⟨h1,h2,h3,h4⟩:=N3 (P:=P) I4 ahh (aJ hf hi gI) (aJ hf hi CR)
       refine Sound.same hi ?_ (Be h2)
       simp only [Sem.run_bind,ua op ty x y _ _ h3 h4,Result.andThen_ok]
       exact h1
     . obtain ⟨⟨q,h1,h2⟩,h3,h4⟩:=Lv (P:=P) I4 hcc (aJ hf hi gI) (aJ hf hi CR)
       refine Sound.same (v := .bool q) hi ?_ h1
       simp only [Sem.run_bind,ua op ty x y _ _ h3 h4,Result.andThen_ok]
       exact h2
 case unOp op ty x =>
   simp only [jZ,Option.map_eq_some_iff] at hc;obtain ⟨va,sz,rfl⟩:=hc
   simp only [eL.map,bu] at h
   refine cT.of (Sound.dT h fun c hcc => ?_)
   obtain ⟨h1,h2⟩:=SB (P:=P) hcc (aJ hf hi sz)
   exact Sound.same hi h1 (Be h2)
 case convert src dst x =>
   simp only [jZ] at hc
   split at hc
   . rename_i k1 k2 h1 h2
     simp only [Option.map_eq_some_iff] at hc;obtain ⟨va,sz,rfl⟩:=hc
     simp only [eL.map,bu] at h
     have hr:=aJ hf hi sz
     split at h
     . rename_i k n hx
       rw [hx] at hr
       simp only [aG] at hr
       simp only [bd,Option.map_some,Option.some.injEq] at h;subst h
       refine cT.of (Sound.same (v := .int k2 (k2.wrap n)) hi ?_ (by simp [aG]))
       rw [hr]
       simp [convert,run_underlying h1,run_underlying h2,Conv.intToInt]
     . simp at h
   . rename_i h1 h2
     simp only [Option.map_eq_some_iff] at hc;obtain ⟨va,sz,rfl⟩:=hc
     simp only [eL.map,bu] at h
     have hr:=aJ hf hi sz
     split at h
     . rename_i l hx
       rw [hx] at hr h
       have yG:=hr
       simp only [aG] at hr
       simp only [bd,Option.map_some,Option.some.injEq] at h;subst h
       refine cT.of (Sound.same hi ?_ yG)
       rw [hr]
       simp [convert,run_underlying h1,run_underlying h2]
     . rename_i k n hx
       rw [hx] at hr
       simp only [aG] at hr
       split at h
       . rename_i hn
         simp only [bd,Option.map_some,Option.some.injEq] at h;subst h
         refine cT.of (Sound.same (v := .string (Utf8.encode n)) hi ?_ (by simp [aG,uh hn]))
         rw [hr]
         simp [convert,run_underlying h1,run_underlying h2,Conv.intToString]
       . simp at h
     . simp at h
   . rename_i k1 h1 h2
     simp only [Option.map_eq_some_iff] at hc;obtain ⟨va,sz,rfl⟩:=hc
     simp only [eL.map,bu] at h
     have hr:=aJ hf hi sz
     split at h
     . rename_i l hx
       rw [hx] at hr h
       have yG:=hr
       simp only [aG] at hr
       simp only [bd,Option.map_some,Option.some.injEq] at h;subst h
       refine cT.of (Sound.same hi ?_ yG)
       rw [hr]
       simp [convert,run_underlying h1,run_underlying h2]
     . rename_i k n hx
       rw [hx] at hr
       simp only [aG] at hr
       split at h
       . rename_i hn
         simp only [bd,Option.map_some,Option.some.injEq] at h;subst h
         refine cT.of (Sound.same (v := .string (Utf8.encode n)) hi ?_ (by simp [aG,uh hn]))
         rw [hr]
         simp [convert,run_underlying h1,run_underlying h2,Conv.intToString]
       . simp at h
     . simp at h
   . rename_i e h1 h2
     split at hc
     . rename_i he
       simp only [Option.map_eq_some_iff] at hc;obtain ⟨va,sz,rfl⟩:=hc
       simp only [eL.map,bu] at h
       exact cT.of (yM hi h1 he h2 (aJ hf hi sz) h)
     . simp at hc
   . simp at hc
 case makeFunc fn first cap =>
   simp only [jZ] at hc
   cases h1:yC first with
   | none=>simp [h1] at hc
   | some va =>
   cases h2:yC cap with
   | none=>simp [h1,h2] at hc
   | some vc =>
     simp only [h1,h2,Option.some.injEq] at hc;subst hc
     simp only [eL.map,bu,bd,Option.map_some,Option.some.injEq] at h;subst h
     refine cT.of (Sound.same (v := .func fn (first.map a.eval) (cap.map a.eval)) hi (by simp [Instr.makeFunc]) ?_)
     simp only [aG]
     exact ⟨_,_,rfl,vM hf hi h1,vM hf hi h2⟩
 case makeSlice ty l c =>
   simp only [jZ] at hc
   cases hu:P.underlying ty with
   | none=>simp [hu] at hc
   | some d =>
   cases d<;>simp only [hu,reduceCtorEq] at hc
   rename_i e
   cases cL:P.info? e with
   | none=>simp [cL] at hc
   | some i =>
   cases hz:jk P e with
   | none=>simp [cL,hz] at hc
   | some z =>
   cases nw:cg l with
   | none=>simp [cL,hz,nw] at hc
   | some vl =>
   cases SR:cg c with
   | none=>simp [cL,hz,nw,SR] at hc
   | some vc =>
     simp only [cL,hz,nw,SR] at hc
     split at hc
     . rename_i hh
       simp only [Option.some.injEq] at hc;subst hc
       simp only [eL.map,bu] at h
       exact cT.of (HB hi hμ hσ hu cL hz hh.1 (aJ hf hi nw) (aJ hf hi SR) h)
     . simp at hc
 case slice ty x lo kN mx =>
   simp only [jZ] at hc
   cases hu:P.underlying ty with
   | none=>simp [hu] at hc
   | some d =>
   cases d<;>simp only [hu,reduceCtorEq] at hc
   case string =>
     cases gI:cg x with
     | none=>simp [gI] at hc
     | some vx =>
     cases nw:qw lo with
     | none=>simp [gI,nw] at hc
     | some vl =>
     cases Jc:qw kN with
     | none=>simp [gI,nw,Jc] at hc
     | some vh =>
     cases mx with
     | some _=>simp [gI,nw,Jc] at hc
     | none =>
       simp only [gI,nw,Jc,Option.some.injEq] at hc;subst hc
       simp only [eL.map,bu] at h
       refine cT.of (Sound.dT h fun c hcc => ?_)
       exact AE hi hu (aJ hf hi gI) (mf hf hi nw) (mf hf hi Jc) hcc
   case array n e =>
     cases cL:P.info? e with
     | none=>simp [cL] at hc
     | some i =>
     cases gI:cg x with
     | none=>simp [cL,gI] at hc
     | some vx =>
     cases nw:qw lo with
     | none=>simp [cL,gI,nw] at hc
     | some vl =>
     cases Jc:qw kN with
     | none=>simp [cL,gI,nw,Jc] at hc
     | some vh =>
     cases mx with
     | some _=>simp [cL,gI,nw,Jc] at hc
     | none =>
       simp only [cL,gI,nw,Jc] at hc
       split at hc
       . rename_i hh
         simp only [Option.some.injEq] at hc;subst hc
         simp only [eL.map,bu] at h
         exact cT.of (AK hi hu cL hh.1 hh.2 (aJ hf hi gI) (mf hf hi nw) (mf hf hi Jc) h)
       . simp at hc
   case slice e =>
     cases cL:P.info? e with
     | none=>simp [cL] at hc
     | some i =>
     cases gI:cg x with
     | none=>simp [cL,gI] at hc
     | some vx =>
     cases nw:qw lo with
     | none=>simp [cL,gI,nw] at hc
     | some vl =>
     cases Jc:qw kN with
     | none=>simp [cL,gI,nw,Jc] at hc
     | some vh =>
     cases hvm:qw mx with
     | none=>simp [cL,gI,nw,Jc,hvm] at hc
     | some vm =>
       simp only [cL,gI,nw,Jc,hvm] at hc
       split at hc
       . rename_i hh
         simp only [Option.some.injEq] at hc;subst hc
         simp only [eL.map,bu] at h
         exact cT.of (AJ hi hu cL (aJ hf hi gI) (mf hf hi nw) (mf hf hi Jc) (mf hf hi hvm) (by simpa using hh) h)
       . simp at hc
 case fieldAddr s x f =>
   simp only [jZ] at hc
   cases hu:P.underlying s with
   | none=>simp [hu] at hc
   | some d =>
   cases d<;>simp only [hu,reduceCtorEq] at hc
   rename_i fs
   cases Xm:fs[f]? with
   | none=>simp [Xm] at hc
   | some fd =>
   simp only [Xm] at hc
   cases cL:P.info? fd.type with
   | none=>simp [cL] at hc
   | some i =>
   cases gI:cg x with
   | none=>simp [cL,gI] at hc
   | some vx =>
     simp only [cL,gI] at hc
     split at hc
     . simp at hc
     . rename_i h0
       simp only [Option.some.injEq] at hc;subst hc
       exact cT.of (Eo hi hu Xm cL h0 (aJ hf hi gI) h)
 case field s x f =>
   simp only [jZ] at hc
   cases hu:P.underlying s with
   | none=>simp [hu] at hc
   | some d =>
   cases d<;>simp only [hu,reduceCtorEq] at hc
   rename_i fs
   cases Xm:fs[f]? with
   | none=>simp [Xm] at hc
   | some fd =>
   simp only [Xm] at hc
   cases Nt:kM P fd.type with
   | none=>simp [Nt] at hc
   | some g =>
   cases cL:P.info? fd.type with
   | none=>simp [Nt,cL] at hc
   | some i =>
   cases gI:cg x with
   | none=>simp [Nt,cL,gI] at hc
   | some vx =>
     simp only [Nt,cL,gI,Option.some.injEq] at hc;subst hc
     simp only [eL.map,bu] at h
     have hr:=aJ hf hi gI
     split at h
     . rename_i cs hx
       rw [hx] at hr
       simp only [aG] at hr
       obtain ⟨xs,he,hr⟩:=hr
       refine cT.of (Sound.dT h fun c hcc => ?_)
       obtain ⟨v,hv,yF⟩:=Ep (P:=P) Nt cL hr hcc
       refine Sound.same hi ?_ yF
       rw [he]
       simp [Instr.field,run_underlying hu,Xm,asAgg,hv]
     . simp at h
 case indexAddr ty x ix =>
   simp only [jZ] at hc
   cases hu:P.underlying ty with
   | none=>simp [hu] at hc
   | some d =>
   cases d<;>simp only [hu,reduceCtorEq] at hc
   case slice e =>
     cases cL:P.info? e with
     | none=>simp [cL] at hc
     | some i =>
     cases gI:cg x with
     | none=>simp [cL,gI] at hc
     | some vx =>
     cases Eu:cg ix with
     | none=>simp [cL,gI,Eu] at hc
     | some vi =>
       simp only [cL,gI,Eu,Option.some.injEq] at hc;subst hc
       simp only [eL.map,bu] at h
       refine cT.of (Sound.dT h fun c hcc => ?_)
       exact CK hi hu cL (aJ hf hi gI) (aJ hf hi Eu) hcc
   case array n e =>
     cases cL:P.info? e with
     | none=>simp [cL] at hc
     | some i =>
     cases gI:cg x with
     | none=>simp [cL,gI] at hc
     | some vx =>
     cases Eu:cg ix with
     | none=>simp [cL,gI,Eu] at hc
     | some vi =>
       simp only [cL,gI,Eu,Option.some.injEq] at hc;subst hc
       simp only [eL.map,bu] at h
       refine cT.of (Sound.dT h fun c hcc => ?_)
       exact CL hi hu cL (aJ hf hi gI) (aJ hf hi Eu) hcc
 case index ty x ix =>
   simp only [jZ] at hc
   cases hu:P.underlying ty with
   | none=>simp [hu] at hc
   | some d =>
   cases d<;>simp only [hu,reduceCtorEq] at hc
   case string =>
     cases gI:cg x with
     | none=>simp [gI] at hc
     | some vx =>
     cases Eu:cg ix with
     | none=>simp [gI,Eu] at hc
     | some vi =>
       simp only [gI,Eu,Option.some.injEq] at hc;subst hc
       simp only [eL.map,bu] at h
       have hr:=aJ hf hi gI
       have Od:=aJ hf hi Eu
       split at h
       . rename_i s k n hx hn
         rw [hx] at hr;rw [hn] at Od
         simp only [aG] at hr Od
         split at h
         . rename_i h0
           refine cT.of (Sound.dT h fun c hcc => ?_)
           simp only [Option.map_eq_some_iff] at hcc
           obtain ⟨b,hb,rfl⟩:=hcc
           refine Sound.same (v := .int .u8 b.toNat) hi ?_ (by simp [aG])
           rw [hr,Od]
           have Ho:(ByteArray.mk s.toArray)[n.toNat]? = some b:=by
             have hlt:=(List.getElem?_eq_some_iff.1 hb)
             obtain ⟨h1,h2⟩:=hlt
             rw [getElem?_pos (ByteArray.mk s.toArray) n.toNat (by simpa [ByteArray.size] using h1)]
             congr 1
           simp [Instr.index,run_underlying hu,asIntOf,h0,Ho]
         . simp at h
       . simp at h
   case array n e =>
     cases Nt:kM P e with
     | none=>simp [Nt] at hc
     | some g =>
     cases cL:P.info? e with
     | none=>simp [Nt,cL] at hc
     | some i =>
     cases gI:cg x with
     | none=>simp [Nt,cL,gI] at hc
     | some vx =>
     cases Eu:cg ix with
     | none=>simp [Nt,cL,gI,Eu] at hc
     | some vi =>
       simp only [Nt,cL,gI,Eu,Option.some.injEq] at hc;subst hc
       simp only [eL.map,bu] at h
       have hr:=aJ hf hi gI
       have Od:=aJ hf hi Eu
       split at h
       . rename_i cs k m hx hn
         rw [hx] at hr;rw [hn] at Od
         simp only [aG] at hr Od
         obtain ⟨xs,he,hr⟩:=hr
         split at h
         . rename_i h0
           refine cT.of (Sound.dT h fun c hcc => ?_)
           obtain ⟨v,hv,yF⟩:=Ep (P:=P) Nt cL hr hcc
           refine Sound.same hi ?_ yF
           rw [he,Od]
           simp [Instr.index,run_underlying hu,asIntOf,h0,dE cL,hv]
         . simp at h
       . simp at h
 case extract x i =>
   simp only [jZ,Option.map_eq_some_iff] at hc;obtain ⟨va,sz,rfl⟩:=hc
   simp only [eL.map,bu] at h
   have hr:=aJ hf hi sz
   split at h
   . rename_i vs hx
     rw [hx] at hr
     simp only [aG] at hr
     obtain ⟨xs,he,hr⟩:=hr
     refine cT.of (Sound.dT h fun c hcc => ?_)
     obtain ⟨v,hv,yF⟩:=(bz.1 hr).2 i c hcc
     refine Sound.same hi ?_ yF
     rw [he]
     simp at hv
     simp [Instr.extract,hv]
   . simp at h
 case call c =>
   simp only [jZ] at hc
   cases qy:c.callee with
   | value f =>
     simp only [qy] at hc
     split at hc
     . split at hc
       . simp only [Option.some.injEq] at hc;subst hc
         simp [eL.map,bu] at h
       . simp at hc
     . rename_i k hk
       unfold SA at hc
       split at hc
       . rename_i x y jg
         split at hc
         . rename_i vx vy gI CR
           simp only [Option.some.injEq] at hc;subst hc
           cases k with
           | idx =>
             simp only [eL.map,bu] at h
             have hh:=LB (p:=p) ho qy hk jg hi (aJ hf hi gI) (aJ hf hi CR) h
             unfold execOp at hh;simp only [ho] at hh;exact hh
           | ovl =>
             simp only [eL.map,bu] at h
             have hh:=LC (p:=p) ho qy hk jg hi (aJ hf hi gI) (aJ hf hi CR) h
             unfold execOp at hh;simp only [ho] at hh;exact hh
         . simp at hc
       . simp at hc
   | invoke _ _=>simp [qy] at hc
   | builtin b =>
     simp only [qy] at hc
     have Ev:∀ w,(do let d <- resolve a.eval c o.type;invoke d.target d.args:Sem Next).run P w =
         (builtin b c.argTypes o.type (c.args.map fun | .const _=>true | _=>false) (c.args.map a.eval)).run P w:=by
       intro w;simp [resolve,qy,invoke];rfl
     have fin:∀ {s:Sem Value},builtin b c.argTypes o.type (c.args.map fun | .const _=>true | _=>false) (c.args.map a.eval)=(do pure (.value (<- s)))->Sound P G own E w σ p s r ->
         cT P G own E w σ p r (do let d <- resolve a.eval c o.type;invoke d.target d.args):=by
       intro s he hs
       obtain ⟨v,w',E',hr,hp⟩:=hs
       exact ⟨v,w',E', .inl (by rw [Ev,he];simp [hr]),hp⟩
     exact AL hi hμ hσ hf hc h fin
 all_goals simp [jZ] at hc
theorem Oe (hi:Inv G own E w σ) (hμ : E.μ p=none) (hσ : σ p=none) {t:List AV} {a:Act} (hf:bW E w t a) {o:Oper} {vo:eL aI} (hc:UW P o.op=some vo) {r:dH}
   (h:bu σ p (vo.map (aI.ev G t))=some r):cT P G own E w σ p r (execOp a.eval o):=by
 unfold UW at hc
 split at hc
 . rename_i v hv
   simp only [Option.some.injEq] at hc;subst hc
   exact LD hi hμ hσ hf hv h
 . simp only [Option.some.injEq] at hc;subst hc
   simp [eL.map,bu] at h
end
end Go.VL
end

section
namespace Go.VL
def aw (P:Program) (G:Nat->Option (List AV)) (f:FuncId) (args:List AV) (p:Id) (S:List (Id × cN)) (r:dH):Prop :=
 (∃ fn,P.funcs[f]? = some fn/\(fn.name == "runtime.NumGoroutine")=false/\fn.body.isSome=true) /\
 ∀ own E w σ vs,(∀ x∈S, σ x.1=some x.2)->Inv G own E w σ -> aK E w args vs->(∀ j,p <:+ j->E.μ j=none) ->
   Calls P f vs.toArray w fun e w'=>∃ v E',e = .returned v/\iJ G own E w σ p r v E' w'
def hZ (P:Program) (G:Nat->Option (List AV)) (σ : ae) (p:Id) (op:eL AV) (r:dH):Prop :=
 match op with
 | .call f as=>match f with
   | .fn (.func f) first cap=>∃ S,aw P G f (first++as++cap) p S r/\(∀ x∈S, σ x.1=some x.2)/\∀ x∈S,x.1∈r.rd
   | _=>False
 | op=>bu σ p op=some r
def e9 (t:List AV) (d:Option Nat) (v:AV):List AV:=match d with | some d=>t.set d v | none=>t
def dL (t:List AV):Option (Nat × Bool)->Option Bool
 | none=>some true
 | some (d,want)=>match t[d]? with
   | some (.bool b)=>some (b==want)
   | some .top | some .anyb=>none
   | _=>some false
section
variable {P:Program} {G:Nat->Option (List AV)} {own:Nat->Prop} {E:Env} {w:World} {σ : ae} {p:Id}
theorem bW.keep {E':Env} {w':World} {t:List AV} {a:Act} (h:bW E w t a) (s:Step E E' w w'):bW E' w' t a:=aK.keep s t _ h
theorem bW.put {t:List AV} {a:Act} (h:bW E w t a) {c:AV} {v:Value} (hv:aG E w c v) (d:Option Nat):bW E w (e9 t d c) (a.put d v):=by
 cases d with
 | none=>exact h
 | some d =>
   obtain ⟨hl,hp⟩:=bz.1 h
   refine bz.2 ⟨by simpa [e9,Act.put] using hl,fun j c' hj => ?_⟩
   simp only [e9,List.getElem?_set] at hj
   simp only [Act.put,Array.toList_setIfInBounds,List.getElem?_set]
   split at hj
   . rename_i e
     subst e
     split at hj
     . rename_i hlt
       simp only [Option.some.injEq] at hj;subst hj
       exact ⟨v,by rw [if_pos rfl,if_pos (by omega)],hv⟩
     . simp at hj
   . rename_i e
     rw [if_neg e]
     exact hp j c' hj
theorem bW.at? {t:List AV} {a:Act} (h:bW E w t a) (d:Nat):(t[d]? = none/\a.tmps[d]? = none)∨∃ c v,t[d]? = some c/\a.tmps[d]? = some v/\aG E w c v:=by
 obtain ⟨hl,hp⟩:=bz.1 h
 by_cases hd:d<t.length
 . right
   obtain ⟨v,hv,hr⟩:=hp d t[d] (by simp [hd])
   exact ⟨t[d],v,by simp [hd],by simpa using hv,hr⟩
 . left
   have:a.tmps.size<=d:=by have:=hl;simp at this;omega
   exact ⟨by simp;omega,by simp;omega⟩
theorem CS {c:AV} {v:Value} (h:aG E w c v) (h1:∀ b,c ≠ .bool b) (h2:c ≠ .top) (h3:c ≠ .anyb):∀ b,v ≠ .bool b:=by
 intro b e
 subst e
 cases c<;>simp only [aG,reduceCtorEq,exists_const,false_and,and_false] at h
 . exact h1 _ rfl
 all_goals first
   | exact h2 rfl
   | exact h3 rfl
   | (obtain ⟨_,_,h,_⟩:=h;cases h)
   | (obtain ⟨_,h,_⟩:=h;cases h)
   | (obtain ⟨_,_,h⟩:=h;cases h)
theorem pt {ops:Array Oper} {o:Oper} {vo:bc} (hc:sc P ops o=some vo) {t:List AV} {a:Act} (hf:bW E w t a) {b:Bool} (h:dL t vo.guard=some b):Region.wanted o (yielded ops a.tmps)=b:=by
 unfold sc at hc
 cases hop:UW P o.op with
 | none=>simp [hop] at hc
 | some op =>
   simp only [hop] at hc
   cases hg:o.guard with
   | none =>
     simp only [hg,Option.some.injEq] at hc;subst hc
     simp only [dL,Option.some.injEq] at h;subst h
     simp [Region.wanted,hg]
   | some jw =>
     obtain ⟨j,want⟩:=jw
     simp only [hg] at hc
     cases hd:(ops[j]?).bind (·.dst) with
     | none=>simp [hd] at hc
     | some d =>
       simp only [hd,Option.some.injEq] at hc;subst hc
       simp only [dL] at h
       simp only [Region.wanted,hg,yielded,hd,Option.bind_some]
       rcases hf.at? d with ⟨h1,h2⟩ | ⟨c,v,h1,h2,hr⟩
       . simp only [h1,Option.some.injEq] at h;subst h
         simp [h2]
       . simp only [h1] at h
         simp only [h2]
         cases c with
         | bool b' =>
           simp only [Option.some.injEq] at h;subst h
           simp only [aG] at hr;subst hr
           simp
         | top=>simp at h
         | anyb=>simp at h
         | _ =>
           simp only [Option.some.injEq] at h;subst h
           have hnb:=CS hr (by simp) (by simp) (by simp)
           cases v<;>simp at hnb ⊢
theorem Ew {ops:Array Oper} {o:Oper} {vo:bc} (hc:sc P ops o=some vo):UW P o.op=some vo.op/\vo.dst=o.dst:=by
 unfold sc at hc
 cases hop:UW P o.op with
 | none=>simp [hop] at hc
 | some op =>
   simp only [hop] at hc
   split at hc
   . simp only [Option.some.injEq] at hc;subst hc;simp_all
   . split at hc
     . simp only [Option.some.injEq] at hc;subst hc;simp_all
     . simp at hc
   . simp_all
theorem SU {k:Sz} {l:List Operand} (f:aI) (as:List aI):SA k l≠some (.call f as):=by
 unfold SA
 split
 . split
   . cases k<;>simp
   . simp
 . simp
theorem yN (hi:Inv G own E w σ) (hμ : ∀ j,p <:+ j->E.μ j=none) {t:List AV} {a:Act} (hf:bW E w t a) {o:Oper} {vo:eL aI} (hc:UW P o.op=some vo) {r:dH}
   (h:hZ P G σ p (vo.map (aI.ev G t)) r) {K:Act->World->Prop} {Q:Exit->Act->World->Prop} (hK:∀ v w' E',iJ G own E w σ p r v E' w'->K (a.put o.dst v) w'):o.wp P a w K Q:=by
 have hσ : σ p=none:=by
   cases hs : σ p with
   | none=>rfl
   | some bk=>obtain ⟨g,N,cur,ty,hB⟩:=hi.blk _ _ hs;have:=hB.μ;rw [hμ _ (List.suffix_refl _)] at this;simp at this
 have plain:bu σ p (vo.map (aI.ev G t))=some r->o.wp P a w K Q:=by
   intro hv
   obtain ⟨v,w',E',hrun,hp⟩:=Oe hi (hμ p (List.suffix_refl _)) hσ hf hc hv
   unfold Oper.wp
   rcases hrun with hrun | ⟨hrun,rfl⟩
   . rw [hrun];exact hK v w' E' hp
   . rw [hrun];exact hK undef w' E' hp
 cases vo with
 | call f as =>
   replace hc:jZ P o.op=some (.call f as):=by
     unfold UW at hc
     split at hc
     . rename_i v hv;rw [hv];exact hc
     . simp at hc
   simp only [eL.map,hZ] at h
   split at h
   . rename_i f' fid first cap N6
     obtain ⟨S,Of,hS,_⟩:=h
     obtain ⟨⟨fn,Ly,qz,abt⟩,Of⟩:=Of
     cases hop:o.op with
     | call c =>
       rw [hop] at hc
       simp only [jZ] at hc
       cases qy:c.callee with
       | value fo =>
         simp only [qy] at hc
         split at hc
         case h_2=>exact absurd hc (SU _ _)
         split at hc
         . rename_i vf vas h1 h2
           simp only [Option.some.injEq,eL.call.injEq] at hc
           obtain ⟨rfl,rfl⟩:=hc
           have hrf:=aJ hf hi h1
           rw [N6] at hrf
           simp only [aG] at hrf
           obtain ⟨xs,ys,hfv,hx,hy⟩:=hrf
           have hra:=vM hf hi h2
           have jg:aK E w (first++vas.map (aI.ev G t)++cap) (xs.toList++(c.args.map a.eval).toList++ys.toList):=aK.append (aK.append hx hra) hy
           have Ar:=Of own E w σ _ hS hi jg hμ
           have hrun:(execOp a.eval o).run P w = .ok (.enter fid (xs++c.args.map a.eval++ys)) w:=by
             have hnb : ¬ fn.body=none:=by intro e;simp [e] at abt
             have hnn : ¬ fn.name = "runtime.NumGoroutine" := by intro e;simp [e] at qz
             simp [execOp,hop,resolve,qy,hfv,Deferred.ofValue,invoke,callFunc,Ly,hnn,hnb]
           unfold Oper.wp
           rw [hrun,Oper.upon_enter]
           have hae:(xs.toList++(c.args.map a.eval).toList++ys.toList).toArray=xs++c.args.map a.eval++ys:=by apply Array.ext';simp
           rw [hae] at Ar
           refine Ar.mono fun e w' he => ?_
           obtain ⟨v,E',rfl,hp⟩:=he
           exact hK v w' E' hp
         . simp at hc
       | invoke _ _=>simp [qy] at hc
       | builtin b =>
         simp only [qy] at hc
         unfold tY at hc
         split at hc<;>(try split at hc)<;>(try split at hc)<;>(try split at hc)<;>(try split at hc)<;>simp at hc
     | _ =>
       rw [hop] at hc
       simp only [jZ] at hc
       exfalso
       revert hc
       clear plain N6
       intro hc
       first
         | simp at hc
         | (simp only [Option.map_eq_some_iff] at hc;obtain ⟨_,_,hc⟩:=hc;cases hc)
         | ((repeat' split at hc)<;>first | (simp at hc;done) | (simp only [Option.map_eq_some_iff] at hc;obtain ⟨_,_,hc⟩:=hc;cases hc) | (cases hc))
   . exact h.elim
 | _=>exact plain h
end
end Go.VL
end

section
namespace Go.VL
abbrev Done:=Option Nat × dH
def dM (X:Nat->Bool):List Done->Nat->List AV->List AV
 | [],_,t=>t
 | (d,r)::L,i,t=>dM X L (i+1) (if X i then e9 t d r.val else t)
def e7 (X:Nat->Bool):List Done->Nat->ae->ae
 | [],_, σ => σ
 | (_,r)::L,i, σ => e7 X L (i+1) (if X i then σ.app r.up else σ)
theorem n7 (t:List AV) (d:Option Nat) (v:AV) (s:Nat):(e9 t d v)[s]? = if d=some s then (if s<t.length then some v else none) else t[s]? := by
 cases d with
 | none=>simp [e9]
 | some d =>
   simp only [e9,List.getElem?_set,Option.some.injEq]
   by_cases e:d=s
   . subst e;simp
   . simp [e]
theorem Ex (t:List AV) (d:Option Nat) (v:AV):(e9 t d v).length=t.length:=by cases d<;>simp [e9]
theorem Bo (X:Nat->Bool):∀ (L:List Done) (i:Nat) (t:List AV),(dM X L i t).length=t.length
 | [],_,_=>rfl
 | (d,r)::L,i,t=>by
   simp only [dM];rw [Bo X L]
   split
   . exact Ex t d r.val
   . rfl
theorem LF {t t':List AV} {s:Nat} (h:t[s]? = t'[s]?):(s<t.length)=(s<t'.length):=by
 have h1:s<t.length↔t[s]? ≠ none:=by simp
 have h2:s<t'.length↔t'[s]? ≠ none:=by simp
 exact propext (h1.trans ((by rw [h]:t[s]? ≠ none↔t'[s]? ≠ none).trans h2.symm))
theorem mR {X Y:Nat->Bool} {s:Nat}:∀ (L:List Done) (i:Nat) (t t':List AV),t[s]? = t'[s]? -> (∀ k d r,L[k]? = some (d,r)->X (i+k)≠Y (i+k)->d≠some s)->(dM X L i t)[s]? = (dM Y L i t')[s]?
 | [],_,_,_,h,_=>h
 | (d,r)::L,i,t,t',h,hd=>by
   simp only [dM]
   refine mR L (i+1) _ _ ?_ (fun k d' r' hk hne=>hd (k+1) d' r' (by simpa using hk) (by rwa [show i+(k+1)=i+1+k from by omega]))
   by_cases hx:X i=Y i
   . rw [hx]
     split
     . rw [n7,n7];simp only [LF h,h]
     . exact h
   . have:=hd 0 d r rfl hx
     have e1:(e9 t d r.val)[s]? = t[s]? := by rw [n7,if_neg this]
     have e2:(e9 t' d r.val)[s]? = t'[s]? := by rw [n7,if_neg this]
     split<;>split<;>simp only [e1,e2,h]
theorem ae.LG {σ σ':ae} {id:Id} (h : σ id = σ' id):∀ (up:List (Id × Option cN)),(σ.app up) id=(σ'.app up) id:=by
 intro up
 induction up generalizing σ σ' with
 | nil=>exact h
 | cons x up ih =>
   obtain ⟨i,b⟩:=x
   simp only [ae.app]
   refine ih ?_
   simp only [ae.put]
   split<;>first | rfl | exact h
theorem ae.rr {σ : ae} {id:Id}:∀ {up:List (Id × Option cN)},id ∉ up.map (·.1)->(σ.app up) id = σ id:=by
 intro up
 induction up generalizing σ with
 | nil=>intro _;rfl
 | cons x up ih =>
   obtain ⟨i,b⟩:=x
   intro h
   simp only [List.map_cons,List.mem_cons,not_or] at h
   simp only [ae.app]
   rw [ih h.2,ae.b8 _ _ _ h.1]
theorem ae.Xn {σ σ':ae} {id:Id}:∀ {up:List (Id × Option cN)},id∈up.map (·.1)->(σ.app up) id=(σ'.app up) id:=by
 intro up
 induction up generalizing σ σ' with
 | nil=>intro h;simp at h
 | cons x up ih =>
   obtain ⟨i,b⟩:=x
   intro h
   simp only [ae.app]
   by_cases fP:id∈up.map (·.1)
   . exact ih fP
   . have he:id=i:=by simpa [fP] using h
     subst he
     rw [ae.rr fP,ae.rr fP,ae.dG,ae.dG]
theorem mS {X Y:Nat->Bool} {id:Id}:∀ (L:List Done) (i:Nat) (σ σ':ae), σ id = σ' id->(∀ k d r,L[k]? = some (d,r)->X (i+k)≠Y (i+k)->id ∉ r.up.map (·.1))->e7 X L i σ id=e7 Y L i σ' id
 | [],_,_,_,h,_=>h
 | (d,r)::L,i, σ, σ',h,hd=>by
   simp only [e7]
   refine mS L (i+1) _ _ ?_ (fun k d' r' hk hne=>hd (k+1) d' r' (by simpa using hk) (by rwa [show i+(k+1)=i+1+k from by omega]))
   by_cases hx:X i=Y i
   . rw [hx]
     split
     . exact ae.LG h _
     . exact h
   . have:=hd 0 d r rfl hx
     split<;>split<;>simp only [ae.rr this,h]
theorem yO {X:Nat->Bool} {s:Nat} {r:dH}:∀ (L:List Done) (i j:Nat) (t:List AV),L[j]? = some (some s,r)->X (i+j)=true->(∀ k d r',L[k]? = some (d,r')->j<k->X (i+k)=true->d≠some s) ->
   (dM X L i t)[s]? = if s<t.length then some r.val else none
 | [],_,_,_,h,_,_=>by simp at h
 | (d,r')::L,i,0,t,h,hx,hd=>by
   simp only [List.getElem?_cons_zero,Option.some.injEq,Prod.mk.injEq] at h
   obtain ⟨rfl,rfl⟩:=h
   simp only [dM]
   rw [Nat.add_zero] at hx
   rw [if_pos hx]
   have:=mR (X:=X) (Y:=fun _=>false) (s:=s) L (i+1) (e9 t (some s) r'.val) (e9 t (some s) r'.val) rfl (fun k d r2 hk hne=>hd (k+1) d r2 (by simpa using hk) (by omega) (by
     rw [show i+(k+1)=i+1+k from by omega]
     cases hh:X (i+1+k) with
     | true=>rfl
     | false=>simp [hh] at hne))
   rw [this]
   have none:∀ (L:List Done) (i:Nat) (t:List AV),dM (fun _=>false) L i t=t:=by
     intro L
     induction L with
     | nil=>intro _ _;rfl
     | cons x L ih=>intro i t;obtain ⟨d,r⟩:=x;simp only [dM];rw [ih];simp
   rw [none,n7,if_pos rfl]
 | (d,r')::L,i,j+1,t,h,hx,hd=>by
   simp only [dM]
   have:=yO L (i+1) j (if X i then e9 t d r'.val else t) (by simpa using h) (by rwa [show i+1+j=i+(j+1) from by omega])
     (fun k d r2 hk hlt xL=>hd (k+1) d r2 (by simpa using hk) (by omega) (by rwa [show i+(k+1)=i+1+k from by omega]))
   rw [this]
   split<;>simp [Ex]
theorem yP {X:Nat->Bool} {id:Id} {d:Option Nat} {r:dH} {σ':ae}:∀ (L:List Done) (i j:Nat) (σ : ae),L[j]? = some (d,r)->X (i+j)=true->id∈r.up.map (·.1) ->
   (∀ k d r',L[k]? = some (d,r')->j<k->X (i+k)=true->id ∉ r'.up.map (·.1))->e7 X L i σ id=(σ'.app r.up) id
 | [],_,_,_,h,_,_,_=>by simp at h
 | (d',r')::L,i,0, σ,h,hx,fP,hd=>by
   simp only [List.getElem?_cons_zero,Option.some.injEq,Prod.mk.injEq] at h
   obtain ⟨rfl,rfl⟩:=h
   simp only [e7]
   rw [Nat.add_zero] at hx
   rw [if_pos hx]
   have:=mS (X:=X) (Y:=fun _=>false) (id:=id) L (i+1) (σ.app r'.up) (σ.app r'.up) rfl (fun k d r2 hk hne=>hd (k+1) d r2 (by simpa using hk) (by omega) (by
     rw [show i+(k+1)=i+1+k from by omega]
     cases hh:X (i+1+k) with
     | true=>rfl
     | false=>simp [hh] at hne))
   rw [this]
   have none:∀ (L:List Done) (i:Nat) (σ : ae),e7 (fun _=>false) L i σ = σ := by
     intro L
     induction L with
     | nil=>intro _ _;rfl
     | cons x L ih=>intro i t;obtain ⟨d,r⟩:=x;simp only [e7];rw [ih];simp
   rw [none]
   exact ae.Xn fP
 | (d',r')::L,i,j+1, σ,h,hx,fP,hd=>by
   simp only [e7]
   exact yP L (i+1) j _ (by simpa using h) (by rwa [show i+1+j=i+(j+1) from by omega]) fP
     (fun k d r2 hk hlt xL=>hd (k+1) d r2 (by simpa using hk) (by omega) (by rwa [show i+(k+1)=i+1+k from by omega]))
theorem ny {X:Nat->Bool}:∀ (L:List Done) (i:Nat) (t:List AV),(∀ k,k<L.length->X (i+k)=false)->dM X L i t=t
 | [],_,_,_=>rfl
 | (d,r)::L,i,t,h=>by
   simp only [dM]
   have:=h 0 (by simp)
   rw [Nat.add_zero] at this
   rw [this]
   exact ny L (i+1) t (fun k hk=>by rw [show i+1+k=i+(k+1) from by omega];exact h (k+1) (by simpa using hk))
theorem nz {X:Nat->Bool}:∀ (L:List Done) (i:Nat) (σ : ae),(∀ k,k<L.length->X (i+k)=false)->e7 X L i σ = σ
 | [],_,_,_=>rfl
 | (d,r)::L,i,t,h=>by
   simp only [e7]
   have:=h 0 (by simp)
   rw [Nat.add_zero] at this
   rw [this]
   exact nz L (i+1) t (fun k hk=>by rw [show i+1+k=i+(k+1) from by omega];exact h (k+1) (by simpa using hk))
section
variable (P:Program) (G:Nat->Option (List AV)) (π : Id)
def qA (σ : ae) (p:Id) (op:eL AV) (K:dH->Prop):Prop :=
 match op with
 | .call f as=>match f with
   | .fn (.func f) first cap=>∃ S r,aw P G f (first++as++cap) p S r/\(∀ x∈S, σ x.1=some x.2)/\(∀ x∈S,x.1∈r.rd)/\K r
   | _=>False
 | op=>match bu σ p op with
   | some r=>K r
   | none=>False
def ui (base:Nat) (K:List AV->ae->Prop):List bc->Nat->List AV->ae->Prop
 | [],_,t, σ => K t σ
 | o::os,i,t, σ => match dL t o.guard with
   | none=>False
   | some false=>ui base K os (i+1) (e9 t o.dst (.tup [])) σ
   | some true=>qA P G σ ((base+i) :: π) (o.op.map (aI.ev G t)) fun r=>ui base K os (i+1) (e9 t o.dst r.val) (σ.app r.up)
def uj (base:Nat) (K:List dH->List AV->ae->Prop):List bc->Nat->List dH->List AV->ae->Prop
 | [],_,acc,t, σ => K acc.reverse t σ
 | o::os,i,acc,t, σ => match dL t o.guard with
   | none=>False
   | some false=>uj base K os (i+1) ({ val := .tup [] }::acc) (e9 t o.dst (.tup [])) σ
   | some true=>qA P G σ ((base+i) :: π) (o.op.map (aI.ev G t)) fun r=>uj base K os (i+1) (r::acc) (e9 t o.dst r.val) (σ.app r.up)
def apart (a b:dH):Prop:=(∀ x∈a.up,x.1 ∉ b.rd/\x.1 ∉ b.up.map (·.1))/\∀ x∈b.up,x.1 ∉ a.rd
def aB (rs:List dH) (ps:List (Nat × Nat)):Prop:=∀ q∈ps,∀ a b,rs[q.1]? = some a->rs[q.2]? = some b->apart a b
def uk (base:Nat) (o:bc) (k:Nat) (t:List AV) (σ : ae) (r:dH):Prop :=
 (dL t o.guard=some false/\r={ val := .tup [] })∨(dL t o.guard=some true/\hZ P G σ ((base+k) :: π) (o.op.map (aI.ev G t)) r)
end
section
variable {P:Program} {G:Nat->Option (List AV)} {π : Id} {own:Nat->Prop} {E:Env} {w:World} {σ : ae}
theorem yR {σ : ae} {p:Id} {op:eL AV} {K:dH->Prop} (h:qA P G σ p op K):∃ r,hZ P G σ p op r/\K r:=by
 unfold qA at h
 cases op with
 | call f as =>
   simp only [] at h
   split at h
   . obtain ⟨S,r,h1,h2,h3,h4⟩:=h
     exact ⟨r,⟨S,h1,h2,h3⟩,h4⟩
   . exact h.elim
 | _ =>
   simp only [] at h
   split at h
   . rename_i r hr;exact ⟨r,hr,h⟩
   . exact h.elim
theorem Bp {base:Nat} {K:List dH->List AV->ae->Prop}:∀ {os:List bc} {i:Nat} {acc:List dH} {t:List AV} {σ : ae},uj P G π base K os i acc t σ ->
   ∃ rs:List dH,rs.length=os.length /\
     (∀ k o r,os[k]? = some o->rs[k]? = some r->uk P G π base o (i+k) (dM (fun m=>m<i+k) ((os.map (·.dst)).zip rs) i t) (e7 (fun m=>m<i+k) ((os.map (·.dst)).zip rs) i σ) r) /\
     K (acc.reverse++rs) (dM (fun _=>true) ((os.map (·.dst)).zip rs) i t) (e7 (fun _=>true) ((os.map (·.dst)).zip rs) i σ)
 | [],i,acc,t, σ,h=>⟨[],rfl,by simp,by simpa [uj,dM,e7] using h⟩
 | o :: os,i,acc,t, σ,h=>by
   have go:∀ r,uk P G π base o i t σ r->uj P G π base K os (i+1) (r::acc) (e9 t o.dst r.val) (σ.app r.up) ->
       ∃ rs:List dH,rs.length=(o::os).length /\
         (∀ k o' r,(o::os)[k]? = some o'->rs[k]? = some r->uk P G π base o' (i+k) (dM (fun m=>m<i+k) (((o::os).map (·.dst)).zip rs) i t) (e7 (fun m=>m<i+k) (((o::os).map (·.dst)).zip rs) i σ) r) /\
         K (acc.reverse++rs) (dM (fun _=>true) (((o::os).map (·.dst)).zip rs) i t) (e7 (fun _=>true) (((o::os).map (·.dst)).zip rs) i σ):=by
     intro r hr hv
     obtain ⟨rs,h1,h2,h3⟩:=Bp hv
     refine ⟨r::rs,by simp [h1], ?_, ?_⟩
     . intro k o' r' ho yG
       cases k with
       | zero =>
         simp only [List.getElem?_cons_zero,Option.some.injEq] at ho yG
         subst ho;subst yG
         rw [ny _ _ _ (fun k _=>by simp),nz _ _ _ (fun k _=>by simp),Nat.add_zero]
         exact hr
       | succ k =>
         have:=h2 k o' r' (by simpa using ho) (by simpa using yG)
         simp only [List.map_cons,List.zip_cons_cons,dM,e7]
         have hd:decide (i<i+(k+1))=true:=by simp
         rw [if_pos hd,if_pos hd]
         rw [show i+(k+1)=i+1+k from by omega]
         exact this
     . simpa [dM,e7] using h3
   simp only [uj] at h
   split at h
   . exact h.elim
   . rename_i hw
     exact go { val := .tup [] } (.inl ⟨hw,rfl⟩) h
   . rename_i hw
     obtain ⟨r,hr,hk⟩:=yR h
     exact go r (.inr ⟨hw,hr⟩) hk
theorem Ey {q q':Nat} {π j:Id} (h:(q :: π) <:+ j) (hne:q≠q') : ¬ (q' :: π) <:+ j:=by
 intro h'
 have:=List.suffix_of_suffix_length_le h h' (by simp)
 obtain ⟨l,hl⟩:=this
 have x5:l=[]:=by
   have:=congrArg List.length hl
   simp at this;exact this
 subst x5
 simp at hl
 exact hne hl
theorem iJ.frame {p:Id} {r:dH} {v:Value} {E':Env} {w':World} (h:iJ G own E w σ p r v E' w') {t:List AV} {a:Act} (hf:bW E w t a) (d:Option Nat):bW E' w' (e9 t d r.val) (a.put d v) :=
 (hf.keep h.Au.step).put h.rep d
theorem Bq {t:List AV} {a:Act} (hf:bW E w t a) (d:Option Nat):bW E w (e9 t d (.tup [])) (a.put d undef) :=
 hf.put (by simp only [aG,undef];exact ⟨#[],rfl,by simp [aK]⟩) d
theorem mU (a:Act) (d:Option Nat) (v:Value):(a.put d v).defers=a.defers:=by cases d<;>rfl
def rX (E:Env) (π : Id) (n:Nat):Prop:=∀ j, π <:+ j->(∀ q,q<n -> ¬ (q :: π) <:+ j)->E.μ j=none
theorem rX.at {π : Id} {n q:Nat} (h:rX E π n) (hq:n<=q) {j:Id} (hj:(q :: π) <:+ j):E.μ j=none :=
 h j ((List.suffix_cons q π).trans hj) fun q' hq'=>Ey hj (by omega)
theorem rX.mono {π : Id} {n n':Nat} (h:rX E π n) (hn:n<=n'):rX E π n':=fun j hj hq=>h j hj fun q hq'=>hq q (by omega)
theorem rX.step {π : Id} {n:Nat} {E':Env} (h:rX E π n) (SV:∀ i:Id, ¬ (n :: π) <:+ i->E'.μ i=E.μ i):rX E' π (n+1):=fun j hj hq=>by
 rw [SV j (hq n (by omega))];exact h j hj fun q hq'=>hq q (by omega)
theorem rX.self {π : Id} {n:Nat} (h:rX E π n):E.μ π = none :=
 h π (List.suffix_refl _) fun q _ hs=>by have:=hs.length_le;simp at this;omega
structure jr (own:Nat->Prop) (π : Id) (E E':Env) (w w':World):Prop extends Adv own E E' w w' where
 ids:∀ i:Id, ¬ π <:+ i->E'.μ i=E.μ i
theorem jr.refl (own:Nat->Prop) (π : Id) (E:Env) (w:World):jr own π E E w w:=⟨Adv.refl own E w,fun _ _=>rfl⟩
theorem jr.trans {π : Id} {E' UT:Env} {w' w'':World} (a:jr own π E E' w w') (b:jr own π E' UT w' w''):jr own π E UT w w'' :=
 ⟨a.toAdv.trans b.toAdv,fun i hi=>(b.ids i hi).trans (a.ids i hi)⟩
theorem iJ.abu {π : Id} {q:Nat} {r:dH} {v:Value} {E':Env} {w':World} (h:iJ G own E w σ (q :: π) r v E' w'):jr own π E E' w w' :=
 ⟨h.Au,fun i hi=>h.ids i fun hs=>hi ((List.suffix_cons q π).trans hs)⟩
theorem yS {ops:Array Oper} {base:Nat} {K:List AV->ae->Prop} {Q:Exit->Act->World->Prop} :
   ∀ (l:List Oper) (i:Nat),(∀ k,l[k]? = ops[i+k]?)->∀ (vs:List bc),l.mapM (sc P ops)=some vs->∀ (t:List AV) (σ : ae) (a:Act) (E:Env) (w:World),ui P G π base K vs i t σ ->
   bW E w t a->Inv G own E w σ -> rX E π (base+i) ->
   (∀ t' σ' a' E' w',K t' σ'->jr own π E E' w w'->bW E' w' t' a'->Inv G own E' w' σ'->rX E' π (base+i+l.length)->a'.defers=a.defers->Q .normal a' w') ->
   wpOps P ops Q ((List.range' i l.length)) a w
 | [],i,_,vs,hm,t, σ,a,E,w,hv,hf,hi,lr,hQ=>by
   simp at hm;subst hm
   simp only [ui] at hv
   simp only [List.length_nil,List.range'_zero,wpOps]
   exact hQ t σ a E w hv (jr.refl own π E w) hf hi lr rfl
 | o :: l,i,hl,vs,hm,t, σ,a,E,w,hv,hf,hi,lr,hQ=>by
   simp only [List.mapM_cons,Option.pure_def,Option.bind_eq_bind,Option.bind_eq_some_iff] at hm
   obtain ⟨vo,s7,vs',Hq,he⟩:=hm
   simp only [Option.some.injEq] at he;subst he
   obtain ⟨hop,Og⟩:=Ew s7
   have hoi:ops[i]? = some o:=by have:=hl 0;simpa using this.symm
   simp only [List.length_cons,List.range'_succ]
   rw [wpOps_cons]
   unfold wpOp
   rw [hoi]
   simp only []
   have rest:∀ (t':List AV) (σ':ae) (a':Act) (E':Env) (w':World),ui P G π base K vs' (i+1) t' σ'->jr own π E E' w w'->bW E' w' t' a'->Inv G own E' w' σ'->rX E' π (base+i+1)->a'.defers=a.defers ->
       wpOps P ops Q (List.range' (i+1) l.length) a' w':=by
     intro t' σ' a' E' w' hv' had Sw kN HJ hde
     refine yS l (i+1) (fun k=>by rw [show i+1+k=i+(k+1) from by omega, <- hl];simp) vs' Hq t' σ' a' E' w' hv' Sw kN (by rw [<- Nat.add_assoc];exact HJ) ?_
     intro t2 σ2 a2 E2 w2 hk Xo Xp Lz Xq pw
     exact hQ t2 σ2 a2 E2 w2 hk (had.trans Xo) Xp Lz (by rw [List.length_cons,show base+i+(l.length+1)=base+(i+1)+l.length from by omega];exact Xq) (pw.trans hde)
   simp only [ui] at hv
   split at hv
   . exact hv.elim
   . rename_i hw
     rw [pt s7 hf hw]
     simp only [Bool.false_eq_true,if_false]
     rw [<- Og]
     exact rest _ _ _ E w hv (jr.refl own π E w) (Bq hf _) hi (lr.mono (by omega)) (mU _ _ _)
   . rename_i hw
     rw [pt s7 hf hw]
     simp only [if_true]
     obtain ⟨r,hr,hk⟩:=yR hv
     left
     refine yN hi (fun j hj=>lr.at (Nat.le_refl _) hj) hf hop hr ?_
     intro v w' E' hp
     rw [<- Og]
     exact rest _ _ _ E' w' hk hp.abu (hp.frame hf _) hp.inv (lr.step hp.ids) (mU _ _ _)
end
end Go.VL
end
